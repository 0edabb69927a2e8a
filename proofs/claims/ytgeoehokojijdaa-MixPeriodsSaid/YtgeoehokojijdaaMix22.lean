/- The walk of MixForbids. -/
import Derived.Test.YtgeoehokojijdaaMix21
import Derived.Test.YtgeoehokojijdaaMix19
import Derived.Test.YtgeoehokojijdaaMix14
namespace Go.Proofs.Ytgeoehokojijdaa
open Go.RowKit

theorem fbL_len (k : List (List Clm)) (a b p : Int) : (fbL k a b p).length ≤ 9223372036854775807 := by
  unfold fbL
  split
  · rename_i h
    have h1 : chkE k p = 0 := by
      unfold fbE at h
      split at h
      · assumption
      · exact h
    have hp := bw_iff.1 (chk_ok h1).2
    have := forb_len (k.getD a.toNat []) (k.getD b.toNat []) p.toNat
    omega
  · simp
set_option maxRecDepth 100000 in
set_option maxHeartbeats 1000000 in
theorem MixForbids_w (s : Option Addr) (cap : Nat) (k : List (List Clm)) (a b p : Int) (w : World) (h : Ker w s cap k) (ha : -9223372036854775808 ≤ a ∧ a ≤ 9223372036854775807) (_hb : -9223372036854775808 ≤ b ∧ b ≤ 9223372036854775807) (_hp : -9223372036854775808 ≤ p ∧ p ≤ 9223372036854775807) :
    Calls Try.prog 9 #[.slice s k.length cap, .int .i64 a, .int .i64 b, .int .i64 p] w fun e w' => e = .returned (.bool true) ∧ Below w.heap.size w w' := by
  have hkl := h.len
  have hlo := fun W (h : Ker W s cap k) => Long_c s cap k W h
  have c1 := fun W (h : Ker W s cap k) => Alone_c s cap k a p W h ha
  have c2 := fun W (h : Ker W s cap k) => rAlone_c s cap k a p W h ha
  have c3 := fun W (h : Ker W s cap k) => Forbidden_c s cap k a b p W h
  have c4 := fun W (h : Ker W s cap k) => rForbidden_c s cap k a b p W h
  have hLl := fbL_len k a b p
  obtain ⟨LL, hLL⟩ : ∃ x, fbL k a b p = x := ⟨_, rfl⟩
  obtain ⟨LE, hLE⟩ : ∃ x, fbE k a b p = x := ⟨_, rfl⟩
  obtain ⟨AV, hAV⟩ : ∃ x, alV k a p = x := ⟨_, rfl⟩
  obtain ⟨AE, hAE⟩ : ∃ x, alE k a p = x := ⟨_, rfl⟩
  rw [hLL, hLE] at c3 c4
  rw [hAV, hAE] at c1 c2
  rw [hLL] at hLl
  replace hlo := Lib.hid hlo; replace c1 := Lib.hid c1; replace c2 := Lib.hid c2; replace c3 := Lib.hid c3; replace c4 := Lib.hid c4; replace hLl := Lib.hid hLl
  clear hLL hLE hAV hAE
  cases h1 : longB k
  · have hlo := hlo.out
    rw [h1] at hlo
    replace hlo := Lib.hid hlo
    clear h1
    go_enter Try.func9, Try.ntmps9
    go_upto_region 4 with (first | (go_at_call 16; refine (hlo.out _ h).mono ?_; rintro e w' ⟨rfl, rfl⟩) | (go_at_call 30; refine (c1.out _ h).mono ?_; rintro e A1 ⟨rfl, hb⟩; (try replace h := up_of hb h)))
    have hB := hb
    clear hb
    go_upto_region 5 with (first | (go_at_call 31; refine (c2.out _ h).mono ?_; rintro e A2 ⟨rfl, hb⟩; (try replace h := up_of hb h); (try replace hB := up_of hb hB)))
    clear hb
    go_upto_region 6 with (first | (go_at_call 32; refine (c3.out _ h).mono ?_; rintro e A3 ⟨⟨s3, k3, rfl, hown⟩, hb⟩; (try replace h := up_of hb h); (try replace hB := up_of hb hB)))
    have i3 := SlS.of_own (E := intE) hown
    clear hb hown
    go_upto_region 7 with (first | (go_at_call 33; refine (c4.out _ h).mono ?_; rintro e A4 ⟨⟨s4, k4, rfl, hown⟩, hb⟩; (try replace h := up_of hb h); (try replace hB := up_of hb hB); (try replace i3 := up_of hb i3)))
    have i4 := SlS.of_own (E := intE) hown
    clear hb hown
    cases AV
    all_goals
      go_wp2_with (first | (go_at_call 22; refine (SameInts_eq _ _ _ _ _ _ i3 i4 hLl.out).mono ?_; rintro e W1 ⟨rfl, hb⟩; (try replace h := up_of hb h); (try replace hB := up_of hb hB); (try replace i3 := up_of hb i3); (try replace i4 := up_of hb i4)) | (go_at_call 17; refine (Awake_c _).mono ?_; rintro e W1 ⟨rfl, hb⟩; (try replace h := up_of hb h); (try replace hB := up_of hb hB); (try replace i3 := up_of hb i3); (try replace i4 := up_of hb i4)))
      go_ret
      exact ⟨rfl, hB⟩
  · have hlo := hlo.out
    rw [h1] at hlo
    replace hlo := Lib.hid hlo
    clear h1
    go_enter Try.func9, Try.ntmps9
    go_wp2_with (first | (go_at_call 16; refine (hlo.out _ h).mono ?_; rintro e w' ⟨rfl, rfl⟩) | (go_at_call 17; refine (Awake_c _).mono ?_; rintro e W1 ⟨rfl, hb⟩; (try replace h := up_of hb h)))
    go_ret
    exact ⟨rfl, hb⟩
end Go.Proofs.Ytgeoehokojijdaa
