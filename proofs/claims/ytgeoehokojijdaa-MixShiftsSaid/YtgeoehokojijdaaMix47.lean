/- The walk of MixShifts. -/
import Derived.Test.YtgeoehokojijdaaMix46
import Derived.Test.YtgeoehokojijdaaMix14
import Derived.Test.YtgeoehokojijdaaMix37
namespace Go.Proofs.Ytgeoehokojijdaa
open Go.RowKit

theorem shR_len (k : List (List Clm)) (q d : Int) : (shR k q d).length ≤ k.length := by
  unfold shR; split
  · rw [shift_len]; exact Nat.le_refl _
  · simp
set_option maxRecDepth 100000 in
set_option maxHeartbeats 2000000 in
theorem MixShifts_c (s : Option Addr) (cap : Nat) (k : List (List Clm)) (q d : Int) (t : Option Addr) (ct : Nat) (one : List Clm) (w : World) (h : Ker w s cap k) (hq : -9223372036854775808 ≤ q ∧ q ≤ 9223372036854775807) (hd : -9223372036854775808 ≤ d ∧ d ≤ 9223372036854775807)
    (g : SlS clmE w t one) (gl : one.length ≤ 9223372036854775807) (gc : one.length ≤ ct) :
    Calls Try.prog 13 #[.slice s k.length cap, .int .i64 q, .int .i64 d, .slice t one.length ct] w fun e w' => e = .returned (.bool true) ∧ Below w.heap.size w w' := by
  have hkl := h.len
  have hlo := fun W (h : Ker W s cap k) => Long_c s cap k W h
  cases h1 : longB k
  case true =>
    rw [h1] at hlo
    replace hlo := Lib.hid hlo
    clear h1
    go_enter Try.func13, Try.ntmps13
    go_wp2_with (first | (go_at_call 16; refine (hlo.out _ h).mono ?_; rintro e w' ⟨rfl, rfl⟩) | (go_at_call 17; refine (Awake_c _).mono ?_; rintro e W1 ⟨rfl, hb⟩; (try replace h := up_of hb h)))
    go_ret
    exact ⟨rfl, hb⟩
  rw [h1] at hlo
  replace hlo := Lib.hid hlo
  clear h1
  by_cases h60 : 60 < one.length
  · have h41 : (60 : Int) < (one.length : Int) := by omega
    go_enter Try.func13, Try.ntmps13
    go_wp2_with (first | (go_at_call 16; refine (hlo.out _ h).mono ?_; rintro e w' ⟨rfl, rfl⟩) | (go_at_call 17; refine (Awake_c _).mono ?_; rintro e W1 ⟨rfl, hb⟩; (try replace h := up_of hb h)))
    go_ret
    exact ⟨rfl, hb⟩
  have h41 : ¬ (60 : Int) < (one.length : Int) := by omega
  have c1 := fun W (h : Ker W s cap k) => Shifted_c s cap k q d W h hq hd
  have c2 := fun W (h : Ker W s cap k) => rShifted_c s cap k q d W h hq hd
  have c3 := fun W (g : SlS clmE W t one) => Collide_s t ct one W g gl
  have c4 := fun W (g : SlS clmE W t one) => rCollide_c t ct one W g gl gc
  rw [colS_colL] at c3
  have hNl : (colL one).length ≤ 50 := by rw [← colS_colL]; exact colS_len one
  have c5 := fun s1 s2 c1 c2 W (h1 : Ker W s1 c1 (shR k q d)) (h2 : Ker W s2 c2 (shR k q d)) => Same_eq s1 s2 c1 c2 (shR k q d) W h1 h2
  have c6 := fun s1 s2 c1 c2 W (h1 : SlS intE W s1 (colL one)) (h2 : SlS intE W s2 (colL one)) => SameInts_eq s1 s2 c1 c2 (colL one) W h1 h2 (by omega)
  obtain ⟨KR, hKR⟩ : ∃ x, shR k q d = x := ⟨_, rfl⟩
  obtain ⟨KE, hKE⟩ : ∃ x, shE k q d = x := ⟨_, rfl⟩
  obtain ⟨NR, hNR⟩ : ∃ x, colL one = x := ⟨_, rfl⟩
  obtain ⟨NE, hNE⟩ : ∃ x, colE one = x := ⟨_, rfl⟩
  rw [hKR, hKE] at c1 c2
  rw [hKR] at c5
  rw [hNR, hNE] at c3 c4
  rw [hNR] at c6 hNl
  replace c1 := Lib.hid c1; replace c2 := Lib.hid c2; replace c3 := Lib.hid c3; replace c4 := Lib.hid c4; replace c5 := Lib.hid c5; replace c6 := Lib.hid c6
  clear hKR hKE hNR hNE hq hd gl gc h60
  go_enter Try.func13, Try.ntmps13
  go_upto_region 4 with (first | (go_at_call 16; refine (hlo.out _ h).mono ?_; rintro e w' ⟨rfl, rfl⟩) | (go_at_call 40; refine (c1.out _ h).mono ?_; rintro e A1 ⟨⟨s3, k3, rfl, hk1⟩, hb⟩; (try replace h := up_of hb h); (try replace g := up_of hb g)))
  have hB := hb
  clear hb
  go_upto_region 5 with (first | (go_at_call 41; refine (c2.out _ h).mono ?_; rintro e A2 ⟨⟨s4, k4, rfl, hk2⟩, hb⟩; (try replace h := up_of hb h); (try replace g := up_of hb g); (try replace hB := up_of hb hB); (try replace hk1 := up_of hb hk1)))
  clear hb
  go_upto_region 6 with (first | (go_at_call 42; refine (c3.out _ g).mono ?_; rintro e A3 ⟨⟨s5, k5, rfl, hown⟩, hb⟩; (try replace h := up_of hb h); (try replace g := up_of hb g); (try replace hB := up_of hb hB); (try replace hk1 := up_of hb hk1); (try replace hk2 := up_of hb hk2)))
  have i5 := SlS.of_own (E := intE) hown
  clear hb hown
  go_upto_region 7 with (first | (go_at_call 43; refine (c4.out _ g).mono ?_; rintro e A4 ⟨⟨s6, k6, rfl, hown⟩, hb⟩; (try replace h := up_of hb h); (try replace g := up_of hb g); (try replace hB := up_of hb hB); (try replace hk1 := up_of hb hk1); (try replace hk2 := up_of hb hk2); (try replace i5 := up_of hb i5)))
  have i6 := SlS.of_own (E := intE) hown
  clear hb hown
  go_wp2_with (first | (go_at_call 44; refine (c5.out _ _ _ _ _ hk1 hk2).mono ?_; rintro e W1 ⟨rfl, hb⟩; (try replace h := up_of hb h); (try replace g := up_of hb g); (try replace hB := up_of hb hB); (try replace hk1 := up_of hb hk1); (try replace hk2 := up_of hb hk2); (try replace i5 := up_of hb i5); (try replace i6 := up_of hb i6)) | (go_at_call 22; refine (c6.out _ _ _ _ _ i5 i6).mono ?_; rintro e W1 ⟨rfl, hb⟩; (try replace h := up_of hb h); (try replace g := up_of hb g); (try replace hB := up_of hb hB); (try replace hk1 := up_of hb hk1); (try replace hk2 := up_of hb hk2); (try replace i5 := up_of hb i5); (try replace i6 := up_of hb i6)) | (go_at_call 17; refine (Awake_c _).mono ?_; rintro e W1 ⟨rfl, hb⟩; (try replace h := up_of hb h); (try replace g := up_of hb g); (try replace hB := up_of hb hB); (try replace hk1 := up_of hb hk1); (try replace hk2 := up_of hb hk2); (try replace i5 := up_of hb i5); (try replace i6 := up_of hb i6)))
  go_ret
  exact ⟨rfl, hB⟩
end Go.Proofs.Ytgeoehokojijdaa
