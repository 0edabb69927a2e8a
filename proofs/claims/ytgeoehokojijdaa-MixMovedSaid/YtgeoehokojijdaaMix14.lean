/- The walks of MixLeast and MixStarts. -/
import Derived.Test.YtgeoehokojijdaaMix13
namespace Go.Proofs.Ytgeoehokojijdaa
open Go.RowKit

theorem own_some {w : World} {base e size n cap : Nat} {s : Option Addr} {xs : List Value} (h : w.ownsRow base e size (.slice s n cap) n xs) (hn : 0 < n) : ∃ g, s = some ⟨g, 0, none⟩ ∧ base ≤ g ∧ g < w.heap.size := by
  obtain ⟨s', cap', he, hs⟩ := owns_shape h
  simp only [Value.slice.injEq] at he
  obtain ⟨rfl, _, rfl⟩ := he
  rcases hs with ⟨h0, _⟩ | hs
  · omega
  · exact hs
set_option maxRecDepth 100000 in
theorem Awake_c (w : World) : Calls Try.prog 17 #[] w fun e w' => e = .returned (.bool true) ∧ Below w.heap.size w w' := by
  have H : ∀ w : World, Calls Try.prog 20 #[.slice (some ⟨w.heap.size + 1, 0, none⟩) 1 1] ((w.alloc (.cells #[.int .i64 0, .int .i64 0, .int .i64 0, .int .i64 2] 65)).alloc (.cells #[.slice (some ⟨w.heap.size, 0, none⟩) 2 2] 40))
      fun e w' => (∃ g c, e = .returned (.tuple #[.int .i64 3, .slice (some ⟨g, 0, none⟩) 1 c, .int .i64 0]) ∧ w'.cell? ⟨g, 0, none⟩ = some (.int .i64 0)) ∧ Below w.heap.size w w' := fun w => by
    have := Least_c _ 1 awK _ (aw_ker w)
    rw [aw_v, aw_l, aw_e] at this
    refine this.mono ?_
    rintro e w' ⟨⟨s, c, he, hown⟩, hb⟩
    obtain ⟨g, rfl, -, -⟩ := own_some hown (by decide)
    exact ⟨⟨g, c, he, owns_cell hown rfl⟩, (((Below.refl _ w).alloc (Nat.le_refl _) _).alloc (by simp) _).trans (hb.mono (by simp; omega))⟩
  go_enter Try.func17, Try.ntmps17
  go_wp2_with (go_at_call 20; refine (H _).mono ?_; rintro e w' ⟨⟨g, c, rfl, hc⟩, hb⟩)
  go_ret
  exact ⟨rfl, hb⟩

set_option maxRecDepth 100000 in
set_option maxHeartbeats 1000000 in
theorem MixLeast_w (s : Option Addr) (cap : Nat) (k : List (List Clm)) (w : World) (h : Ker w s cap k) :
    Calls Try.prog 3 #[.slice s k.length cap] w fun e w' => e = .returned (.bool true) ∧ Below w.heap.size w w' := by
  have hkl := h.len
  have hlo := fun W (h : Ker W s cap k) => Long_c s cap k W h
  have c1 := fun W (h : Ker W s cap k) => Bound_c s cap k W h
  have c2 := fun W (h : Ker W s cap k) => rBound_c s cap k W h
  have c3 := fun W (h : Ker W s cap k) => Least_c s cap k W h
  have c4 := fun W (h : Ker W s cap k) => rLeast_c s cap k W h
  have hLl : (lstL k).length ≤ 9223372036854775807 := by
    have : (lstL k).length ≤ k.length := by
      unfold lstL
      split
      · split
        · unfold startsL; split
          · rw [digs_len]; exact Nat.le_refl _
          · simp
        · simp
      · simp
    omega
  obtain ⟨BV, hBV⟩ : ∃ x, bndV k = x := ⟨_, rfl⟩
  obtain ⟨BE, hBE⟩ : ∃ x, bndE k = x := ⟨_, rfl⟩
  obtain ⟨LV, hLV⟩ : ∃ x, lstV k = x := ⟨_, rfl⟩
  obtain ⟨LL, hLL⟩ : ∃ x, lstL k = x := ⟨_, rfl⟩
  obtain ⟨LE, hLE⟩ : ∃ x, lstE k = x := ⟨_, rfl⟩
  rw [hBV, hBE] at c1 c2
  rw [hLV, hLL, hLE] at c3 c4
  rw [hLL] at hLl
  replace hlo := Lib.hid hlo; replace c1 := Lib.hid c1; replace c2 := Lib.hid c2; replace c3 := Lib.hid c3; replace c4 := Lib.hid c4; replace hLl := Lib.hid hLl
  clear hBV hBE hLV hLL hLE
  cases h1 : longB k
  · have hlo := hlo.out
    rw [h1] at hlo
    replace hlo := Lib.hid hlo
    clear h1
    go_enter Try.func3, Try.ntmps3
    go_upto_region 4 with (first | (go_at_call 16; refine (hlo.out _ h).mono ?_; rintro e w' ⟨rfl, rfl⟩) | (go_at_call 18; refine (c1.out _ h).mono ?_; rintro e W1 ⟨rfl, hb⟩; (try replace h := up_of hb h)))
    have hB := hb
    clear hb
    go_upto_region 5 with (first | (go_at_call 19; refine (c2.out _ h).mono ?_; rintro e W1 ⟨rfl, hb⟩; (try replace h := up_of hb h); (try replace hB := up_of hb hB)))
    clear hb
    go_upto_region 8 with (first | (go_at_call 20; refine (c3.out _ h).mono ?_; rintro e A1 ⟨⟨s3, k3, rfl, hown⟩, hb⟩; (try replace h := up_of hb h); (try replace hB := up_of hb hB)))
    have i3 := SlS.of_own (E := intE) hown
    clear hb hown
    go_upto_region 9 with (first | (go_at_call 21; refine (c4.out _ h).mono ?_; rintro e A2 ⟨⟨s4, k4, rfl, hown⟩, hb⟩; (try replace h := up_of hb h); (try replace hB := up_of hb hB); (try replace i3 := up_of hb i3)))
    have i4 := SlS.of_own (E := intE) hown
    clear hb hown
    go_wp2_with (first | (go_at_call 22; refine (SameInts_eq _ _ _ _ _ _ i3 i4 hLl.out).mono ?_; rintro e W1 ⟨rfl, hb⟩; (try replace h := up_of hb h); (try replace hB := up_of hb hB); (try replace i3 := up_of hb i3); (try replace i4 := up_of hb i4)) | (go_at_call 17; refine (Awake_c _).mono ?_; rintro e W1 ⟨rfl, hb⟩; (try replace h := up_of hb h); (try replace hB := up_of hb hB); (try replace i3 := up_of hb i3); (try replace i4 := up_of hb i4)))
    go_ret
    exact ⟨rfl, hB⟩
  · have hlo := hlo.out
    rw [h1] at hlo
    replace hlo := Lib.hid hlo
    clear h1
    go_enter Try.func3, Try.ntmps3
    go_wp2_with (first | (go_at_call 16; refine (hlo.out _ h).mono ?_; rintro e w' ⟨rfl, rfl⟩) | (go_at_call 17; refine (Awake_c _).mono ?_; rintro e W1 ⟨rfl, hb⟩; (try replace h := up_of hb h)))
    go_ret
    exact ⟨rfl, hb⟩

set_option maxRecDepth 100000 in
set_option maxHeartbeats 1000000 in
theorem MixStarts_w (s : Option Addr) (cap : Nat) (k : List (List Clm)) (p : Int) (w : World) (h : Ker w s cap k) (_hp : -9223372036854775808 ≤ p ∧ p ≤ 9223372036854775807) :
    Calls Try.prog 4 #[.slice s k.length cap, .int .i64 p] w fun e w' => e = .returned (.bool true) ∧ Below w.heap.size w w' := by
  have hkl := h.len
  have hlo := fun W (h : Ker W s cap k) => Long_c s cap k W h
  have c3 := fun W (h : Ker W s cap k) => Starts_c s cap k p W h
  have c4 := fun W (h : Ker W s cap k) => rStarts_c s cap k p W h
  have hLl : (startsR k p).length ≤ 9223372036854775807 := by
    have : (startsR k p).length ≤ k.length := by
      unfold startsR
      split
      · unfold startsL; split
        · rw [digs_len]; exact Nat.le_refl _
        · simp
      · simp
    omega
  obtain ⟨LL, hLL⟩ : ∃ x, startsR k p = x := ⟨_, rfl⟩
  obtain ⟨LE, hLE⟩ : ∃ x, startsE k p = x := ⟨_, rfl⟩
  rw [hLL, hLE] at c3 c4
  rw [hLL] at hLl
  replace hlo := Lib.hid hlo; replace c3 := Lib.hid c3; replace c4 := Lib.hid c4; replace hLl := Lib.hid hLl
  clear hLL hLE
  cases h1 : longB k
  · have hlo := hlo.out
    rw [h1] at hlo
    replace hlo := Lib.hid hlo
    clear h1
    go_enter Try.func4, Try.ntmps4
    go_upto_region 4 with (first | (go_at_call 16; refine (hlo.out _ h).mono ?_; rintro e w' ⟨rfl, rfl⟩) | (go_at_call 23; refine (c3.out _ h).mono ?_; rintro e A1 ⟨⟨s3, k3, rfl, hown⟩, hb⟩; (try replace h := up_of hb h)))
    have i3 := SlS.of_own (E := intE) hown
    have hB := hb
    clear hb hown
    go_upto_region 5 with (first | (go_at_call 24; refine (c4.out _ h).mono ?_; rintro e A2 ⟨⟨s4, k4, rfl, hown⟩, hb⟩; (try replace h := up_of hb h); (try replace hB := up_of hb hB); (try replace i3 := up_of hb i3)))
    have i4 := SlS.of_own (E := intE) hown
    clear hb hown
    go_wp2_with (first | (go_at_call 22; refine (SameInts_eq _ _ _ _ _ _ i3 i4 hLl.out).mono ?_; rintro e W1 ⟨rfl, hb⟩; (try replace h := up_of hb h); (try replace hB := up_of hb hB); (try replace i3 := up_of hb i3); (try replace i4 := up_of hb i4)) | (go_at_call 17; refine (Awake_c _).mono ?_; rintro e W1 ⟨rfl, hb⟩; (try replace h := up_of hb h); (try replace hB := up_of hb hB); (try replace i3 := up_of hb i3); (try replace i4 := up_of hb i4)))
    go_ret
    exact ⟨rfl, hB⟩
  · have hlo := hlo.out
    rw [h1] at hlo
    replace hlo := Lib.hid hlo
    clear h1
    go_enter Try.func4, Try.ntmps4
    go_wp2_with (first | (go_at_call 16; refine (hlo.out _ h).mono ?_; rintro e w' ⟨rfl, rfl⟩) | (go_at_call 17; refine (Awake_c _).mono ?_; rintro e W1 ⟨rfl, hb⟩; (try replace h := up_of hb h)))
    go_ret
    exact ⟨rfl, hb⟩
end Go.Proofs.Ytgeoehokojijdaa
