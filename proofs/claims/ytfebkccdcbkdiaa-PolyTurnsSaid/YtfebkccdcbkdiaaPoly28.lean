/- Refutes, of the program and of the reference. -/
import Derived.Test.YtfebkccdcbkdiaaPoly27
namespace Go.Proofs.Ytfebkccdcbkdiaa
open Go.RowKit

def refE (n : Int) (l : List Iq) (m : List Int) : Int := if validB n l then (if m.length = (wholeL n l).length ∧ rightB m = true then 0 else 2) else 10
def refV (n : Int) (l : List Iq) (m : List Int) : Bool := if refE n l m = 0 then refutesB (wholeL n l) m else false
def BoolRet (b : Bool) (er : Int) (w : World) (e : Ending) (w' : World) : Prop := e = .returned (.tuple #[.bool b, .int .i64 er]) ∧ Below w.heap.size w w'
theorem wholeL_len {n : Int} {l : List Iq} (h : validB n l = true) : (wholeL n l).length ≤ 12 ∧ l.length ≤ 6 := by
  have hn := validB_n h
  simp only [validB, Bool.and_eq_true, decide_eq_true_eq] at h
  rw [wholeL, List.length_append, boxTo_len]; omega

set_option maxRecDepth 100000 in
set_option maxHeartbeats 1000000 in
theorem Refutes_c (n : Int) (s : Option Addr) (cs : Nat) (l : List Iq) (t : Option Addr) (ct : Nat) (m : List Int) (w : World) (h : Dom w s l) (hc : s = none → cs = 0) (ht : SlS intE w t m) (hm : m.length ≤ 9223372036854775807) :
    Calls Try.prog 37 #[.agg #[.int .i64 n, .slice s l.length cs], .slice t m.length ct] w (BoolRet (refV n l m) (refE n l m) w) := by
  replace hc := Lib.hid hc
  cases h1 : validB n l
  · rw [show refV n l m = false by simp [refV, refE, h1], show refE n l m = 10 by simp [refE, h1]]
    go_enter Try.func37, Try.ntmps37
    go_upto_region 1 with (fail)
    refine wp_world fun W HW => ?_
    have hB : Below w.heap.size w W := by rw [HW.out]; (repeat (first | exact Below.refl _ _ | refine Below.alloc ?_ (by simp; try omega) _ | refine Below.setCell ?_ (by simp) _ | refine Below.drew ?_))
    have d0 : W.cell? ⟨w.heap.size, 0, none⟩ = some (.int .i64 n) := by rw [HW.out]; simp [go_sem]
    have d1 : W.cell? ⟨w.heap.size, 1, none⟩ = some (.slice s l.length cs) := by rw [HW.out]; simp [go_sem]
    have dl : w.heap.size < W.heap.size := World.block_lt_of_cell? W _ d0
    try replace h := up_of hB h
    try replace ht := up_of hB ht
    go_wp2_with (first | (go_at_call 17; refine (Valid_t _ _ _ _ _ h).mono ?_; rintro e W1 ⟨rfl, hb⟩; (try replace h := up_of hb h); (try replace ht := up_of hb ht); (try replace hB := up_of hb hB); (try replace d0 := up_of hb d0); (try replace d1 := up_of hb d1); (try replace dl := up_of hb dl)))
    go_ret2
    exact ⟨rfl, hB⟩
  have hn := validB_n h1
  obtain ⟨hK12, hl6⟩ := wholeL_len h1
  have eE : refE n l m = if m.length = (wholeL n l).length ∧ rightB m = true then 0 else 2 := by simp [refE, h1]
  have eV : refV n l m = if m.length = (wholeL n l).length ∧ rightB m = true then refutesB (wholeL n l) m else false := by
    unfold refV; rw [eE]; split <;> simp_all
  rw [eE, eV]
  clear eE eV
  have hAll := fun W (hD : Dom W s l) => all_c n s cs l W hD hc.out hn hl6
  obtain ⟨K, hK⟩ : ∃ K, wholeL n l = K := ⟨_, rfl⟩
  rw [hK] at hK12 hAll ⊢
  clear hK
  replace hAll := Lib.hid hAll
  by_cases h2 : m.length = K.length
  case neg =>
    have h2' : ((m.length : Int) != (K.length : Int)) = true := by simp; omega
    rw [if_neg (fun h => h2 h.1), if_neg (fun h => h2 h.1)]
    go_enter Try.func37, Try.ntmps37
    go_upto_region 1 with (fail)
    refine wp_world fun W HW => ?_
    have hB : Below w.heap.size w W := by rw [HW.out]; (repeat (first | exact Below.refl _ _ | refine Below.alloc ?_ (by simp; try omega) _ | refine Below.setCell ?_ (by simp) _ | refine Below.drew ?_))
    have d0 : W.cell? ⟨w.heap.size, 0, none⟩ = some (.int .i64 n) := by rw [HW.out]; simp [go_sem]
    have d1 : W.cell? ⟨w.heap.size, 1, none⟩ = some (.slice s l.length cs) := by rw [HW.out]; simp [go_sem]
    have dl : w.heap.size < W.heap.size := World.block_lt_of_cell? W _ d0
    try replace h := up_of hB h
    try replace ht := up_of hB ht
    go_wp2_with (first | (go_at_call 17; refine (Valid_t _ _ _ _ _ h).mono ?_; rintro e W1 ⟨rfl, hb⟩; (try replace h := up_of hb h); (try replace ht := up_of hb ht); (try replace hB := up_of hb hB); (try replace d0 := up_of hb d0); (try replace d1 := up_of hb d1); (try replace dl := up_of hb dl)) | (go_at_call 61; refine (hAll.out _ h).mono ?_; rintro e W1 ⟨⟨s1, c1, rfl, hown⟩, hb⟩; (try replace h := up_of hb h); (try replace ht := up_of hb ht); (try replace hB := up_of hb hB); (try replace d0 := up_of hb d0); (try replace d1 := up_of hb d1); (try replace dl := up_of hb dl)) | (go_at_call 62; refine (right_c _ _ _ _ ht hm).mono ?_; rintro e W1 ⟨rfl, hb⟩; (try replace h := up_of hb h); (try replace ht := up_of hb ht); (try replace hB := up_of hb hB); (try replace d0 := up_of hb d0); (try replace d1 := up_of hb d1); (try replace dl := up_of hb dl)))
    go_ret2
    exact ⟨rfl, hB⟩
  have h2' : ((m.length : Int) != (K.length : Int)) = false := by simp; omega
  replace h2 := Lib.hid h2
  cases h3 : rightB m
  · rw [if_neg (by simp), if_neg (by simp)]
    go_enter Try.func37, Try.ntmps37
    go_upto_region 1 with (fail)
    refine wp_world fun W HW => ?_
    have hB : Below w.heap.size w W := by rw [HW.out]; (repeat (first | exact Below.refl _ _ | refine Below.alloc ?_ (by simp; try omega) _ | refine Below.setCell ?_ (by simp) _ | refine Below.drew ?_))
    have d0 : W.cell? ⟨w.heap.size, 0, none⟩ = some (.int .i64 n) := by rw [HW.out]; simp [go_sem]
    have d1 : W.cell? ⟨w.heap.size, 1, none⟩ = some (.slice s l.length cs) := by rw [HW.out]; simp [go_sem]
    have dl : w.heap.size < W.heap.size := World.block_lt_of_cell? W _ d0
    try replace h := up_of hB h
    try replace ht := up_of hB ht
    go_wp2_with (first | (go_at_call 17; refine (Valid_t _ _ _ _ _ h).mono ?_; rintro e W1 ⟨rfl, hb⟩; (try replace h := up_of hb h); (try replace ht := up_of hb ht); (try replace hB := up_of hb hB); (try replace d0 := up_of hb d0); (try replace d1 := up_of hb d1); (try replace dl := up_of hb dl)) | (go_at_call 61; refine (hAll.out _ h).mono ?_; rintro e W1 ⟨⟨s1, c1, rfl, hown⟩, hb⟩; (try replace h := up_of hb h); (try replace ht := up_of hb ht); (try replace hB := up_of hb hB); (try replace d0 := up_of hb d0); (try replace d1 := up_of hb d1); (try replace dl := up_of hb dl)) | (go_at_call 62; refine (right_c _ _ _ _ ht hm).mono ?_; rintro e W1 ⟨rfl, hb⟩; (try replace h := up_of hb h); (try replace ht := up_of hb ht); (try replace hB := up_of hb hB); (try replace d0 := up_of hb d0); (try replace d1 := up_of hb d1); (try replace dl := up_of hb dl)))
    go_ret2
    exact ⟨rfl, hB⟩
  · rw [if_pos ⟨h2.out, rfl⟩, if_pos ⟨h2.out, rfl⟩]
    go_enter Try.func37, Try.ntmps37
    go_upto_region 1 with (fail)
    refine wp_world fun W HW => ?_
    have hB : Below w.heap.size w W := by rw [HW.out]; (repeat (first | exact Below.refl _ _ | refine Below.alloc ?_ (by simp; try omega) _ | refine Below.setCell ?_ (by simp) _ | refine Below.drew ?_))
    have d0 : W.cell? ⟨w.heap.size, 0, none⟩ = some (.int .i64 n) := by rw [HW.out]; simp [go_sem]
    have d1 : W.cell? ⟨w.heap.size, 1, none⟩ = some (.slice s l.length cs) := by rw [HW.out]; simp [go_sem]
    have dl : w.heap.size < W.heap.size := World.block_lt_of_cell? W _ d0
    try replace h := up_of hB h
    try replace ht := up_of hB ht
    go_upto_region 4 with (first | (go_at_call 17; refine (Valid_t _ _ _ _ _ h).mono ?_; rintro e W1 ⟨rfl, hb⟩; (try replace h := up_of hb h); (try replace ht := up_of hb ht); (try replace hB := up_of hb hB); (try replace d0 := up_of hb d0); (try replace d1 := up_of hb d1); (try replace dl := up_of hb dl)) | (go_at_call 61; refine (hAll.out _ h).mono ?_; rintro e W1 ⟨⟨s1, c1, rfl, hown⟩, hb⟩; (try replace h := up_of hb h); (try replace ht := up_of hb ht); (try replace hB := up_of hb hB); (try replace d0 := up_of hb d0); (try replace d1 := up_of hb d1); (try replace dl := up_of hb dl)))
    have hq := owns_iq hown
    clear hown
    go_wp2_with (first | (go_at_call 62; refine (right_c _ _ _ _ ht hm).mono ?_; rintro e W1 ⟨rfl, hb⟩; (try replace h := up_of hb h); (try replace ht := up_of hb ht); (try replace hB := up_of hb hB); (try replace d0 := up_of hb d0); (try replace d1 := up_of hb d1); (try replace dl := up_of hb dl); (try replace hq := up_of hb hq)) | (go_at_call 63; refine (refutes_c _ _ _ _ _ _ _ hq ht h2.out hK12).mono ?_; rintro e W1 ⟨rfl, hb⟩; (try replace h := up_of hb h); (try replace ht := up_of hb ht); (try replace hB := up_of hb hB); (try replace d0 := up_of hb d0); (try replace d1 := up_of hb d1); (try replace dl := up_of hb dl); (try replace hq := up_of hb hq)))
    go_ret2
    exact ⟨rfl, hB⟩
end Go.Proofs.Ytfebkccdcbkdiaa
