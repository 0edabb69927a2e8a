/- awake, before, and the walk of PolyPoints. -/
import Derived.Test.YtfebkccdcbkdiaaPoly9
namespace Go.Proofs.Ytfebkccdcbkdiaa
open Go.RowKit

def vE (n : Int) (l : List Iq) : Int := if validB n l then 0 else 10
def cntN (n : Int) (l : List Iq) : Int := if validB n l then (pts n l).length else 0
theorem hasR_t (n : Int) (l : List Iq) (p : Pt) : hasR n l p = .tuple #[.bool (validB n l && hasB n l p), .int .i64 (vE n l)] := by
  unfold hasR vE; cases validB n l <;> rfl
theorem cntR_t (n : Int) (l : List Iq) : cntR n l = .tuple #[.int .i64 (cntN n l), .int .i64 (vE n l)] := by
  unfold cntR cntN vE; cases validB n l <;> rfl
/-- A domain that came in. -/
structure Dom (w : World) (s : Option Addr) (l : List Iq) : Prop where
  iq : IqS w s l
  len : l.length ≤ 9223372036854775807
  wf : ∀ q ∈ l, -9223372036854775808 ≤ q.b ∧ q.b ≤ 9223372036854775807
theorem Up.dom {W W' : World} (h : Below W.heap.size W W') {s : Option Addr} {l : List Iq} (c : Dom W s l) : Dom W' s l := ⟨Up.iq h c.iq, c.len, c.wf⟩
theorem Up.domB {N : Nat} {W W' : World} (h : Below N W W') {s : Option Addr} {l : List Iq} (hN : W.heap.size ≤ N) (c : Dom W s l) : Dom W' s l := Up.dom (h.mono hN) c

section
variable (n : Int) (s : Option Addr) (cap : Nat) (l : List Iq) (p : Pt) (w : World) (h : Dom w s l)
include h
theorem Valid_t : Calls Try.prog 17 #[.agg #[.int .i64 n, .slice s l.length cap]] w fun e w' => e = .returned (.bool (validB n l)) ∧ Below w.heap.size w w' := valid_c n s cap l w h.iq h.len
theorem rValid_t : Calls Try.prog 18 #[.agg #[.int .i64 n, .slice s l.length cap]] w fun e w' => e = .returned (.bool (validB n l)) ∧ Below w.heap.size w w' := rvalid_c n s cap l w h.iq h.len
theorem Has_t : Calls Try.prog 15 #[.agg #[.int .i64 n, .slice s l.length cap], .agg #[.int .i64 p.x, .int .i64 p.y, .int .i64 p.z]] w fun e w' => e = .returned (.tuple #[.bool (validB n l && hasB n l p), .int .i64 (vE n l)]) ∧ Below w.heap.size w w' := by
  rw [← hasR_t]; exact Has_c n s cap l p w h.iq h.len
theorem rHas_t : Calls Try.prog 16 #[.agg #[.int .i64 n, .slice s l.length cap], .agg #[.int .i64 p.x, .int .i64 p.y, .int .i64 p.z]] w fun e w' => e = .returned (.tuple #[.bool (validB n l && hasB n l p), .int .i64 (vE n l)]) ∧ Below w.heap.size w w' := by
  rw [← hasR_t]; exact rHas_c n s cap l p w h.iq h.len h.wf
theorem Count_t : Calls Try.prog 21 #[.agg #[.int .i64 n, .slice s l.length cap]] w fun e w' => e = .returned (.tuple #[.int .i64 (cntN n l), .int .i64 (vE n l)]) ∧ Below w.heap.size w w' := by
  rw [← cntR_t]; exact Count_c n s cap l w h.iq h.len
theorem rCount_t : Calls Try.prog 22 #[.agg #[.int .i64 n, .slice s l.length cap]] w fun e w' => e = .returned (.tuple #[.int .i64 (cntN n l), .int .i64 (vE n l)]) ∧ Below w.heap.size w w' := by
  rw [← cntR_t]; exact rCount_c n s cap l w h.iq h.len h.wf
end
theorem PtsRet.mono {n : Int} {l : List Iq} {w : World} {e : Ending} {w' : World} (h : PtsRet n l w e w') : ∃ s cap, e = .returned (.tuple #[.slice s (ptsL n l).length cap, .int .i64 (ptsE n l)]) ∧ PtS w' s (ptsL n l) ∧ Below w.heap.size w w' := by
  obtain ⟨s, cap, rfl, ho, hb⟩ := h
  exact ⟨s, cap, rfl, owns_pt ho, hb⟩
theorem ptsL_len (n : Int) (l : List Iq) : (ptsL n l).length ≤ 9223372036854775807 := by
  have := pts_len n l
  unfold ptsL; split
  · omega
  · simp

def awL : List Iq := [⟨⟨2, 0, 0⟩, 5⟩, ⟨⟨-1, 0, 0⟩, 0⟩]
theorem aw_dom (w : World) : Dom (w.alloc (.cells #[.int .i64 2, .int .i64 0, .int .i64 0, .int .i64 5, .int .i64 (-1), .int .i64 0, .int .i64 0, .int .i64 0] 64)) (some ⟨w.heap.size, 0, none⟩) awL := by
  refine ⟨.inr ⟨w.heap.size, 0, rfl, by simp, ?_⟩, by decide, by decide⟩
  intro i h
  have : i = 0 ∨ i = 1 := by simp [awL] at h; omega
  rcases this with rfl | rfl <;> exact ⟨by simp [go_sem, awL], by simp [go_sem, awL], by simp [go_sem, awL], by simp [go_sem, awL]⟩
theorem aw_n : cntN 1 awL = 3 := by decide +kernel
theorem aw_v : vE 1 awL = 0 := by decide +kernel
theorem awake_c (w : World) : Calls Try.prog 14 #[] w fun e w' => e = .returned (.bool true) ∧ Below w.heap.size w w' := by
  have H : ∀ w : World, Calls Try.prog 21 #[.agg #[.int .i64 1, .slice (some ⟨w.heap.size, 0, none⟩) 2 2]] (w.alloc (.cells #[.int .i64 2, .int .i64 0, .int .i64 0, .int .i64 5, .int .i64 (-1), .int .i64 0, .int .i64 0, .int .i64 0] 64)) fun e w' => e = .returned (.tuple #[.int .i64 3, .int .i64 0]) ∧ Below w.heap.size w w' := fun w => by
    have := Count_t 1 (some ⟨w.heap.size, 0, none⟩) 2 awL _ (aw_dom w)
    rw [aw_n, aw_v] at this
    exact this.mono fun e w' ⟨he, hb⟩ => ⟨he, ((Below.refl _ _).alloc (Nat.le_refl _) _).trans (hb.mono (by simp))⟩
  go_enter Try.func14, Try.ntmps14
  go_wp2_with (go_at_call 21; refine (H _).mono ?_; rintro e w' ⟨rfl, hb⟩)
  go_ret
  exact ⟨rfl, hb⟩

def ltP (p q : Pt) : Bool := if p.x ≠ q.x then decide (p.x < q.x) else if p.y ≠ q.y then decide (p.y < q.y) else decide (p.z < q.z)
set_option maxRecDepth 100000 in
set_option maxHeartbeats 1000000 in
theorem PolyPoints_w (n : Int) (s : Option Addr) (cap : Nat) (l : List Iq) (p : Pt) (w : World) (h : Dom w s l) :
    Calls Try.prog 3 #[.agg #[.int .i64 n, .slice s l.length cap], .agg #[.int .i64 p.x, .int .i64 p.y, .int .i64 p.z]] w fun e w' => e = .returned (.bool true) ∧ Below w.heap.size w w' := by
  have hll := ptsL_len n l
  have hlen := h.len
  replace h := Lib.hid h
  by_cases h1 : (40 : Int) < (l.length : Int)
  · have h1' : decide ((40 : Int) < (l.length : Int)) = true := by simpa using h1
    go_enter Try.func3, Try.ntmps3
    go_upto_region 1 with (fail)
    refine wp_world fun W HW => ?_
    have hB : Below w.heap.size w W := by rw [HW.out]; (repeat (first | exact Below.refl _ _ | refine Below.alloc ?_ (by simp; try omega) _ | refine Below.setCell ?_ (by simp) _ | refine Below.drew ?_))
    have d0 : W.cell? ⟨w.heap.size, 0, none⟩ = some (.int .i64 n) := by rw [HW.out]; simp [go_sem]
    have d1 : W.cell? ⟨w.heap.size, 1, none⟩ = some (.slice s l.length cap) := by rw [HW.out]; simp [go_sem]
    have dl : w.heap.size < W.heap.size := World.block_lt_of_cell? W _ d0
    have p0 : W.cell? ⟨w.heap.size + 1, 0, none⟩ = some (.int .i64 p.x) := by rw [HW.out]; simp [go_sem]
    have p1 : W.cell? ⟨w.heap.size + 1, 1, none⟩ = some (.int .i64 p.y) := by rw [HW.out]; simp [go_sem]
    have p2 : W.cell? ⟨w.heap.size + 1, 2, none⟩ = some (.int .i64 p.z) := by rw [HW.out]; simp [go_sem]
    have pl : w.heap.size + 1 < W.heap.size := World.block_lt_of_cell? W _ p0
    go_wp2_with (first | (go_at_call 13; refine (wide_c _ _ _ _ _ hlen).mono ?_; rintro e W1 ⟨rfl, hb⟩; replace hB := Up.to hB hb hB.size; replace d0 := Up.cell hb d0; replace d1 := Up.cell hb d1; replace p0 := Up.cell hb p0; replace p1 := Up.cell hb p1; replace p2 := Up.cell hb p2) | (go_at_call 14; refine (awake_c _).mono ?_; rintro e W1 ⟨rfl, hb⟩; replace hB := Up.to hB hb hB.size; replace d0 := Up.cell hb d0; replace d1 := Up.cell hb d1; replace p0 := Up.cell hb p0; replace p1 := Up.cell hb p1; replace p2 := Up.cell hb p2))
    go_ret
    exact ⟨rfl, hB⟩
  · have h1' : decide ((40 : Int) < (l.length : Int)) = false := by simpa using h1
    go_enter Try.func3, Try.ntmps3
    go_upto_region 1 with (fail)
    refine wp_world fun W HW => ?_
    have hB : Below w.heap.size w W := by rw [HW.out]; (repeat (first | exact Below.refl _ _ | refine Below.alloc ?_ (by simp; try omega) _ | refine Below.setCell ?_ (by simp) _ | refine Below.drew ?_))
    have d0 : W.cell? ⟨w.heap.size, 0, none⟩ = some (.int .i64 n) := by rw [HW.out]; simp [go_sem]
    have d1 : W.cell? ⟨w.heap.size, 1, none⟩ = some (.slice s l.length cap) := by rw [HW.out]; simp [go_sem]
    have dl : w.heap.size < W.heap.size := World.block_lt_of_cell? W _ d0
    have p0 : W.cell? ⟨w.heap.size + 1, 0, none⟩ = some (.int .i64 p.x) := by rw [HW.out]; simp [go_sem]
    have p1 : W.cell? ⟨w.heap.size + 1, 1, none⟩ = some (.int .i64 p.y) := by rw [HW.out]; simp [go_sem]
    have p2 : W.cell? ⟨w.heap.size + 1, 2, none⟩ = some (.int .i64 p.z) := by rw [HW.out]; simp [go_sem]
    have pl : w.heap.size + 1 < W.heap.size := World.block_lt_of_cell? W _ p0
    go_upto_region 5 with (first | (go_at_call 13; refine (wide_c _ _ _ _ _ hlen).mono ?_; rintro e W1 ⟨rfl, hb⟩; replace hB := Up.to hB hb hB.size; replace d0 := Up.cell hb d0; replace d1 := Up.cell hb d1; replace p0 := Up.cell hb p0; replace p1 := Up.cell hb p1; replace p2 := Up.cell hb p2) | (go_at_call 15; refine (Has_t _ _ _ _ _ _ (Up.domB hB (Nat.le_refl _) h.out)).mono ?_; rintro e W1 ⟨rfl, hb⟩; replace hB := Up.to hB hb hB.size; replace d0 := Up.cell hb d0; replace d1 := Up.cell hb d1; replace p0 := Up.cell hb p0; replace p1 := Up.cell hb p1; replace p2 := Up.cell hb p2) | (go_at_call 16; refine (rHas_t _ _ _ _ _ _ (Up.domB hB (Nat.le_refl _) h.out)).mono ?_; rintro e W1 ⟨rfl, hb⟩; replace hB := Up.to hB hb hB.size; replace d0 := Up.cell hb d0; replace d1 := Up.cell hb d1; replace p0 := Up.cell hb p0; replace p1 := Up.cell hb p1; replace p2 := Up.cell hb p2))
    have dl := World.block_lt_of_cell? W1 _ d0
    have pl := World.block_lt_of_cell? W1 _ p0
    have hD := Lib.hid (Up.domB hB (Nat.le_refl _) h.out)
    refine wp_region_quiet (C := fun V0 => Below W1.heap.size W1 V0) (by kernel_rfl) (by kernel_rfl) (Below.refl W1.heap.size W1).drew ?_
    dsimp only [List.toList_toArray]
    repeat (first
     | (refine q_det rfl ?_
        apply Exists.intro; refine ⟨fun W' hW' => ?_, ?_⟩
        (· have hk := cellB hW'; go_simp; try rfl)
        simp only [Act.put, List.setIfInBounds_toArray, List.set_cons_zero, List.set_cons_succ])
     | (refine q_skip rfl ?_; simp only [Act.put, List.setIfInBounds_toArray, List.set_cons_zero, List.set_cons_succ])
     | (refine q_call rfl ?_
        apply Exists.intro; apply Exists.intro; refine ⟨fun W' hW' => ?_, ?_⟩
        (· have hk := cellB hW'; go_simp; exact ⟨rfl, rfl⟩)
        apply Exists.intro; refine ⟨fun W' hW' => ?_, ?_⟩
        (· first | (go_at_call 17; exact qcall (Valid_t _ _ _ _ _ (Up.domB hW' (Nat.le_refl _) hD.out)) hW' (Nat.le_refl _)) | (go_at_call 18; exact qcall (rValid_t _ _ _ _ _ (Up.domB hW' (Nat.le_refl _) hD.out)) hW' (Nat.le_refl _)))
        simp only [Act.put, List.setIfInBounds_toArray, List.set_cons_zero, List.set_cons_succ]))
    refine wpQuiet_nil ?_
    intro W' hW'
    replace hB := Up.to hB hW' hB.size
    replace d0 := Up.cell hW' d0
    replace d1 := Up.cell hW' d1
    go_upto_region 8 with (first | (go_at_call 19; refine (Points_c _ _ _ _ _ (Up.domB hB (Nat.le_refl _) h.out).iq hlen).mono ?_; rintro e W1 hR; obtain ⟨s1, c1, rfl, ht1, hb⟩ := hR.mono; replace hB := Up.to hB hb hB.size; replace d0 := Up.cell hb d0; replace d1 := Up.cell hb d1))
    go_upto_region 9 with (first | (go_at_call 20; refine (rPoints_c _ _ _ _ _ (Up.domB hB (Nat.le_refl _) h.out).iq hlen h.out.wf).mono ?_; rintro e W1 hR; obtain ⟨s2, c2, rfl, ht2, hb⟩ := hR.mono; replace ht1 := Up.pt hb ht1; replace hB := Up.to hB hb hB.size; replace d0 := Up.cell hb d0; replace d1 := Up.cell hb d1))
    replace ht1 := Lib.hid ht1
    replace ht2 := Lib.hid ht2
    have hQ := Below.refl W1.heap.size W1
    go_wp2_with (first | (go_at_call 23; refine (SamePoints_c _ _ _ _ _ _ _ (Up.pt hQ ht1.out) (Up.pt hQ ht2.out) hll hll).mono ?_; rintro e W1 ⟨rfl, hb⟩; replace hB := Up.to hB hb hB.size; replace hQ := Up.trans hQ hb; replace d0 := Up.cell hb d0; replace d1 := Up.cell hb d1) | (go_at_call 21; refine (Count_t _ _ _ _ _ (Up.domB hB (Nat.le_refl _) h.out)).mono ?_; rintro e W1 ⟨rfl, hb⟩; replace hB := Up.to hB hb hB.size; replace d0 := Up.cell hb d0; replace d1 := Up.cell hb d1; replace hQ := Up.trans hQ hb) | (go_at_call 22; refine (rCount_t _ _ _ _ _ (Up.domB hB (Nat.le_refl _) h.out)).mono ?_; rintro e W1 ⟨rfl, hb⟩; replace hB := Up.to hB hb hB.size; replace d0 := Up.cell hb d0; replace d1 := Up.cell hb d1; replace hQ := Up.trans hQ hb) | (go_at_call 14; refine (awake_c _).mono ?_; rintro e W1 ⟨rfl, hb⟩; replace hB := Up.to hB hb hB.size; replace d0 := Up.cell hb d0; replace d1 := Up.cell hb d1; replace hQ := Up.trans hQ hb))
    go_ret
    exact ⟨rfl, hB⟩
end Go.Proofs.Ytfebkccdcbkdiaa
