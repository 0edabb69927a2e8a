/- The reference's Least. -/
import Derived.Test.YtfebkccdcbkdiaaPoly17
namespace Go.Proofs.Ytfebkccdcbkdiaa
open Go.RowKit

def minK (f : Pt) (L : List Pt) (k : Nat) : Pt := minM f (L.take (max k 1))
theorem minK_zero (f : Pt) (L : List Pt) (h : 0 < L.length) : minK f L 0 = L[0] := by
  unfold minK; rw [show max 0 1 = 1 from rfl, take_one L h]; rfl
theorem minK_succ (f : Pt) (L : List Pt) (k : Nat) (hk : k < L.length) : minK f L (k + 1) = stepM f (minK f L k) L[k] := by
  rcases Nat.eq_zero_or_pos k with rfl | hp
  · rw [minK_zero f L hk]; unfold minK; rw [show max (0 + 1) 1 = 1 from rfl, take_one L hk]; simp [minM, stepM]
  · unfold minK
    rw [Nat.max_eq_left (by omega : 1 ≤ k + 1), Nat.max_eq_left hp, List.take_succ_eq_append_getElem hk, minM_snoc, if_pos]
    unfold someL; simp; constructor
    · omega
    · intro h; subst h; cases hk
theorem minK_all (f : Pt) (L : List Pt) (h : 0 < L.length) : minK f L L.length = minM f L := by
  unfold minK; rw [Nat.max_eq_left h, List.take_of_length_le (Nat.le_refl _)]

theorem cell_set {W : World} {a p : Addr} {u v : Value} (hne : p.block ≠ a.block) (h : W.cell? p = some v) : (W.setCell a u).cell? p = some v := by
  rw [← h]; exact World.cell?_of_block (Below.heap_setCell W a u p.block hne)
theorem cell_drew {W : World} {p : Addr} {v : Value} (h : W.cell? p = some v) : W.drew.cell? p = some v := h
theorem cell_alloc {W : World} {p : Addr} {v : Value} (h : W.cell? p = some v) (o : Obj) : (W.alloc o).cell? p = some v := Up.cell ((Below.refl _ _).alloc (Nat.le_refl _) o) h
theorem frozB {n : Nat} {W W' : World} (h : Below n W W') : ∀ b o, b < n → W'.frozen? ⟨b, o, none⟩ = W.frozen? ⟨b, o, none⟩ := fun b o k => h.frozen (p := ⟨b, o, none⟩) k
theorem below_alloc_lt {W N : World} {o : Obj} (h : Below (W.alloc o).heap.size (W.alloc o) N) : W.heap.size < N.heap.size := by have := h.size; simp at this; omega
theorem new_up {W N : World} {t : Nat} {arr : Array Value} (h : Below (W.alloc (.cells arr t)).heap.size (W.alloc (.cells arr t)) N) : Row N W.heap.size t arr := Up.block h (Row.new W t arr)
/-- Ahead of a call: how its world stands to one before. -/
theorem calls_below {P : Program} {f : FuncId} {args : Array Value} {w W0 : World} {R : Ending → World → Prop} (hpre : Below W0.heap.size W0 w) (h : Below W0.heap.size W0 w → Calls P f args w R) : Calls P f args w R := h hpre
theorem RowG.new {W : World} {t : Nat} {arr : Array Value} {g : Array Value → Prop} (k : g arr) : RowG (W.alloc (.cells arr t)) W.heap.size t g := ⟨arr, Row.new W t arr, k⟩
theorem drewB {W Z : World} (h : Below W.drew.heap.size W.drew Z) : Below W.heap.size W Z := ⟨h.os, h.tape, h.output, h.size, h.block⟩
set_option maxRecDepth 100000 in
set_option maxHeartbeats 2000000 in
theorem rLeast_c (n : Int) (s : Option Addr) (cap : Nat) (l : List Iq) (f : Pt) (w : World) (h : Dom w s l) :
    Calls Try.prog 28 #[.agg #[.int .i64 n, .slice s l.length cap], .agg #[.int .i64 f.x, .int .i64 f.y, .int .i64 f.z]] w (PntRet (leastP n l f) (leastN n l f) (leastE n l f) w) := by
  have hlen := pts_len n l
  cases h1 : validB n l
  · rw [show leastP n l f = ⟨0, 0, 0⟩ by simp [leastP, leastG, h1], show leastN n l f = 0 by simp [leastN, leastG, h1], show leastE n l f = 10 by simp [leastE, h1]]
    go_enter Try.func28, Try.ntmps28
    go_upto_region 1 with (fail)
    refine wp_world fun W HW => ?_
    have hB : Below w.heap.size w W := by rw [HW.out]; (repeat (first | exact Below.refl _ _ | refine Below.alloc ?_ (by simp; try omega) _ | refine Below.setCell ?_ (by simp) _ | refine Below.drew ?_))
    have d0 : W.cell? ⟨w.heap.size, 0, none⟩ = some (.int .i64 n) := by rw [HW.out]; simp [go_sem]
    have d1 : W.cell? ⟨w.heap.size, 1, none⟩ = some (.slice s l.length cap) := by rw [HW.out]; simp [go_sem]
    have dl : w.heap.size < W.heap.size := World.block_lt_of_cell? W _ d0
    have f0 : W.cell? ⟨w.heap.size + 1, 0, none⟩ = some (.int .i64 f.x) := by rw [HW.out]; simp [go_sem]
    have f1 : W.cell? ⟨w.heap.size + 1, 1, none⟩ = some (.int .i64 f.y) := by rw [HW.out]; simp [go_sem]
    have f2 : W.cell? ⟨w.heap.size + 1, 2, none⟩ = some (.int .i64 f.z) := by rw [HW.out]; simp [go_sem]
    have fl : w.heap.size + 1 < W.heap.size := World.block_lt_of_cell? W _ f0
    have rB : Row W (w.heap.size + 2) 26 #[.int .i64 0, .int .i64 0, .int .i64 0] := (by rw [HW.out]; (repeat (first | (refine blk_new ?_; simp; done) | refine blk_old ?_ _)) : W.heap[w.heap.size + 2]? = some (.cells #[.int .i64 0, .int .i64 0, .int .i64 0] 26 (0, 0)))
    have r0 : W.cell? ⟨w.heap.size + 2, 0, none⟩ = some (.int .i64 0) := by rw [HW.out]; simp [go_sem]
    have r1 : W.cell? ⟨w.heap.size + 2, 1, none⟩ = some (.int .i64 0) := by rw [HW.out]; simp [go_sem]
    have r2 : W.cell? ⟨w.heap.size + 2, 2, none⟩ = some (.int .i64 0) := by rw [HW.out]; simp [go_sem]
    have rl : w.heap.size + 2 < W.heap.size := World.block_lt_of_cell? W _ r0
    try replace h := up_of hB h
    go_upto_region 2 with (first | (go_at_call 18; refine (rValid_t _ _ _ _ _ h).mono ?_; rintro e W1 ⟨rfl, hb⟩; (try replace h := up_of hb h); (try replace hB := up_of hb hB); (try replace d0 := up_of hb d0); (try replace d1 := up_of hb d1); (try replace dl := up_of hb dl); (try replace f0 := up_of hb f0); (try replace f1 := up_of hb f1); (try replace f2 := up_of hb f2); (try replace fl := up_of hb fl); (try replace rB := up_of hb rB); (try replace r0 := up_of hb r0); (try replace r1 := up_of hb r1); (try replace r2 := up_of hb r2); (try replace rl := up_of hb rl)))
    have rf := fun i => Row.frozen rB i
    go_wp2
    refine pnt_end rfl ⟨0, 0, 0⟩ 0 10 (b1 := w.heap.size + 2) rfl rfl rfl ?_ ?_
    · refine Row.of ?_
      repeat (first | (with_reducible refine RowG.base rB ?_) | (with_reducible refine RowG.drew ?_) | (with_reducible refine RowG.set ?_) | ((with_reducible refine RowG.other ?_ ?_); (focus (first | omega | (simp; done) | (simp; omega)))) | (with_reducible refine RowG.alloc ?_))
      rfl
    · repeat (first | (with_reducible exact hB) | (with_reducible refine Below.drew ?_) | ((with_reducible refine Below.setC ?_ ?_); (focus (first | omega | (simp; done) | (simp; omega)))) | ((with_reducible refine Below.allo ?_ ?_); (focus (first | omega | (simp; done) | (simp; omega)))))
  cases h2 : flatB f n 100
  · rw [show leastP n l f = ⟨0, 0, 0⟩ by simp [leastP, leastG, h2], show leastN n l f = 0 by simp [leastN, leastG, h2], show leastE n l f = 2 by simp [leastE, h1, h2]]
    go_enter Try.func28, Try.ntmps28
    go_upto_region 1 with (fail)
    refine wp_world fun W HW => ?_
    have hB : Below w.heap.size w W := by rw [HW.out]; (repeat (first | exact Below.refl _ _ | refine Below.alloc ?_ (by simp; try omega) _ | refine Below.setCell ?_ (by simp) _ | refine Below.drew ?_))
    have d0 : W.cell? ⟨w.heap.size, 0, none⟩ = some (.int .i64 n) := by rw [HW.out]; simp [go_sem]
    have d1 : W.cell? ⟨w.heap.size, 1, none⟩ = some (.slice s l.length cap) := by rw [HW.out]; simp [go_sem]
    have dl : w.heap.size < W.heap.size := World.block_lt_of_cell? W _ d0
    have f0 : W.cell? ⟨w.heap.size + 1, 0, none⟩ = some (.int .i64 f.x) := by rw [HW.out]; simp [go_sem]
    have f1 : W.cell? ⟨w.heap.size + 1, 1, none⟩ = some (.int .i64 f.y) := by rw [HW.out]; simp [go_sem]
    have f2 : W.cell? ⟨w.heap.size + 1, 2, none⟩ = some (.int .i64 f.z) := by rw [HW.out]; simp [go_sem]
    have fl : w.heap.size + 1 < W.heap.size := World.block_lt_of_cell? W _ f0
    have rB : Row W (w.heap.size + 2) 26 #[.int .i64 0, .int .i64 0, .int .i64 0] := (by rw [HW.out]; (repeat (first | (refine blk_new ?_; simp; done) | refine blk_old ?_ _)) : W.heap[w.heap.size + 2]? = some (.cells #[.int .i64 0, .int .i64 0, .int .i64 0] 26 (0, 0)))
    have r0 : W.cell? ⟨w.heap.size + 2, 0, none⟩ = some (.int .i64 0) := by rw [HW.out]; simp [go_sem]
    have r1 : W.cell? ⟨w.heap.size + 2, 1, none⟩ = some (.int .i64 0) := by rw [HW.out]; simp [go_sem]
    have r2 : W.cell? ⟨w.heap.size + 2, 2, none⟩ = some (.int .i64 0) := by rw [HW.out]; simp [go_sem]
    have rl : w.heap.size + 2 < W.heap.size := World.block_lt_of_cell? W _ r0
    try replace h := up_of hB h
    go_upto_region 4 with (first | (go_at_call 18; refine (rValid_t _ _ _ _ _ h).mono ?_; rintro e W1 ⟨rfl, hb⟩; (try replace h := up_of hb h); (try replace hB := up_of hb hB); (try replace d0 := up_of hb d0); (try replace d1 := up_of hb d1); (try replace dl := up_of hb dl); (try replace f0 := up_of hb f0); (try replace f1 := up_of hb f1); (try replace f2 := up_of hb f2); (try replace fl := up_of hb fl); (try replace rB := up_of hb rB); (try replace r0 := up_of hb r0); (try replace r1 := up_of hb r1); (try replace r2 := up_of hb r2); (try replace rl := up_of hb rl)) | (go_at_call 52; refine (flat_c _ _ _ _ (by omega) (by omega)).mono ?_; rintro e W1 ⟨rfl, hb⟩; (try replace h := up_of hb h); (try replace hB := up_of hb hB); (try replace d0 := up_of hb d0); (try replace d1 := up_of hb d1); (try replace dl := up_of hb dl); (try replace f0 := up_of hb f0); (try replace f1 := up_of hb f1); (try replace f2 := up_of hb f2); (try replace fl := up_of hb fl); (try replace rB := up_of hb rB); (try replace r0 := up_of hb r0); (try replace r1 := up_of hb r1); (try replace r2 := up_of hb r2); (try replace rl := up_of hb rl)))
    have rf := fun i => Row.frozen rB i
    go_wp2
    refine pnt_end rfl ⟨0, 0, 0⟩ 0 2 (b1 := w.heap.size + 2) rfl rfl rfl ?_ ?_
    · refine Row.of ?_
      repeat (first | (with_reducible refine RowG.base rB ?_) | (with_reducible refine RowG.drew ?_) | (with_reducible refine RowG.set ?_) | ((with_reducible refine RowG.other ?_ ?_); (focus (first | omega | (simp; done) | (simp; omega)))) | (with_reducible refine RowG.alloc ?_))
      rfl
    · repeat (first | (with_reducible exact hB) | (with_reducible refine Below.drew ?_) | ((with_reducible refine Below.setC ?_ ?_); (focus (first | omega | (simp; done) | (simp; omega)))) | ((with_reducible refine Below.allo ?_ ?_); (focus (first | omega | (simp; done) | (simp; omega)))))
  have hn := validB_n h1
  obtain ⟨L, hL⟩ : ∃ L, pts n l = L := ⟨_, rfl⟩
  rw [hL] at hlen
  rw [show leastP n l f = if someL L then minM f L else ⟨0, 0, 0⟩ by simp [leastP, leastG, h1, h2, hL], show leastN n l f = if someL L then vf f (minM f L) else 0 by simp [leastN, leastG, h1, h2, hL], show leastE n l f = if someL L then 0 else 5 by simp [leastE, h1, h2, hL]]
  obtain ⟨mn, e1⟩ : ∃ mn, minM f L = mn := ⟨_, rfl⟩
  rw [e1]
  replace e1 := Lib.hid e1
  replace hL := Lib.hid hL
  go_enter Try.func28, Try.ntmps28
  go_upto_region 1 with (fail)
  refine wp_world fun W HW => ?_
  have hB : Below w.heap.size w W := by rw [HW.out]; (repeat (first | exact Below.refl _ _ | refine Below.alloc ?_ (by simp; try omega) _ | refine Below.setCell ?_ (by simp) _ | refine Below.drew ?_))
  have d0 : W.cell? ⟨w.heap.size, 0, none⟩ = some (.int .i64 n) := by rw [HW.out]; simp [go_sem]
  have d1 : W.cell? ⟨w.heap.size, 1, none⟩ = some (.slice s l.length cap) := by rw [HW.out]; simp [go_sem]
  have dl : w.heap.size < W.heap.size := World.block_lt_of_cell? W _ d0
  have f0 : W.cell? ⟨w.heap.size + 1, 0, none⟩ = some (.int .i64 f.x) := by rw [HW.out]; simp [go_sem]
  have f1 : W.cell? ⟨w.heap.size + 1, 1, none⟩ = some (.int .i64 f.y) := by rw [HW.out]; simp [go_sem]
  have f2 : W.cell? ⟨w.heap.size + 1, 2, none⟩ = some (.int .i64 f.z) := by rw [HW.out]; simp [go_sem]
  have fl : w.heap.size + 1 < W.heap.size := World.block_lt_of_cell? W _ f0
  have rB : Row W (w.heap.size + 2) 26 #[.int .i64 0, .int .i64 0, .int .i64 0] := (by rw [HW.out]; (repeat (first | (refine blk_new ?_; simp; done) | refine blk_old ?_ _)) : W.heap[w.heap.size + 2]? = some (.cells #[.int .i64 0, .int .i64 0, .int .i64 0] 26 (0, 0)))
  have r0 : W.cell? ⟨w.heap.size + 2, 0, none⟩ = some (.int .i64 0) := by rw [HW.out]; simp [go_sem]
  have r1 : W.cell? ⟨w.heap.size + 2, 1, none⟩ = some (.int .i64 0) := by rw [HW.out]; simp [go_sem]
  have r2 : W.cell? ⟨w.heap.size + 2, 2, none⟩ = some (.int .i64 0) := by rw [HW.out]; simp [go_sem]
  have rl : w.heap.size + 2 < W.heap.size := World.block_lt_of_cell? W _ r0
  try replace h := up_of hB h
  go_upto_region 6 with (first | (go_at_call 55; refine (All_c _ _ _ _ _ hn h.iq h.len h.wf).mono ?_; rw [hL.out]; rintro e W1 ⟨s1, c1, rfl, hown, hb⟩; have hab := owns_above hown rl; (try replace h := up_of hb h); (try replace hB := up_of hb hB); (try replace d0 := up_of hb d0); (try replace d1 := up_of hb d1); (try replace dl := up_of hb dl); (try replace f0 := up_of hb f0); (try replace f1 := up_of hb f1); (try replace f2 := up_of hb f2); (try replace fl := up_of hb fl); (try replace rB := up_of hb rB); (try replace r0 := up_of hb r0); (try replace r1 := up_of hb r1); (try replace r2 := up_of hb r2); (try replace rl := up_of hb rl)) | (go_at_call 18; refine (rValid_t _ _ _ _ _ h).mono ?_; rintro e W1 ⟨rfl, hb⟩; (try replace h := up_of hb h); (try replace hB := up_of hb hB); (try replace d0 := up_of hb d0); (try replace d1 := up_of hb d1); (try replace dl := up_of hb dl); (try replace f0 := up_of hb f0); (try replace f1 := up_of hb f1); (try replace f2 := up_of hb f2); (try replace fl := up_of hb fl); (try replace rB := up_of hb rB); (try replace r0 := up_of hb r0); (try replace r1 := up_of hb r1); (try replace r2 := up_of hb r2); (try replace rl := up_of hb rl)) | (go_at_call 52; refine (flat_c _ _ _ _ (by omega) (by omega)).mono ?_; rintro e W1 ⟨rfl, hb⟩; (try replace h := up_of hb h); (try replace hB := up_of hb hB); (try replace d0 := up_of hb d0); (try replace d1 := up_of hb d1); (try replace dl := up_of hb dl); (try replace f0 := up_of hb f0); (try replace f1 := up_of hb f1); (try replace f2 := up_of hb f2); (try replace fl := up_of hb fl); (try replace rB := up_of hb rB); (try replace r0 := up_of hb r0); (try replace r1 := up_of hb r1); (try replace r2 := up_of hb r2); (try replace rl := up_of hb rl)))
  have hpt := owns_pt hown
  clear hown hb
  have rf := fun i => Row.frozen rB i
  by_cases hz : L = []
  · subst hz
    simp only [show someL ([] : List Pt) = false from rfl, Bool.false_eq_true, if_false]
    go_wp2
    refine pnt_end rfl ⟨0, 0, 0⟩ 0 5 (b1 := w.heap.size + 2) rfl rfl rfl ?_ ?_
    · refine Row.of ?_
      repeat (first | (with_reducible refine RowG.base rB ?_) | (with_reducible refine RowG.drew ?_) | (with_reducible refine RowG.set ?_) | ((with_reducible refine RowG.other ?_ ?_); (focus (first | omega | (simp; done) | (simp; omega)))) | (with_reducible refine RowG.alloc ?_))
      rfl
    · repeat (first | (with_reducible exact hB) | (with_reducible refine Below.drew ?_) | ((with_reducible refine Below.setC ?_ ?_); (focus (first | omega | (simp; done) | (simp; omega)))) | ((with_reducible refine Below.allo ?_ ?_); (focus (first | omega | (simp; done) | (simp; omega)))))
  · have hpos : 0 < L.length := List.length_pos_iff.2 hz
    have hpos' : ((L.length : Int) == 0) = false := by simp; omega
    have hsm : someL L = true := by unfold someL; cases L with
      | nil => exact absurd rfl hz
      | cons a l => rfl
    simp only [hsm, if_true]
    obtain ⟨b1, o1, rfl, hb1, a0, a1, a2⟩ := hpt.at hpos
    simp only [Nat.zero_mul, Nat.add_zero] at a0 a1 a2
    have hbb := hab b1 o1 rfl
    have g0 : (0 : Int) < (L.length : Int) := by omega
    clear rf hab hz
    have hr1 : w.heap.size + 2 < W1.heap.size := rl
    go_upto_region 9 with (fail)
    refine wp_world fun X HX => ?_
    have hX : Below W1.heap.size W1 X := by rw [HX.out]; (repeat (first | exact Below.refl _ _ | refine Below.alloc ?_ (by simp; try omega) _ | refine Below.setCell ?_ (by simp) _ | refine Below.drew ?_))
    have cB : Row X (W1.heap.size) 26 #[.int .i64 L[0].x, .int .i64 L[0].y, .int .i64 L[0].z] := (by rw [HX.out]; (repeat (first | (refine blk_new ?_; simp; done) | refine blk_old ?_ _)) : X.heap[W1.heap.size]? = some (.cells #[.int .i64 L[0].x, .int .i64 L[0].y, .int .i64 L[0].z] 26 (0, 0)))
    have c0 : X.cell? ⟨W1.heap.size, 0, none⟩ = some (.int .i64 L[0].x) := by rw [HX.out]; simp [go_sem]
    have c1 : X.cell? ⟨W1.heap.size, 1, none⟩ = some (.int .i64 L[0].y) := by rw [HX.out]; simp [go_sem]
    have c2 : X.cell? ⟨W1.heap.size, 2, none⟩ = some (.int .i64 L[0].z) := by rw [HX.out]; simp [go_sem]
    have cl : W1.heap.size < X.heap.size := World.block_lt_of_cell? X _ c0
    try replace h := up_of hX h
    try replace hB := up_of hX hB
    try replace d0 := up_of hX d0
    try replace d1 := up_of hX d1
    try replace dl := up_of hX dl
    try replace f0 := up_of hX f0
    try replace f1 := up_of hX f1
    try replace f2 := up_of hX f2
    try replace fl := up_of hX fl
    try replace rB := up_of hX rB
    try replace r0 := up_of hX r0
    try replace r1 := up_of hX r1
    try replace r2 := up_of hX r2
    try replace rl := up_of hX rl
    try replace hpt := up_of hX hpt
    clear a0 a1 a2 c0 c1 c2
    have hsX := hX.size
    have hrX := rl
    have hW1l := hB.size
    replace cB : Row X W1.heap.size 26 (ptA (minK f L 0)) := by rw [minK_zero f L hpos]; exact cB
    go_wp2
    go_loopw [32] (fun i wr => ∃ k : Nat, k ≤ L.length ∧ i = .int .i64 k ∧ Row wr W1.heap.size 26 (ptA (minK f L k)) ∧ Chg (fun k => k = W1.heap.size) X wr) (fun i _ => L.length - (intOf i).toNat)
    case atStart => exact ⟨0, by omega, rfl, cB, Chg.refl _ _⟩
    case round =>
      clear cB
      obtain ⟨k, hk, rfl, cB, hC⟩ := hrel
      have hWs := hC.size
      have f0 := hC.cell (by show ¬ w.heap.size + 1 = _; omega) f0
      have f1 := hC.cell (by show ¬ w.heap.size + 1 = _; omega) f1
      have f2 := hC.cell (by show ¬ w.heap.size + 1 = _; omega) f2
      by_cases hlt : k < L.length
      · have e4 := Lib.hid (minK_succ f L k hlt)
        obtain ⟨mk, hmn⟩ : ∃ mk, minK f L k = mk := ⟨_, rfl⟩
        rw [hmn] at cB e4
        clear hmn
        obtain ⟨b2, o2, ho, hb2, p0, p1, p2⟩ := (hC.pt (fun b o h => by cases h; omega) hpt).at hlt
        cases ho
        have g1 : (0 : Int) ≤ (k : Int) := by omega
        have g2 : (k : Int) < (L.length : Int) := by omega
        go_upto_region 12 with (fail)
        refine wp_world fun Y HY => ?_
        have hY : Below wr.heap.size wr Y := by rw [HY.out]; (repeat (first | exact Below.refl _ _ | refine Below.alloc ?_ (by simp; try omega) _ | refine Below.setCell ?_ (by simp) _ | refine Below.drew ?_))
        have qB : Row Y (wr.heap.size) 26 #[.int .i64 L[k].x, .int .i64 L[k].y, .int .i64 L[k].z] := (by rw [HY.out]; (repeat (first | (refine blk_new ?_; simp; done) | refine blk_old ?_ _)) : Y.heap[wr.heap.size]? = some (.cells #[.int .i64 L[k].x, .int .i64 L[k].y, .int .i64 L[k].z] 26 (0, 0)))
        have q0 : Y.cell? ⟨wr.heap.size, 0, none⟩ = some (.int .i64 L[k].x) := by rw [HY.out]; simp [go_sem]
        have q1 : Y.cell? ⟨wr.heap.size, 1, none⟩ = some (.int .i64 L[k].y) := by rw [HY.out]; simp [go_sem]
        have q2 : Y.cell? ⟨wr.heap.size, 2, none⟩ = some (.int .i64 L[k].z) := by rw [HY.out]; simp [go_sem]
        have ql : wr.heap.size < Y.heap.size := World.block_lt_of_cell? Y _ q0
        try replace f0 := up_of hY f0
        try replace f1 := up_of hY f1
        try replace f2 := up_of hY f2
        try replace cB := up_of hY cB
        try replace hC := up_of hY hC
        obtain ⟨c0, c1, c2⟩ := cB.three
        have hYl : W1.heap.size < Y.heap.size := cB.lt
        have hYs := hY.size
        clear p0 p1 p2
        by_cases ct : vf f L[k] < vf f mk
        all_goals
          unfold vf at ct
          try have ld_f0 := World.block_lt_of_cell? _ _ f0
          try have ld_q0 := World.block_lt_of_cell? _ _ q0
          try have ld_c0 := World.block_lt_of_cell? _ _ c0
          refine region_q (by kernel_rfl) (by kernel_rfl) ?_
          dsimp only [List.toList_toArray]
          repeat (first
           | go_big_quiet_skip
           | (go_big_quiet_want
              first
              | (refine qq_det ?_
                 apply Exists.intro; refine ⟨fun W' hW' => ?_, ?_⟩
                 (· have hk := cellB hW'; go_simp; try (first | rfl | rw [if_pos (by omega)]))
                 simp only [Act.put, List.setIfInBounds_toArray, List.set_cons_zero, List.set_cons_succ]; go_big_quiet_on)
              | (refine qq_call ?_
                 apply Exists.intro; apply Exists.intro; refine ⟨fun W' hW' => ?_, ?_⟩
                 (· have hk := cellB hW'; go_simp; exact ⟨rfl, rfl⟩)
                 apply Exists.intro; refine ⟨fun W' hW' => ?_, ?_⟩
                 (· first | (go_at_call 35; exact qc hW' (Dot_c _ _ _)))
                 simp only [Act.put, List.setIfInBounds_toArray, List.set_cons_zero, List.set_cons_succ]; go_big_quiet_on)))
          refine wpQuiet_nil ?_
          intro Z hb
          try replace f0 := up_of hb f0
          try replace f1 := up_of hb f1
          try replace f2 := up_of hb f2
          try replace cB := up_of hb cB
          try replace hC := up_of hb hC
          try replace hY := up_of hb hY
          try replace qB := up_of hb qB
          try replace q0 := up_of hb q0
          try replace q1 := up_of hb q1
          try replace q2 := up_of hb q2
          try replace ql := up_of hb ql
          try replace c0 := up_of hb c0
          try replace c1 := up_of hb c1
          try replace c2 := up_of hb c2
          have cf := fun i => cB.frozen i
          have hZs := hb.size
          go_wp2
          go_roundw
          case rel => first
            | (refine ⟨k + 1, by omega, rfl, ?_, ?_⟩
               · rw [e4.out, stepM, if_pos (show vf f L[k] < vf f mk from ct)]
                 refine Row.of ?_
                 repeat (first | (with_reducible refine RowG.base cB ?_) | (with_reducible refine RowG.drew ?_) | (with_reducible refine RowG.set ?_) | ((with_reducible refine RowG.other ?_ ?_); (focus (first | omega | (simp; done) | (simp; omega)))) | (with_reducible refine RowG.alloc ?_))
                 rfl
               · repeat (first | (with_reducible exact hC) | (with_reducible refine Chg.setCell ?_ (by simp) _) | (with_reducible refine Chg.drew ?_) | (with_reducible refine Chg.alloc ?_ _))
              )
            | exact ⟨k + 1, by omega, rfl, by rw [e4.out, stepM, if_neg (by unfold vf; omega)]; exact cB, hC⟩
          case measure => exact meas hlt
      · obtain rfl : k = L.length := by omega
        rw [minK_all f L hpos, e1.out] at cB
        obtain ⟨c0, c1, c2⟩ := cB.three
        replace rB := hC.row (by omega) rB
        have rf := fun i => rB.frozen i
        replace hB := hC.below (n := w.heap.size) (fun k hk => by omega) hB.size hB
        go_upto_region 15 with (fail)
        go_region_held3 (fun V => V.cell? ⟨w.heap.size + 1, 0, none⟩ = some (.int .i64 f.x) ∧ V.cell? ⟨w.heap.size + 1, 1, none⟩ = some (.int .i64 f.y) ∧ V.cell? ⟨w.heap.size + 1, 2, none⟩ = some (.int .i64 f.z) ∧ V.cell? ⟨W1.heap.size, 0, none⟩ = some (.int .i64 mn.x) ∧ V.cell? ⟨W1.heap.size, 1, none⟩ = some (.int .i64 mn.y) ∧ V.cell? ⟨W1.heap.size, 2, none⟩ = some (.int .i64 mn.z)) ((first | (with_reducible exact ⟨f0, f1, f2, c0, c1, c2⟩) | ((try dsimp only); (repeat' apply And.intro) <;> (repeat (first | (with_reducible assumption) | (with_reducible refine cell_set (by simp; try omega) ?_) | (with_reducible refine cell_drew ?_) | (with_reducible refine cell_alloc ?_ _)))))) ((first | (go_at_call 35; refine (Dot_c f mn _).mono ?_; rintro e W1 ⟨rfl, hb⟩; replace hb := drewB hb; replace f0 := up_of hb f0; replace f1 := up_of hb f1; replace f2 := up_of hb f2; replace c0 := up_of hb c0; replace c1 := up_of hb c1; replace c2 := up_of hb c2; replace rB := up_of hb rB; replace hB := up_of hb hB; have rf := fun i => rB.frozen i; obtain ⟨r0, r1, r2⟩ := rB.three)))
        go_wp2
        refine pnt_end rfl _ _ 0 (b1 := w.heap.size + 2) rfl rfl rfl ?_ ?_
        · refine Row.of ?_
          repeat (first | (with_reducible refine RowG.base rB ?_) | (with_reducible refine RowG.drew ?_) | (with_reducible refine RowG.set ?_) | ((with_reducible refine RowG.other ?_ ?_); (focus (first | omega | (simp; done) | (simp; omega)))) | (with_reducible refine RowG.alloc ?_))
          rfl
        · repeat (first | (with_reducible exact hB) | (with_reducible refine Below.drew ?_) | ((with_reducible refine Below.setC ?_ ?_); (focus (first | omega | (simp; done) | (simp; omega)))) | ((with_reducible refine Below.allo ?_ ?_); (focus (first | omega | (simp; done) | (simp; omega)))))
end Go.Proofs.Ytfebkccdcbkdiaa
