/- Least and Greatest, of the program and of the reference. -/
import Derived.Test.YtfebkccdcbkdiaaPoly16
import Derived.Deep.RegionHeld3
namespace Go.Proofs.Ytfebkccdcbkdiaa
open Go.RowKit

def leastG (n : Int) (l : List Iq) (f : Pt) : Bool := validB n l && (flatB f n 100 && someL (pts n l))
def leastP (n : Int) (l : List Iq) (f : Pt) : Pt := if leastG n l f then minM f (pts n l) else ⟨0, 0, 0⟩
def leastN (n : Int) (l : List Iq) (f : Pt) : Int := if leastG n l f then vf f (minM f (pts n l)) else 0
def leastE (n : Int) (l : List Iq) (f : Pt) : Int := if validB n l then (if flatB f n 100 then (if someL (pts n l) then 0 else 5) else 2) else 10
def PntRet (p : Pt) (v er : Int) (w : World) (e : Ending) (w' : World) : Prop :=
  e = .returned (.tuple #[.agg #[.int .i64 p.x, .int .i64 p.y, .int .i64 p.z], .int .i64 v, .int .i64 er]) ∧ Below w.heap.size w w'
theorem PntRet.of {f : Pt} {L : List Pt} {P : Program} {g : FuncId} {args : Array Value} {w : World} {mn : Pt} {v : Int} {fd : Bool} (h : Calls P g args w (FirstRet f L w)) (e1 : minM f L = mn) (e2 : minV f L = v) (e3 : someL L = fd) :
    Calls P g args w fun e w' => e = .returned (.tuple #[.agg #[.int .i64 mn.x, .int .i64 mn.y, .int .i64 mn.z], .int .i64 v, .bool fd]) ∧ Below w.heap.size w w' := by
  subst e1; subst e2; subst e3; exact h

theorem pnt_end {fn : Func} (hr : fn.results = #[.cell 4 26, .tmp 5, .tmp 6]) (p : Pt) (v er : Int) {tmps : Array Value} {w X : World} {b1 : Nat}
    (h2 : tmps.getD 4 undef = .pointer (some ⟨b1, 0, none⟩)) (h3 : tmps.getD 5 undef = .int .i64 v) (h4 : tmps.getD 6 undef = .int .i64 er)
    (rl : Row X b1 26 (ptA p)) (hB : Below w.heap.size w X) :
    bodyPost Try.prog fn (PntRet p v er w) .ret { tmps := tmps, defers := [] } X :=
  bodyPost_ret (results_css hr h2 h3 h4 (load_P _ rl.three.1 rl.three.2.1 rl.three.2.2)) rfl ⟨rfl, hB⟩

set_option maxRecDepth 100000 in
set_option maxHeartbeats 1000000 in
theorem Least_c (n : Int) (s : Option Addr) (cap : Nat) (l : List Iq) (f : Pt) (w : World) (h : Dom w s l) :
    Calls Try.prog 27 #[.agg #[.int .i64 n, .slice s l.length cap], .agg #[.int .i64 f.x, .int .i64 f.y, .int .i64 f.z]] w (PntRet (leastP n l f) (leastN n l f) (leastE n l f) w) := by
  cases h1 : validB n l
  · rw [show leastP n l f = ⟨0, 0, 0⟩ by simp [leastP, leastG, h1], show leastN n l f = 0 by simp [leastN, leastG, h1], show leastE n l f = 10 by simp [leastE, h1]]
    go_enter Try.func27, Try.ntmps27
    go_upto_region 1 with (fail)
    refine wp_world fun W HW => ?_
    have hB : Below w.heap.size w W := by rw [HW.out]; (repeat (first | exact Below.refl _ _ | refine Below.alloc ?_ (by simp; try omega) _ | refine Below.setCell ?_ (by simp) _ | refine Below.drew ?_))
    have d0 : W.cell? ⟨w.heap.size, 0, none⟩ = some (.int .i64 n) := by rw [HW.out]; simp [go_sem]
    have d1 : W.cell? ⟨w.heap.size, 1, none⟩ = some (.slice s l.length cap) := by rw [HW.out]; simp [go_sem]
    have dl : w.heap.size < W.heap.size := World.block_lt_of_cell? W _ d0
    have f0 : W.cell? ⟨w.heap.size + 1, 0, none⟩ = some (.int .i64 f.x) := by rw [HW.out]; simp [go_sem]
    have f1 : W.cell? ⟨w.heap.size + 1, 1, none⟩ = some (.int .i64 f.y) := by rw [HW.out]; simp [go_sem]
    have f2 : W.cell? ⟨w.heap.size + 1, 2, none⟩ = some (.int .i64 f.z) := by rw [HW.out]; simp [go_sem]
    have fl : w.heap.size + 1 < W.heap.size := World.block_lt_of_cell? W _ f0
    have rB : Row W (w.heap.size + 2) 26 #[.int .i64 0, .int .i64 0, .int .i64 0] := (by rw [HW.out]; (repeat (first | (refine blk_new ?_; simp; done) | refine blk_old ?_ _)) : W.heap[w.heap.size + 2]? = some (.cells #[.int .i64 0, .int .i64 0, .int .i64 0] 26 (0, 0)))
    have r0 : W.cell? ⟨w.heap.size + 2, 0, none⟩ = some (.int .i64 0) := by rw [HW.out]; simp [go_sem]
    have r1 : W.cell? ⟨w.heap.size + 2, 1, none⟩ = some (.int .i64 0) := by rw [HW.out]; simp [go_sem]
    have r2 : W.cell? ⟨w.heap.size + 2, 2, none⟩ = some (.int .i64 0) := by rw [HW.out]; simp [go_sem]
    have rl : w.heap.size + 2 < W.heap.size := World.block_lt_of_cell? W _ r0
    try replace h := up_of hB h
    go_upto_region 2 with (first | (go_at_call 17; refine (Valid_t _ _ _ _ _ h).mono ?_; rintro e W1 ⟨rfl, hb⟩; (try replace h := up_of hb h); (try replace hB := up_of hb hB); (try replace d0 := up_of hb d0); (try replace d1 := up_of hb d1); (try replace dl := up_of hb dl); (try replace f0 := up_of hb f0); (try replace f1 := up_of hb f1); (try replace f2 := up_of hb f2); (try replace fl := up_of hb fl); (try replace rB := up_of hb rB); (try replace r0 := up_of hb r0); (try replace r1 := up_of hb r1); (try replace r2 := up_of hb r2); (try replace rl := up_of hb rl)))
    have rf := fun i => Row.frozen rB i
    go_wp2
    refine pnt_end rfl ⟨0, 0, 0⟩ 0 10 (b1 := w.heap.size + 2) rfl rfl rfl ?_ ?_
    · refine Row.of ?_
      repeat (first | (with_reducible refine RowG.base rB ?_) | (with_reducible refine RowG.drew ?_) | (with_reducible refine RowG.set ?_) | ((with_reducible refine RowG.other ?_ ?_); (focus (first | omega | (simp; done) | (simp; omega)))) | (with_reducible refine RowG.alloc ?_))
      rfl
    · repeat (first | (with_reducible exact hB) | (with_reducible refine Below.drew ?_) | ((with_reducible refine Below.setC ?_ ?_); (focus (first | omega | (simp; done) | (simp; omega)))) | ((with_reducible refine Below.allo ?_ ?_); (focus (first | omega | (simp; done) | (simp; omega)))))
  cases h2 : flatB f n 100
  · rw [show leastP n l f = ⟨0, 0, 0⟩ by simp [leastP, leastG, h2], show leastN n l f = 0 by simp [leastN, leastG, h2], show leastE n l f = 2 by simp [leastE, h1, h2]]
    go_enter Try.func27, Try.ntmps27
    go_upto_region 1 with (fail)
    refine wp_world fun W HW => ?_
    have hB : Below w.heap.size w W := by rw [HW.out]; (repeat (first | exact Below.refl _ _ | refine Below.alloc ?_ (by simp; try omega) _ | refine Below.setCell ?_ (by simp) _ | refine Below.drew ?_))
    have d0 : W.cell? ⟨w.heap.size, 0, none⟩ = some (.int .i64 n) := by rw [HW.out]; simp [go_sem]
    have d1 : W.cell? ⟨w.heap.size, 1, none⟩ = some (.slice s l.length cap) := by rw [HW.out]; simp [go_sem]
    have dl : w.heap.size < W.heap.size := World.block_lt_of_cell? W _ d0
    have f0 : W.cell? ⟨w.heap.size + 1, 0, none⟩ = some (.int .i64 f.x) := by rw [HW.out]; simp [go_sem]
    have f1 : W.cell? ⟨w.heap.size + 1, 1, none⟩ = some (.int .i64 f.y) := by rw [HW.out]; simp [go_sem]
    have f2 : W.cell? ⟨w.heap.size + 1, 2, none⟩ = some (.int .i64 f.z) := by rw [HW.out]; simp [go_sem]
    have fl : w.heap.size + 1 < W.heap.size := World.block_lt_of_cell? W _ f0
    have rB : Row W (w.heap.size + 2) 26 #[.int .i64 0, .int .i64 0, .int .i64 0] := (by rw [HW.out]; (repeat (first | (refine blk_new ?_; simp; done) | refine blk_old ?_ _)) : W.heap[w.heap.size + 2]? = some (.cells #[.int .i64 0, .int .i64 0, .int .i64 0] 26 (0, 0)))
    have r0 : W.cell? ⟨w.heap.size + 2, 0, none⟩ = some (.int .i64 0) := by rw [HW.out]; simp [go_sem]
    have r1 : W.cell? ⟨w.heap.size + 2, 1, none⟩ = some (.int .i64 0) := by rw [HW.out]; simp [go_sem]
    have r2 : W.cell? ⟨w.heap.size + 2, 2, none⟩ = some (.int .i64 0) := by rw [HW.out]; simp [go_sem]
    have rl : w.heap.size + 2 < W.heap.size := World.block_lt_of_cell? W _ r0
    try replace h := up_of hB h
    go_upto_region 4 with (first | (go_at_call 17; refine (Valid_t _ _ _ _ _ h).mono ?_; rintro e W1 ⟨rfl, hb⟩; (try replace h := up_of hb h); (try replace hB := up_of hb hB); (try replace d0 := up_of hb d0); (try replace d1 := up_of hb d1); (try replace dl := up_of hb dl); (try replace f0 := up_of hb f0); (try replace f1 := up_of hb f1); (try replace f2 := up_of hb f2); (try replace fl := up_of hb fl); (try replace rB := up_of hb rB); (try replace r0 := up_of hb r0); (try replace r1 := up_of hb r1); (try replace r2 := up_of hb r2); (try replace rl := up_of hb rl)) | (go_at_call 51; refine (ranged_c _ _ _ _ (by omega) (by omega)).mono ?_; rintro e W1 ⟨rfl, hb⟩; (try replace h := up_of hb h); (try replace hB := up_of hb hB); (try replace d0 := up_of hb d0); (try replace d1 := up_of hb d1); (try replace dl := up_of hb dl); (try replace f0 := up_of hb f0); (try replace f1 := up_of hb f1); (try replace f2 := up_of hb f2); (try replace fl := up_of hb fl); (try replace rB := up_of hb rB); (try replace r0 := up_of hb r0); (try replace r1 := up_of hb r1); (try replace r2 := up_of hb r2); (try replace rl := up_of hb rl)))
    have rf := fun i => Row.frozen rB i
    go_wp2
    refine pnt_end rfl ⟨0, 0, 0⟩ 0 2 (b1 := w.heap.size + 2) rfl rfl rfl ?_ ?_
    · refine Row.of ?_
      repeat (first | (with_reducible refine RowG.base rB ?_) | (with_reducible refine RowG.drew ?_) | (with_reducible refine RowG.set ?_) | ((with_reducible refine RowG.other ?_ ?_); (focus (first | omega | (simp; done) | (simp; omega)))) | (with_reducible refine RowG.alloc ?_))
      rfl
    · repeat (first | (with_reducible exact hB) | (with_reducible refine Below.drew ?_) | ((with_reducible refine Below.setC ?_ ?_); (focus (first | omega | (simp; done) | (simp; omega)))) | ((with_reducible refine Below.allo ?_ ?_); (focus (first | omega | (simp; done) | (simp; omega)))))
  have hn := validB_n h1
  obtain ⟨L, hL⟩ : ∃ L, pts n l = L := ⟨_, rfl⟩
  rw [show leastP n l f = if someL L then minM f L else ⟨0, 0, 0⟩ by simp [leastP, leastG, h1, h2, hL], show leastN n l f = if someL L then vf f (minM f L) else 0 by simp [leastN, leastG, h1, h2, hL], show leastE n l f = if someL L then 0 else 5 by simp [leastE, h1, h2, hL]]
  have hv : minV f L = if someL L then vf f (minM f L) else 0 := rfl
  obtain ⟨mn, e1⟩ : ∃ mn, minM f L = mn := ⟨_, rfl⟩
  obtain ⟨v, e2⟩ : ∃ v, minV f L = v := ⟨_, rfl⟩
  obtain ⟨u, e3⟩ : ∃ u, vf f (minM f L) = u := ⟨_, rfl⟩
  rw [e1] at e3
  rw [e2, e1, e3] at hv
  rw [e1, e3]
  replace e1 := Lib.hid e1; replace e2 := Lib.hid e2; replace e3 := Lib.hid e3; replace hL := Lib.hid hL
  cases h3 : someL L
  · rw [h3] at hv
    simp only [if_true, if_false, Bool.false_eq_true] at hv ⊢
    subst hv
    replace h3 := Lib.hid h3
    go_enter Try.func27, Try.ntmps27
    go_upto_region 1 with (fail)
    refine wp_world fun W HW => ?_
    have hB : Below w.heap.size w W := by rw [HW.out]; (repeat (first | exact Below.refl _ _ | refine Below.alloc ?_ (by simp; try omega) _ | refine Below.setCell ?_ (by simp) _ | refine Below.drew ?_))
    have d0 : W.cell? ⟨w.heap.size, 0, none⟩ = some (.int .i64 n) := by rw [HW.out]; simp [go_sem]
    have d1 : W.cell? ⟨w.heap.size, 1, none⟩ = some (.slice s l.length cap) := by rw [HW.out]; simp [go_sem]
    have dl : w.heap.size < W.heap.size := World.block_lt_of_cell? W _ d0
    have f0 : W.cell? ⟨w.heap.size + 1, 0, none⟩ = some (.int .i64 f.x) := by rw [HW.out]; simp [go_sem]
    have f1 : W.cell? ⟨w.heap.size + 1, 1, none⟩ = some (.int .i64 f.y) := by rw [HW.out]; simp [go_sem]
    have f2 : W.cell? ⟨w.heap.size + 1, 2, none⟩ = some (.int .i64 f.z) := by rw [HW.out]; simp [go_sem]
    have fl : w.heap.size + 1 < W.heap.size := World.block_lt_of_cell? W _ f0
    have rB : Row W (w.heap.size + 2) 26 #[.int .i64 0, .int .i64 0, .int .i64 0] := (by rw [HW.out]; (repeat (first | (refine blk_new ?_; simp; done) | refine blk_old ?_ _)) : W.heap[w.heap.size + 2]? = some (.cells #[.int .i64 0, .int .i64 0, .int .i64 0] 26 (0, 0)))
    have r0 : W.cell? ⟨w.heap.size + 2, 0, none⟩ = some (.int .i64 0) := by rw [HW.out]; simp [go_sem]
    have r1 : W.cell? ⟨w.heap.size + 2, 1, none⟩ = some (.int .i64 0) := by rw [HW.out]; simp [go_sem]
    have r2 : W.cell? ⟨w.heap.size + 2, 2, none⟩ = some (.int .i64 0) := by rw [HW.out]; simp [go_sem]
    have rl : w.heap.size + 2 < W.heap.size := World.block_lt_of_cell? W _ r0
    try replace h := up_of hB h
    go_upto_region 7 with (first | (go_at_call 17; refine (Valid_t _ _ _ _ _ h).mono ?_; rintro e W1 ⟨rfl, hb⟩; (try replace h := up_of hb h); (try replace hB := up_of hb hB); (try replace d0 := up_of hb d0); (try replace d1 := up_of hb d1); (try replace dl := up_of hb dl); (try replace f0 := up_of hb f0); (try replace f1 := up_of hb f1); (try replace f2 := up_of hb f2); (try replace fl := up_of hb fl); (try replace rB := up_of hb rB); (try replace r0 := up_of hb r0); (try replace r1 := up_of hb r1); (try replace r2 := up_of hb r2); (try replace rl := up_of hb rl)) | (go_at_call 51; refine (ranged_c _ _ _ _ (by omega) (by omega)).mono ?_; rintro e W1 ⟨rfl, hb⟩; (try replace h := up_of hb h); (try replace hB := up_of hb hB); (try replace d0 := up_of hb d0); (try replace d1 := up_of hb d1); (try replace dl := up_of hb dl); (try replace f0 := up_of hb f0); (try replace f1 := up_of hb f1); (try replace f2 := up_of hb f2); (try replace fl := up_of hb fl); (try replace rB := up_of hb rB); (try replace r0 := up_of hb r0); (try replace r1 := up_of hb r1); (try replace r2 := up_of hb r2); (try replace rl := up_of hb rl)) | (go_at_call 56; refine (PntRet.of (hL.out ▸ first_c _ _ _ _ _ _ h hn) e1.out e2.out h3.out).mono ?_; rintro e W1 ⟨rfl, hb⟩; (try replace h := up_of hb h); (try replace hB := up_of hb hB); (try replace d0 := up_of hb d0); (try replace d1 := up_of hb d1); (try replace dl := up_of hb dl); (try replace f0 := up_of hb f0); (try replace f1 := up_of hb f1); (try replace f2 := up_of hb f2); (try replace fl := up_of hb fl); (try replace rB := up_of hb rB); (try replace r0 := up_of hb r0); (try replace r1 := up_of hb r1); (try replace r2 := up_of hb r2); (try replace rl := up_of hb rl)))
    have rf := fun i => Row.frozen rB i
    go_wp2
    refine pnt_end rfl _ _ 5 (b1 := w.heap.size + 2) rfl rfl rfl ?_ ?_
    · refine Row.of ?_
      repeat (first | (with_reducible refine RowG.base rB ?_) | (with_reducible refine RowG.drew ?_) | (with_reducible refine RowG.set ?_) | ((with_reducible refine RowG.other ?_ ?_); (focus (first | omega | (simp; done) | (simp; omega)))) | (with_reducible refine RowG.alloc ?_))
      rfl
    · repeat (first | (with_reducible exact hB) | (with_reducible refine Below.drew ?_) | ((with_reducible refine Below.setC ?_ ?_); (focus (first | omega | (simp; done) | (simp; omega)))) | ((with_reducible refine Below.allo ?_ ?_); (focus (first | omega | (simp; done) | (simp; omega)))))
  · rw [h3] at hv
    simp only [if_true, if_false, Bool.false_eq_true] at hv ⊢
    subst hv
    replace h3 := Lib.hid h3
    go_enter Try.func27, Try.ntmps27
    go_upto_region 1 with (fail)
    refine wp_world fun W HW => ?_
    have hB : Below w.heap.size w W := by rw [HW.out]; (repeat (first | exact Below.refl _ _ | refine Below.alloc ?_ (by simp; try omega) _ | refine Below.setCell ?_ (by simp) _ | refine Below.drew ?_))
    have d0 : W.cell? ⟨w.heap.size, 0, none⟩ = some (.int .i64 n) := by rw [HW.out]; simp [go_sem]
    have d1 : W.cell? ⟨w.heap.size, 1, none⟩ = some (.slice s l.length cap) := by rw [HW.out]; simp [go_sem]
    have dl : w.heap.size < W.heap.size := World.block_lt_of_cell? W _ d0
    have f0 : W.cell? ⟨w.heap.size + 1, 0, none⟩ = some (.int .i64 f.x) := by rw [HW.out]; simp [go_sem]
    have f1 : W.cell? ⟨w.heap.size + 1, 1, none⟩ = some (.int .i64 f.y) := by rw [HW.out]; simp [go_sem]
    have f2 : W.cell? ⟨w.heap.size + 1, 2, none⟩ = some (.int .i64 f.z) := by rw [HW.out]; simp [go_sem]
    have fl : w.heap.size + 1 < W.heap.size := World.block_lt_of_cell? W _ f0
    have rB : Row W (w.heap.size + 2) 26 #[.int .i64 0, .int .i64 0, .int .i64 0] := (by rw [HW.out]; (repeat (first | (refine blk_new ?_; simp; done) | refine blk_old ?_ _)) : W.heap[w.heap.size + 2]? = some (.cells #[.int .i64 0, .int .i64 0, .int .i64 0] 26 (0, 0)))
    have r0 : W.cell? ⟨w.heap.size + 2, 0, none⟩ = some (.int .i64 0) := by rw [HW.out]; simp [go_sem]
    have r1 : W.cell? ⟨w.heap.size + 2, 1, none⟩ = some (.int .i64 0) := by rw [HW.out]; simp [go_sem]
    have r2 : W.cell? ⟨w.heap.size + 2, 2, none⟩ = some (.int .i64 0) := by rw [HW.out]; simp [go_sem]
    have rl : w.heap.size + 2 < W.heap.size := World.block_lt_of_cell? W _ r0
    try replace h := up_of hB h
    go_upto_region 8 with (first | (go_at_call 17; refine (Valid_t _ _ _ _ _ h).mono ?_; rintro e W1 ⟨rfl, hb⟩; (try replace h := up_of hb h); (try replace hB := up_of hb hB); (try replace d0 := up_of hb d0); (try replace d1 := up_of hb d1); (try replace dl := up_of hb dl); (try replace f0 := up_of hb f0); (try replace f1 := up_of hb f1); (try replace f2 := up_of hb f2); (try replace fl := up_of hb fl); (try replace rB := up_of hb rB); (try replace r0 := up_of hb r0); (try replace r1 := up_of hb r1); (try replace r2 := up_of hb r2); (try replace rl := up_of hb rl)) | (go_at_call 51; refine (ranged_c _ _ _ _ (by omega) (by omega)).mono ?_; rintro e W1 ⟨rfl, hb⟩; (try replace h := up_of hb h); (try replace hB := up_of hb hB); (try replace d0 := up_of hb d0); (try replace d1 := up_of hb d1); (try replace dl := up_of hb dl); (try replace f0 := up_of hb f0); (try replace f1 := up_of hb f1); (try replace f2 := up_of hb f2); (try replace fl := up_of hb fl); (try replace rB := up_of hb rB); (try replace r0 := up_of hb r0); (try replace r1 := up_of hb r1); (try replace r2 := up_of hb r2); (try replace rl := up_of hb rl)) | (go_at_call 56; refine (PntRet.of (hL.out ▸ first_c _ _ _ _ _ _ h hn) e1.out e2.out h3.out).mono ?_; rintro e W1 ⟨rfl, hb⟩; (try replace h := up_of hb h); (try replace hB := up_of hb hB); (try replace d0 := up_of hb d0); (try replace d1 := up_of hb d1); (try replace dl := up_of hb dl); (try replace f0 := up_of hb f0); (try replace f1 := up_of hb f1); (try replace f2 := up_of hb f2); (try replace fl := up_of hb fl); (try replace rB := up_of hb rB); (try replace r0 := up_of hb r0); (try replace r1 := up_of hb r1); (try replace r2 := up_of hb r2); (try replace rl := up_of hb rl)))
    have rf := fun i => Row.frozen rB i
    go_wp2
    refine pnt_end rfl _ _ 0 (b1 := w.heap.size + 2) rfl rfl rfl ?_ ?_
    · refine Row.of ?_
      repeat (first | (with_reducible refine RowG.base rB ?_) | (with_reducible refine RowG.drew ?_) | (with_reducible refine RowG.set ?_) | ((with_reducible refine RowG.other ?_ ?_); (focus (first | omega | (simp; done) | (simp; omega)))) | (with_reducible refine RowG.alloc ?_))
      rfl
    · repeat (first | (with_reducible exact hB) | (with_reducible refine Below.drew ?_) | ((with_reducible refine Below.setC ?_ ?_); (focus (first | omega | (simp; done) | (simp; omega)))) | ((with_reducible refine Below.allo ?_ ?_); (focus (first | omega | (simp; done) | (simp; omega)))))
end Go.Proofs.Ytfebkccdcbkdiaa
