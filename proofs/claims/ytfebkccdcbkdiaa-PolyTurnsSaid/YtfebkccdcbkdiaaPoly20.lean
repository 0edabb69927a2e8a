/- The walk of PolyForms. -/
import Derived.Test.YtfebkccdcbkdiaaPoly19
namespace Go.Proofs.Ytfebkccdcbkdiaa
open Go.RowKit

set_option maxRecDepth 100000 in
set_option maxHeartbeats 1000000 in
theorem PolyForms_w (n : Int) (s : Option Addr) (cap : Nat) (l : List Iq) (f : Pt) (w : World) (h : Dom w s l) :
    Calls Try.prog 6 #[.agg #[.int .i64 n, .slice s l.length cap], .agg #[.int .i64 f.x, .int .i64 f.y, .int .i64 f.z]] w fun e w' => e = .returned (.bool true) ∧ Below w.heap.size w w' := by
  have hlen := h.len
  have hh := h
  cases h1 : decide ((40 : Int) < (l.length : Int))
  case true =>
    go_enter Try.func6, Try.ntmps6
    go_upto_region 1 with (fail)
    refine wp_world fun W HW => ?_
    have hB : Below w.heap.size w W := by rw [HW.out]; (repeat (first | exact Below.refl _ _ | refine Below.alloc ?_ (by simp; try omega) _ | refine Below.setCell ?_ (by simp) _ | refine Below.drew ?_))
    have d0 : W.cell? ⟨w.heap.size, 0, none⟩ = some (.int .i64 n) := by rw [HW.out]; simp [go_sem]
    have d1 : W.cell? ⟨w.heap.size, 1, none⟩ = some (.slice s l.length cap) := by rw [HW.out]; simp [go_sem]
    have dl : w.heap.size < W.heap.size := World.block_lt_of_cell? W _ d0
    have f0 : W.cell? ⟨w.heap.size + 1, 0, none⟩ = some (.int .i64 f.x) := by rw [HW.out]; simp [go_sem]
    have f1 : W.cell? ⟨w.heap.size + 1, 1, none⟩ = some (.int .i64 f.y) := by rw [HW.out]; simp [go_sem]
    have f2 : W.cell? ⟨w.heap.size + 1, 2, none⟩ = some (.int .i64 f.z) := by rw [HW.out]; simp [go_sem]
    have fl : w.heap.size + 1 < W.heap.size := World.block_lt_of_cell? W _ f0
    try replace h := up_of hB h
    go_wp2_with (first | (go_at_call 13; refine (wide_c _ _ _ _ _ hlen).mono ?_; rintro e W1 ⟨rfl, hb⟩; (try replace h := up_of hb h); (try replace hB := up_of hb hB); (try replace d0 := up_of hb d0); (try replace d1 := up_of hb d1); (try replace dl := up_of hb dl); (try replace f0 := up_of hb f0); (try replace f1 := up_of hb f1); (try replace f2 := up_of hb f2); (try replace fl := up_of hb fl)) | (go_at_call 14; refine (awake_c _).mono ?_; rintro e W1 ⟨rfl, hb⟩; (try replace h := up_of hb h); (try replace hB := up_of hb hB); (try replace d0 := up_of hb d0); (try replace d1 := up_of hb d1); (try replace dl := up_of hb dl); (try replace f0 := up_of hb f0); (try replace f1 := up_of hb f1); (try replace f2 := up_of hb f2); (try replace fl := up_of hb fl)))
    go_ret
    exact ⟨rfl, hB⟩
  obtain ⟨po, u1⟩ : ∃ x, leastP n l f = x := ⟨_, rfl⟩
  replace u1 := Lib.hid u1
  obtain ⟨vo, u2⟩ : ∃ x, leastN n l f = x := ⟨_, rfl⟩
  replace u2 := Lib.hid u2
  obtain ⟨eo, u3⟩ : ∃ x, leastE n l f = x := ⟨_, rfl⟩
  replace u3 := Lib.hid u3
  obtain ⟨pq, u4⟩ : ∃ x, greatP n l f = x := ⟨_, rfl⟩
  replace u4 := Lib.hid u4
  obtain ⟨vq, u5⟩ : ∃ x, greatN n l f = x := ⟨_, rfl⟩
  replace u5 := Lib.hid u5
  obtain ⟨eq, u6⟩ : ∃ x, greatE n l f = x := ⟨_, rfl⟩
  replace u6 := Lib.hid u6
  have q1 := pt_eq_self po
  have q2 := pt_eq_self pq
  go_enter Try.func6, Try.ntmps6
  go_upto_region 1 with (fail)
  refine wp_world fun W HW => ?_
  have hB : Below w.heap.size w W := by rw [HW.out]; (repeat (first | exact Below.refl _ _ | refine Below.alloc ?_ (by simp; try omega) _ | refine Below.setCell ?_ (by simp) _ | refine Below.drew ?_))
  have d0 : W.cell? ⟨w.heap.size, 0, none⟩ = some (.int .i64 n) := by rw [HW.out]; simp [go_sem]
  have d1 : W.cell? ⟨w.heap.size, 1, none⟩ = some (.slice s l.length cap) := by rw [HW.out]; simp [go_sem]
  have dl : w.heap.size < W.heap.size := World.block_lt_of_cell? W _ d0
  have f0 : W.cell? ⟨w.heap.size + 1, 0, none⟩ = some (.int .i64 f.x) := by rw [HW.out]; simp [go_sem]
  have f1 : W.cell? ⟨w.heap.size + 1, 1, none⟩ = some (.int .i64 f.y) := by rw [HW.out]; simp [go_sem]
  have f2 : W.cell? ⟨w.heap.size + 1, 2, none⟩ = some (.int .i64 f.z) := by rw [HW.out]; simp [go_sem]
  have fl : w.heap.size + 1 < W.heap.size := World.block_lt_of_cell? W _ f0
  try replace h := up_of hB h
  go_upto_region 4 with (first | (go_at_call 13; refine (wide_c _ _ _ _ _ hlen).mono ?_; rintro e W1 ⟨rfl, hb⟩; (try replace h := up_of hb h); (try replace hB := up_of hb hB); (try replace d0 := up_of hb d0); (try replace d1 := up_of hb d1); (try replace dl := up_of hb dl); (try replace f0 := up_of hb f0); (try replace f1 := up_of hb f1); (try replace f2 := up_of hb f2); (try replace fl := up_of hb fl)) | (go_at_call 27; refine (PntRet.calls (Least_c _ _ _ _ f _ h) u1.out u2.out u3.out).mono ?_; rintro e A1 ⟨rfl, hb⟩; (try replace h := up_of hb h); (try replace hB := up_of hb hB); (try replace d0 := up_of hb d0); (try replace d1 := up_of hb d1); (try replace dl := up_of hb dl); (try replace f0 := up_of hb f0); (try replace f1 := up_of hb f1); (try replace f2 := up_of hb f2); (try replace fl := up_of hb fl)))
  have z1 : w.heap.size + 1 < A1.heap.size := fl
  refine wp_world fun X HX => ?_
  have hX : Below A1.heap.size A1 X := by rw [HX.out]; (repeat (first | exact Below.refl _ _ | refine Below.alloc ?_ (by simp; try omega) _ | refine Below.setCell ?_ (by simp) _ | refine Below.drew ?_))
  have aB : Row X (A1.heap.size) 26 #[.int .i64 po.x, .int .i64 po.y, .int .i64 po.z] := (by rw [HX.out]; (repeat (first | (refine blk_new ?_; simp; done) | refine blk_old ?_ _)) : X.heap[A1.heap.size]? = some (.cells #[.int .i64 po.x, .int .i64 po.y, .int .i64 po.z] 26 (0, 0)))
  have a0 : X.cell? ⟨A1.heap.size, 0, none⟩ = some (.int .i64 po.x) := by rw [HX.out]; simp [go_sem]
  have a1 : X.cell? ⟨A1.heap.size, 1, none⟩ = some (.int .i64 po.y) := by rw [HX.out]; simp [go_sem]
  have a2 : X.cell? ⟨A1.heap.size, 2, none⟩ = some (.int .i64 po.z) := by rw [HX.out]; simp [go_sem]
  have al : A1.heap.size < X.heap.size := World.block_lt_of_cell? X _ a0
  try replace h := up_of hX h
  try replace hB := up_of hX hB
  try replace d0 := up_of hX d0
  try replace d1 := up_of hX d1
  try replace dl := up_of hX dl
  try replace f0 := up_of hX f0
  try replace f1 := up_of hX f1
  try replace f2 := up_of hX f2
  try replace fl := up_of hX fl
  go_upto_region 5 with (first | (go_at_call 28; refine (PntRet.calls (rLeast_c _ _ _ _ f _ h) u1.out u2.out u3.out).mono ?_; rintro e A2 ⟨rfl, hb⟩; (try replace h := up_of hb h); (try replace hB := up_of hb hB); (try replace d0 := up_of hb d0); (try replace d1 := up_of hb d1); (try replace dl := up_of hb dl); (try replace f0 := up_of hb f0); (try replace f1 := up_of hb f1); (try replace f2 := up_of hb f2); (try replace fl := up_of hb fl); (try replace hX := up_of hb hX); (try replace aB := up_of hb aB); (try replace a0 := up_of hb a0); (try replace a1 := up_of hb a1); (try replace a2 := up_of hb a2); (try replace al := up_of hb al)))
  have z2 : A1.heap.size < A2.heap.size := al
  refine wp_world fun Y HY => ?_
  have hY : Below A2.heap.size A2 Y := by rw [HY.out]; (repeat (first | exact Below.refl _ _ | refine Below.alloc ?_ (by simp; try omega) _ | refine Below.setCell ?_ (by simp) _ | refine Below.drew ?_))
  have bB : Row Y (A2.heap.size) 26 #[.int .i64 po.x, .int .i64 po.y, .int .i64 po.z] := (by rw [HY.out]; (repeat (first | (refine blk_new ?_; simp; done) | refine blk_old ?_ _)) : Y.heap[A2.heap.size]? = some (.cells #[.int .i64 po.x, .int .i64 po.y, .int .i64 po.z] 26 (0, 0)))
  have b0 : Y.cell? ⟨A2.heap.size, 0, none⟩ = some (.int .i64 po.x) := by rw [HY.out]; simp [go_sem]
  have b1 : Y.cell? ⟨A2.heap.size, 1, none⟩ = some (.int .i64 po.y) := by rw [HY.out]; simp [go_sem]
  have b2 : Y.cell? ⟨A2.heap.size, 2, none⟩ = some (.int .i64 po.z) := by rw [HY.out]; simp [go_sem]
  have bl : A2.heap.size < Y.heap.size := World.block_lt_of_cell? Y _ b0
  try replace h := up_of hY h
  try replace hB := up_of hY hB
  try replace d0 := up_of hY d0
  try replace d1 := up_of hY d1
  try replace dl := up_of hY dl
  try replace f0 := up_of hY f0
  try replace f1 := up_of hY f1
  try replace f2 := up_of hY f2
  try replace fl := up_of hY fl
  try replace hX := up_of hY hX
  try replace aB := up_of hY aB
  try replace a0 := up_of hY a0
  try replace a1 := up_of hY a1
  try replace a2 := up_of hY a2
  try replace al := up_of hY al
  have af := fun i => Row.frozen aB i
  go_upto_region 7 with (fail)
  go_upto_region 8 with (first | (go_at_call 29; refine (PntRet.calls (Greatest_c n s cap l f _ h) u4.out u5.out u6.out).mono ?_; rintro e A3 ⟨rfl, hb⟩; (try replace h := up_of hb h); (try replace hB := up_of hb hB); (try replace d0 := up_of hb d0); (try replace d1 := up_of hb d1); (try replace dl := up_of hb dl); (try replace f0 := up_of hb f0); (try replace f1 := up_of hb f1); (try replace f2 := up_of hb f2); (try replace fl := up_of hb fl); (try replace hX := up_of hb hX); (try replace aB := up_of hb aB); (try replace a0 := up_of hb a0); (try replace a1 := up_of hb a1); (try replace a2 := up_of hb a2); (try replace al := up_of hb al); (try replace hY := up_of hb hY); (try replace bB := up_of hb bB); (try replace b0 := up_of hb b0); (try replace b1 := up_of hb b1); (try replace b2 := up_of hb b2); (try replace bl := up_of hb bl); have af := fun i => Row.frozen aB i))
  refine wp_world fun Z HZ => ?_
  have hC : Chg (fun k => k = A1.heap.size) A3 Z := by
    rw [HZ.out]
    repeat (first | (with_reducible exact Chg.refl _ _) | (with_reducible refine Chg.setCell ?_ (by simp) _) | (with_reducible refine Chg.drew ?_) | (with_reducible refine Chg.alloc ?_ _))
  have aZ : Row Z A1.heap.size 26 (ptA pq) := by
    rw [HZ.out]
    refine Row.of ?_
    repeat (first | (with_reducible refine RowG.base aB ?_) | (with_reducible refine RowG.drew ?_) | (with_reducible refine RowG.set ?_) | ((with_reducible refine RowG.other ?_ ?_); (focus (first | omega | (simp; done) | (simp; omega)))) | (with_reducible refine RowG.alloc ?_))
    rfl
  replace bB := hC.row (by omega) bB
  replace d0 := hC.cell (by show ¬ w.heap.size = _; omega) d0
  replace d1 := hC.cell (by show ¬ w.heap.size = _; omega) d1
  replace f0 := hC.cell (by show ¬ w.heap.size + 1 = _; omega) f0
  replace f1 := hC.cell (by show ¬ w.heap.size + 1 = _; omega) f1
  replace f2 := hC.cell (by show ¬ w.heap.size + 1 = _; omega) f2
  replace hB := hC.below (n := w.heap.size) (fun k hk => by omega) hB.size hB
  replace h := Up.dom hB hh
  obtain ⟨a0, a1, a2⟩ := aZ.three
  obtain ⟨b0, b1, b2⟩ := bB.three
  go_upto_region 9 with (first | (go_at_call 30; refine (PntRet.calls (rGreatest_c n s cap l f _ h) u4.out u5.out u6.out).mono ?_; rintro e A4 ⟨rfl, hb⟩; (try replace h := up_of hb h); (try replace hB := up_of hb hB); (try replace d0 := up_of hb d0); (try replace d1 := up_of hb d1); (try replace f0 := up_of hb f0); (try replace f1 := up_of hb f1); (try replace f2 := up_of hb f2); (try replace aZ := up_of hb aZ); (try replace a0 := up_of hb a0); (try replace a1 := up_of hb a1); (try replace a2 := up_of hb a2); (try replace bB := up_of hb bB); (try replace b0 := up_of hb b0); (try replace b1 := up_of hb b1); (try replace b2 := up_of hb b2); have bf := fun i => Row.frozen bB i))
  refine wp_world fun Z2 HZ2 => ?_
  replace hB : Below w.heap.size w Z2 := by
    rw [HZ2.out]
    repeat (first | (with_reducible exact hB) | (with_reducible refine Below.drew ?_) | ((with_reducible refine Below.setC ?_ ?_); (focus (first | omega | (simp; done) | (simp; omega)))) | ((with_reducible refine Below.allo ?_ ?_); (focus (first | omega | (simp; done) | (simp; omega)))))
  have bZ : Row Z2 A2.heap.size 26 (ptA pq) := by
    rw [HZ2.out]
    refine Row.of ?_
    repeat (first | (with_reducible refine RowG.base bB ?_) | (with_reducible refine RowG.drew ?_) | (with_reducible refine RowG.set ?_) | ((with_reducible refine RowG.other ?_ ?_); (focus (first | omega | (simp; done) | (simp; omega)))) | (with_reducible refine RowG.alloc ?_))
    rfl
  replace aZ : Row Z2 A1.heap.size 26 (ptA pq) := by
    rw [HZ2.out]
    refine Row.of ?_
    repeat (first | (with_reducible refine RowG.base aZ ?_) | (with_reducible refine RowG.drew ?_) | (with_reducible refine RowG.set ?_) | ((with_reducible refine RowG.other ?_ ?_); (focus (first | omega | (simp; done) | (simp; omega)))) | (with_reducible refine RowG.alloc ?_))
    rfl
  obtain ⟨a0, a1, a2⟩ := aZ.three
  obtain ⟨b0, b1, b2⟩ := bZ.three
  go_wp2_with (first | (go_at_call 14; refine (awake_c _).mono ?_; rintro e W1 ⟨rfl, hb⟩; (try replace hB := up_of hb hB)))
  go_ret
  exact ⟨rfl, hB⟩
end Go.Proofs.Ytfebkccdcbkdiaa
