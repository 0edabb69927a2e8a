/- The walk of PolyBoxes. -/
import Derived.Test.YtfebkccdcbkdiaaPoly14
namespace Go.Proofs.Ytfebkccdcbkdiaa
open Go.RowKit

theorem pt_eq_self (p : Pt) (w : World) : (Op.equalIn 10000 26 (.agg #[.int .i64 p.x, .int .i64 p.y, .int .i64 p.z]) (.agg #[.int .i64 p.x, .int .i64 p.y, .int .i64 p.z])).run Try.prog w = .ok true w := by
  have := pt_eq_at p p w
  simpa using this
theorem box_t {P : Program} {f : FuncId} {args : Array Value} {n : Int} {l : List Iq} {w : World} {lo hi : Pt} {er : Int} (h : Calls P f args w (BoxRet n l w)) (e1 : boxLo n l = lo) (e2 : boxHi n l = hi) (e3 : boxE n l = er) :
    Calls P f args w fun e w' => e = .returned (.tuple #[.agg #[.int .i64 lo.x, .int .i64 lo.y, .int .i64 lo.z], .agg #[.int .i64 hi.x, .int .i64 hi.y, .int .i64 hi.z], .int .i64 er]) ∧ Below w.heap.size w w' := by
  subst e1; subst e2; subst e3; exact h

set_option maxRecDepth 100000 in
set_option maxHeartbeats 1000000 in
theorem PolyBoxes_w (n : Int) (s : Option Addr) (cap : Nat) (l : List Iq) (w : World) (h : Dom w s l) :
    Calls Try.prog 5 #[.agg #[.int .i64 n, .slice s l.length cap]] w fun e w' => e = .returned (.bool true) ∧ Below w.heap.size w w' := by
  have hlen := h.len
  cases h1 : decide ((40 : Int) < (l.length : Int))
  case true =>
    go_enter Try.func5, Try.ntmps5
    go_upto_region 1 with (fail)
    refine wp_world fun W HW => ?_
    have hB : Below w.heap.size w W := by rw [HW.out]; (repeat (first | exact Below.refl _ _ | refine Below.alloc ?_ (by simp; try omega) _ | refine Below.setCell ?_ (by simp) _ | refine Below.drew ?_))
    have d0 : W.cell? ⟨w.heap.size, 0, none⟩ = some (.int .i64 n) := by rw [HW.out]; simp [go_sem]
    have d1 : W.cell? ⟨w.heap.size, 1, none⟩ = some (.slice s l.length cap) := by rw [HW.out]; simp [go_sem]
    have dl : w.heap.size < W.heap.size := World.block_lt_of_cell? W _ d0
    try replace h := up_of hB h
    go_wp2_with (first | (go_at_call 13; refine (wide_c _ _ _ _ _ hlen).mono ?_; rintro e W1 ⟨rfl, hb⟩; (try replace h := up_of hb h); (try replace hB := up_of hb hB); (try replace d0 := up_of hb d0); (try replace d1 := up_of hb d1); (try replace dl := up_of hb dl)) | (go_at_call 14; refine (awake_c _).mono ?_; rintro e W1 ⟨rfl, hb⟩; (try replace h := up_of hb h); (try replace hB := up_of hb hB); (try replace d0 := up_of hb d0); (try replace d1 := up_of hb d1); (try replace dl := up_of hb dl)))
    go_ret
    exact ⟨rfl, hB⟩
  obtain ⟨lo, e1⟩ : ∃ lo, boxLo n l = lo := ⟨_, rfl⟩
  obtain ⟨hi, e2⟩ : ∃ hi, boxHi n l = hi := ⟨_, rfl⟩
  obtain ⟨er, e3⟩ : ∃ er, boxE n l = er := ⟨_, rfl⟩
  replace e1 := Lib.hid e1; replace e2 := Lib.hid e2; replace e3 := Lib.hid e3
  have q1 := pt_eq_self lo
  have q2 := pt_eq_self hi
  go_enter Try.func5, Try.ntmps5
  go_upto_region 1 with (fail)
  refine wp_world fun W HW => ?_
  have hB : Below w.heap.size w W := by rw [HW.out]; (repeat (first | exact Below.refl _ _ | refine Below.alloc ?_ (by simp; try omega) _ | refine Below.setCell ?_ (by simp) _ | refine Below.drew ?_))
  have d0 : W.cell? ⟨w.heap.size, 0, none⟩ = some (.int .i64 n) := by rw [HW.out]; simp [go_sem]
  have d1 : W.cell? ⟨w.heap.size, 1, none⟩ = some (.slice s l.length cap) := by rw [HW.out]; simp [go_sem]
  have dl : w.heap.size < W.heap.size := World.block_lt_of_cell? W _ d0
  try replace h := up_of hB h
  go_upto_region 4 with (first | (go_at_call 13; refine (wide_c _ _ _ _ _ hlen).mono ?_; rintro e W1 ⟨rfl, hb⟩; (try replace h := up_of hb h); (try replace hB := up_of hb hB); (try replace d0 := up_of hb d0); (try replace d1 := up_of hb d1); (try replace dl := up_of hb dl)) | (go_at_call 25; refine (box_t (Box_c _ _ _ _ _ h) e1.out e2.out e3.out).mono ?_; rintro e W1 ⟨rfl, hb⟩; (try replace h := up_of hb h); (try replace hB := up_of hb hB); (try replace d0 := up_of hb d0); (try replace d1 := up_of hb d1); (try replace dl := up_of hb dl)))
  refine wp_world fun X HX => ?_
  have hX : Below W1.heap.size W1 X := by rw [HX.out]; (repeat (first | exact Below.refl _ _ | refine Below.alloc ?_ (by simp; try omega) _ | refine Below.setCell ?_ (by simp) _ | refine Below.drew ?_))
  have a0 : X.cell? ⟨W1.heap.size, 0, none⟩ = some (.int .i64 lo.x) := by rw [HX.out]; simp [go_sem]
  have a1 : X.cell? ⟨W1.heap.size, 1, none⟩ = some (.int .i64 lo.y) := by rw [HX.out]; simp [go_sem]
  have a2 : X.cell? ⟨W1.heap.size, 2, none⟩ = some (.int .i64 lo.z) := by rw [HX.out]; simp [go_sem]
  have al : W1.heap.size < X.heap.size := World.block_lt_of_cell? X _ a0
  have b0 : X.cell? ⟨W1.heap.size + 1, 0, none⟩ = some (.int .i64 hi.x) := by rw [HX.out]; simp [go_sem]
  have b1 : X.cell? ⟨W1.heap.size + 1, 1, none⟩ = some (.int .i64 hi.y) := by rw [HX.out]; simp [go_sem]
  have b2 : X.cell? ⟨W1.heap.size + 1, 2, none⟩ = some (.int .i64 hi.z) := by rw [HX.out]; simp [go_sem]
  have bl : W1.heap.size + 1 < X.heap.size := World.block_lt_of_cell? X _ b0
  try replace h := up_of hX h
  try replace hB := up_of hX hB
  try replace d0 := up_of hX d0
  try replace d1 := up_of hX d1
  try replace dl := up_of hX dl
  go_upto_region 5 with (first | (go_at_call 26; refine (box_t (rBox_c _ _ _ _ _ h) e1.out e2.out e3.out).mono ?_; rintro e W1 ⟨rfl, hb⟩; (try replace h := up_of hb h); (try replace hB := up_of hb hB); (try replace d0 := up_of hb d0); (try replace d1 := up_of hb d1); (try replace dl := up_of hb dl); (try replace hX := up_of hb hX); (try replace a0 := up_of hb a0); (try replace a1 := up_of hb a1); (try replace a2 := up_of hb a2); (try replace al := up_of hb al); (try replace b0 := up_of hb b0); (try replace b1 := up_of hb b1); (try replace b2 := up_of hb b2); (try replace bl := up_of hb bl)))
  refine wp_world fun Y HY => ?_
  have hY : Below W1.heap.size W1 Y := by rw [HY.out]; (repeat (first | exact Below.refl _ _ | refine Below.alloc ?_ (by simp; try omega) _ | refine Below.setCell ?_ (by simp) _ | refine Below.drew ?_))
  have p0 : Y.cell? ⟨W1.heap.size, 0, none⟩ = some (.int .i64 lo.x) := by rw [HY.out]; simp [go_sem]
  have p1 : Y.cell? ⟨W1.heap.size, 1, none⟩ = some (.int .i64 lo.y) := by rw [HY.out]; simp [go_sem]
  have p2 : Y.cell? ⟨W1.heap.size, 2, none⟩ = some (.int .i64 lo.z) := by rw [HY.out]; simp [go_sem]
  have pl : W1.heap.size < Y.heap.size := World.block_lt_of_cell? Y _ p0
  have q0 : Y.cell? ⟨W1.heap.size + 1, 0, none⟩ = some (.int .i64 hi.x) := by rw [HY.out]; simp [go_sem]
  have q1 : Y.cell? ⟨W1.heap.size + 1, 1, none⟩ = some (.int .i64 hi.y) := by rw [HY.out]; simp [go_sem]
  have q2 : Y.cell? ⟨W1.heap.size + 1, 2, none⟩ = some (.int .i64 hi.z) := by rw [HY.out]; simp [go_sem]
  have ql : W1.heap.size + 1 < Y.heap.size := World.block_lt_of_cell? Y _ q0
  try replace h := up_of hY h
  try replace hB := up_of hY hB
  try replace d0 := up_of hY d0
  try replace d1 := up_of hY d1
  try replace dl := up_of hY dl
  try replace hX := up_of hY hX
  try replace a0 := up_of hY a0
  try replace a1 := up_of hY a1
  try replace a2 := up_of hY a2
  try replace al := up_of hY al
  try replace b0 := up_of hY b0
  try replace b1 := up_of hY b1
  try replace b2 := up_of hY b2
  try replace bl := up_of hY bl
  go_wp2_with (first | (go_at_call 14; refine (awake_c _).mono ?_; rintro e W1 ⟨rfl, hb⟩; (try replace h := up_of hb h); (try replace hB := up_of hb hB); (try replace d0 := up_of hb d0); (try replace d1 := up_of hb d1); (try replace dl := up_of hb dl); (try replace hX := up_of hb hX); (try replace a0 := up_of hb a0); (try replace a1 := up_of hb a1); (try replace a2 := up_of hb a2); (try replace al := up_of hb al); (try replace b0 := up_of hb b0); (try replace b1 := up_of hb b1); (try replace b2 := up_of hb b2); (try replace bl := up_of hb bl); (try replace hY := up_of hb hY); (try replace p0 := up_of hb p0); (try replace p1 := up_of hb p1); (try replace p2 := up_of hb p2); (try replace pl := up_of hb pl); (try replace q0 := up_of hb q0); (try replace q1 := up_of hb q1); (try replace q2 := up_of hb q2); (try replace ql := up_of hb ql)))
  go_ret
  exact ⟨rfl, hB⟩
end Go.Proofs.Ytfebkccdcbkdiaa
