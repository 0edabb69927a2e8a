/- Has, far, wide. -/
import Derived.Test.YtbpdgoedglkefaaPoly3
namespace Go.Proofs.Ytbpdgoedglkefaa
open Go.RowKit

set_option maxRecDepth 100000 in
set_option maxHeartbeats 400000 in
theorem has_c (n : Int) (s : Option Addr) (cap : Nat) (l : List Iq) (p : Pt) (w : World) (hs : IqS w s l) (hl : l.length ≤ 9223372036854775807) :
    Calls Try.prog 104 #[.agg #[.int .i64 n, .slice s l.length cap], .agg #[.int .i64 p.x, .int .i64 p.y, .int .i64 p.z]] w fun e w' => e = .returned (.bool (hasB n l p)) ∧ Below w.heap.size w w' := by
  replace hs := Lib.hid hs
  cases h1 : flatB p n 20
  all_goals
    go_enter Try.func104, Try.ntmps104
    go_upto_region 1 with (fail)
    refine wp_world fun W HW => ?_
    have hB : Below w.heap.size w W := by rw [HW.out]; (repeat (first | exact Below.refl _ _ | refine Below.alloc ?_ (by simp; try omega) _ | refine Below.setCell ?_ (by simp) _ | refine Below.drew ?_))
    have d0 : W.cell? ⟨w.heap.size, 0, none⟩ = some (.int .i64 n) := by rw [HW.out]; simp [go_sem]
    have d1 : W.cell? ⟨w.heap.size, 1, none⟩ = some (.slice s l.length cap) := by rw [HW.out]; simp [go_sem]
    have dl : w.heap.size < W.heap.size := World.block_lt_of_cell? W _ d0
    have p0 : W.cell? ⟨w.heap.size + 1, 0, none⟩ = some (.int .i64 p.x) := by rw [HW.out]; simp [go_sem]
    have p1 : W.cell? ⟨w.heap.size + 1, 1, none⟩ = some (.int .i64 p.y) := by rw [HW.out]; simp [go_sem]
    have p2 : W.cell? ⟨w.heap.size + 1, 2, none⟩ = some (.int .i64 p.z) := by rw [HW.out]; simp [go_sem]
    have pl : w.heap.size + 1 < W.heap.size := World.block_lt_of_cell? W _ p0
    go_wp2_with (first | (go_at_call 137; refine (ranged_c _ _ _ _ (by omega) (by omega)).mono ?_; rintro e W1 ⟨rfl, hb⟩; replace hB := Up.to hB hb hB.size; replace d0 := Up.cell hb d0; replace d1 := Up.cell hb d1; replace p0 := Up.cell hb p0; replace p1 := Up.cell hb p1; replace p2 := Up.cell hb p2) | (go_at_call 138; refine (holds_c _ _ _ _ _ _ (Up.iq hB hs.out) hl).mono ?_; rintro e W1 ⟨rfl, hb⟩; replace hB := Up.to hB hb hB.size; replace d0 := Up.cell hb d0; replace d1 := Up.cell hb d1; replace p0 := Up.cell hb p0; replace p1 := Up.cell hb p1; replace p2 := Up.cell hb p2))
    go_ret
    exact ⟨ret_bool (by simp [hasB, h1]), hB⟩

/-- What Has hands back. -/
def hasR (n : Int) (l : List Iq) (p : Pt) : Value := if validB n l then .tuple #[.bool (hasB n l p), .int .i64 0] else .tuple #[.bool false, .int .i64 10]

set_option maxRecDepth 100000 in
set_option maxHeartbeats 400000 in
theorem Has_c (n : Int) (s : Option Addr) (cap : Nat) (l : List Iq) (p : Pt) (w : World) (hs : IqS w s l) (hl : l.length ≤ 9223372036854775807) :
    Calls Try.prog 58 #[.agg #[.int .i64 n, .slice s l.length cap], .agg #[.int .i64 p.x, .int .i64 p.y, .int .i64 p.z]] w fun e w' => e = .returned (hasR n l p) ∧ Below w.heap.size w w' := by
  replace hs := Lib.hid hs
  cases h1 : validB n l
  all_goals
    go_enter Try.func58, Try.ntmps58
    go_upto_region 1 with (fail)
    refine wp_world fun W HW => ?_
    have hB : Below w.heap.size w W := by rw [HW.out]; (repeat (first | exact Below.refl _ _ | refine Below.alloc ?_ (by simp; try omega) _ | refine Below.setCell ?_ (by simp) _ | refine Below.drew ?_))
    have d0 : W.cell? ⟨w.heap.size, 0, none⟩ = some (.int .i64 n) := by rw [HW.out]; simp [go_sem]
    have d1 : W.cell? ⟨w.heap.size, 1, none⟩ = some (.slice s l.length cap) := by rw [HW.out]; simp [go_sem]
    have dl : w.heap.size < W.heap.size := World.block_lt_of_cell? W _ d0
    have p0 : W.cell? ⟨w.heap.size + 1, 0, none⟩ = some (.int .i64 p.x) := by rw [HW.out]; simp [go_sem]
    have p1 : W.cell? ⟨w.heap.size + 1, 1, none⟩ = some (.int .i64 p.y) := by rw [HW.out]; simp [go_sem]
    have p2 : W.cell? ⟨w.heap.size + 1, 2, none⟩ = some (.int .i64 p.z) := by rw [HW.out]; simp [go_sem]
    have pl : w.heap.size + 1 < W.heap.size := World.block_lt_of_cell? W _ p0
    go_wp2_with (first | (go_at_call 103; refine (valid_c _ _ _ _ _ (Up.iq hB hs.out) hl).mono ?_; rintro e W1 ⟨rfl, hb⟩; replace hB := Up.to hB hb hB.size; replace d0 := Up.cell hb d0; replace d1 := Up.cell hb d1; replace p0 := Up.cell hb p0; replace p1 := Up.cell hb p1; replace p2 := Up.cell hb p2) | (go_at_call 104; refine (has_c _ _ _ _ _ _ (Up.iq hB hs.out) hl).mono ?_; rintro e W1 ⟨rfl, hb⟩; replace hB := Up.to hB hb hB.size; replace d0 := Up.cell hb d0; replace d1 := Up.cell hb d1; replace p0 := Up.cell hb p0; replace p1 := Up.cell hb p1; replace p2 := Up.cell hb p2))
    go_ret2
    exact ⟨by simp [hasR, h1], hB⟩

set_option maxRecDepth 100000 in
set_option maxHeartbeats 400000 in
theorem rHas_c (n : Int) (s : Option Addr) (cap : Nat) (l : List Iq) (p : Pt) (w : World) (hs : IqS w s l) (hl : l.length ≤ 9223372036854775807) (hwf : ∀ q ∈ l, -9223372036854775808 ≤ q.b ∧ q.b ≤ 9223372036854775807) :
    Calls Try.prog 62 #[.agg #[.int .i64 n, .slice s l.length cap], .agg #[.int .i64 p.x, .int .i64 p.y, .int .i64 p.z]] w fun e w' => e = .returned (hasR n l p) ∧ Below w.heap.size w w' := by
  replace hs := Lib.hid hs
  replace hwf := Lib.hid hwf
  cases h1 : validB n l
  all_goals
    go_enter Try.func62, Try.ntmps62
    go_upto_region 1 with (fail)
    refine wp_world fun W HW => ?_
    have hB : Below w.heap.size w W := by rw [HW.out]; (repeat (first | exact Below.refl _ _ | refine Below.alloc ?_ (by simp; try omega) _ | refine Below.setCell ?_ (by simp) _ | refine Below.drew ?_))
    have d0 : W.cell? ⟨w.heap.size, 0, none⟩ = some (.int .i64 n) := by rw [HW.out]; simp [go_sem]
    have d1 : W.cell? ⟨w.heap.size, 1, none⟩ = some (.slice s l.length cap) := by rw [HW.out]; simp [go_sem]
    have dl : w.heap.size < W.heap.size := World.block_lt_of_cell? W _ d0
    have p0 : W.cell? ⟨w.heap.size + 1, 0, none⟩ = some (.int .i64 p.x) := by rw [HW.out]; simp [go_sem]
    have p1 : W.cell? ⟨w.heap.size + 1, 1, none⟩ = some (.int .i64 p.y) := by rw [HW.out]; simp [go_sem]
    have p2 : W.cell? ⟨w.heap.size + 1, 2, none⟩ = some (.int .i64 p.z) := by rw [HW.out]; simp [go_sem]
    have pl : w.heap.size + 1 < W.heap.size := World.block_lt_of_cell? W _ p0
    go_wp2_with (first | (go_at_call 105; refine (rvalid_c _ _ _ _ _ (Up.iq hB hs.out) hl).mono ?_; rintro e W1 ⟨rfl, hb⟩; replace hB := Up.to hB hb hB.size; replace d0 := Up.cell hb d0; replace d1 := Up.cell hb d1; replace p0 := Up.cell hb p0; replace p1 := Up.cell hb p1; replace p2 := Up.cell hb p2) | (go_at_call 100; refine (rhas_c _ _ _ _ _ _ (Up.iq hB hs.out) hl hwf.out).mono ?_; rintro e W1 ⟨rfl, hb⟩; replace hB := Up.to hB hb hB.size; replace d0 := Up.cell hb d0; replace d1 := Up.cell hb d1; replace p0 := Up.cell hb p0; replace p1 := Up.cell hb p1; replace p2 := Up.cell hb p2))
    go_ret2
    exact ⟨by simp [hasR, h1], hB⟩

theorem Flat_c (p : Pt) (n m : Int) (w : World) (h0 : 0 ≤ m) (h1 : m ≤ 1000000000) :
    Calls Try.prog 46 #[.agg #[.int .i64 p.x, .int .i64 p.y, .int .i64 p.z], .int .i64 n, .int .i64 m] w fun e w' => e = .returned (.bool (flatB p n m)) ∧ Below w.heap.size w w' := by
  go_enter Try.func46, Try.ntmps46
  go_upto_region 1 with (fail)
  refine wp_world fun W HW => ?_
  have hB : Below w.heap.size w W := by rw [HW.out]; (repeat (first | exact Below.refl _ _ | refine Below.alloc ?_ (by simp; try omega) _ | refine Below.setCell ?_ (by simp) _ | refine Below.drew ?_))
  have p0 : W.cell? ⟨w.heap.size, 0, none⟩ = some (.int .i64 p.x) := by rw [HW.out]; simp [go_sem]
  have p1 : W.cell? ⟨w.heap.size, 1, none⟩ = some (.int .i64 p.y) := by rw [HW.out]; simp [go_sem]
  have p2 : W.cell? ⟨w.heap.size, 2, none⟩ = some (.int .i64 p.z) := by rw [HW.out]; simp [go_sem]
  have pl : w.heap.size < W.heap.size := World.block_lt_of_cell? W _ p0
  go_wp2_with (first | (go_at_call 89; refine (flat_c _ _ _ _ h0 h1).mono ?_; rintro e W1 ⟨rfl, hb⟩; replace hB := Up.to hB hb hB.size))
  go_ret
  exact ⟨rfl, hB⟩

theorem far_c (n : Int) (s : Option Addr) (len cap : Nat) (i : Int) (w : World) :
    Calls Try.prog 99 #[.agg #[.int .i64 n, .slice s len cap], .int .i64 i] w fun e w' => e = .returned (.int .i64 (far n i)) ∧ Below w.heap.size w w' := by
  by_cases h : i < n
  all_goals
    go_enter Try.func99, Try.ntmps99
    go_wp2
    go_ret
    exact ⟨ret_int (by unfold far; split <;> omega), (Below.refl _ w).alloc (Nat.le_refl _) _⟩
end Go.Proofs.Ytbpdgoedglkefaa
