/- A point that is turned: the reference. -/
import Derived.Test.YtadmnlkgefbhcaaTurn
import Derived.Test.YtadmnlkgefbhcaaB1
import Derived.Test.YtadmnlkgefbhcaaTr0
namespace Go.Proofs.Ytadmnlkgefbhcaa
open Go.RowKit

theorem ptA_set {o : Pt} {k : Nat} {v : Int} (hk : k < 3) : (ptA o).setIfInBounds k (.int .i64 v) = ptA (setP o k v) := by
  have h : k = 0 ∨ k = 1 ∨ k = 2 := by omega
  rcases h with rfl | rfl | rfl <;> rfl
theorem ptA_at (o : Pt) {k : Nat} (hk : k < 3) : (ptA o)[k]? = some (.int .i64 (o.get k)) := by
  have h : k = 0 ∨ k = 1 ∨ k = 2 := by omega
  rcases h with rfl | rfl | rfl <;> rfl
set_option maxRecDepth 100000 in
set_option maxHeartbeats 1000000 in
theorem TurnPoint_c (n : Int) (a p : Pt) (w : World) (hn : 0 ≤ n ∧ n ≤ 3) (hp : ∀ i : Nat, (i : Int) < n → 0 ≤ p.get i ∧ p.get i < 3) :
    Calls Try.prog 41 #[.agg #[.int .i64 a.x, .int .i64 a.y, .int .i64 a.z], .agg #[.int .i64 p.x, .int .i64 p.y, .int .i64 p.z], .int .i64 n] w fun e w' => e = .returned (ptV (turnP n p a)) ∧ Below w.heap.size w w' := by
  obtain ⟨N, rfl⟩ : ∃ N : Nat, n = N := ⟨n.toNat, by omega⟩
  have hN : N ≤ 3 := by omega
  replace hp := Lib.hid hp
  go_enter Try.func41, Try.ntmps41
  go_upto_region 2 with (fail)
  refine wp_world fun W HW => ?_
  have hB : Below w.heap.size w W := by rw [HW.out]; (repeat (first | exact Below.refl _ _ | refine Below.alloc ?_ (by simp; try omega) _ | refine Below.setCell ?_ (by simp) _ | refine Below.drew ?_))
  have aB : Row W (w.heap.size) 29 #[.int .i64 a.x, .int .i64 a.y, .int .i64 a.z] := (by rw [HW.out]; (repeat (first | (refine blk_new ?_; simp; done) | refine blk_old ?_ _)) : W.heap[w.heap.size]? = some (.cells #[.int .i64 a.x, .int .i64 a.y, .int .i64 a.z] 29 (0, 0)))
  have a0 : W.cell? ⟨w.heap.size, 0, none⟩ = some (.int .i64 a.x) := by rw [HW.out]; simp [go_sem]
  have a1 : W.cell? ⟨w.heap.size, 1, none⟩ = some (.int .i64 a.y) := by rw [HW.out]; simp [go_sem]
  have a2 : W.cell? ⟨w.heap.size, 2, none⟩ = some (.int .i64 a.z) := by rw [HW.out]; simp [go_sem]
  have al : w.heap.size < W.heap.size := World.block_lt_of_cell? W _ a0
  have oB : Row W (w.heap.size + 1) 29 #[.int .i64 p.x, .int .i64 p.y, .int .i64 p.z] := (by rw [HW.out]; (repeat (first | (refine blk_new ?_; simp; done) | refine blk_old ?_ _)) : W.heap[w.heap.size + 1]? = some (.cells #[.int .i64 p.x, .int .i64 p.y, .int .i64 p.z] 29 (0, 0)))
  have o0 : W.cell? ⟨w.heap.size + 1, 0, none⟩ = some (.int .i64 p.x) := by rw [HW.out]; simp [go_sem]
  have o1 : W.cell? ⟨w.heap.size + 1, 1, none⟩ = some (.int .i64 p.y) := by rw [HW.out]; simp [go_sem]
  have o2 : W.cell? ⟨w.heap.size + 1, 2, none⟩ = some (.int .i64 p.z) := by rw [HW.out]; simp [go_sem]
  have ol : w.heap.size + 1 < W.heap.size := World.block_lt_of_cell? W _ o0
  have rB : Row W (w.heap.size + 2) 29 #[.int .i64 0, .int .i64 0, .int .i64 0] := (by rw [HW.out]; (repeat (first | (refine blk_new ?_; simp; done) | refine blk_old ?_ _)) : W.heap[w.heap.size + 2]? = some (.cells #[.int .i64 0, .int .i64 0, .int .i64 0] 29 (0, 0)))
  have r0 : W.cell? ⟨w.heap.size + 2, 0, none⟩ = some (.int .i64 0) := by rw [HW.out]; simp [go_sem]
  have r1 : W.cell? ⟨w.heap.size + 2, 1, none⟩ = some (.int .i64 0) := by rw [HW.out]; simp [go_sem]
  have r2 : W.cell? ⟨w.heap.size + 2, 2, none⟩ = some (.int .i64 0) := by rw [HW.out]; simp [go_sem]
  have rl : w.heap.size + 2 < W.heap.size := World.block_lt_of_cell? W _ r0
  have uB : Row W (w.heap.size + 3) 29 #[.int .i64 0, .int .i64 0, .int .i64 0] := (by rw [HW.out]; (repeat (first | (refine blk_new ?_; simp; done) | refine blk_old ?_ _)) : W.heap[w.heap.size + 3]? = some (.cells #[.int .i64 0, .int .i64 0, .int .i64 0] 29 (0, 0)))
  have u0 : W.cell? ⟨w.heap.size + 3, 0, none⟩ = some (.int .i64 0) := by rw [HW.out]; simp [go_sem]
  have u1 : W.cell? ⟨w.heap.size + 3, 1, none⟩ = some (.int .i64 0) := by rw [HW.out]; simp [go_sem]
  have u2 : W.cell? ⟨w.heap.size + 3, 2, none⟩ = some (.int .i64 0) := by rw [HW.out]; simp [go_sem]
  have ul : w.heap.size + 3 < W.heap.size := World.block_lt_of_cell? W _ u0
  go_wp2
  go_loopw [10] (fun i wr => ∃ k : Nat, k ≤ N ∧ i = .int .i64 k ∧ Chg (fun j => j = w.heap.size + 3) W wr ∧ Row wr (w.heap.size + 3) 29 (ptA (turnTo p a k))) (fun i _ => N - (intOf i).toNat)
  case atStart => exact ⟨0, by omega, rfl, Chg.refl _ _, uB⟩
  case round =>
    obtain ⟨k, hk, rfl, hC, rU⟩ := hrel
    by_cases hlt : k < N
    · have hv := hp.out k (by omega)
      have ak := (hC.row (by omega) aB).cell (ptA_at a (k := k) (by omega))
      have ok := (hC.row (by omega) oB).cell (ptA_at p (k := k) (by omega))
      obtain ⟨v, hv2, hv3⟩ : ∃ v : Nat, p.get k = v ∧ v < 3 := ⟨(p.get k).toNat, by omega, by omega⟩
      rw [hv2] at ok
      have uk := rU.cell (ptA_at (turnTo p a k) hv3)
      have uf := rU.frozen v
      go_upto_region 5 with (fail)
      go_region
      all_goals
        go_wp2
        go_roundw
        case rel =>
          refine ⟨k + 1, by omega, rfl, ?_, ?_⟩
          · repeat (first | (with_reducible exact hC) | (with_reducible refine Chg.setCell ?_ (by simp) _) | (with_reducible refine Chg.drew ?_) | (with_reducible refine Chg.alloc ?_ _))
          · refine Row.of ?_
            repeat (first | (with_reducible refine RowG.base rU ?_) | (with_reducible refine RowG.drew ?_) | (with_reducible refine RowG.set ?_) | ((with_reducible refine RowG.other ?_ ?_); (focus (first | omega | (simp; done) | (simp; omega)))) | (with_reducible refine RowG.alloc ?_))
            (simp only [ptA_set hv3]; rw [turnTo, hv2, Int.toNat_natCast])
        case measure => exact meas hlt
    · obtain rfl : k = N := by omega
      obtain ⟨u0, u1, u2⟩ := rU.three
      have rB2 := hC.row (by omega) rB
      obtain ⟨z0, z1, z2⟩ := rB2.three
      have rf := fun i => Row.frozen rB2 i
      have hBr : Below w.heap.size w wr := hC.below (n := w.heap.size) (fun j hj => by omega) hB.size hB
      go_wp2
      refine bodyPost_ret (results_c1 rfl rfl (load_P (b := w.heap.size + 2) (turnTo p a k) ?_ ?_ ?_)) rfl ⟨rfl, ?_⟩
      · go_simp
      · go_simp
      · go_simp
      · repeat (first | (with_reducible exact hBr) | (with_reducible refine Below.drew ?_) | ((with_reducible refine Below.setC ?_ ?_); (focus (first | omega | (simp; done) | (simp; omega)))) | ((with_reducible refine Below.allo ?_ ?_); (focus (first | omega | (simp; done) | (simp; omega)))))
end Go.Proofs.Ytadmnlkgefbhcaa
