/- First values, sums of points: the program. -/
import Derived.Test.YtadmnlkgefbhcaaB7
namespace Go.Proofs.Ytadmnlkgefbhcaa
open Go.RowKit Go.Maps

set_option maxRecDepth 100000 in
theorem modulo_c (n : Int) (w : World) (hn : n.natAbs ≤ 1000000000000) : Calls Try.prog 101 #[.int .i64 n] w fun e w' => e = .returned (.int .i64 (n % 10007)) ∧ w = w' := by
  have h1 := mod_law n
  have h0 : (n.tmod 10007).natAbs < 10007 := by
    rw [Int.natAbs_tmod]; exact Nat.mod_lt _ (by decide)
  obtain ⟨t, ht⟩ : ∃ t, n.tmod 10007 = t := ⟨_, rfl⟩
  obtain ⟨r, hr⟩ : ∃ r, n % 10007 = r := ⟨_, rfl⟩
  rw [ht, hr] at h1
  rw [ht] at h0
  have h2 : IntKind.i64.wrap (t + 10007) = t + 10007 := i64_small (by omega)
  have h3 : wrap64 (t + 10007) = t + 10007 := by unfold wrap64; omega
  have h4 : IntKind.i64.wrap t = t := i64_small (by omega)
  have h5 : wrap64 t = t := by unfold wrap64; omega
  have h6 : IntKind.i64.wrap r = r := i64_small (by omega)
  have h7 : wrap64 r = r := by unfold wrap64; omega
  rw [hr]
  clear hr hn h0
  go_enter Try.func101, Try.ntmps101
  go_wp2
  go_ret
  exact ⟨rfl, rfl⟩
set_option maxRecDepth 100000 in
set_option maxHeartbeats 1000000 in
theorem plus_c (p q : Pt) (w : World) (hp : p.small 100000) (hq : q.small 100000) :
    Calls Try.prog 106 #[.agg #[.int .i64 p.x, .int .i64 p.y, .int .i64 p.z], .agg #[.int .i64 q.x, .int .i64 q.y, .int .i64 q.z]] w fun e w' => e = .returned (.agg #[.int .i64 (ptP p q).x, .int .i64 (ptP p q).y, .int .i64 (ptP p q).z]) ∧ Below w.heap.size w w' := by
  obtain ⟨p1, p2, p3⟩ := hp
  obtain ⟨q1, q2, q3⟩ := hq
  have t1 : IntKind.i64.wrap (p.x + q.x) = p.x + q.x := i64_small (by omega)
  have t2 : IntKind.i64.wrap (p.y + q.y) = p.y + q.y := i64_small (by omega)
  have t3 : IntKind.i64.wrap (p.z + q.z) = p.z + q.z := i64_small (by omega)
  have u1 : wrap64 (p.x + q.x) = p.x + q.x := by unfold wrap64; omega
  have u2 : wrap64 (p.y + q.y) = p.y + q.y := by unfold wrap64; omega
  have u3 : wrap64 (p.z + q.z) = p.z + q.z := by unfold wrap64; omega
  have j0 := ix0 (.int .i64 q.x) (.int .i64 q.y) (.int .i64 q.z)
  have j1 := ix1 (.int .i64 q.x) (.int .i64 q.y) (.int .i64 q.z)
  have j2 := ix2 (.int .i64 q.x) (.int .i64 q.y) (.int .i64 q.z)
  clear p1 p2 p3 q1 q2 q3
  go_enter Try.func106, Try.ntmps106
  go_upto_region 1 with (fail)
  refine wp_world fun W HW => ?_
  have hB : Below w.heap.size w W := by rw [HW.out]; (repeat (first | exact Below.refl _ _ | refine Below.alloc ?_ (by simp; try omega) _ | refine Below.setCell ?_ (by simp) _ | refine Below.drew ?_))
  have pB : Row W (w.heap.size) 29 #[.int .i64 p.x, .int .i64 p.y, .int .i64 p.z] := (by rw [HW.out]; (repeat (first | (refine blk_new ?_; simp; done) | refine blk_old ?_ _)) : W.heap[w.heap.size]? = some (.cells #[.int .i64 p.x, .int .i64 p.y, .int .i64 p.z] 29 (0, 0)))
  have p0 : W.cell? ⟨w.heap.size, 0, none⟩ = some (.int .i64 p.x) := by rw [HW.out]; simp [go_sem]
  have p1 : W.cell? ⟨w.heap.size, 1, none⟩ = some (.int .i64 p.y) := by rw [HW.out]; simp [go_sem]
  have p2 : W.cell? ⟨w.heap.size, 2, none⟩ = some (.int .i64 p.z) := by rw [HW.out]; simp [go_sem]
  have pl : w.heap.size < W.heap.size := World.block_lt_of_cell? W _ p0
  have q0 : W.cell? ⟨w.heap.size + 1, 0, none⟩ = some (.int .i64 q.x) := by rw [HW.out]; simp [go_sem]
  have q1 : W.cell? ⟨w.heap.size + 1, 1, none⟩ = some (.int .i64 q.y) := by rw [HW.out]; simp [go_sem]
  have q2 : W.cell? ⟨w.heap.size + 1, 2, none⟩ = some (.int .i64 q.z) := by rw [HW.out]; simp [go_sem]
  have ql : w.heap.size + 1 < W.heap.size := World.block_lt_of_cell? W _ q0
  have rB : Row W (w.heap.size + 2) 29 #[.int .i64 0, .int .i64 0, .int .i64 0] := (by rw [HW.out]; (repeat (first | (refine blk_new ?_; simp; done) | refine blk_old ?_ _)) : W.heap[w.heap.size + 2]? = some (.cells #[.int .i64 0, .int .i64 0, .int .i64 0] 29 (0, 0)))
  have r0 : W.cell? ⟨w.heap.size + 2, 0, none⟩ = some (.int .i64 0) := by rw [HW.out]; simp [go_sem]
  have r1 : W.cell? ⟨w.heap.size + 2, 1, none⟩ = some (.int .i64 0) := by rw [HW.out]; simp [go_sem]
  have r2 : W.cell? ⟨w.heap.size + 2, 2, none⟩ = some (.int .i64 0) := by rw [HW.out]; simp [go_sem]
  have rl : w.heap.size + 2 < W.heap.size := World.block_lt_of_cell? W _ r0
  have rf := fun i => Row.frozen rB i
  have pf := fun i => Row.frozen pB i
  go_wp2
  refine wp_loop_rounds 4 ?_
  rw [rounds_succ]
  go_wp2
  rw [rounds_succ]
  go_wp2
  rw [rounds_succ]
  go_wp2
  rw [rounds_succ]
  go_wp2
  refine bodyPost_ret (resC1 rfl rfl (loadPt (cs := #[.int .i64 (ptP p q).x, .int .i64 (ptP p q).y, .int .i64 (ptP p q).z]) (b1 := w.heap.size + 2) ?_ rfl)) rfl ⟨rfl, ?_⟩
  · refine Row.of ?_
    repeat (first | (with_reducible refine RowG.base rB ?_) | (with_reducible refine RowG.drew ?_) | (with_reducible refine RowG.set ?_) | ((with_reducible refine RowG.other ?_ ?_); (focus (first | omega | (simp; done) | (simp; omega)))) | (with_reducible refine RowG.alloc ?_))
    rfl
  · repeat (first | (with_reducible exact hB) | (with_reducible refine Below.drew ?_) | ((with_reducible refine Below.setC ?_ ?_); (focus (first | omega | (simp; done) | (simp; omega)))) | ((with_reducible refine Below.allo ?_ ?_); (focus (first | omega | (simp; done) | (simp; omega)))))
set_option maxRecDepth 100000 in
set_option maxHeartbeats 1000000 in
theorem first_c (v : Vv) (sa : Option Addr) (la ca : Nat) (p : Pt) (w : World) (hv : v.small) (hp : p.small 1000) :
    Calls Try.prog 67 #[.agg #[.string v.name, .int .i64 v.op, .slice sa la ca, .int .i64 v.i0, .int .i64 v.i1, .int .i64 v.i2, .int .i64 v.i3], .agg #[.int .i64 p.x, .int .i64 p.y, .int .i64 p.z]] w fun e w' => e = .returned (.int .i64 (frst v p)) ∧ Below w.heap.size w w' := by
  obtain ⟨a1, a2, a3⟩ := frst_bds hv hp
  obtain ⟨b0, b1, b2, b3⟩ := hv
  have hm := fun V => modulo_c (frstZ v p) V (by unfold frstZ; omega)
  unfold frst
  obtain ⟨R, hR⟩ : ∃ R, frstZ v p % 10007 = R := ⟨_, rfl⟩
  rw [hR] at hm ⊢
  unfold frstZ at hm
  clear hR
  obtain ⟨name, op, args, i0, i1, i2, i3⟩ := v
  obtain ⟨x, y, z⟩ := p
  simp only at a1 a2 a3 b0 b1 b2 b3 hm ⊢
  obtain ⟨m1, hm1⟩ : ∃ m, i1 * x = m := ⟨_, rfl⟩
  obtain ⟨m2, hm2⟩ : ∃ m, i2 * y = m := ⟨_, rfl⟩
  obtain ⟨m3, hm3⟩ : ∃ m, i3 * z = m := ⟨_, rfl⟩
  rw [hm1] at a1; rw [hm2] at a2; rw [hm3] at a3
  simp only [hm1, hm2, hm3] at hm
  have t1 : IntKind.i64.wrap (i1 * x) = m1 := by rw [hm1]; exact i64_small (by omega)
  have t2 : IntKind.i64.wrap (i2 * y) = m2 := by rw [hm2]; exact i64_small (by omega)
  have t3 : IntKind.i64.wrap (i3 * z) = m3 := by rw [hm3]; exact i64_small (by omega)
  have u1 : IntKind.i64.wrap (i0 + m1) = i0 + m1 := i64_small (by omega)
  have u2 : IntKind.i64.wrap (i0 + m1 + m2) = i0 + m1 + m2 := i64_small (by omega)
  have u3 : IntKind.i64.wrap (i0 + m1 + m2 + m3) = i0 + m1 + m2 + m3 := i64_small (by omega)
  replace hm := Lib.hid hm
  have j0 := ix0 (.int .i64 x) (.int .i64 y) (.int .i64 z)
  have j1 := ix1 (.int .i64 x) (.int .i64 y) (.int .i64 z)
  have j2 := ix2 (.int .i64 x) (.int .i64 y) (.int .i64 z)
  clear a1 a2 a3 b0 b1 b2 b3 hm1 hm2 hm3
  go_enter Try.func67, Try.ntmps67
  go_upto_region 1 with (fail)
  refine wp_world fun W HW => ?_
  have hB : Below w.heap.size w W := by rw [HW.out]; (repeat (first | exact Below.refl _ _ | refine Below.alloc ?_ (by simp; try omega) _ | refine Below.setCell ?_ (by simp) _ | refine Below.drew ?_))
  have v0 : W.cell? ⟨w.heap.size, 0, none⟩ = some (.string name) := by rw [HW.out]; simp [go_sem]
  have v1 : W.cell? ⟨w.heap.size, 1, none⟩ = some (.int .i64 op) := by rw [HW.out]; simp [go_sem]
  have v2 : W.cell? ⟨w.heap.size, 2, none⟩ = some (.slice sa la ca) := by rw [HW.out]; simp [go_sem]
  have v3 : W.cell? ⟨w.heap.size, 3, none⟩ = some (.int .i64 i0) := by rw [HW.out]; simp [go_sem]
  have v4 : W.cell? ⟨w.heap.size, 4, none⟩ = some (.int .i64 i1) := by rw [HW.out]; simp [go_sem]
  have v5 : W.cell? ⟨w.heap.size, 5, none⟩ = some (.int .i64 i2) := by rw [HW.out]; simp [go_sem]
  have v6 : W.cell? ⟨w.heap.size, 6, none⟩ = some (.int .i64 i3) := by rw [HW.out]; simp [go_sem]
  have vl : w.heap.size < W.heap.size := World.block_lt_of_cell? W _ v0
  have q0 : W.cell? ⟨w.heap.size + 1, 0, none⟩ = some (.int .i64 x) := by rw [HW.out]; simp [go_sem]
  have q1 : W.cell? ⟨w.heap.size + 1, 1, none⟩ = some (.int .i64 y) := by rw [HW.out]; simp [go_sem]
  have q2 : W.cell? ⟨w.heap.size + 1, 2, none⟩ = some (.int .i64 z) := by rw [HW.out]; simp [go_sem]
  have ql : w.heap.size + 1 < W.heap.size := World.block_lt_of_cell? W _ q0
  go_wp2
  refine wp_loop_rounds 4 ?_
  rw [rounds_succ]
  go_wp2
  rw [rounds_succ]
  go_wp2
  rw [rounds_succ]
  go_wp2
  rw [rounds_succ]
  go_wp2_with (first | (go_at_call 101; refine (hm.out _).mono ?_; rintro e w' ⟨rfl, rfl⟩))
  go_ret
  exact ⟨rfl, hB⟩
end Go.Proofs.Ytadmnlkgefbhcaa
