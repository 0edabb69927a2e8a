/- The sum of two schedules: the reference. -/
import Derived.Test.YtbpdgoedglkefaaSch23
namespace Go.Proofs.Ytbpdgoedglkefaa
open Go.RowKit

theorem load_p3 {X : World} {b1 : Nat} {cs : Array Value} (rl : Row X b1 29 cs) (h3 : cs.size = 3) : (loadVar 29 ⟨b1, 0, none⟩).run Try.prog X = .ok (.agg cs) X :=
  run_loadVar_row X b1 _ _ cs (0, 0) _ rl Try.underlying29 rfl (by rw [h3]; kernel_rfl)
theorem results_cell1' {fn : Func} {p : Tmp} {tp : TypeId} {tmps : Array Value} {P : Program} {w : World} {a : Addr} {va : Value} (h : fn.results = #[.cell p tp])
    (hp : tmps.getD p undef = .pointer (some a)) (la : (loadVar tp a).run P w = .ok va w) : (results fn tmps).run P w = .ok va w := by
  simp only [results, h]
  simp only [Array.getD_eq_getD_getElem?] at hp
  simp [Sem.run_bind, Result.andThen, hp, asAddr, la]
set_option maxRecDepth 100000 in
set_option maxHeartbeats 1000000 in
theorem Plus_c (p q : Pt) (w : World) (hp : p.x.natAbs ≤ 1000000 ∧ p.y.natAbs ≤ 1000000 ∧ p.z.natAbs ≤ 1000000) (hq : q.x.natAbs ≤ 1000000 ∧ q.y.natAbs ≤ 1000000 ∧ q.z.natAbs ≤ 1000000) :
    Calls Try.prog 54 #[.agg #[.int .i64 p.x, .int .i64 p.y, .int .i64 p.z], .agg #[.int .i64 q.x, .int .i64 q.y, .int .i64 q.z]] w fun e w' => e = .returned (.agg #[.int .i64 (addP p q).x, .int .i64 (addP p q).y, .int .i64 (addP p q).z]) ∧ Below w.heap.size w w' := by
  have s1 : wrap64 (p.x + q.x) = p.x + q.x := by unfold wrap64; omega
  have s2 : wrap64 (p.y + q.y) = p.y + q.y := by unfold wrap64; omega
  have s3 : wrap64 (p.z + q.z) = p.z + q.z := by unfold wrap64; omega
  have t1 : IntKind.i64.wrap (p.x + q.x) = p.x + q.x := i64_small (by omega)
  have t2 : IntKind.i64.wrap (p.y + q.y) = p.y + q.y := i64_small (by omega)
  have t3 : IntKind.i64.wrap (p.z + q.z) = p.z + q.z := i64_small (by omega)
  clear hp hq
  go_enter Try.func54, Try.ntmps54
  go_upto_region 1 with (fail)
  refine wp_world fun W HW => ?_
  have hB : Below w.heap.size w W := by rw [HW.out]; (repeat (first | exact Below.refl _ _ | refine Below.alloc ?_ (by simp; try omega) _ | refine Below.setCell ?_ (by simp) _ | refine Below.drew ?_))
  have p0 : W.cell? ⟨w.heap.size, 0, none⟩ = some (.int .i64 p.x) := by rw [HW.out]; simp [go_sem]
  have p1 : W.cell? ⟨w.heap.size, 1, none⟩ = some (.int .i64 p.y) := by rw [HW.out]; simp [go_sem]
  have p2 : W.cell? ⟨w.heap.size, 2, none⟩ = some (.int .i64 p.z) := by rw [HW.out]; simp [go_sem]
  have pl : w.heap.size < W.heap.size := World.block_lt_of_cell? W _ p0
  have q0 : W.cell? ⟨w.heap.size + 1, 0, none⟩ = some (.int .i64 q.x) := by rw [HW.out]; simp [go_sem]
  have q1 : W.cell? ⟨w.heap.size + 1, 1, none⟩ = some (.int .i64 q.y) := by rw [HW.out]; simp [go_sem]
  have q2 : W.cell? ⟨w.heap.size + 1, 2, none⟩ = some (.int .i64 q.z) := by rw [HW.out]; simp [go_sem]
  have ql : w.heap.size + 1 < W.heap.size := World.block_lt_of_cell? W _ q0
  have rB : Row W (w.heap.size + 2) 29 #[.int .i64 0, .int .i64 0, .int .i64 0] := (by rw [HW.out]; (repeat (first | (refine blk_new ?_; simp; done) | refine blk_old ?_ _)) : W.heap[w.heap.size + 2]? = some (.cells #[.int .i64 0, .int .i64 0, .int .i64 0] 29 (0, 0)))
  have r0 : W.cell? ⟨w.heap.size + 2, 0, none⟩ = some (.int .i64 0) := by rw [HW.out]; simp [go_sem]
  have r1 : W.cell? ⟨w.heap.size + 2, 1, none⟩ = some (.int .i64 0) := by rw [HW.out]; simp [go_sem]
  have r2 : W.cell? ⟨w.heap.size + 2, 2, none⟩ = some (.int .i64 0) := by rw [HW.out]; simp [go_sem]
  have rl : w.heap.size + 2 < W.heap.size := World.block_lt_of_cell? W _ r0
  have rf := fun i => Row.frozen rB i
  go_wp2
  refine bodyPost_ret (results_cell1' rfl rfl (load_p3 (cs := #[.int .i64 (addP p q).x, .int .i64 (addP p q).y, .int .i64 (addP p q).z]) (b1 := w.heap.size + 2) ?_ rfl)) rfl ⟨rfl, ?_⟩
  · refine Row.of ?_
    repeat (first | (with_reducible refine RowG.base rB ?_) | (with_reducible refine RowG.drew ?_) | (with_reducible refine RowG.set ?_) | ((with_reducible refine RowG.other ?_ ?_); (focus (first | omega | (simp; done) | (simp; omega)))) | (with_reducible refine RowG.alloc ?_))
    rfl
  · repeat (first | (with_reducible exact hB) | (with_reducible refine Below.drew ?_) | ((with_reducible refine Below.setC ?_ ?_); (focus (first | omega | (simp; done) | (simp; omega)))) | ((with_reducible refine Below.allo ?_ ?_); (focus (first | omega | (simp; done) | (simp; omega)))))
theorem allE_ways {n : Int} {l : List Iq} {K : List Vv} (q r : Sd) : (chkE n l K [q] ≠ 0 ∧ allE n l K [q, r] = chkE n l K [q]) ∨ (chkE n l K [q] = 0 ∧ chkE n l K [r] ≠ 0 ∧ allE n l K [q, r] = chkE n l K [r]) ∨ (chkE n l K [q] = 0 ∧ chkE n l K [r] = 0 ∧ allE n l K [q, r] = if legB K q then (if legB K r then 0 else 31) else 31) := by
  unfold allE chkE
  cases hr : recB n l K
  · simp
  · cases hq : q.fit n K.length
    · simp [hq]
    · cases hs : r.fit n K.length
      · simp [hq, hs]
      · simp [hq, hs]
        cases legB K q <;> cases legB K r <;> rfl
set_option maxRecDepth 100000 in
set_option maxHeartbeats 4000000 in
theorem rSum_c (n : Int) (s : Option Addr) (cap : Nat) (l : List Iq) (s2 : Option Addr) (cq : Nat) (K : List Vv) (q r : Sd) (w : World) (hr : RecM w s l s2 cq K) (hq : SdM w q) (hq2 : SdM w r) :
    Calls Try.prog 39 #[.agg #[.int .i64 n, .slice s l.length cap, .slice s2 K.length cq], .agg #[.int .i64 q.f.x, .int .i64 q.f.y, .int .i64 q.f.z, .slice q.s q.off.length q.cap], .agg #[.int .i64 r.f.x, .int .i64 r.f.y, .int .i64 r.f.z, .slice r.s r.off.length r.cap]] w
      (SdRet (if sumE n l K q r = 0 then addP q.f r.f else ⟨0, 0, 0⟩) (if sumE n l K q r = 0 then addO K.length q.off r.off else []) (sumE n l K q r) w) := by
  have hse : sumE n l K q r = if allE n l K [q, r] ≠ 0 then allE n l K [q, r] else if fitB n K.length (addP q.f r.f) (addO K.length q.off r.off) then 0 else 4 := rfl
  have ha1 := fun V (h : RecM V s l s2 cq K) (h2 : SdM V q) => Asked_c n s cap l s2 cq K q V h h2
  have ha2 := fun V (h : RecM V s l s2 cq K) (h2 : SdM V r) => Asked_c n s cap l s2 cq K r V h h2
  rcases allE_ways (n := n) (l := l) (K := K) q r with ⟨h0, h1⟩ | ⟨h0, h1, h2⟩ | ⟨h0, h1, h2⟩
  · rw [h1, if_pos h0] at hse
    obtain ⟨E, hE⟩ : ∃ x, chkE n l K [q] = x := ⟨_, rfl⟩
    simp only [hse, hE] at ha1 h0 ⊢
    rw [if_neg h0, if_neg h0]
    have k1 : (E != 0) = true := bne_iff_ne.2 h0
    replace ha1 := Lib.hid ha1
    clear hE hse ha2 h1
    go_enter Try.func39, Try.ntmps39
    go_upto_region 1 with (fail)
    refine wp_world fun W HW => ?_
    have hB : Below w.heap.size w W := by rw [HW.out]; (repeat (first | exact Below.refl _ _ | refine Below.alloc ?_ (by simp; try omega) _ | refine Below.setCell ?_ (by simp) _ | refine Below.drew ?_))
    have d0 : W.cell? ⟨w.heap.size, 0, none⟩ = some (.int .i64 n) := by rw [HW.out]; simp [go_sem]
    have d1 : W.cell? ⟨w.heap.size, 1, none⟩ = some (.slice s l.length cap) := by rw [HW.out]; simp [go_sem]
    have d2 : W.cell? ⟨w.heap.size, 2, none⟩ = some (.slice s2 K.length cq) := by rw [HW.out]; simp [go_sem]
    have dl : w.heap.size < W.heap.size := World.block_lt_of_cell? W _ d0
    have g0 : W.cell? ⟨w.heap.size + 1, 0, none⟩ = some (.int .i64 q.f.x) := by rw [HW.out]; simp [go_sem]
    have g1 : W.cell? ⟨w.heap.size + 1, 1, none⟩ = some (.int .i64 q.f.y) := by rw [HW.out]; simp [go_sem]
    have g2 : W.cell? ⟨w.heap.size + 1, 2, none⟩ = some (.int .i64 q.f.z) := by rw [HW.out]; simp [go_sem]
    have g3 : W.cell? ⟨w.heap.size + 1, 3, none⟩ = some (.slice q.s q.off.length q.cap) := by rw [HW.out]; simp [go_sem]
    have gl : w.heap.size + 1 < W.heap.size := World.block_lt_of_cell? W _ g0
    have h0 : W.cell? ⟨w.heap.size + 2, 0, none⟩ = some (.int .i64 r.f.x) := by rw [HW.out]; simp [go_sem]
    have h1 : W.cell? ⟨w.heap.size + 2, 1, none⟩ = some (.int .i64 r.f.y) := by rw [HW.out]; simp [go_sem]
    have h2 : W.cell? ⟨w.heap.size + 2, 2, none⟩ = some (.int .i64 r.f.z) := by rw [HW.out]; simp [go_sem]
    have h3 : W.cell? ⟨w.heap.size + 2, 3, none⟩ = some (.slice r.s r.off.length r.cap) := by rw [HW.out]; simp [go_sem]
    have hl : w.heap.size + 2 < W.heap.size := World.block_lt_of_cell? W _ h0
    have oB : Row W (w.heap.size + 3) 32 #[.int .i64 0, .int .i64 0, .int .i64 0, .slice none 0 0] := (by rw [HW.out]; (repeat (first | (refine blk_new ?_; simp; done) | refine blk_old ?_ _)) : W.heap[w.heap.size + 3]? = some (.cells #[.int .i64 0, .int .i64 0, .int .i64 0, .slice none 0 0] 32 (0, 0)))
    have o0 : W.cell? ⟨w.heap.size + 3, 0, none⟩ = some (.int .i64 0) := by rw [HW.out]; simp [go_sem]
    have o1 : W.cell? ⟨w.heap.size + 3, 1, none⟩ = some (.int .i64 0) := by rw [HW.out]; simp [go_sem]
    have o2 : W.cell? ⟨w.heap.size + 3, 2, none⟩ = some (.int .i64 0) := by rw [HW.out]; simp [go_sem]
    have o3 : W.cell? ⟨w.heap.size + 3, 3, none⟩ = some (.slice none 0 0) := by rw [HW.out]; simp [go_sem]
    have ol : w.heap.size + 3 < W.heap.size := World.block_lt_of_cell? W _ o0
    try replace hr := up_of hB hr
    try replace hq := up_of hB hq
    try replace hq2 := up_of hB hq2
    go_upto_region 3 with (first | (go_at_call 61; refine (ha1.out _ hr hq).mono ?_; rintro e W1 ⟨rfl, hb⟩; (try replace hr := up_of hb hr); (try replace hq := up_of hb hq); (try replace hq2 := up_of hb hq2); (try replace hB := up_of hb hB); (try replace d0 := up_of hb d0); (try replace d1 := up_of hb d1); (try replace d2 := up_of hb d2); (try replace dl := up_of hb dl); (try replace g0 := up_of hb g0); (try replace g1 := up_of hb g1); (try replace g2 := up_of hb g2); (try replace g3 := up_of hb g3); (try replace gl := up_of hb gl); (try replace h0 := up_of hb h0); (try replace h1 := up_of hb h1); (try replace h2 := up_of hb h2); (try replace h3 := up_of hb h3); (try replace hl := up_of hb hl); (try replace oB := up_of hb oB); (try replace o0 := up_of hb o0); (try replace o1 := up_of hb o1); (try replace o2 := up_of hb o2); (try replace o3 := up_of hb o3); (try replace ol := up_of hb ol)))
    have rf := fun i => Row.frozen oB i
    go_wp2
    refine sd_end rfl none 0 (b1 := w.heap.size + 3) rfl rfl ?_ SlS.nil ?_
    · refine Row.of ?_
      repeat (first | (with_reducible refine RowG.base oB ?_) | (with_reducible refine RowG.drew ?_) | (with_reducible refine RowG.set ?_) | ((with_reducible refine RowG.other ?_ ?_); (focus (first | omega | (simp; done) | (simp; omega)))) | (with_reducible refine RowG.alloc ?_))
      rfl
    · repeat (first | (with_reducible exact hB) | (with_reducible refine Below.drew ?_) | ((with_reducible refine Below.setC ?_ ?_); (focus (first | omega | (simp; done) | (simp; omega)))) | ((with_reducible refine Below.allo ?_ ?_); (focus (first | omega | (simp; done) | (simp; omega)))))
  · rw [h2, if_pos h1] at hse
    obtain ⟨E, hE⟩ : ∃ x, chkE n l K [r] = x := ⟨_, rfl⟩
    simp only [hse, hE] at ha2 h1 ⊢
    rw [h0] at ha1
    rw [if_neg h1, if_neg h1]
    have k1 : (E != 0) = true := bne_iff_ne.2 h1
    replace ha1 := Lib.hid ha1; replace ha2 := Lib.hid ha2
    clear hE hse h0 h2
    go_enter Try.func39, Try.ntmps39
    go_upto_region 1 with (fail)
    refine wp_world fun W HW => ?_
    have hB : Below w.heap.size w W := by rw [HW.out]; (repeat (first | exact Below.refl _ _ | refine Below.alloc ?_ (by simp; try omega) _ | refine Below.setCell ?_ (by simp) _ | refine Below.drew ?_))
    have d0 : W.cell? ⟨w.heap.size, 0, none⟩ = some (.int .i64 n) := by rw [HW.out]; simp [go_sem]
    have d1 : W.cell? ⟨w.heap.size, 1, none⟩ = some (.slice s l.length cap) := by rw [HW.out]; simp [go_sem]
    have d2 : W.cell? ⟨w.heap.size, 2, none⟩ = some (.slice s2 K.length cq) := by rw [HW.out]; simp [go_sem]
    have dl : w.heap.size < W.heap.size := World.block_lt_of_cell? W _ d0
    have g0 : W.cell? ⟨w.heap.size + 1, 0, none⟩ = some (.int .i64 q.f.x) := by rw [HW.out]; simp [go_sem]
    have g1 : W.cell? ⟨w.heap.size + 1, 1, none⟩ = some (.int .i64 q.f.y) := by rw [HW.out]; simp [go_sem]
    have g2 : W.cell? ⟨w.heap.size + 1, 2, none⟩ = some (.int .i64 q.f.z) := by rw [HW.out]; simp [go_sem]
    have g3 : W.cell? ⟨w.heap.size + 1, 3, none⟩ = some (.slice q.s q.off.length q.cap) := by rw [HW.out]; simp [go_sem]
    have gl : w.heap.size + 1 < W.heap.size := World.block_lt_of_cell? W _ g0
    have h0 : W.cell? ⟨w.heap.size + 2, 0, none⟩ = some (.int .i64 r.f.x) := by rw [HW.out]; simp [go_sem]
    have h1 : W.cell? ⟨w.heap.size + 2, 1, none⟩ = some (.int .i64 r.f.y) := by rw [HW.out]; simp [go_sem]
    have h2 : W.cell? ⟨w.heap.size + 2, 2, none⟩ = some (.int .i64 r.f.z) := by rw [HW.out]; simp [go_sem]
    have h3 : W.cell? ⟨w.heap.size + 2, 3, none⟩ = some (.slice r.s r.off.length r.cap) := by rw [HW.out]; simp [go_sem]
    have hl : w.heap.size + 2 < W.heap.size := World.block_lt_of_cell? W _ h0
    have oB : Row W (w.heap.size + 3) 32 #[.int .i64 0, .int .i64 0, .int .i64 0, .slice none 0 0] := (by rw [HW.out]; (repeat (first | (refine blk_new ?_; simp; done) | refine blk_old ?_ _)) : W.heap[w.heap.size + 3]? = some (.cells #[.int .i64 0, .int .i64 0, .int .i64 0, .slice none 0 0] 32 (0, 0)))
    have o0 : W.cell? ⟨w.heap.size + 3, 0, none⟩ = some (.int .i64 0) := by rw [HW.out]; simp [go_sem]
    have o1 : W.cell? ⟨w.heap.size + 3, 1, none⟩ = some (.int .i64 0) := by rw [HW.out]; simp [go_sem]
    have o2 : W.cell? ⟨w.heap.size + 3, 2, none⟩ = some (.int .i64 0) := by rw [HW.out]; simp [go_sem]
    have o3 : W.cell? ⟨w.heap.size + 3, 3, none⟩ = some (.slice none 0 0) := by rw [HW.out]; simp [go_sem]
    have ol : w.heap.size + 3 < W.heap.size := World.block_lt_of_cell? W _ o0
    try replace hr := up_of hB hr
    try replace hq := up_of hB hq
    try replace hq2 := up_of hB hq2
    go_upto_region 4 with (first | (go_at_call 61; refine (ha1.out _ hr hq).mono ?_; rintro e W1 ⟨rfl, hb⟩; (try replace hr := up_of hb hr); (try replace hq := up_of hb hq); (try replace hq2 := up_of hb hq2); (try replace hB := up_of hb hB); (try replace d0 := up_of hb d0); (try replace d1 := up_of hb d1); (try replace d2 := up_of hb d2); (try replace dl := up_of hb dl); (try replace g0 := up_of hb g0); (try replace g1 := up_of hb g1); (try replace g2 := up_of hb g2); (try replace g3 := up_of hb g3); (try replace gl := up_of hb gl); (try replace h0 := up_of hb h0); (try replace h1 := up_of hb h1); (try replace h2 := up_of hb h2); (try replace h3 := up_of hb h3); (try replace hl := up_of hb hl); (try replace oB := up_of hb oB); (try replace o0 := up_of hb o0); (try replace o1 := up_of hb o1); (try replace o2 := up_of hb o2); (try replace o3 := up_of hb o3); (try replace ol := up_of hb ol)))
    go_upto_region 6 with (first | (go_at_call 61; refine (ha2.out _ hr hq2).mono ?_; rintro e W1 ⟨rfl, hb⟩; (try replace hr := up_of hb hr); (try replace hq := up_of hb hq); (try replace hq2 := up_of hb hq2); (try replace hB := up_of hb hB); (try replace d0 := up_of hb d0); (try replace d1 := up_of hb d1); (try replace d2 := up_of hb d2); (try replace dl := up_of hb dl); (try replace g0 := up_of hb g0); (try replace g1 := up_of hb g1); (try replace g2 := up_of hb g2); (try replace g3 := up_of hb g3); (try replace gl := up_of hb gl); (try replace h0 := up_of hb h0); (try replace h1 := up_of hb h1); (try replace h2 := up_of hb h2); (try replace h3 := up_of hb h3); (try replace hl := up_of hb hl); (try replace oB := up_of hb oB); (try replace o0 := up_of hb o0); (try replace o1 := up_of hb o1); (try replace o2 := up_of hb o2); (try replace o3 := up_of hb o3); (try replace ol := up_of hb ol)))
    have rf := fun i => Row.frozen oB i
    go_wp2
    refine sd_end rfl none 0 (b1 := w.heap.size + 3) rfl rfl ?_ SlS.nil ?_
    · refine Row.of ?_
      repeat (first | (with_reducible refine RowG.base oB ?_) | (with_reducible refine RowG.drew ?_) | (with_reducible refine RowG.set ?_) | ((with_reducible refine RowG.other ?_ ?_); (focus (first | omega | (simp; done) | (simp; omega)))) | (with_reducible refine RowG.alloc ?_))
      rfl
    · repeat (first | (with_reducible exact hB) | (with_reducible refine Below.drew ?_) | ((with_reducible refine Below.setC ?_ ?_); (focus (first | omega | (simp; done) | (simp; omega)))) | ((with_reducible refine Below.allo ?_ ?_); (focus (first | omega | (simp; done) | (simp; omega)))))
  obtain ⟨hrb, -, hk1, hk4, -, -, qf, ql, qo⟩ := chk_ok h0
  obtain ⟨-, -, -, -, -, -, rfl9, rl, ro⟩ := chk_ok h1
  rw [h0] at ha1
  rw [h1] at ha2
  have hg1 := fun V (h : RecM V s l s2 cq K) (h1 : SdM V q) => IsLegal_c n s cap l s2 cq K q V h h1 hrb ql hk4
  have hg2 := fun V (h : RecM V s l s2 cq K) (h1 : SdM V r) => IsLegal_c n s cap l s2 cq K r V h h1 hrb rl hk4
  cases hb1 : legB K q
  case false =>
    rw [hb1] at hg1 h2
    simp only [Bool.false_eq_true, if_false] at h2
    rw [h2, if_pos (by decide)] at hse
    simp only [hse]
    replace ha1 := Lib.hid ha1; replace ha2 := Lib.hid ha2; replace hg1 := Lib.hid hg1; replace ql := Lib.hid ql; replace rl := Lib.hid rl
    clear hse h0 h1 h2 hb1 hg2
    go_enter Try.func39, Try.ntmps39
    go_upto_region 1 with (fail)
    refine wp_world fun W HW => ?_
    have hB : Below w.heap.size w W := by rw [HW.out]; (repeat (first | exact Below.refl _ _ | refine Below.alloc ?_ (by simp; try omega) _ | refine Below.setCell ?_ (by simp) _ | refine Below.drew ?_))
    have d0 : W.cell? ⟨w.heap.size, 0, none⟩ = some (.int .i64 n) := by rw [HW.out]; simp [go_sem]
    have d1 : W.cell? ⟨w.heap.size, 1, none⟩ = some (.slice s l.length cap) := by rw [HW.out]; simp [go_sem]
    have d2 : W.cell? ⟨w.heap.size, 2, none⟩ = some (.slice s2 K.length cq) := by rw [HW.out]; simp [go_sem]
    have dl : w.heap.size < W.heap.size := World.block_lt_of_cell? W _ d0
    have g0 : W.cell? ⟨w.heap.size + 1, 0, none⟩ = some (.int .i64 q.f.x) := by rw [HW.out]; simp [go_sem]
    have g1 : W.cell? ⟨w.heap.size + 1, 1, none⟩ = some (.int .i64 q.f.y) := by rw [HW.out]; simp [go_sem]
    have g2 : W.cell? ⟨w.heap.size + 1, 2, none⟩ = some (.int .i64 q.f.z) := by rw [HW.out]; simp [go_sem]
    have g3 : W.cell? ⟨w.heap.size + 1, 3, none⟩ = some (.slice q.s q.off.length q.cap) := by rw [HW.out]; simp [go_sem]
    have gl : w.heap.size + 1 < W.heap.size := World.block_lt_of_cell? W _ g0
    have h0 : W.cell? ⟨w.heap.size + 2, 0, none⟩ = some (.int .i64 r.f.x) := by rw [HW.out]; simp [go_sem]
    have h1 : W.cell? ⟨w.heap.size + 2, 1, none⟩ = some (.int .i64 r.f.y) := by rw [HW.out]; simp [go_sem]
    have h2 : W.cell? ⟨w.heap.size + 2, 2, none⟩ = some (.int .i64 r.f.z) := by rw [HW.out]; simp [go_sem]
    have h3 : W.cell? ⟨w.heap.size + 2, 3, none⟩ = some (.slice r.s r.off.length r.cap) := by rw [HW.out]; simp [go_sem]
    have hl : w.heap.size + 2 < W.heap.size := World.block_lt_of_cell? W _ h0
    have oB : Row W (w.heap.size + 3) 32 #[.int .i64 0, .int .i64 0, .int .i64 0, .slice none 0 0] := (by rw [HW.out]; (repeat (first | (refine blk_new ?_; simp; done) | refine blk_old ?_ _)) : W.heap[w.heap.size + 3]? = some (.cells #[.int .i64 0, .int .i64 0, .int .i64 0, .slice none 0 0] 32 (0, 0)))
    have o0 : W.cell? ⟨w.heap.size + 3, 0, none⟩ = some (.int .i64 0) := by rw [HW.out]; simp [go_sem]
    have o1 : W.cell? ⟨w.heap.size + 3, 1, none⟩ = some (.int .i64 0) := by rw [HW.out]; simp [go_sem]
    have o2 : W.cell? ⟨w.heap.size + 3, 2, none⟩ = some (.int .i64 0) := by rw [HW.out]; simp [go_sem]
    have o3 : W.cell? ⟨w.heap.size + 3, 3, none⟩ = some (.slice none 0 0) := by rw [HW.out]; simp [go_sem]
    have ol : w.heap.size + 3 < W.heap.size := World.block_lt_of_cell? W _ o0
    try replace hr := up_of hB hr
    try replace hq := up_of hB hq
    try replace hq2 := up_of hB hq2
    go_upto_region 4 with (first | (go_at_call 61; refine (ha1.out _ hr hq).mono ?_; rintro e W1 ⟨rfl, hb⟩; (try replace hr := up_of hb hr); (try replace hq := up_of hb hq); (try replace hq2 := up_of hb hq2); (try replace hB := up_of hb hB); (try replace d0 := up_of hb d0); (try replace d1 := up_of hb d1); (try replace d2 := up_of hb d2); (try replace dl := up_of hb dl); (try replace g0 := up_of hb g0); (try replace g1 := up_of hb g1); (try replace g2 := up_of hb g2); (try replace g3 := up_of hb g3); (try replace gl := up_of hb gl); (try replace h0 := up_of hb h0); (try replace h1 := up_of hb h1); (try replace h2 := up_of hb h2); (try replace h3 := up_of hb h3); (try replace hl := up_of hb hl); (try replace oB := up_of hb oB); (try replace o0 := up_of hb o0); (try replace o1 := up_of hb o1); (try replace o2 := up_of hb o2); (try replace o3 := up_of hb o3); (try replace ol := up_of hb ol)))
    go_upto_region 7 with (first | (go_at_call 61; refine (ha2.out _ hr hq2).mono ?_; rintro e W1 ⟨rfl, hb⟩; (try replace hr := up_of hb hr); (try replace hq := up_of hb hq); (try replace hq2 := up_of hb hq2); (try replace hB := up_of hb hB); (try replace d0 := up_of hb d0); (try replace d1 := up_of hb d1); (try replace d2 := up_of hb d2); (try replace dl := up_of hb dl); (try replace g0 := up_of hb g0); (try replace g1 := up_of hb g1); (try replace g2 := up_of hb g2); (try replace g3 := up_of hb g3); (try replace gl := up_of hb gl); (try replace h0 := up_of hb h0); (try replace h1 := up_of hb h1); (try replace h2 := up_of hb h2); (try replace h3 := up_of hb h3); (try replace hl := up_of hb hl); (try replace oB := up_of hb oB); (try replace o0 := up_of hb o0); (try replace o1 := up_of hb o1); (try replace o2 := up_of hb o2); (try replace o3 := up_of hb o3); (try replace ol := up_of hb ol)))
    go_upto_region 8 with (first | (go_at_call 68; refine (hg1.out _ hr hq).mono ?_; rintro e W1 ⟨rfl, hb⟩; (try replace hr := up_of hb hr); (try replace hq := up_of hb hq); (try replace hq2 := up_of hb hq2); (try replace hB := up_of hb hB); (try replace d0 := up_of hb d0); (try replace d1 := up_of hb d1); (try replace d2 := up_of hb d2); (try replace dl := up_of hb dl); (try replace g0 := up_of hb g0); (try replace g1 := up_of hb g1); (try replace g2 := up_of hb g2); (try replace g3 := up_of hb g3); (try replace gl := up_of hb gl); (try replace h0 := up_of hb h0); (try replace h1 := up_of hb h1); (try replace h2 := up_of hb h2); (try replace h3 := up_of hb h3); (try replace hl := up_of hb hl); (try replace oB := up_of hb oB); (try replace o0 := up_of hb o0); (try replace o1 := up_of hb o1); (try replace o2 := up_of hb o2); (try replace o3 := up_of hb o3); (try replace ol := up_of hb ol)))
    have rf := fun i => Row.frozen oB i
    go_wp2
    refine sd_end rfl none 0 (b1 := w.heap.size + 3) rfl rfl ?_ SlS.nil ?_
    · refine Row.of ?_
      repeat (first | (with_reducible refine RowG.base oB ?_) | (with_reducible refine RowG.drew ?_) | (with_reducible refine RowG.set ?_) | ((with_reducible refine RowG.other ?_ ?_); (focus (first | omega | (simp; done) | (simp; omega)))) | (with_reducible refine RowG.alloc ?_))
      rfl
    · repeat (first | (with_reducible exact hB) | (with_reducible refine Below.drew ?_) | ((with_reducible refine Below.setC ?_ ?_); (focus (first | omega | (simp; done) | (simp; omega)))) | ((with_reducible refine Below.allo ?_ ?_); (focus (first | omega | (simp; done) | (simp; omega)))))
  rw [hb1] at hg1 h2
  simp only [if_true] at h2
  cases hb2 : legB K r
  case false =>
    rw [hb2] at hg2 h2
    simp only [Bool.false_eq_true, if_false] at h2
    rw [h2, if_pos (by decide)] at hse
    simp only [hse]
    replace ha1 := Lib.hid ha1; replace ha2 := Lib.hid ha2; replace hg1 := Lib.hid hg1; replace hg2 := Lib.hid hg2; replace ql := Lib.hid ql; replace rl := Lib.hid rl
    clear hse h0 h1 h2 hb1 hb2
    go_enter Try.func39, Try.ntmps39
    go_upto_region 1 with (fail)
    refine wp_world fun W HW => ?_
    have hB : Below w.heap.size w W := by rw [HW.out]; (repeat (first | exact Below.refl _ _ | refine Below.alloc ?_ (by simp; try omega) _ | refine Below.setCell ?_ (by simp) _ | refine Below.drew ?_))
    have d0 : W.cell? ⟨w.heap.size, 0, none⟩ = some (.int .i64 n) := by rw [HW.out]; simp [go_sem]
    have d1 : W.cell? ⟨w.heap.size, 1, none⟩ = some (.slice s l.length cap) := by rw [HW.out]; simp [go_sem]
    have d2 : W.cell? ⟨w.heap.size, 2, none⟩ = some (.slice s2 K.length cq) := by rw [HW.out]; simp [go_sem]
    have dl : w.heap.size < W.heap.size := World.block_lt_of_cell? W _ d0
    have g0 : W.cell? ⟨w.heap.size + 1, 0, none⟩ = some (.int .i64 q.f.x) := by rw [HW.out]; simp [go_sem]
    have g1 : W.cell? ⟨w.heap.size + 1, 1, none⟩ = some (.int .i64 q.f.y) := by rw [HW.out]; simp [go_sem]
    have g2 : W.cell? ⟨w.heap.size + 1, 2, none⟩ = some (.int .i64 q.f.z) := by rw [HW.out]; simp [go_sem]
    have g3 : W.cell? ⟨w.heap.size + 1, 3, none⟩ = some (.slice q.s q.off.length q.cap) := by rw [HW.out]; simp [go_sem]
    have gl : w.heap.size + 1 < W.heap.size := World.block_lt_of_cell? W _ g0
    have h0 : W.cell? ⟨w.heap.size + 2, 0, none⟩ = some (.int .i64 r.f.x) := by rw [HW.out]; simp [go_sem]
    have h1 : W.cell? ⟨w.heap.size + 2, 1, none⟩ = some (.int .i64 r.f.y) := by rw [HW.out]; simp [go_sem]
    have h2 : W.cell? ⟨w.heap.size + 2, 2, none⟩ = some (.int .i64 r.f.z) := by rw [HW.out]; simp [go_sem]
    have h3 : W.cell? ⟨w.heap.size + 2, 3, none⟩ = some (.slice r.s r.off.length r.cap) := by rw [HW.out]; simp [go_sem]
    have hl : w.heap.size + 2 < W.heap.size := World.block_lt_of_cell? W _ h0
    have oB : Row W (w.heap.size + 3) 32 #[.int .i64 0, .int .i64 0, .int .i64 0, .slice none 0 0] := (by rw [HW.out]; (repeat (first | (refine blk_new ?_; simp; done) | refine blk_old ?_ _)) : W.heap[w.heap.size + 3]? = some (.cells #[.int .i64 0, .int .i64 0, .int .i64 0, .slice none 0 0] 32 (0, 0)))
    have o0 : W.cell? ⟨w.heap.size + 3, 0, none⟩ = some (.int .i64 0) := by rw [HW.out]; simp [go_sem]
    have o1 : W.cell? ⟨w.heap.size + 3, 1, none⟩ = some (.int .i64 0) := by rw [HW.out]; simp [go_sem]
    have o2 : W.cell? ⟨w.heap.size + 3, 2, none⟩ = some (.int .i64 0) := by rw [HW.out]; simp [go_sem]
    have o3 : W.cell? ⟨w.heap.size + 3, 3, none⟩ = some (.slice none 0 0) := by rw [HW.out]; simp [go_sem]
    have ol : w.heap.size + 3 < W.heap.size := World.block_lt_of_cell? W _ o0
    try replace hr := up_of hB hr
    try replace hq := up_of hB hq
    try replace hq2 := up_of hB hq2
    go_upto_region 4 with (first | (go_at_call 61; refine (ha1.out _ hr hq).mono ?_; rintro e W1 ⟨rfl, hb⟩; (try replace hr := up_of hb hr); (try replace hq := up_of hb hq); (try replace hq2 := up_of hb hq2); (try replace hB := up_of hb hB); (try replace d0 := up_of hb d0); (try replace d1 := up_of hb d1); (try replace d2 := up_of hb d2); (try replace dl := up_of hb dl); (try replace g0 := up_of hb g0); (try replace g1 := up_of hb g1); (try replace g2 := up_of hb g2); (try replace g3 := up_of hb g3); (try replace gl := up_of hb gl); (try replace h0 := up_of hb h0); (try replace h1 := up_of hb h1); (try replace h2 := up_of hb h2); (try replace h3 := up_of hb h3); (try replace hl := up_of hb hl); (try replace oB := up_of hb oB); (try replace o0 := up_of hb o0); (try replace o1 := up_of hb o1); (try replace o2 := up_of hb o2); (try replace o3 := up_of hb o3); (try replace ol := up_of hb ol)))
    go_upto_region 7 with (first | (go_at_call 61; refine (ha2.out _ hr hq2).mono ?_; rintro e W1 ⟨rfl, hb⟩; (try replace hr := up_of hb hr); (try replace hq := up_of hb hq); (try replace hq2 := up_of hb hq2); (try replace hB := up_of hb hB); (try replace d0 := up_of hb d0); (try replace d1 := up_of hb d1); (try replace d2 := up_of hb d2); (try replace dl := up_of hb dl); (try replace g0 := up_of hb g0); (try replace g1 := up_of hb g1); (try replace g2 := up_of hb g2); (try replace g3 := up_of hb g3); (try replace gl := up_of hb gl); (try replace h0 := up_of hb h0); (try replace h1 := up_of hb h1); (try replace h2 := up_of hb h2); (try replace h3 := up_of hb h3); (try replace hl := up_of hb hl); (try replace oB := up_of hb oB); (try replace o0 := up_of hb o0); (try replace o1 := up_of hb o1); (try replace o2 := up_of hb o2); (try replace o3 := up_of hb o3); (try replace ol := up_of hb ol)))
    go_upto_region 8 with (first | (go_at_call 68; with_reducible refine (hg1.out _ hr hq).mono ?_; rintro e W1 ⟨rfl, hb⟩; (try replace hr := up_of hb hr); (try replace hq := up_of hb hq); (try replace hq2 := up_of hb hq2); (try replace hB := up_of hb hB); (try replace d0 := up_of hb d0); (try replace d1 := up_of hb d1); (try replace d2 := up_of hb d2); (try replace dl := up_of hb dl); (try replace g0 := up_of hb g0); (try replace g1 := up_of hb g1); (try replace g2 := up_of hb g2); (try replace g3 := up_of hb g3); (try replace gl := up_of hb gl); (try replace h0 := up_of hb h0); (try replace h1 := up_of hb h1); (try replace h2 := up_of hb h2); (try replace h3 := up_of hb h3); (try replace hl := up_of hb hl); (try replace oB := up_of hb oB); (try replace o0 := up_of hb o0); (try replace o1 := up_of hb o1); (try replace o2 := up_of hb o2); (try replace o3 := up_of hb o3); (try replace ol := up_of hb ol)) | (go_at_call 68; with_reducible refine (hg2.out _ hr hq2).mono ?_; rintro e W1 ⟨rfl, hb⟩; (try replace hr := up_of hb hr); (try replace hq := up_of hb hq); (try replace hq2 := up_of hb hq2); (try replace hB := up_of hb hB); (try replace d0 := up_of hb d0); (try replace d1 := up_of hb d1); (try replace d2 := up_of hb d2); (try replace dl := up_of hb dl); (try replace g0 := up_of hb g0); (try replace g1 := up_of hb g1); (try replace g2 := up_of hb g2); (try replace g3 := up_of hb g3); (try replace gl := up_of hb gl); (try replace h0 := up_of hb h0); (try replace h1 := up_of hb h1); (try replace h2 := up_of hb h2); (try replace h3 := up_of hb h3); (try replace hl := up_of hb hl); (try replace oB := up_of hb oB); (try replace o0 := up_of hb o0); (try replace o1 := up_of hb o1); (try replace o2 := up_of hb o2); (try replace o3 := up_of hb o3); (try replace ol := up_of hb ol)))
    have rf := fun i => Row.frozen oB i
    go_wp2
    refine sd_end rfl none 0 (b1 := w.heap.size + 3) rfl rfl ?_ SlS.nil ?_
    · refine Row.of ?_
      repeat (first | (with_reducible refine RowG.base oB ?_) | (with_reducible refine RowG.drew ?_) | (with_reducible refine RowG.set ?_) | ((with_reducible refine RowG.other ?_ ?_); (focus (first | omega | (simp; done) | (simp; omega)))) | (with_reducible refine RowG.alloc ?_))
      rfl
    · repeat (first | (with_reducible exact hB) | (with_reducible refine Below.drew ?_) | ((with_reducible refine Below.setC ?_ ?_); (focus (first | omega | (simp; done) | (simp; omega)))) | ((with_reducible refine Below.allo ?_ ?_); (focus (first | omega | (simp; done) | (simp; omega)))))
  rw [hb2] at hg2 h2
  simp only [if_true] at h2
  rw [h2, if_neg (by decide)] at hse
  have hpl := fun V => Plus_c q.f r.f V (by have := flat_abs qf; omega) (by have := flat_abs rfl9; omega)
  obtain ⟨B, hBe⟩ : ∃ x, fitB n K.length (addP q.f r.f) (addO K.length q.off r.off) = x := ⟨_, rfl⟩
  rw [hBe] at hse
  have hres := fun V g c (h : RecM V s l s2 cq K) (h1 : SlS intE V g (addO K.length q.off r.off)) (h2 : (addO K.length q.off r.off).length ≤ 9223372036854775807) => ended_r n s cap l s2 cq K (addP q.f r.f) (addO K.length q.off r.off) g c V h h1 h2 hBe
  rw [show (if sumE n l K q r = 0 then addP q.f r.f else ⟨0, 0, 0⟩) = if B then addP q.f r.f else ⟨0, 0, 0⟩ by rw [hse]; cases B <;> rfl, show (if sumE n l K q r = 0 then addO K.length q.off r.off else []) = if B then addO K.length q.off r.off else [] by rw [hse]; cases B <;> rfl, hse]
  obtain ⟨RF, hRF⟩ : ∃ x, (if B then addP q.f r.f else ⟨0, 0, 0⟩) = x := ⟨_, rfl⟩
  obtain ⟨RO, hRO⟩ : ∃ x, (if B then addO K.length q.off r.off else []) = x := ⟨_, rfl⟩
  obtain ⟨RE, hRE⟩ : ∃ x, (if B then (0 : Int) else 4) = x := ⟨_, rfl⟩
  simp only [hRF, hRO, hRE] at hres ⊢
  obtain ⟨AO, hAO, hol2, hfb⟩ : ∃ AO : List Int, addO K.length q.off r.off = AO ∧ AO.length = q.off.length ∧ ∀ v (h : v < AO.length) (h1 : v < q.off.length) (h2 : v < r.off.length), AO[v] = q.off[v] + r.off[v] ∧ 0 ≤ q.off[v] ∧ q.off[v] ≤ 1000 ∧ 0 ≤ r.off[v] ∧ r.off[v] ≤ 1000 := ⟨_, rfl, by unfold addO; rw [List.length_map, List.length_range, ql], fun v h h1 h2 => by
    have b1 := off_bd qo (List.getElem_mem h1)
    have b2 := off_bd ro (List.getElem_mem h2)
    refine ⟨?_, b1.1, b1.2, b2.1, b2.2⟩
    simp only [addO, List.getElem_map, List.getElem_range]
    rw [List.getD_eq_getElem?_getD, List.getD_eq_getElem?_getD, List.getElem?_eq_getElem h1, List.getElem?_eq_getElem h2]; rfl⟩
  obtain ⟨P, hP⟩ : ∃ x, addP q.f r.f = x := ⟨_, rfl⟩
  simp only [hAO, hP] at hres
  simp only [hP] at hpl
  have hq4 : q.off.length ≤ 4 := by omega
  have hr4 : r.off.length ≤ 4 := by omega
  have hqr : q.off.length = r.off.length := by omega
  clear hRF hRO hRE hse hBe h0 h1 h2 hAO hP qf qo rfl9 ro hrb hb1 hb2
  replace ha1 := Lib.hid ha1; replace ha2 := Lib.hid ha2; replace hg1 := Lib.hid hg1; replace hg2 := Lib.hid hg2; replace hpl := Lib.hid hpl; replace hres := Lib.hid hres; replace hol2 := Lib.hid hol2; replace hfb := Lib.hid hfb; replace ql := Lib.hid ql; replace rl := Lib.hid rl; replace hqr := Lib.hid hqr
  have hr0 := Lib.hid hr
  have hqo := hq.off; have hro := hq2.off
  obtain ⟨qs, hqs⟩ : ∃ x, q.s = x := ⟨_, rfl⟩
  simp only [hqs] at *
  clear hqs
  obtain ⟨rs, hrs⟩ : ∃ x, r.s = x := ⟨_, rfl⟩
  simp only [hrs] at *
  clear hrs
  have hqo0 := Lib.hid hqo; have hro0 := Lib.hid hro
  go_enter Try.func39, Try.ntmps39
  go_upto_region 1 with (fail)
  refine wp_world fun W HW => ?_
  have hB : Below w.heap.size w W := by rw [HW.out]; (repeat (first | exact Below.refl _ _ | refine Below.alloc ?_ (by simp; try omega) _ | refine Below.setCell ?_ (by simp) _ | refine Below.drew ?_))
  have dB : Row W (w.heap.size) 27 #[.int .i64 n, .slice s l.length cap, .slice s2 K.length cq] := (by rw [HW.out]; (repeat (first | (refine blk_new ?_; simp; done) | refine blk_old ?_ _)) : W.heap[w.heap.size]? = some (.cells #[.int .i64 n, .slice s l.length cap, .slice s2 K.length cq] 27 (0, 0)))
  have d0 : W.cell? ⟨w.heap.size, 0, none⟩ = some (.int .i64 n) := by rw [HW.out]; simp [go_sem]
  have d1 : W.cell? ⟨w.heap.size, 1, none⟩ = some (.slice s l.length cap) := by rw [HW.out]; simp [go_sem]
  have d2 : W.cell? ⟨w.heap.size, 2, none⟩ = some (.slice s2 K.length cq) := by rw [HW.out]; simp [go_sem]
  have dl : w.heap.size < W.heap.size := World.block_lt_of_cell? W _ d0
  have gB : Row W (w.heap.size + 1) 32 #[.int .i64 q.f.x, .int .i64 q.f.y, .int .i64 q.f.z, .slice qs q.off.length q.cap] := (by rw [HW.out]; (repeat (first | (refine blk_new ?_; simp; done) | refine blk_old ?_ _)) : W.heap[w.heap.size + 1]? = some (.cells #[.int .i64 q.f.x, .int .i64 q.f.y, .int .i64 q.f.z, .slice qs q.off.length q.cap] 32 (0, 0)))
  have g0 : W.cell? ⟨w.heap.size + 1, 0, none⟩ = some (.int .i64 q.f.x) := by rw [HW.out]; simp [go_sem]
  have g1 : W.cell? ⟨w.heap.size + 1, 1, none⟩ = some (.int .i64 q.f.y) := by rw [HW.out]; simp [go_sem]
  have g2 : W.cell? ⟨w.heap.size + 1, 2, none⟩ = some (.int .i64 q.f.z) := by rw [HW.out]; simp [go_sem]
  have g3 : W.cell? ⟨w.heap.size + 1, 3, none⟩ = some (.slice qs q.off.length q.cap) := by rw [HW.out]; simp [go_sem]
  have gl : w.heap.size + 1 < W.heap.size := World.block_lt_of_cell? W _ g0
  have vB : Row W (w.heap.size + 2) 32 #[.int .i64 r.f.x, .int .i64 r.f.y, .int .i64 r.f.z, .slice rs r.off.length r.cap] := (by rw [HW.out]; (repeat (first | (refine blk_new ?_; simp; done) | refine blk_old ?_ _)) : W.heap[w.heap.size + 2]? = some (.cells #[.int .i64 r.f.x, .int .i64 r.f.y, .int .i64 r.f.z, .slice rs r.off.length r.cap] 32 (0, 0)))
  have v0 : W.cell? ⟨w.heap.size + 2, 0, none⟩ = some (.int .i64 r.f.x) := by rw [HW.out]; simp [go_sem]
  have v1 : W.cell? ⟨w.heap.size + 2, 1, none⟩ = some (.int .i64 r.f.y) := by rw [HW.out]; simp [go_sem]
  have v2 : W.cell? ⟨w.heap.size + 2, 2, none⟩ = some (.int .i64 r.f.z) := by rw [HW.out]; simp [go_sem]
  have v3 : W.cell? ⟨w.heap.size + 2, 3, none⟩ = some (.slice rs r.off.length r.cap) := by rw [HW.out]; simp [go_sem]
  have vl : w.heap.size + 2 < W.heap.size := World.block_lt_of_cell? W _ v0
  have oB : Row W (w.heap.size + 3) 32 #[.int .i64 0, .int .i64 0, .int .i64 0, .slice none 0 0] := (by rw [HW.out]; (repeat (first | (refine blk_new ?_; simp; done) | refine blk_old ?_ _)) : W.heap[w.heap.size + 3]? = some (.cells #[.int .i64 0, .int .i64 0, .int .i64 0, .slice none 0 0] 32 (0, 0)))
  have o0 : W.cell? ⟨w.heap.size + 3, 0, none⟩ = some (.int .i64 0) := by rw [HW.out]; simp [go_sem]
  have o1 : W.cell? ⟨w.heap.size + 3, 1, none⟩ = some (.int .i64 0) := by rw [HW.out]; simp [go_sem]
  have o2 : W.cell? ⟨w.heap.size + 3, 2, none⟩ = some (.int .i64 0) := by rw [HW.out]; simp [go_sem]
  have o3 : W.cell? ⟨w.heap.size + 3, 3, none⟩ = some (.slice none 0 0) := by rw [HW.out]; simp [go_sem]
  have ol : w.heap.size + 3 < W.heap.size := World.block_lt_of_cell? W _ o0
  try replace hr := up_of hB hr
  try replace hq := up_of hB hq
  try replace hq2 := up_of hB hq2
  go_upto_region 4 with (first | (go_at_call 61; refine (ha1.out _ hr hq).mono ?_; rintro e W1 ⟨rfl, hb⟩; (try replace hr := up_of hb hr); (try replace hq := up_of hb hq); (try replace hq2 := up_of hb hq2); (try replace hB := up_of hb hB); (try replace dB := up_of hb dB); (try replace d0 := up_of hb d0); (try replace d1 := up_of hb d1); (try replace d2 := up_of hb d2); (try replace dl := up_of hb dl); (try replace gB := up_of hb gB); (try replace g0 := up_of hb g0); (try replace g1 := up_of hb g1); (try replace g2 := up_of hb g2); (try replace g3 := up_of hb g3); (try replace gl := up_of hb gl); (try replace vB := up_of hb vB); (try replace v0 := up_of hb v0); (try replace v1 := up_of hb v1); (try replace v2 := up_of hb v2); (try replace v3 := up_of hb v3); (try replace vl := up_of hb vl); (try replace oB := up_of hb oB); (try replace o0 := up_of hb o0); (try replace o1 := up_of hb o1); (try replace o2 := up_of hb o2); (try replace o3 := up_of hb o3); (try replace ol := up_of hb ol)))
  go_upto_region 7 with (first | (go_at_call 61; refine (ha2.out _ hr hq2).mono ?_; rintro e W1 ⟨rfl, hb⟩; (try replace hr := up_of hb hr); (try replace hq := up_of hb hq); (try replace hq2 := up_of hb hq2); (try replace hB := up_of hb hB); (try replace dB := up_of hb dB); (try replace d0 := up_of hb d0); (try replace d1 := up_of hb d1); (try replace d2 := up_of hb d2); (try replace dl := up_of hb dl); (try replace gB := up_of hb gB); (try replace g0 := up_of hb g0); (try replace g1 := up_of hb g1); (try replace g2 := up_of hb g2); (try replace g3 := up_of hb g3); (try replace gl := up_of hb gl); (try replace vB := up_of hb vB); (try replace v0 := up_of hb v0); (try replace v1 := up_of hb v1); (try replace v2 := up_of hb v2); (try replace v3 := up_of hb v3); (try replace vl := up_of hb vl); (try replace oB := up_of hb oB); (try replace o0 := up_of hb o0); (try replace o1 := up_of hb o1); (try replace o2 := up_of hb o2); (try replace o3 := up_of hb o3); (try replace ol := up_of hb ol)))
  go_upto_region 9 with (first | (go_at_call 68; with_reducible refine (hg1.out _ hr hq).mono ?_; rintro e W1 ⟨rfl, hb⟩; (try replace hr := up_of hb hr); (try replace hq := up_of hb hq); (try replace hq2 := up_of hb hq2); (try replace hB := up_of hb hB); (try replace dB := up_of hb dB); (try replace d0 := up_of hb d0); (try replace d1 := up_of hb d1); (try replace d2 := up_of hb d2); (try replace dl := up_of hb dl); (try replace gB := up_of hb gB); (try replace g0 := up_of hb g0); (try replace g1 := up_of hb g1); (try replace g2 := up_of hb g2); (try replace g3 := up_of hb g3); (try replace gl := up_of hb gl); (try replace vB := up_of hb vB); (try replace v0 := up_of hb v0); (try replace v1 := up_of hb v1); (try replace v2 := up_of hb v2); (try replace v3 := up_of hb v3); (try replace vl := up_of hb vl); (try replace oB := up_of hb oB); (try replace o0 := up_of hb o0); (try replace o1 := up_of hb o1); (try replace o2 := up_of hb o2); (try replace o3 := up_of hb o3); (try replace ol := up_of hb ol)) | (go_at_call 68; with_reducible refine (hg2.out _ hr hq2).mono ?_; rintro e W1 ⟨rfl, hb⟩; (try replace hr := up_of hb hr); (try replace hq := up_of hb hq); (try replace hq2 := up_of hb hq2); (try replace hB := up_of hb hB); (try replace dB := up_of hb dB); (try replace d0 := up_of hb d0); (try replace d1 := up_of hb d1); (try replace d2 := up_of hb d2); (try replace dl := up_of hb dl); (try replace gB := up_of hb gB); (try replace g0 := up_of hb g0); (try replace g1 := up_of hb g1); (try replace g2 := up_of hb g2); (try replace g3 := up_of hb g3); (try replace gl := up_of hb gl); (try replace vB := up_of hb vB); (try replace v0 := up_of hb v0); (try replace v1 := up_of hb v1); (try replace v2 := up_of hb v2); (try replace v3 := up_of hb v3); (try replace vl := up_of hb vl); (try replace oB := up_of hb oB); (try replace o0 := up_of hb o0); (try replace o1 := up_of hb o1); (try replace o2 := up_of hb o2); (try replace o3 := up_of hb o3); (try replace ol := up_of hb ol)))
  go_upto_region 10 with (first | (go_at_call 54; refine (hpl.out _).mono ?_; rintro e W9 ⟨rfl, hb⟩; (try replace hr := up_of hb hr); (try replace hq := up_of hb hq); (try replace hq2 := up_of hb hq2); (try replace hB := up_of hb hB); (try replace dB := up_of hb dB); (try replace d0 := up_of hb d0); (try replace d1 := up_of hb d1); (try replace d2 := up_of hb d2); (try replace dl := up_of hb dl); (try replace gB := up_of hb gB); (try replace g0 := up_of hb g0); (try replace g1 := up_of hb g1); (try replace g2 := up_of hb g2); (try replace g3 := up_of hb g3); (try replace gl := up_of hb gl); (try replace vB := up_of hb vB); (try replace v0 := up_of hb v0); (try replace v1 := up_of hb v1); (try replace v2 := up_of hb v2); (try replace v3 := up_of hb v3); (try replace vl := up_of hb vl); (try replace oB := up_of hb oB); (try replace o0 := up_of hb o0); (try replace o1 := up_of hb o1); (try replace o2 := up_of hb o2); (try replace o3 := up_of hb o3); (try replace ol := up_of hb ol)))
  have hw9 := ol
  have hW9 := hB.size
  refine wp_world fun X HX => ?_
  have hX : Below W9.heap.size W9 X := by rw [HX.out]; (repeat (first | exact Below.refl _ _ | refine Below.alloc ?_ (by simp; try omega) _ | refine Below.setCell ?_ (by simp) _ | refine Below.drew ?_))
  have tB : Row X (W9.heap.size) 32 #[.int .i64 P.x, .int .i64 P.y, .int .i64 P.z, .slice none 0 0] := (by rw [HX.out]; (repeat (first | (refine blk_new ?_; simp; done) | refine blk_old ?_ _)) : X.heap[W9.heap.size]? = some (.cells #[.int .i64 P.x, .int .i64 P.y, .int .i64 P.z, .slice none 0 0] 32 (0, 0)))
  have t0 : X.cell? ⟨W9.heap.size, 0, none⟩ = some (.int .i64 P.x) := by rw [HX.out]; simp [go_sem]
  have t1 : X.cell? ⟨W9.heap.size, 1, none⟩ = some (.int .i64 P.y) := by rw [HX.out]; simp [go_sem]
  have t2 : X.cell? ⟨W9.heap.size, 2, none⟩ = some (.int .i64 P.z) := by rw [HX.out]; simp [go_sem]
  have t3 : X.cell? ⟨W9.heap.size, 3, none⟩ = some (.slice none 0 0) := by rw [HX.out]; simp [go_sem]
  have tl : W9.heap.size < X.heap.size := World.block_lt_of_cell? X _ t0
  try replace hr := up_of hX hr
  try replace hq := up_of hX hq
  try replace hq2 := up_of hX hq2
  try replace hB := up_of hX hB
  try replace dB := up_of hX dB
  try replace d0 := up_of hX d0
  try replace d1 := up_of hX d1
  try replace d2 := up_of hX d2
  try replace dl := up_of hX dl
  try replace gB := up_of hX gB
  try replace g0 := up_of hX g0
  try replace g1 := up_of hX g1
  try replace g2 := up_of hX g2
  try replace g3 := up_of hX g3
  try replace gl := up_of hX gl
  try replace vB := up_of hX vB
  try replace v0 := up_of hX v0
  try replace v1 := up_of hX v1
  try replace v2 := up_of hX v2
  try replace v3 := up_of hX v3
  try replace vl := up_of hX vl
  try replace oB := up_of hX oB
  try replace o0 := up_of hX o0
  try replace o1 := up_of hX o1
  try replace o2 := up_of hX o2
  try replace o3 := up_of hX o3
  try replace ol := up_of hX ol
  have hX0 : X.ownsRow X.heap.size 3 1 (.slice none 0 0) 0 (intE.all (AO.take 0)) := World.ownsRow_nil _ _ _ _
  have hXs : Hid (X.heap.size = W9.heap.size + 1) := by rw [HX.out]; exact Lib.hid (by simp)
  go_wp2
  go_loopw [46] (fun ii V => ∃ (k : Nat) (v : Value), k ≤ q.off.length ∧ ii = .int .i64 k ∧ Row V W9.heap.size 32 #[.int .i64 P.x, .int .i64 P.y, .int .i64 P.z, v] ∧ V.ownsRow X.heap.size 3 1 v k (intE.all (AO.take k)) ∧ Row V w.heap.size 27 #[.int .i64 n, .slice s l.length cap, .slice s2 K.length cq] ∧ Row V (w.heap.size + 1) 32 #[.int .i64 q.f.x, .int .i64 q.f.y, .int .i64 q.f.z, .slice qs q.off.length q.cap] ∧ Row V (w.heap.size + 2) 32 #[.int .i64 r.f.x, .int .i64 r.f.y, .int .i64 r.f.z, .slice rs r.off.length r.cap] ∧ Row V (w.heap.size + 3) 32 #[.int .i64 0, .int .i64 0, .int .i64 0, .slice none 0 0] ∧ Below w.heap.size w V ∧ X.heap.size ≤ V.heap.size) (fun ii _ => q.off.length - (intOf ii).toNat)
  case atStart => exact ⟨0, _, by omega, rfl, tB, hX0, dB, gB, vB, oB, hB, Nat.le_refl _⟩
  case round =>
    clear hX0 tB dB gB vB oB hB hX hqo hro hr hq hq2 d0 d1 d2 g0 g1 g2 g3 v0 v1 v2 v3 o0 o1 o2 o3 t0 t1 t2 t3
    obtain ⟨k, v, hk, rfl, tB, hown, dB, gB, vB, oB, hB, hXV⟩ := hrel
    obtain ⟨sv, cv, rfl, -⟩ := owns_shape hown
    obtain ⟨t0, t1, t2, t3⟩ := tB.four
    by_cases hlt : k < q.off.length
    · have hlt2 : k < r.off.length := by have := hqr.out; omega
      have hlt3 : k < AO.length := by have := hol2.out; omega
      obtain ⟨bq, oq, eq, hbq, y0⟩ := (up_of hB hqo0.out).int_at hlt
      cases eq
      obtain ⟨br, or9, er, hbr, z0⟩ := (up_of hB hro0.out).int_at hlt2
      cases er
      obtain ⟨bq1, oq1, eq1, hbq1, -⟩ := hqo0.out.int_at hlt
      cases eq1
      obtain ⟨br1, or1, er1, hbr1, -⟩ := hro0.out.int_at hlt2
      cases er1
      obtain ⟨f1, f2, f3, f4, f5⟩ := hfb.out k hlt3 hlt hlt2
      have htk : AO.take (k + 1) = AO.take k ++ [AO[k]] := List.take_succ_eq_append_getElem hlt3
      obtain ⟨x1, hx1⟩ : ∃ x, q.off[k] = x := ⟨_, rfl⟩
      obtain ⟨x2, hx2⟩ : ∃ x, r.off[k] = x := ⟨_, rfl⟩
      obtain ⟨y1, hy1⟩ : ∃ x, AO[k] = x := ⟨_, rfl⟩
      rw [hx1] at y0 f1 f2 f3
      rw [hx2] at z0 f1 f4 f5
      rw [hy1] at f1 htk
      have ws1 : IntKind.i64.wrap (x1 + x2) = y1 := by rw [f1, i64_small (by omega)]
      have ws2 : wrap64 (x1 + x2) = y1 := by rw [f1]; unfold wrap64; omega
      obtain ⟨g0, g1, g2, g3⟩ := gB.four
      obtain ⟨v0, v1, v2, v3⟩ := vB.four
      have hrb : ∀ g, Value.ownBlock (.slice sv k cv) = some g → X.heap.size ≤ g := fun g e => (hown.lt g e).1
      have rf := fun i => Row.frozen tB i
      have i1 : (0 : Int) ≤ (k : Int) := by omega
      have i2 : (k : Int) < (q.off.length : Int) := by omega
      have i3 : (k : Int) < (r.off.length : Int) := by omega
      have htl := tB.lt
      replace htk := Lib.hid htk; replace f1 := Lib.hid f1; replace hx1 := Lib.hid hx1; replace hx2 := Lib.hid hx2; replace hy1 := Lib.hid hy1; replace hrb := Lib.hid hrb
      obtain ⟨i0, hi0, hz0, hz1, hz2⟩ := info_parts info_int
      go_upto_region 13 with (fail)
      refine wpL.region (m := 16) (S := fun V => V.cell? ⟨W9.heap.size, 3, none⟩ = some (.slice sv k cv) ∧ V.cell? ⟨w.heap.size + 1, 3, none⟩ = some (.slice (some ⟨bq, oq, none⟩) q.off.length q.cap) ∧ V.cell? ⟨bq, oq + k, none⟩ = some (.int .i64 x1) ∧ V.cell? ⟨w.heap.size + 2, 3, none⟩ = some (.slice (some ⟨br, or9, none⟩) r.off.length r.cap) ∧ V.cell? ⟨br, or9 + k, none⟩ = some (.int .i64 x2)) (by kernel_rfl) ?_ (fun hHeld => ?_)
      (focus ((first | exact ⟨t3, g3, y0, v3, z0⟩ | ((first | (with_reducible exact ⟨t3, g3, y0, v3, z0⟩) | ((try dsimp only); (repeat' apply And.intro) <;> (repeat (first | (with_reducible assumption) | (with_reducible refine cell_set (by simp; try omega) ?_) | (with_reducible refine cell_drew ?_) | (with_reducible refine cell_alloc ?_ _))))))); done))
      refine wpL.take' (i := 0) rfl (by kernel_rfl) (by kernel_rfl) (by kernel_rfl) (by kernel_rfl) (by decide) (by kernel_rfl) (by assumption) ?_
      apply Exists.intro; refine ⟨fun _ _ _ h => h, Or.inl ⟨by rfl, fun V hV => ?_⟩, ?_⟩
      (focus ((try dsimp only at hV); go_simp; (try (with_reducible rfl)); done))
      try simp only [Act.put, List.setIfInBounds_toArray, List.set_cons_zero, List.set_cons_succ]
      refine wpL.take' (i := 1) rfl (by kernel_rfl) (by kernel_rfl) (by kernel_rfl) (by kernel_rfl) (by decide) (by kernel_rfl) (by assumption) ?_
      apply Exists.intro; refine ⟨fun _ _ _ h => h, Or.inl ⟨by rfl, fun V hV => ?_⟩, ?_⟩
      (focus ((try dsimp only at hV); go_simp; (try (with_reducible rfl)); done))
      try simp only [Act.put, List.setIfInBounds_toArray, List.set_cons_zero, List.set_cons_succ]
      refine wpL.take' (i := 2) rfl (by kernel_rfl) (by kernel_rfl) (by kernel_rfl) (by kernel_rfl) (by decide) (by kernel_rfl) (by assumption) ?_
      apply Exists.intro; refine ⟨fun _ _ _ h => h, Or.inl ⟨by rfl, fun V hV => ?_⟩, ?_⟩
      (focus ((try dsimp only at hV); go_simp; (try (with_reducible rfl)); done))
      try simp only [Act.put, List.setIfInBounds_toArray, List.set_cons_zero, List.set_cons_succ]
      refine wpL.take' (i := 3) rfl (by kernel_rfl) (by kernel_rfl) (by kernel_rfl) (by kernel_rfl) (by decide) (by kernel_rfl) (by assumption) ?_
      apply Exists.intro; refine ⟨fun _ _ _ h => h, Or.inl ⟨by rfl, fun V hV => ?_⟩, ?_⟩
      (focus ((try dsimp only at hV); go_simp; (try (with_reducible rfl)); done))
      try simp only [Act.put, List.setIfInBounds_toArray, List.set_cons_zero, List.set_cons_succ]
      refine wpL.take' (i := 4) rfl (by kernel_rfl) (by kernel_rfl) (by kernel_rfl) (by kernel_rfl) (by decide) (by kernel_rfl) (by assumption) ?_
      apply Exists.intro; refine ⟨fun _ _ _ h => h, Or.inl ⟨by rfl, fun V hV => ?_⟩, ?_⟩
      (focus ((try dsimp only at hV); go_simp; (try (with_reducible rfl)); done))
      try simp only [Act.put, List.setIfInBounds_toArray, List.set_cons_zero, List.set_cons_succ]
      refine wpL.take' (i := 5) rfl (by kernel_rfl) (by kernel_rfl) (by kernel_rfl) (by kernel_rfl) (by decide) (by kernel_rfl) (by assumption) ?_
      apply Exists.intro; refine ⟨fun _ _ _ h => h, Or.inl ⟨by rfl, fun V hV => ?_⟩, ?_⟩
      (focus ((try dsimp only at hV); go_simp; (try (with_reducible rfl)); done))
      try simp only [Act.put, List.setIfInBounds_toArray, List.set_cons_zero, List.set_cons_succ]
      refine wpL.take' (i := 6) rfl (by kernel_rfl) (by kernel_rfl) (by kernel_rfl) (by kernel_rfl) (by decide) (by kernel_rfl) (by assumption) ?_
      apply Exists.intro; refine ⟨fun _ _ _ h => h, Or.inl ⟨by rfl, fun V hV => ?_⟩, ?_⟩
      (focus ((try dsimp only at hV); go_simp; (try (with_reducible rfl)); done))
      try simp only [Act.put, List.setIfInBounds_toArray, List.set_cons_zero, List.set_cons_succ]
      refine wpL.take' (i := 7) rfl (by kernel_rfl) (by kernel_rfl) (by kernel_rfl) (by kernel_rfl) (by decide) (by kernel_rfl) (by assumption) ?_
      apply Exists.intro; refine ⟨fun _ _ _ h => h, Or.inl ⟨by rfl, fun V hV => ?_⟩, ?_⟩
      (focus ((try dsimp only at hV); go_simp; (try (with_reducible rfl)); done))
      try simp only [Act.put, List.setIfInBounds_toArray, List.set_cons_zero, List.set_cons_succ]
      refine wpL.take' (i := 8) rfl (by kernel_rfl) (by kernel_rfl) (by kernel_rfl) (by kernel_rfl) (by decide) (by kernel_rfl) (by assumption) ?_
      apply Exists.intro; refine ⟨fun _ _ _ h => h, Or.inl ⟨by rfl, fun V hV => ?_⟩, ?_⟩
      (focus ((try dsimp only at hV); go_simp; (try (with_reducible rfl)); done))
      try simp only [Act.put, List.setIfInBounds_toArray, List.set_cons_zero, List.set_cons_succ]
      refine wpL.take' (i := 9) rfl (by kernel_rfl) (by kernel_rfl) (by kernel_rfl) (by kernel_rfl) (by decide) (by kernel_rfl) (by assumption) ?_
      apply Exists.intro; refine ⟨fun _ _ _ h => h, Or.inl ⟨by rfl, fun V hV => ?_⟩, ?_⟩
      (focus ((try dsimp only at hV); go_simp; (try (with_reducible rfl)); done))
      try simp only [Act.put, List.setIfInBounds_toArray, List.set_cons_zero, List.set_cons_succ]
      refine wpL.take' (i := 10) rfl (by kernel_rfl) (by kernel_rfl) (by kernel_rfl) (by kernel_rfl) (by decide) (by kernel_rfl) (by assumption) ?_
      apply Exists.intro; refine ⟨fun _ _ _ h => h, Or.inl ⟨by rfl, fun V hV => ?_⟩, ?_⟩
      (focus ((try dsimp only at hV); go_simp; (try (with_reducible rfl)); done))
      try simp only [Act.put, List.setIfInBounds_toArray, List.set_cons_zero, List.set_cons_succ]
      refine wpL.take' (i := 11) rfl (by kernel_rfl) (by kernel_rfl) (by kernel_rfl) (by kernel_rfl) (by decide) (by kernel_rfl) (by assumption) ?_
      apply Exists.intro; refine ⟨fun _ _ _ h => h, Or.inl ⟨by rfl, fun V hV => ?_⟩, ?_⟩
      (focus ((try dsimp only at hV); go_simp; (try (with_reducible rfl)); done))
      try simp only [Act.put, List.setIfInBounds_toArray, List.set_cons_zero, List.set_cons_succ]
      refine wpL.take' (i := 12) rfl (by kernel_rfl) (by kernel_rfl) (by kernel_rfl) (by kernel_rfl) (by decide) (by kernel_rfl) (by assumption) ?_
      apply Exists.intro; refine ⟨fun _ _ _ h => h, Or.inl ⟨by rfl, fun V hV => ?_⟩, ?_⟩
      (focus ((try dsimp only at hV); go_simp; (try (with_reducible rfl)); done))
      try simp only [Act.put, List.setIfInBounds_toArray, List.set_cons_zero, List.set_cons_succ]
      refine wpL.one (i := 13) (by kernel_rfl) rfl fun K hK => ?_
      rw [if_pos (by rfl)]
      go_simp
      try clear hHeld
      refine hK.out _ _ ?_ (fun hHeld => ?_)
      (focus ((first | exact ⟨t3, g3, y0, v3, z0⟩ | ((first | (with_reducible exact ⟨t3, g3, y0, v3, z0⟩) | ((try dsimp only); (repeat' apply And.intro) <;> (repeat (first | (with_reducible assumption) | (with_reducible refine cell_set (by simp; try omega) ?_) | (with_reducible refine cell_drew ?_) | (with_reducible refine cell_alloc ?_ _))))))); done))
      clear hK K
      try simp only [Act.put, List.setIfInBounds_toArray, List.set_cons_zero, List.set_cons_succ]
      refine wpL.one (i := 14) (by kernel_rfl) rfl fun K hK => ?_
      ((first | (refine step_append_lies _ (by rfl) _ _ 30 (by rfl) X.heap.size 3 i0 (.int .i64 0) 1 8 Try.underlying30 hi0 hz0 hz1 hz2 rfl (by decide) _ _ _ (by rfl) (hown.alloc _) ⟨wr.heap.size, 0, none⟩ 1 1 [.int .i64 y1] (by rfl) (by rfl) (news_new _ _ _) (by simp [Value.oneCell']) (by decide) (by unfold maxLen; omega) (by omega) (by first | omega | (simp; omega)) (wr.heap.size + 1) (by simp) ?_; intro gg cap1 w1 hown1 hgrow hat hlt2; have hB1 := ((hB.alloc hB.size _).drew).grown hgrow (by have := hB.size; first | omega | (simp; omega)) (fun g e => by have := hrb.out g e; omega); replace g3 := cell_appD hgrow g3 (fun g e => by have := hrb.out g e; omega); replace v3 := cell_appD hgrow v3 (fun g e => by have := hrb.out g e; omega); replace t3 := cell_appD hgrow t3 (fun g e => by have := hrb.out g e; omega); replace y0 := cell_appD hgrow y0 (fun g e => by have := hrb.out g e; omega); replace z0 := cell_appD hgrow z0 (fun g e => by have := hrb.out g e; omega); replace dB := grown_rowD hgrow hown (by have := hXs.out; omega) dB; replace gB := grown_rowD hgrow hown (by have := hXs.out; omega) gB; replace vB := grown_rowD hgrow hown (by have := hXs.out; omega) vB; replace oB := grown_rowD hgrow hown (by have := hXs.out; omega) oB; replace tB := grown_rowD hgrow hown (by have := hXs.out; omega) tB; have rf := fun i => Row.frozen tB i)))
      try clear hHeld
      refine hK.out _ _ ?_ (fun hHeld => ?_)
      (focus ((first | exact ⟨t3, g3, y0, v3, z0⟩ | ((first | (with_reducible exact ⟨t3, g3, y0, v3, z0⟩) | ((try dsimp only); (repeat' apply And.intro) <;> (repeat (first | (with_reducible assumption) | (with_reducible refine cell_set (by simp; try omega) ?_) | (with_reducible refine cell_drew ?_) | (with_reducible refine cell_alloc ?_ _))))))); done))
      clear hK K
      try simp only [Act.put, List.setIfInBounds_toArray, List.set_cons_zero, List.set_cons_succ]
      refine wpL.take' (i := 15) rfl (by kernel_rfl) (by kernel_rfl) (by kernel_rfl) (by kernel_rfl) (by decide) (by kernel_rfl) (by assumption) ?_
      apply Exists.intro; refine ⟨fun _ _ _ h => h, Or.inl ⟨by rfl, fun V hV => ?_⟩, ?_⟩
      (focus ((try dsimp only at hV); go_simp; (try (with_reducible rfl)); done))
      try simp only [Act.put, List.setIfInBounds_toArray, List.set_cons_zero, List.set_cons_succ]
      refine wpL.last (by kernel_rfl) (by kernel_rfl) rfl fun K hK => ?_
      rw [if_pos (by rfl)]
      go_simp
      refine hK.out _ _ (wpL.fin (by kernel_rfl) ?_ _)
      clear hK K
      try simp only [Act.put, List.setIfInBounds_toArray, List.set_cons_zero, List.set_cons_succ]
      all_goals
        go_wp2
        go_roundw
        case rel =>
          refine ⟨k + 1, .slice (some ⟨gg, 0, none⟩) (k + 1) cap1, by omega, rfl, ?_, ?_, ?_, ?_, ?_, ?_, ?_, ?_⟩
          · refine Row.of ?_
            repeat (first | (with_reducible refine RowG.base tB ?_) | (with_reducible refine RowG.drew ?_) | (with_reducible refine RowG.set ?_) | ((with_reducible refine RowG.other ?_ ?_); (focus (first | omega | (simp; done) | (simp; omega)))) | (with_reducible refine RowG.alloc ?_))
            rfl
          · refine ownsRow_setCell_below (by rw [htk.out, int_snoc]; exact hown1) (by have := hXs.out; simp; omega) _
          · refine Row.of ?_
            repeat (first | (with_reducible refine RowG.base dB ?_) | (with_reducible refine RowG.drew ?_) | (with_reducible refine RowG.set ?_) | ((with_reducible refine RowG.other ?_ ?_); (focus (first | omega | (simp; done) | (simp; omega)))) | (with_reducible refine RowG.alloc ?_))
            rfl
          · refine Row.of ?_
            repeat (first | (with_reducible refine RowG.base gB ?_) | (with_reducible refine RowG.drew ?_) | (with_reducible refine RowG.set ?_) | ((with_reducible refine RowG.other ?_ ?_); (focus (first | omega | (simp; done) | (simp; omega)))) | (with_reducible refine RowG.alloc ?_))
            rfl
          · refine Row.of ?_
            repeat (first | (with_reducible refine RowG.base vB ?_) | (with_reducible refine RowG.drew ?_) | (with_reducible refine RowG.set ?_) | ((with_reducible refine RowG.other ?_ ?_); (focus (first | omega | (simp; done) | (simp; omega)))) | (with_reducible refine RowG.alloc ?_))
            rfl
          · refine Row.of ?_
            repeat (first | (with_reducible refine RowG.base oB ?_) | (with_reducible refine RowG.drew ?_) | (with_reducible refine RowG.set ?_) | ((with_reducible refine RowG.other ?_ ?_); (focus (first | omega | (simp; done) | (simp; omega)))) | (with_reducible refine RowG.alloc ?_))
            rfl
          · repeat (first | (with_reducible exact hB1) | (with_reducible refine Below.drew ?_) | ((with_reducible refine Below.setC ?_ ?_); (focus (first | omega | (simp; done) | (simp; omega)))) | ((with_reducible refine Below.allo ?_ ?_); (focus (first | omega | (simp; done) | (simp; omega)))))
          · have := hgrow.size; simp at this ⊢; omega
        case measure => exact meas hlt
    · obtain rfl : k = q.off.length := by omega
      have htk : AO.take q.off.length = AO := by rw [← hol2.out, List.take_length]
      rw [htk] at hown
      rw [← hol2.out] at hown tB
      clear t0 t1 t2 t3
      obtain ⟨t0, t1, t2, t3⟩ := tB.four
      obtain ⟨d0, d1, d2⟩ := dB.three
      obtain ⟨o0, o1, o2, o3⟩ := oB.four
      have ol5 := oB.lt
      have hrV := up_of hB hr0.out
      have hsd := SlS.of_own (E := intE) hown
      have hsl : AO.length ≤ 9223372036854775807 := by have := hol2.out; omega
      clear htk
      go_wp2_with (first | (go_at_call 87; refine (hres.out _ _ cv hrV hsd hsl).mono ?_; rintro e W8 ⟨⟨SS, CC, rfl, hSS⟩, hb9⟩; (try replace oB := up_of hb9 oB); (try replace o0 := up_of hb9 o0); (try replace o1 := up_of hb9 o1); (try replace o2 := up_of hb9 o2); (try replace o3 := up_of hb9 o3); (try replace ol5 := up_of hb9 ol5); (try replace hB := up_of hb9 hB); (try replace hown := up_of hb9 hown); have rf := fun i => Row.frozen oB i))
      have hown2 := fun a1 a2 a3 a4 => ownsRow_setCell_below (ownsRow_setCell_below (ownsRow_setCell_below (ownsRow_setCell_below hown (a := ⟨w.heap.size + 3, 0, none⟩) (by simp; have := hXs.out; omega) a1) (a := ⟨w.heap.size + 3, 1, none⟩) (by simp; have := hXs.out; omega) a2) (a := ⟨w.heap.size + 3, 2, none⟩) (by simp; have := hXs.out; omega) a3) (a := ⟨w.heap.size + 3, 3, none⟩) (by simp; have := hXs.out; omega) a4
      refine sd_end rfl SS CC (b1 := w.heap.size + 3) rfl rfl ?_ ?_ ?_
      · refine Row.of ?_
        repeat (first | (with_reducible refine RowG.base oB ?_) | (with_reducible refine RowG.drew ?_) | (with_reducible refine RowG.set ?_) | ((with_reducible refine RowG.other ?_ ?_); (focus (first | omega | (simp; done) | (simp; omega)))) | (with_reducible refine RowG.alloc ?_))
        rfl
      · exact hSS _ (SlS.of_own (E := intE) (hown2 _ _ _ _))
      · repeat (first | (with_reducible exact hB) | (with_reducible refine Below.drew ?_) | ((with_reducible refine Below.setC ?_ ?_); (focus (first | omega | (simp; done) | (simp; omega)))) | ((with_reducible refine Below.allo ?_ ?_); (focus (first | omega | (simp; done) | (simp; omega)))))
end Go.Proofs.Ytbpdgoedglkefaa
