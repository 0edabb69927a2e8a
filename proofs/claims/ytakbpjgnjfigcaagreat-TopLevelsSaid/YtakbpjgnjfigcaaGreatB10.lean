/- Several texts in one: each says what it proves. -/
import Derived.Test.YtakbpjgnjfigcaaGreatB7
/- First values, sums of points: the program. -/
namespace Go.Proofs.YtakbpjgnjfigcaaGreat
open Go.RowKit Go.Maps

set_option maxRecDepth 100000 in
theorem modulo_c (n : Int) (w : World) (hn : n.natAbs ≤ 1000000000000) : Calls Tryz.prog 91 #[.int .i64 n] w fun e w' => e = .returned (.int .i64 (n % 10007)) ∧ w = w' := by
  have h1 := mod_law n
  have h0 : (n.tmod 10007).natAbs < 10007 := by
    rw [Int.natAbs_tmod]; exact Nat.mod_lt _ (by decide)
  obtain ⟨t, ht⟩ : ∃ t, n.tmod 10007 = t := ⟨_, rfl⟩
  obtain ⟨r, hr⟩ : ∃ r, n % 10007 = r := ⟨_, rfl⟩
  rw [ht, hr] at h1
  rw [ht] at h0
  have h2 : IntKind.i64.wrap (t + 10007) = t + 10007 := i64_small (by omega)
  have h3 : wrap64 (t + 10007) = t + 10007 := by unfold wrap64; omega
  have h4 : IntKind.i64.wrap t = t := i64_small (by omega)
  have h5 : wrap64 t = t := by unfold wrap64; omega
  have h6 : IntKind.i64.wrap r = r := i64_small (by omega)
  have h7 : wrap64 r = r := by unfold wrap64; omega
  rw [hr]
  clear hr hn h0
  go_enter Tryz.func91, Tryz.ntmps91
  go_wp2
  go_ret
  exact ⟨rfl, rfl⟩
set_option maxRecDepth 100000 in
set_option maxHeartbeats 1000000 in
theorem plus_c (p q : Pt) (w : World) (hp : p.small 100000) (hq : q.small 100000) :
    Calls Tryz.prog 121 #[.agg #[.int .i64 p.x, .int .i64 p.y, .int .i64 p.z], .agg #[.int .i64 q.x, .int .i64 q.y, .int .i64 q.z]] w fun e w' => e = .returned (.agg #[.int .i64 (ptP p q).x, .int .i64 (ptP p q).y, .int .i64 (ptP p q).z]) ∧ Below w.heap.size w w' := by
  obtain ⟨p1, p2, p3⟩ := hp
  obtain ⟨q1, q2, q3⟩ := hq
  have t1 : IntKind.i64.wrap (p.x + q.x) = p.x + q.x := i64_small (by omega)
  have t2 : IntKind.i64.wrap (p.y + q.y) = p.y + q.y := i64_small (by omega)
  have t3 : IntKind.i64.wrap (p.z + q.z) = p.z + q.z := i64_small (by omega)
  have u1 : wrap64 (p.x + q.x) = p.x + q.x := by unfold wrap64; omega
  have u2 : wrap64 (p.y + q.y) = p.y + q.y := by unfold wrap64; omega
  have u3 : wrap64 (p.z + q.z) = p.z + q.z := by unfold wrap64; omega
  have j0 := ix0 (.int .i64 q.x) (.int .i64 q.y) (.int .i64 q.z)
  have j1 := ix1 (.int .i64 q.x) (.int .i64 q.y) (.int .i64 q.z)
  have j2 := ix2 (.int .i64 q.x) (.int .i64 q.y) (.int .i64 q.z)
  clear p1 p2 p3 q1 q2 q3
  go_enter Tryz.func121, Tryz.ntmps121
  go_upto_region 1 with (fail)
  refine wp_world fun W HW => ?_
  have hB : Below w.heap.size w W := by rw [HW.out]; (repeat (first | exact Below.refl _ _ | refine Below.alloc ?_ (by simp; try omega) _ | refine Below.setCell ?_ (by simp) _ | refine Below.drew ?_))
  have pB : Row W (w.heap.size) 30 #[.int .i64 p.x, .int .i64 p.y, .int .i64 p.z] := (by rw [HW.out]; (repeat (first | (refine blk_new ?_; simp; done) | refine blk_old ?_ _)) : W.heap[w.heap.size]? = some (.cells #[.int .i64 p.x, .int .i64 p.y, .int .i64 p.z] 30 (0, 0)))
  have p0 : W.cell? ⟨w.heap.size, 0, none⟩ = some (.int .i64 p.x) := by rw [HW.out]; simp [go_sem]
  have p1 : W.cell? ⟨w.heap.size, 1, none⟩ = some (.int .i64 p.y) := by rw [HW.out]; simp [go_sem]
  have p2 : W.cell? ⟨w.heap.size, 2, none⟩ = some (.int .i64 p.z) := by rw [HW.out]; simp [go_sem]
  have pl : w.heap.size < W.heap.size := World.block_lt_of_cell? W _ p0
  have q0 : W.cell? ⟨w.heap.size + 1, 0, none⟩ = some (.int .i64 q.x) := by rw [HW.out]; simp [go_sem]
  have q1 : W.cell? ⟨w.heap.size + 1, 1, none⟩ = some (.int .i64 q.y) := by rw [HW.out]; simp [go_sem]
  have q2 : W.cell? ⟨w.heap.size + 1, 2, none⟩ = some (.int .i64 q.z) := by rw [HW.out]; simp [go_sem]
  have ql : w.heap.size + 1 < W.heap.size := World.block_lt_of_cell? W _ q0
  have rB : Row W (w.heap.size + 2) 30 #[.int .i64 0, .int .i64 0, .int .i64 0] := (by rw [HW.out]; (repeat (first | (refine blk_new ?_; simp; done) | refine blk_old ?_ _)) : W.heap[w.heap.size + 2]? = some (.cells #[.int .i64 0, .int .i64 0, .int .i64 0] 30 (0, 0)))
  have r0 : W.cell? ⟨w.heap.size + 2, 0, none⟩ = some (.int .i64 0) := by rw [HW.out]; simp [go_sem]
  have r1 : W.cell? ⟨w.heap.size + 2, 1, none⟩ = some (.int .i64 0) := by rw [HW.out]; simp [go_sem]
  have r2 : W.cell? ⟨w.heap.size + 2, 2, none⟩ = some (.int .i64 0) := by rw [HW.out]; simp [go_sem]
  have rl : w.heap.size + 2 < W.heap.size := World.block_lt_of_cell? W _ r0
  have rf := fun i => Row.frozen rB i
  have pf := fun i => Row.frozen pB i
  go_wp2
  refine wp_loop_rounds 4 ?_
  rw [rounds_succ]
  go_wp2
  rw [rounds_succ]
  go_wp2
  rw [rounds_succ]
  go_wp2
  rw [rounds_succ]
  go_wp2
  refine bodyPost_ret (resC1 rfl rfl (loadPt (cs := #[.int .i64 (ptP p q).x, .int .i64 (ptP p q).y, .int .i64 (ptP p q).z]) (b1 := w.heap.size + 2) ?_ rfl)) rfl ⟨rfl, ?_⟩
  · refine Row.of ?_
    repeat (first | (with_reducible refine RowG.base rB ?_) | (with_reducible refine RowG.drew ?_) | (with_reducible refine RowG.set ?_) | ((with_reducible refine RowG.other ?_ ?_); (focus (first | omega | (simp; done) | (simp; omega)))) | (with_reducible refine RowG.alloc ?_))
    rfl
  · repeat (first | (with_reducible exact hB) | (with_reducible refine Below.drew ?_) | ((with_reducible refine Below.setC ?_ ?_); (focus (first | omega | (simp; done) | (simp; omega)))) | ((with_reducible refine Below.allo ?_ ?_); (focus (first | omega | (simp; done) | (simp; omega)))))
set_option maxRecDepth 100000 in
set_option maxHeartbeats 1000000 in
theorem first_c (v : Vv) (sa : Option Addr) (la ca : Nat) (p : Pt) (w : World) (hv : v.small) (hp : p.small 1000) :
    Calls Tryz.prog 74 #[.agg #[.string v.name, .int .i64 v.op, .slice sa la ca, .int .i64 v.i0, .int .i64 v.i1, .int .i64 v.i2, .int .i64 v.i3], .agg #[.int .i64 p.x, .int .i64 p.y, .int .i64 p.z]] w fun e w' => e = .returned (.int .i64 (frst v p)) ∧ Below w.heap.size w w' := by
  obtain ⟨a1, a2, a3⟩ := frst_bds hv hp
  obtain ⟨b0, b1, b2, b3⟩ := hv
  have hm := fun V => modulo_c (frstZ v p) V (by unfold frstZ; omega)
  unfold frst
  obtain ⟨R, hR⟩ : ∃ R, frstZ v p % 10007 = R := ⟨_, rfl⟩
  rw [hR] at hm ⊢
  unfold frstZ at hm
  clear hR
  obtain ⟨name, op, args, i0, i1, i2, i3⟩ := v
  obtain ⟨x, y, z⟩ := p
  simp only at a1 a2 a3 b0 b1 b2 b3 hm ⊢
  obtain ⟨m1, hm1⟩ : ∃ m, i1 * x = m := ⟨_, rfl⟩
  obtain ⟨m2, hm2⟩ : ∃ m, i2 * y = m := ⟨_, rfl⟩
  obtain ⟨m3, hm3⟩ : ∃ m, i3 * z = m := ⟨_, rfl⟩
  rw [hm1] at a1; rw [hm2] at a2; rw [hm3] at a3
  simp only [hm1, hm2, hm3] at hm
  have t1 : IntKind.i64.wrap (i1 * x) = m1 := by rw [hm1]; exact i64_small (by omega)
  have t2 : IntKind.i64.wrap (i2 * y) = m2 := by rw [hm2]; exact i64_small (by omega)
  have t3 : IntKind.i64.wrap (i3 * z) = m3 := by rw [hm3]; exact i64_small (by omega)
  have u1 : IntKind.i64.wrap (i0 + m1) = i0 + m1 := i64_small (by omega)
  have u2 : IntKind.i64.wrap (i0 + m1 + m2) = i0 + m1 + m2 := i64_small (by omega)
  have u3 : IntKind.i64.wrap (i0 + m1 + m2 + m3) = i0 + m1 + m2 + m3 := i64_small (by omega)
  replace hm := Lib.hid hm
  have j0 := ix0 (.int .i64 x) (.int .i64 y) (.int .i64 z)
  have j1 := ix1 (.int .i64 x) (.int .i64 y) (.int .i64 z)
  have j2 := ix2 (.int .i64 x) (.int .i64 y) (.int .i64 z)
  clear a1 a2 a3 b0 b1 b2 b3 hm1 hm2 hm3
  go_enter Tryz.func74, Tryz.ntmps74
  go_upto_region 1 with (fail)
  refine wp_world fun W HW => ?_
  have hB : Below w.heap.size w W := by rw [HW.out]; (repeat (first | exact Below.refl _ _ | refine Below.alloc ?_ (by simp; try omega) _ | refine Below.setCell ?_ (by simp) _ | refine Below.drew ?_))
  have v0 : W.cell? ⟨w.heap.size, 0, none⟩ = some (.string name) := by rw [HW.out]; simp [go_sem]
  have v1 : W.cell? ⟨w.heap.size, 1, none⟩ = some (.int .i64 op) := by rw [HW.out]; simp [go_sem]
  have v2 : W.cell? ⟨w.heap.size, 2, none⟩ = some (.slice sa la ca) := by rw [HW.out]; simp [go_sem]
  have v3 : W.cell? ⟨w.heap.size, 3, none⟩ = some (.int .i64 i0) := by rw [HW.out]; simp [go_sem]
  have v4 : W.cell? ⟨w.heap.size, 4, none⟩ = some (.int .i64 i1) := by rw [HW.out]; simp [go_sem]
  have v5 : W.cell? ⟨w.heap.size, 5, none⟩ = some (.int .i64 i2) := by rw [HW.out]; simp [go_sem]
  have v6 : W.cell? ⟨w.heap.size, 6, none⟩ = some (.int .i64 i3) := by rw [HW.out]; simp [go_sem]
  have vl : w.heap.size < W.heap.size := World.block_lt_of_cell? W _ v0
  have q0 : W.cell? ⟨w.heap.size + 1, 0, none⟩ = some (.int .i64 x) := by rw [HW.out]; simp [go_sem]
  have q1 : W.cell? ⟨w.heap.size + 1, 1, none⟩ = some (.int .i64 y) := by rw [HW.out]; simp [go_sem]
  have q2 : W.cell? ⟨w.heap.size + 1, 2, none⟩ = some (.int .i64 z) := by rw [HW.out]; simp [go_sem]
  have ql : w.heap.size + 1 < W.heap.size := World.block_lt_of_cell? W _ q0
  go_wp2
  refine wp_loop_rounds 4 ?_
  rw [rounds_succ]
  go_wp2
  rw [rounds_succ]
  go_wp2
  rw [rounds_succ]
  go_wp2
  rw [rounds_succ]
  go_wp2_with (first | (go_at_call 91; refine (hm.out _).mono ?_; rintro e w' ⟨rfl, rfl⟩))
  go_ret
  exact ⟨rfl, hB⟩
end Go.Proofs.YtakbpjgnjfigcaaGreat

/- The net's size, its elements, and where they are: the program. -/
namespace Go.Proofs.YtakbpjgnjfigcaaGreat
open Go.RowKit Go.Maps

/-- What lies where point i does. -/
theorem pt_at {w : World} {s : Option Addr} {l : List Pt} (c : PtS w s l) {i : Nat} (h : i < l.length) :
    ∃ b off, s = some ⟨b, off, none⟩ ∧ b < w.heap.size ∧ w.cell? ⟨b, off + i * 3, none⟩ = some (.int .i64 l[i].x) ∧ w.cell? ⟨b, off + i * 3 + 1, none⟩ = some (.int .i64 l[i].y) ∧ w.cell? ⟨b, off + i * 3 + 2, none⟩ = some (.int .i64 l[i].z) := by
  rcases c with c | ⟨b, off, e, hb, c⟩
  · subst c; simp at h
  · exact ⟨b, off, e, hb, c i h⟩
section
variable {g : Nat} {n : Int} {s : Option Addr} {cap : Nat} {l : List Iq} {s2 : Option Addr} {cq : Nat} {K : List Vv} {sp : Option Addr} {cp mb : Nat} {P : List Pt}
theorem Net.cells {T : Nat} {V : World} (h : Net T V g n s cap l s2 cq K sp cp mb P) : V.cell? ⟨g, 0, none⟩ = some (.int .i64 n) ∧ V.cell? ⟨g, 1, none⟩ = some (.slice s l.length cap) ∧ V.cell? ⟨g, 2, none⟩ = some (.slice s2 K.length cq) ∧ V.cell? ⟨g, 3, none⟩ = some (.slice sp P.length cp) ∧ V.cell? ⟨g, 4, none⟩ = some (.map (some mb)) :=
  ⟨h.row.cell rfl, h.row.cell rfl, h.row.cell rfl, h.row.cell rfl, h.row.cell rfl⟩
set_option maxRecDepth 100000 in
set_option maxHeartbeats 1000000 in
theorem size_c (w : World) (h : Net 126 w g n s cap l s2 cq K sp cp mb P) (ok : NetOk n K P) :
    Calls Tryz.prog 33 #[.pointer (some ⟨g, 0, none⟩)] w fun e w' => e = .returned (.int .i64 ((K.length * P.length : Nat) : Int)) ∧ Below w.heap.size w w' := by
  obtain ⟨n0, n1, n2, n3, n4⟩ := h.cells
  have hs := ok.size
  have e1 : (K.length : Int) * (P.length : Int) = ((K.length * P.length : Nat) : Int) := (Int.natCast_mul _ _).symm
  obtain ⟨m, hm⟩ : ∃ m, K.length * P.length = m := ⟨_, rfl⟩
  rw [hm] at e1 hs ⊢
  have w1 : IntKind.i64.wrap ((K.length : Int) * (P.length : Int)) = (m : Int) := by rw [e1]; exact i64_small (by omega)
  replace e1 := Lib.hid e1; replace hm := Lib.hid hm
  clear h
  go_enter Tryz.func33, Tryz.ntmps33
  go_upto_region 1 with (fail)
  refine wp_world fun W HW => ?_
  have hB : Below w.heap.size w W := by rw [HW.out]; (repeat (first | exact Below.refl _ _ | refine Below.alloc ?_ (by simp; try omega) _ | refine Below.setCell ?_ (by simp) _ | refine Below.drew ?_))
  try replace n0 := up_of hB n0
  try replace n2 := up_of hB n2
  try replace n3 := up_of hB n3
  try have ld_n0 := World.block_lt_of_cell? _ _ n0
  refine region_q (by kernel_rfl) (by kernel_rfl) ?_
  dsimp only [List.toList_toArray]
  repeat (first
   | go_big_quiet_skip
   | (go_big_quiet_want
      first
      | (refine qq_det ?_
         apply Exists.intro; refine ⟨fun W' hW' => ?_, ?_⟩
         (· have hk := cellB hW'; go_simp; try (first | rfl | rw [if_pos (by omega)]))
         simp only [Act.put, List.setIfInBounds_toArray, List.set_cons_zero, List.set_cons_succ]; go_big_quiet_on)))
  refine wpQuiet_nil ?_
  intro W1 hb
  try replace n0 := up_of hb n0
  try replace n2 := up_of hb n2
  try replace n3 := up_of hb n3
  try replace hB := up_of hb hB
  go_wp2
  go_ret
  exact ⟨rfl, hB⟩
theorem pOf_at {P : List Pt} {k : Nat} (h : k % P.length < P.length) : pOf P k = P[k % P.length] := by
  unfold pOf; rw [List.getD_eq_getElem?_getD, List.getElem?_eq_getElem h]; rfl
set_option maxRecDepth 100000 in
set_option maxHeartbeats 1000000 in
theorem element_cs (k : Nat) (w : World) (h : Net 126 w g n s cap l s2 cq K sp cp mb P) (ok : NetOk n K P) (hk : k < K.length * P.length) :
    Calls Tryz.prog 84 #[.pointer (some ⟨g, 0, none⟩), .int .i64 k] w fun e w' => e = .returned (.agg #[.int .i64 ((k / P.length : Nat) : Int), .int .i64 (pOf P k).x, .int .i64 (pOf P k).y, .int .i64 (pOf P k).z]) ∧ Below w.heap.size w w' ∧ w'.heap.size = w.heap.size + 1 := by
  obtain ⟨n0, n1, n2, n3, n4⟩ := h.cells
  obtain ⟨hk1, hk2, hk3⟩ := num_div hk
  have hs := ok.size
  have hkl := ok.vars
  obtain ⟨b, off, rfl, hb, p0, p1, p2⟩ := pt_at h.pts hk2
  rw [pOf_at hk2]
  obtain ⟨⟨x, y, z⟩, hp⟩ : ∃ p, P[k % P.length] = p := ⟨_, rfl⟩
  rw [hp] at p0 p1 p2 ⊢
  have q1 : (k : Int).tdiv (P.length : Int) = ((k / P.length : Nat) : Int) := rfl
  have q2 : (k : Int).tmod (P.length : Int) = ((k % P.length : Nat) : Int) := rfl
  have q3 : (k : Int) / (P.length : Int) = ((k / P.length : Nat) : Int) := rfl
  have q4 : (k : Int) % (P.length : Int) = ((k % P.length : Nat) : Int) := rfl
  obtain ⟨v, hv⟩ : ∃ v, k / P.length = v := ⟨_, rfl⟩
  obtain ⟨i, hi⟩ : ∃ i, k % P.length = i := ⟨_, rfl⟩
  have j1 : ¬ (P.length : Int) = 0 := by omega
  have j2 : ¬ P.length = 0 := by omega
  rw [hv] at q1 q3 ⊢
  simp only [hi] at p0 p1 p2 hk2 q2 q4
  have j3 : (0 : Int) ≤ (i : Int) := by omega
  have j4 : (i : Int) < (P.length : Int) := by omega
  have w1 : IntKind.i64.wrap (v : Int) = (v : Int) := i64_small (by omega)
  have w2 : IntKind.i64.wrap (i : Int) = (i : Int) := i64_small (by omega)
  replace hp := Lib.hid hp; replace hk3 := Lib.hid hk3; replace hv := Lib.hid hv; replace hi := Lib.hid hi; replace hk := Lib.hid hk
  clear h
  go_enter Tryz.func84, Tryz.ntmps84
  go_upto_region 1 with (fail)
  refine wp_world fun W HW => ?_
  have hB : Below w.heap.size w W := by rw [HW.out]; (repeat (first | exact Below.refl _ _ | refine Below.alloc ?_ (by simp; try omega) _ | refine Below.setCell ?_ (by simp) _ | refine Below.drew ?_))
  have rB : Row W (w.heap.size) 90 #[.int .i64 0, .int .i64 0, .int .i64 0, .int .i64 0] := (by rw [HW.out]; (repeat (first | (refine blk_new ?_; simp; done) | refine blk_old ?_ _)) : W.heap[w.heap.size]? = some (.cells #[.int .i64 0, .int .i64 0, .int .i64 0, .int .i64 0] 90 (0, 0)))
  have r0 : W.cell? ⟨w.heap.size, 0, none⟩ = some (.int .i64 0) := by rw [HW.out]; simp [go_sem]
  have r1 : W.cell? ⟨w.heap.size, 1, none⟩ = some (.int .i64 0) := by rw [HW.out]; simp [go_sem]
  have r2 : W.cell? ⟨w.heap.size, 2, none⟩ = some (.int .i64 0) := by rw [HW.out]; simp [go_sem]
  have r3 : W.cell? ⟨w.heap.size, 3, none⟩ = some (.int .i64 0) := by rw [HW.out]; simp [go_sem]
  have rl : w.heap.size < W.heap.size := World.block_lt_of_cell? W _ r0
  try replace n3 := up_of hB n3
  try replace p0 := up_of hB p0
  try replace p1 := up_of hB p1
  try replace p2 := up_of hB p2
  have rf := fun i => Row.frozen rB i
  have hWs : W.heap.size = w.heap.size + 1 := by rw [HW.out]; simp
  go_region
  all_goals
    go_wp2
    refine bodyPost_ret (resC1 rfl rfl (loadEl (cs := #[.int .i64 v, .int .i64 x, .int .i64 y, .int .i64 z]) (b1 := w.heap.size) ?_ rfl)) rfl ⟨rfl, ?_, ?_⟩
    · refine Row.of ?_
      repeat (first | (with_reducible refine RowG.base rB ?_) | (with_reducible refine RowG.drew ?_) | (with_reducible refine RowG.set ?_) | ((with_reducible refine RowG.other ?_ ?_); (focus (first | omega | (simp; done) | (simp; omega)))) | (with_reducible refine RowG.alloc ?_))
      rfl
    · repeat (first | (with_reducible exact hB) | (with_reducible refine Below.drew ?_) | ((with_reducible refine Below.setC ?_ ?_); (focus (first | omega | (simp; done) | (simp; omega)))) | ((with_reducible refine Below.allo ?_ ?_); (focus (first | omega | (simp; done) | (simp; omega)))))
    · simp [World.setCell, hWs]
theorem element_c (k : Nat) (w : World) (h : Net 126 w g n s cap l s2 cq K sp cp mb P) (ok : NetOk n K P) (hk : k < K.length * P.length) :
    Calls Tryz.prog 84 #[.pointer (some ⟨g, 0, none⟩), .int .i64 k] w fun e w' => e = .returned (.agg #[.int .i64 ((k / P.length : Nat) : Int), .int .i64 (pOf P k).x, .int .i64 (pOf P k).y, .int .i64 (pOf P k).z]) ∧ Below w.heap.size w w' :=
  (element_cs k w h ok hk).mono fun e w' ⟨h1, h2, _⟩ => ⟨h1, h2⟩
/-- The number of an element. -/
def numZ (P : List Pt) (v : Int) (p : Pt) : Int := v * P.length + ((pix P p).getD 0 : Nat)
def isEl (K : List Vv) (P : List Pt) (v : Int) (p : Pt) : Bool := (pix P p).isSome && bw 0 v (K.length - 1)
theorem pix_lt {P : List Pt} {p : Pt} : (pix P p).getD 0 ≤ P.length := by
  cases h : pix P p with
  | none => simp
  | some i => have := (pix_some h).1; simp; omega
set_option maxRecDepth 100000 in
set_option maxHeartbeats 1000000 in
theorem argument_c (a : Ar) (p : Pt) (w : World) (h : Net 126 w g n s cap l s2 cq K sp cp mb P) (ok : NetOk n K P) (hp : p.small 20) (ha : a.p.small 3) (hav : bw 0 a.v (K.length - 1) = true) :
    Calls Tryz.prog 86 #[.pointer (some ⟨g, 0, none⟩), .agg #[.int .i64 a.v, .int .i64 a.p.x, .int .i64 a.p.y, .int .i64 a.p.z], .agg #[.int .i64 p.x, .int .i64 p.y, .int .i64 p.z]] w fun e w' => e = .returned (.tuple #[.int .i64 (numZ P a.v (ptP p a.p)), .agg #[.int .i64 (ptP p a.p).x, .int .i64 (ptP p a.p).y, .int .i64 (ptP p a.p).z], .bool (pix P (ptP p a.p)).isSome]) ∧ Below w.heap.size w w' := by
  obtain ⟨n0, n1, n2, n3, n4⟩ := h.cells
  have hpl := fun V => plus_c p a.p V ⟨by have := hp.1; omega, by have := hp.2.1; omega, by have := hp.2.2; omega⟩ ⟨by have := ha.1; omega, by have := ha.2.1; omega, by have := ha.2.2; omega⟩
  have hlk := fun V (h : Net 126 V g n s cap l s2 cq K sp cp mb P) => (h.look ok (p := ptP p a.p) (small_i64 (ptP_small hp ha) (by omega))).1
  have hnz : numZ P a.v (ptP p a.p) = a.v * P.length + ((pix P (ptP p a.p)).getD 0 : Nat) := rfl
  have hil := pix_lt (P := P) (p := ptP p a.p)
  have hPl := ok.len
  have hKl := ok.vars
  obtain ⟨av, hav2⟩ : ∃ m : Nat, a.v = m := ⟨a.v.toNat, by have := bw_iff.1 hav; omega⟩
  have hal : av ≤ 4 := by have := bw_iff.1 hav; omega
  rw [hav2] at hnz ⊢
  have hm := Nat.mul_le_mul hal hPl
  have e1 : (av : Int) * (P.length : Int) = ((av * P.length : Nat) : Int) := (Int.natCast_mul _ _).symm
  obtain ⟨⟨qx, qy, qz⟩, hq⟩ : ∃ q, ptP p a.p = q := ⟨_, rfl⟩
  simp only [hq] at hpl hlk hnz hil ⊢
  obtain ⟨ax, ay, az, hax⟩ : ∃ x y z, a.p = ⟨x, y, z⟩ := ⟨_, _, _, rfl⟩
  simp only [hax] at hpl ⊢
  obtain ⟨i, hi⟩ : ∃ i, (pix P ⟨qx, qy, qz⟩).getD 0 = i := ⟨_, rfl⟩
  obtain ⟨B, hB0⟩ : ∃ B, (pix P ⟨qx, qy, qz⟩).isSome = B := ⟨_, rfl⟩
  obtain ⟨NZ, hNZ⟩ : ∃ z, numZ P av ⟨qx, qy, qz⟩ = z := ⟨_, rfl⟩
  simp only [hi, hB0] at hlk hil
  simp only [hi, hNZ] at hnz
  rw [hB0, hNZ]
  obtain ⟨M, hM⟩ : ∃ m, av * P.length = m := ⟨_, rfl⟩
  rw [hM] at e1 hm
  rw [e1] at hnz
  have w1 : IntKind.i64.wrap ((av : Int) * (P.length : Int)) = (M : Int) := by rw [e1]; exact i64_small (by omega)
  have w2 : IntKind.i64.wrap ((M : Int) + (i : Int)) = NZ := by rw [hnz]; exact i64_small (by omega)
  replace hpl := Lib.hid hpl; replace hlk := Lib.hid hlk; replace hnz := Lib.hid hnz; replace e1 := Lib.hid e1; replace hM := Lib.hid hM; replace hi := Lib.hid hi; replace hB0 := Lib.hid hB0; replace hNZ := Lib.hid hNZ; replace hq := Lib.hid hq; replace hax := Lib.hid hax; replace hav2 := Lib.hid hav2; replace hav := Lib.hid hav
  have h0 := Lib.hid h
  clear hp ha hil h
  go_enter Tryz.func86, Tryz.ntmps86
  go_upto_region 1 with (fail)
  refine wp_world fun W HW => ?_
  have hB : Below w.heap.size w W := by rw [HW.out]; (repeat (first | exact Below.refl _ _ | refine Below.alloc ?_ (by simp; try omega) _ | refine Below.setCell ?_ (by simp) _ | refine Below.drew ?_))
  have a0 : W.cell? ⟨w.heap.size, 0, none⟩ = some (.int .i64 av) := by rw [HW.out]; simp [go_sem]
  have a1 : W.cell? ⟨w.heap.size, 1, none⟩ = some (.int .i64 ax) := by rw [HW.out]; simp [go_sem]
  have a2 : W.cell? ⟨w.heap.size, 2, none⟩ = some (.int .i64 ay) := by rw [HW.out]; simp [go_sem]
  have a3 : W.cell? ⟨w.heap.size, 3, none⟩ = some (.int .i64 az) := by rw [HW.out]; simp [go_sem]
  have al : w.heap.size < W.heap.size := World.block_lt_of_cell? W _ a0
  have q0 : W.cell? ⟨w.heap.size + 1, 0, none⟩ = some (.int .i64 p.x) := by rw [HW.out]; simp [go_sem]
  have q1 : W.cell? ⟨w.heap.size + 1, 1, none⟩ = some (.int .i64 p.y) := by rw [HW.out]; simp [go_sem]
  have q2 : W.cell? ⟨w.heap.size + 1, 2, none⟩ = some (.int .i64 p.z) := by rw [HW.out]; simp [go_sem]
  have ql : w.heap.size + 1 < W.heap.size := World.block_lt_of_cell? W _ q0
  have rB : Row W (w.heap.size + 2) 30 #[.int .i64 0, .int .i64 0, .int .i64 0] := (by rw [HW.out]; (repeat (first | (refine blk_new ?_; simp; done) | refine blk_old ?_ _)) : W.heap[w.heap.size + 2]? = some (.cells #[.int .i64 0, .int .i64 0, .int .i64 0] 30 (0, 0)))
  have r0 : W.cell? ⟨w.heap.size + 2, 0, none⟩ = some (.int .i64 0) := by rw [HW.out]; simp [go_sem]
  have r1 : W.cell? ⟨w.heap.size + 2, 1, none⟩ = some (.int .i64 0) := by rw [HW.out]; simp [go_sem]
  have r2 : W.cell? ⟨w.heap.size + 2, 2, none⟩ = some (.int .i64 0) := by rw [HW.out]; simp [go_sem]
  have rl : w.heap.size + 2 < W.heap.size := World.block_lt_of_cell? W _ r0
  try replace h0 := up_of hB h0
  try replace n0 := up_of hB n0
  try replace n3 := up_of hB n3
  try replace n4 := up_of hB n4
  go_upto_region 2 with (first | (go_at_call 121; refine (hpl.out _).mono ?_; rintro e W1 ⟨rfl, hb⟩; (try replace h0 := up_of hb h0); (try replace n0 := up_of hb n0); (try replace n3 := up_of hb n3); (try replace n4 := up_of hb n4); (try replace hB := up_of hb hB); (try replace a0 := up_of hb a0); (try replace a1 := up_of hb a1); (try replace a2 := up_of hb a2); (try replace a3 := up_of hb a3); (try replace al := up_of hb al); (try replace q0 := up_of hb q0); (try replace q1 := up_of hb q1); (try replace q2 := up_of hb q2); (try replace ql := up_of hb ql); (try replace rB := up_of hb rB); (try replace r0 := up_of hb r0); (try replace r1 := up_of hb r1); (try replace r2 := up_of hb r2); (try replace rl := up_of hb rl)))
  refine wp_world fun X HX => ?_
  have hX : Below W1.heap.size W1 X := by rw [HX.out]; (repeat (first | exact Below.refl _ _ | refine Below.alloc ?_ (by simp; try omega) _ | refine Below.setCell ?_ (by simp) _ | refine Below.drew ?_))
  have z0 : X.cell? ⟨W1.heap.size, 0, none⟩ = some (.int .i64 qx) := by rw [HX.out]; simp [go_sem]
  have z1 : X.cell? ⟨W1.heap.size, 1, none⟩ = some (.int .i64 qy) := by rw [HX.out]; simp [go_sem]
  have z2 : X.cell? ⟨W1.heap.size, 2, none⟩ = some (.int .i64 qz) := by rw [HX.out]; simp [go_sem]
  have zl : W1.heap.size < X.heap.size := World.block_lt_of_cell? X _ z0
  try replace h0 := up_of hX h0
  try replace n0 := up_of hX n0
  try replace n3 := up_of hX n3
  try replace n4 := up_of hX n4
  try replace hB := up_of hX hB
  try replace a0 := up_of hX a0
  try replace a1 := up_of hX a1
  try replace a2 := up_of hX a2
  try replace a3 := up_of hX a3
  try replace al := up_of hX al
  try replace q0 := up_of hX q0
  try replace q1 := up_of hX q1
  try replace q2 := up_of hX q2
  try replace ql := up_of hX ql
  try replace rB := up_of hX rB
  try replace r0 := up_of hX r0
  try replace r1 := up_of hX r1
  try replace r2 := up_of hX r2
  try replace rl := up_of hX rl
  try have ld_h0 := World.block_lt_of_cell? _ _ h0
  try have ld_n0 := World.block_lt_of_cell? _ _ n0
  try have ld_a0 := World.block_lt_of_cell? _ _ a0
  try have ld_q0 := World.block_lt_of_cell? _ _ q0
  try have ld_r0 := World.block_lt_of_cell? _ _ r0
  try have ld_z0 := World.block_lt_of_cell? _ _ z0
  refine region_q (by kernel_rfl) (by kernel_rfl) ?_
  dsimp only [List.toList_toArray]
  repeat (first
   | go_big_quiet_skip
   | (go_big_quiet_want
      first
      | (refine qq_det ?_
         apply Exists.intro; refine ⟨fun W' hW' => ?_, ?_⟩
         (· have hk := cellB hW'; have hlk9 := hlk.out W' (up_of hW' h0).out; go_simp; try (first | rfl | rw [if_pos (by omega)]))
         simp only [Act.put, List.setIfInBounds_toArray, List.set_cons_zero, List.set_cons_succ]; go_big_quiet_on)))
  refine wpQuiet_nil ?_
  intro X2 hb
  try replace h0 := up_of hb h0
  try replace n0 := up_of hb n0
  try replace n3 := up_of hb n3
  try replace n4 := up_of hb n4
  try replace hB := up_of hb hB
  try replace a0 := up_of hb a0
  try replace a1 := up_of hb a1
  try replace a2 := up_of hb a2
  try replace a3 := up_of hb a3
  try replace al := up_of hb al
  try replace q0 := up_of hb q0
  try replace q1 := up_of hb q1
  try replace q2 := up_of hb q2
  try replace ql := up_of hb ql
  try replace rB := up_of hb rB
  try replace r0 := up_of hb r0
  try replace r1 := up_of hb r1
  try replace r2 := up_of hb r2
  try replace rl := up_of hb rl
  try replace hX := up_of hb hX
  try replace z0 := up_of hb z0
  try replace z1 := up_of hb z1
  try replace z2 := up_of hb z2
  try replace zl := up_of hb zl
  have rf := fun i => Row.frozen rB i
  go_upto_region 3 with (fail)
  go_region
  all_goals
    go_wp2
    refine bodyPost_ret (resTCT rfl rfl rfl rfl (loadPt (cs := #[.int .i64 qx, .int .i64 qy, .int .i64 qz]) (b1 := w.heap.size + 2) ?_ rfl)) rfl ⟨rfl, ?_⟩
    · refine Row.of ?_
      repeat (first | (with_reducible refine RowG.base rB ?_) | (with_reducible refine RowG.drew ?_) | (with_reducible refine RowG.set ?_) | ((with_reducible refine RowG.other ?_ ?_); (focus (first | omega | (simp; done) | (simp; omega)))) | (with_reducible refine RowG.alloc ?_))
      rfl
    · repeat (first | (with_reducible exact hB) | (with_reducible refine Below.drew ?_) | ((with_reducible refine Below.setC ?_ ?_); (focus (first | omega | (simp; done) | (simp; omega)))) | ((with_reducible refine Below.allo ?_ ?_); (focus (first | omega | (simp; done) | (simp; omega)))))
end
end Go.Proofs.YtakbpjgnjfigcaaGreat

/- The net of a valid recurrence: the program makes it. -/
namespace Go.Proofs.YtakbpjgnjfigcaaGreat
open Go.RowKit Go.Maps

/-- What newNet hands back. -/
def NetRet (n : Int) (s : Option Addr) (cap : Nat) (l : List Iq) (s2 : Option Addr) (cq : Nat) (K : List Vv) (w : World) (e : Ending) (w' : World) : Prop :=
  (if recB n l K then ∃ g sp cp mb, e = .returned (.tuple #[.pointer (some ⟨g, 0, none⟩), .bool true]) ∧ Net 126 w' g n s cap l s2 cq K sp cp mb (pts n l) else e = .returned (.tuple #[.pointer none, .bool false])) ∧ Below w.heap.size w w'
theorem pts_nil (w : World) : PtS w none [] := .inl rfl
set_option maxRecDepth 100000 in
set_option maxHeartbeats 2000000 in
theorem newNet_c (n : Int) (s : Option Addr) (cap : Nat) (l : List Iq) (s2 : Option Addr) (cq : Nat) (K : List Vv) (w : World) (hr : RecM w s l s2 cq K) :
    Calls Tryz.prog 31 #[.agg #[.int .i64 n, .slice s l.length cap, .slice s2 K.length cq]] w (NetRet n s cap l s2 cq K w) := by
  have hv := fun V (h : RecM V s l s2 cq K) => h.valid n cap
  unfold NetRet
  cases hb : recB n l K
  · simp only [hb] at hv
    replace hv := Lib.hid hv
    simp only [Bool.false_eq_true, if_false]
    go_enter Tryz.func31, Tryz.ntmps31
    go_upto_region 1 with (fail)
    refine wp_world fun W HW => ?_
    have hB : Below w.heap.size w W := by rw [HW.out]; (repeat (first | exact Below.refl _ _ | refine Below.alloc ?_ (by simp; try omega) _ | refine Below.setCell ?_ (by simp) _ | refine Below.drew ?_))
    have d0 : W.cell? ⟨w.heap.size, 0, none⟩ = some (.int .i64 n) := by rw [HW.out]; simp [go_sem]
    have d1 : W.cell? ⟨w.heap.size, 1, none⟩ = some (.slice s l.length cap) := by rw [HW.out]; simp [go_sem]
    have d2 : W.cell? ⟨w.heap.size, 2, none⟩ = some (.slice s2 K.length cq) := by rw [HW.out]; simp [go_sem]
    have dl : w.heap.size < W.heap.size := World.block_lt_of_cell? W _ d0
    try replace hr := up_of hB hr
    go_wp2_with (first | (go_at_call 69; refine (hv.out _ hr).mono ?_; rintro e W1 ⟨rfl, hb⟩; (try replace hr := up_of hb hr); (try replace hB := up_of hb hB); (try replace d0 := up_of hb d0); (try replace d1 := up_of hb d1); (try replace d2 := up_of hb d2); (try replace dl := up_of hb dl)))
    go_ret2
    exact ⟨rfl, hB⟩
  · simp only [hb] at hv
    have ok := netOk hb
    have hvb : validB n l = true := by rw [recB_eq] at hb; simp only [Bool.and_eq_true] at hb; exact hb.1
    have hpt := fun V (h : Dom V s l) => Points_c n s cap l V h.iq h.len
    have hL1 : ptsL n l = pts n l := by have := ok.len; simp [ptsL, hvb]; omega
    have hE1 : ptsE n l = 0 := by have := ok.len; simp [ptsE, hvb]; omega
    unfold PtsRet at hpt
    simp only [hL1, hE1] at hpt
    simp only [if_true]
    obtain ⟨P, hP⟩ : ∃ P, pts n l = P := ⟨_, rfl⟩
    simp only [hP] at hpt ok ⊢
    clear hL1 hE1 hvb hb hP
    have hPl := ok.len
    have hI : ∀ q ∈ P, q.I64 := fun q hq => small_i64 (ok.pts q hq) (by omega)
    have hmm := @run_makeMap Tryz.prog
    replace hv := Lib.hid hv; replace hpt := Lib.hid hpt; replace hI := Lib.hid hI; replace ok := Lib.hid ok
    have hr9 := Lib.hid hr
    go_enter Tryz.func31, Tryz.ntmps31
    go_upto_region 1 with (fail)
    refine wp_world fun W HW => ?_
    have hB : Below w.heap.size w W := by rw [HW.out]; (repeat (first | exact Below.refl _ _ | refine Below.alloc ?_ (by simp; try omega) _ | refine Below.setCell ?_ (by simp) _ | refine Below.drew ?_))
    have d0 : W.cell? ⟨w.heap.size, 0, none⟩ = some (.int .i64 n) := by rw [HW.out]; simp [go_sem]
    have d1 : W.cell? ⟨w.heap.size, 1, none⟩ = some (.slice s l.length cap) := by rw [HW.out]; simp [go_sem]
    have d2 : W.cell? ⟨w.heap.size, 2, none⟩ = some (.slice s2 K.length cq) := by rw [HW.out]; simp [go_sem]
    have dl : w.heap.size < W.heap.size := World.block_lt_of_cell? W _ d0
    try replace hr := up_of hB hr
    go_upto_region 4 with (first | (go_at_call 69; refine (hv.out _ hr).mono ?_; rintro e W1 ⟨rfl, hb⟩; (try replace hr := up_of hb hr); (try replace hB := up_of hb hB); (try replace d0 := up_of hb d0); (try replace d1 := up_of hb d1); (try replace d2 := up_of hb d2); (try replace dl := up_of hb dl)))
    have hr0 := Lib.hid hr9.out
    have hBW := hB.size
    have hw0 := Lib.hid hBW
    refine wp_world fun X HX => ?_
    have hX : Below W1.heap.size W1 X := by
      rw [HX.out]
      repeat (first | (with_reducible exact Below.refl _ _) | (with_reducible refine Below.drew ?_) | ((with_reducible refine Below.setC ?_ ?_); (focus (first | omega | (simp; done) | (simp; omega)))) | ((with_reducible refine Below.allo ?_ ?_); (focus (first | omega | (simp; done) | (simp; omega)))))
    have hXs : X.heap.size = W1.heap.size + 2 := by rw [HX.out]; simp
    have gB : Row X (W1.heap.size + 1) 126 #[.int .i64 n, .slice s l.length cap, .slice s2 K.length cq, .slice none 0 0, .map (some W1.heap.size)] := by
      rw [HX.out]
      refine Row.of ?_
      repeat (first | (with_reducible refine RowG.new ?_) | (with_reducible refine RowG.drew ?_) | (with_reducible refine RowG.set ?_) | ((with_reducible refine RowG.other ?_ ?_); (focus (first | omega | (simp; done) | (simp; omega)))) | ((with_reducible refine RowG.new' ?_ ?_); (focus (first | omega | (simp; done) | (simp; omega)))) | (with_reducible refine RowG.alloc ?_))
      rfl
    have hM : X.ownsMap Tryz.prog 30 (plainElem Tryz.prog 3) W1.heap.size 0 (ptD P 0) := by
      rw [HX.out]
      exact (World.ownsMap_made _ _ _ _).alloc _
    clear HX
    try replace hr := up_of hX hr
    try replace hB := up_of hX hB
    try replace d0 := up_of hX d0
    try replace d1 := up_of hX d1
    try replace d2 := up_of hX d2
    try replace dl := up_of hX dl
    replace hXs := Lib.hid hXs
    go_upto_region 5 with (first | (go_at_call 75; refine (hpt.out _ hr.dom).mono ?_; rintro e W2 ⟨sp, cp, rfl, hown, hb⟩; (try replace hr := up_of hb hr); (try replace hB := up_of hb hB); (try replace d0 := up_of hb d0); (try replace d1 := up_of hb d1); (try replace d2 := up_of hb d2); (try replace dl := up_of hb dl); replace gB := up_of hb gB; replace hM := up_of hb hM; have rf := fun i => Row.frozen gB i; obtain ⟨g0, g1, g2, g3, g4⟩ : W2.cell? ⟨W1.heap.size + 1, 0, none⟩ = some (.int .i64 n) ∧ W2.cell? ⟨W1.heap.size + 1, 1, none⟩ = some (.slice s l.length cap) ∧ W2.cell? ⟨W1.heap.size + 1, 2, none⟩ = some (.slice s2 K.length cq) ∧ W2.cell? ⟨W1.heap.size + 1, 3, none⟩ = some (.slice none 0 0) ∧ W2.cell? ⟨W1.heap.size + 1, 4, none⟩ = some (.map (some W1.heap.size)) := ⟨gB.cell rfl, gB.cell rfl, gB.cell rfl, gB.cell rfl, gB.cell rfl⟩))
    refine wp_world fun Y HY => ?_
    have hw1 : w.heap.size ≤ W1.heap.size + 1 := by have := World.block_lt_of_cell? _ _ g0; have := hX.size; have := hBW; omega
    have hYB : Below w.heap.size w Y := by
      rw [HY.out]
      exact hB.setCell (by exact hw1) _
    have hYs : W2.heap.size ≤ Y.heap.size := by rw [HY.out]; simp [World.setCell]
    have gY : Row Y (W1.heap.size + 1) 126 #[.int .i64 n, .slice s l.length cap, .slice s2 K.length cq, .slice sp P.length cp, .map (some W1.heap.size)] := by
      rw [HY.out]
      refine Row.of ?_
      repeat (first | (with_reducible refine RowG.base gB ?_) | (with_reducible refine RowG.drew ?_) | (with_reducible refine RowG.set ?_) | ((with_reducible refine RowG.other ?_ ?_); (focus (first | omega | (simp; done) | (simp; omega)))) | (with_reducible refine RowG.alloc ?_))
      rfl
    have hMY : Y.ownsMap Tryz.prog 30 (plainElem Tryz.prog 3) W1.heap.size 0 (ptD P 0) := by
      obtain ⟨es, clock, h1, h2⟩ := hM
      rw [HY.out]
      exact ⟨es, clock, (Below.heap_setCell _ _ _ _ (by show W1.heap.size ≠ W1.heap.size + 1; omega)).trans h1, h2⟩
    have hoY : Y.ownsRow X.heap.size 30 3 (.slice sp P.length cp) P.length (ptCells P) := by
      refine own_upto hown fun b e => ?_
      have := (hown.lt b e).1
      rw [HY.out]
      exact Below.heap_setCell _ _ _ _ (by show b ≠ W1.heap.size + 1; have := hXs.out; omega)
    have hpY := owns_pt hoY
    have hrY := RecM.up hYB hr0.out
    clear HY hM hown hoY gB g0 g1 g2 g3 g4 rf hb hr hB d0 d1 d2 dl
    obtain ⟨n0, n1, n2, n3, n4⟩ : Y.cell? ⟨W1.heap.size + 1, 0, none⟩ = some (.int .i64 n) ∧ Y.cell? ⟨W1.heap.size + 1, 1, none⟩ = some (.slice s l.length cap) ∧ Y.cell? ⟨W1.heap.size + 1, 2, none⟩ = some (.slice s2 K.length cq) ∧ Y.cell? ⟨W1.heap.size + 1, 3, none⟩ = some (.slice sp P.length cp) ∧ Y.cell? ⟨W1.heap.size + 1, 4, none⟩ = some (.map (some W1.heap.size)) := ⟨gY.cell rfl, gY.cell rfl, gY.cell rfl, gY.cell rfl, gY.cell rfl⟩
    replace hpY := Lib.hid hpY; replace hrY := Lib.hid hrY; replace gY := Lib.hid gY
    go_wp2
    clear n0 n1 n2 n3 n4
    go_loopw [28] (fun ii V => ∃ k : Nat, k ≤ P.length ∧ ii = .int .i64 k ∧ Below w.heap.size w V ∧ Row V (W1.heap.size + 1) 126 #[.int .i64 n, .slice s l.length cap, .slice s2 K.length cq, .slice sp P.length cp, .map (some W1.heap.size)] ∧ PtS V sp P ∧ V.ownsMap Tryz.prog 30 (plainElem Tryz.prog 3) W1.heap.size k (ptD P k)) (fun ii _ => P.length - (intOf ii).toNat)
    case atStart => exact ⟨0, by omega, rfl, hYB, gY.out, hpY.out, hMY⟩
    case round =>
      clear hYB gY hpY hMY hrY
      obtain ⟨k, hk, rfl, hBV, gV, hpV, hMV⟩ := hrel
      by_cases hlt : k < P.length
      · obtain ⟨pb, po, rfl, hpb, p0, p1, p2⟩ := pt_at hpV hlt
        have hPk := hI.out _ (List.getElem_mem hlt)
        have hput := ptD_put hlt
        have hkey := key_of_pt hPk
        have hpV2 := Lib.hid hpV
        obtain ⟨⟨x, y, z⟩, hp⟩ : ∃ p, P[k] = p := ⟨_, rfl⟩
        rw [hp] at p0 p1 p2 hput hkey
        unfold pvK at hkey
        have i1 : (0 : Int) ≤ (k : Int) := by omega
        have i2 : (k : Int) < (P.length : Int) := by omega
        replace hput := Lib.hid hput
        clear hPk hp hpV
        go_upto_region 8 with (fail)
        refine wp_world fun Z HZ => ?_
        have hZ : Below wr.heap.size wr Z := by rw [HZ.out]; (repeat (first | exact Below.refl _ _ | refine Below.alloc ?_ (by simp; try omega) _ | refine Below.setCell ?_ (by simp) _ | refine Below.drew ?_))
        have q0 : Z.cell? ⟨wr.heap.size, 0, none⟩ = some (.int .i64 x) := by rw [HZ.out]; simp [go_sem]
        have q1 : Z.cell? ⟨wr.heap.size, 1, none⟩ = some (.int .i64 y) := by rw [HZ.out]; simp [go_sem]
        have q2 : Z.cell? ⟨wr.heap.size, 2, none⟩ = some (.int .i64 z) := by rw [HZ.out]; simp [go_sem]
        have ql : wr.heap.size < Z.heap.size := World.block_lt_of_cell? Z _ q0
        try replace hBV := up_of hZ hBV
        try replace gV := up_of hZ gV
        try replace hMV := up_of hZ hMV
        try replace hpV2 := up_of hZ hpV2
        obtain ⟨Z2, hrun, hM2, hg2⟩ := World.ownsMap.update (t := 124) hMV.drew key_ptk Tryz.underlying124 (by unfold maxLen; omega) hkey (plainElem_int (H := Unit) Tryz.underlying3 (a := (k : Int)) (wf_64 ⟨by omega, by omega⟩))
        have n4 : Z.cell? ⟨W1.heap.size + 1, 4, none⟩ = some (.map (some W1.heap.size)) := gV.cell rfl
        have hgl := gV.lt
        have hBs := hBV.size
        have hn1 : some (W1.heap.size + 1) ≠ some W1.heap.size := fun e => by injection e with e; omega
        have hZ2 : Below w.heap.size w Z2 := hBV.drew.grown hg2 (by exact hBs) (fun j e => by cases e; have := hw0.out; omega)
        have gZ2 : Row Z2 (W1.heap.size + 1) 126 #[.int .i64 n, .slice s l.length cap, .slice s2 K.length cq, .slice (some ⟨pb, po, none⟩) P.length cp, .map (some W1.heap.size)] := (hg2.block _ hgl hn1).trans gV
        have hne : pb ≠ W1.heap.size := fun e => by
          subst e
          obtain ⟨es, clock, h1, _⟩ := hMV
          have := p0
          have h3 := up_of hZ p0
          unfold World.cell? at h3
          simp only [h1] at h3
          cases h3
        have hpZ : PtS Z2 (some ⟨pb, po, none⟩) P := by
          rcases hpV2.out with h | ⟨b', o', e', hb', h⟩
          · exact .inl h
          · cases e'
            have hk : ∀ o, Z2.cell? ⟨pb, o, none⟩ = Z.cell? ⟨pb, o, none⟩ := fun o => World.cell?_of_block (hg2.block pb hb' (fun e => by injection e with e; exact hne e))
            refine .inr ⟨pb, po, rfl, Nat.lt_of_lt_of_le hb' hg2.size, fun i hi => ?_⟩
            rw [hk, hk, hk]
            exact h i hi
        replace hZ2 := Lib.hid hZ2; replace gZ2 := Lib.hid gZ2; replace hpZ := Lib.hid hpZ; replace hM2 := Lib.hid hM2
        clear hg2 hMV hBV gV hkey
        go_region
        all_goals
          go_wp2
          go_roundw
          case rel => exact ⟨k + 1, by omega, rfl, hZ2.out, gZ2.out, hpZ.out, by rw [hput.out]; exact hM2.out⟩
          case measure => exact meas hlt
      · obtain rfl : k = P.length := by omega
        have hrV := RecM.up hBV hr0.out
        go_wp2
        go_ret2
        exact ⟨⟨_, _, _, _, rfl, gV, hrV, hpV, hMV⟩, hBV⟩
end Go.Proofs.YtakbpjgnjfigcaaGreat
