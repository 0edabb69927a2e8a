/- The net's size, its elements, and where they are: the program. -/
import Derived.Test.YtadmnlkgefbhcaaNet1
namespace Go.Proofs.Ytadmnlkgefbhcaa
open Go.RowKit Go.Maps

/-- What lies where point i does. -/
theorem pt_at {w : World} {s : Option Addr} {l : List Pt} (c : PtS w s l) {i : Nat} (h : i < l.length) :
    ∃ b off, s = some ⟨b, off, none⟩ ∧ b < w.heap.size ∧ w.cell? ⟨b, off + i * 3, none⟩ = some (.int .i64 l[i].x) ∧ w.cell? ⟨b, off + i * 3 + 1, none⟩ = some (.int .i64 l[i].y) ∧ w.cell? ⟨b, off + i * 3 + 2, none⟩ = some (.int .i64 l[i].z) := by
  rcases c with c | ⟨b, off, e, hb, c⟩
  · subst c; simp at h
  · exact ⟨b, off, e, hb, c i h⟩
section
variable {g : Nat} {n : Int} {s : Option Addr} {cap : Nat} {l : List Iq} {s2 : Option Addr} {cq : Nat} {K : List Vv} {sp : Option Addr} {cp mb : Nat} {P : List Pt}
theorem Net.cells {T : Nat} {V : World} (h : Net T V g n s cap l s2 cq K sp cp mb P) : V.cell? ⟨g, 0, none⟩ = some (.int .i64 n) ∧ V.cell? ⟨g, 1, none⟩ = some (.slice s l.length cap) ∧ V.cell? ⟨g, 2, none⟩ = some (.slice s2 K.length cq) ∧ V.cell? ⟨g, 3, none⟩ = some (.slice sp P.length cp) ∧ V.cell? ⟨g, 4, none⟩ = some (.map (some mb)) :=
  ⟨h.row.cell rfl, h.row.cell rfl, h.row.cell rfl, h.row.cell rfl, h.row.cell rfl⟩
set_option maxRecDepth 100000 in
set_option maxHeartbeats 1000000 in
theorem size_c (w : World) (h : Net 106 w g n s cap l s2 cq K sp cp mb P) (ok : NetOk n K P) :
    Calls Try.prog 58 #[.pointer (some ⟨g, 0, none⟩)] w fun e w' => e = .returned (.int .i64 ((K.length * P.length : Nat) : Int)) ∧ Below w.heap.size w w' := by
  obtain ⟨n0, n1, n2, n3, n4⟩ := h.cells
  have hs := ok.size
  have e1 : (K.length : Int) * (P.length : Int) = ((K.length * P.length : Nat) : Int) := (Int.natCast_mul _ _).symm
  obtain ⟨m, hm⟩ : ∃ m, K.length * P.length = m := ⟨_, rfl⟩
  rw [hm] at e1 hs ⊢
  have w1 : IntKind.i64.wrap ((K.length : Int) * (P.length : Int)) = (m : Int) := by rw [e1]; exact i64_small (by omega)
  replace e1 := Lib.hid e1; replace hm := Lib.hid hm
  clear h
  go_enter Try.func58, Try.ntmps58
  go_upto_region 1 with (fail)
  refine wp_world fun W HW => ?_
  have hB : Below w.heap.size w W := by rw [HW.out]; (repeat (first | exact Below.refl _ _ | refine Below.alloc ?_ (by simp; try omega) _ | refine Below.setCell ?_ (by simp) _ | refine Below.drew ?_))
  try replace n0 := up_of hB n0
  try replace n2 := up_of hB n2
  try replace n3 := up_of hB n3
  try have ld_n0 := World.block_lt_of_cell? _ _ n0
  refine region_q (by kernel_rfl) (by kernel_rfl) ?_
  dsimp only [List.toList_toArray]
  repeat (first
   | go_big_quiet_skip
   | (go_big_quiet_want
      first
      | (refine qq_det ?_
         apply Exists.intro; refine ⟨fun W' hW' => ?_, ?_⟩
         (· have hk := cellB hW'; go_simp; try (first | rfl | rw [if_pos (by omega)]))
         simp only [Act.put, List.setIfInBounds_toArray, List.set_cons_zero, List.set_cons_succ]; go_big_quiet_on)))
  refine wpQuiet_nil ?_
  intro W1 hb
  try replace n0 := up_of hb n0
  try replace n2 := up_of hb n2
  try replace n3 := up_of hb n3
  try replace hB := up_of hb hB
  go_wp2
  go_ret
  exact ⟨rfl, hB⟩
theorem pOf_at {P : List Pt} {k : Nat} (h : k % P.length < P.length) : pOf P k = P[k % P.length] := by
  unfold pOf; rw [List.getD_eq_getElem?_getD, List.getElem?_eq_getElem h]; rfl
set_option maxRecDepth 100000 in
set_option maxHeartbeats 1000000 in
theorem element_cs (k : Nat) (w : World) (h : Net 106 w g n s cap l s2 cq K sp cp mb P) (ok : NetOk n K P) (hk : k < K.length * P.length) :
    Calls Try.prog 99 #[.pointer (some ⟨g, 0, none⟩), .int .i64 k] w fun e w' => e = .returned (.agg #[.int .i64 ((k / P.length : Nat) : Int), .int .i64 (pOf P k).x, .int .i64 (pOf P k).y, .int .i64 (pOf P k).z]) ∧ Below w.heap.size w w' ∧ w'.heap.size = w.heap.size + 1 := by
  obtain ⟨n0, n1, n2, n3, n4⟩ := h.cells
  obtain ⟨hk1, hk2, hk3⟩ := num_div hk
  have hs := ok.size
  have hkl := ok.vars
  obtain ⟨b, off, rfl, hb, p0, p1, p2⟩ := pt_at h.pts hk2
  rw [pOf_at hk2]
  obtain ⟨⟨x, y, z⟩, hp⟩ : ∃ p, P[k % P.length] = p := ⟨_, rfl⟩
  rw [hp] at p0 p1 p2 ⊢
  have q1 : (k : Int).tdiv (P.length : Int) = ((k / P.length : Nat) : Int) := rfl
  have q2 : (k : Int).tmod (P.length : Int) = ((k % P.length : Nat) : Int) := rfl
  have q3 : (k : Int) / (P.length : Int) = ((k / P.length : Nat) : Int) := rfl
  have q4 : (k : Int) % (P.length : Int) = ((k % P.length : Nat) : Int) := rfl
  obtain ⟨v, hv⟩ : ∃ v, k / P.length = v := ⟨_, rfl⟩
  obtain ⟨i, hi⟩ : ∃ i, k % P.length = i := ⟨_, rfl⟩
  have j1 : ¬ (P.length : Int) = 0 := by omega
  have j2 : ¬ P.length = 0 := by omega
  rw [hv] at q1 q3 ⊢
  simp only [hi] at p0 p1 p2 hk2 q2 q4
  have j3 : (0 : Int) ≤ (i : Int) := by omega
  have j4 : (i : Int) < (P.length : Int) := by omega
  have w1 : IntKind.i64.wrap (v : Int) = (v : Int) := i64_small (by omega)
  have w2 : IntKind.i64.wrap (i : Int) = (i : Int) := i64_small (by omega)
  replace hp := Lib.hid hp; replace hk3 := Lib.hid hk3; replace hv := Lib.hid hv; replace hi := Lib.hid hi; replace hk := Lib.hid hk
  clear h
  go_enter Try.func99, Try.ntmps99
  go_upto_region 1 with (fail)
  refine wp_world fun W HW => ?_
  have hB : Below w.heap.size w W := by rw [HW.out]; (repeat (first | exact Below.refl _ _ | refine Below.alloc ?_ (by simp; try omega) _ | refine Below.setCell ?_ (by simp) _ | refine Below.drew ?_))
  have rB : Row W (w.heap.size) 38 #[.int .i64 0, .int .i64 0, .int .i64 0, .int .i64 0] := (by rw [HW.out]; (repeat (first | (refine blk_new ?_; simp; done) | refine blk_old ?_ _)) : W.heap[w.heap.size]? = some (.cells #[.int .i64 0, .int .i64 0, .int .i64 0, .int .i64 0] 38 (0, 0)))
  have r0 : W.cell? ⟨w.heap.size, 0, none⟩ = some (.int .i64 0) := by rw [HW.out]; simp [go_sem]
  have r1 : W.cell? ⟨w.heap.size, 1, none⟩ = some (.int .i64 0) := by rw [HW.out]; simp [go_sem]
  have r2 : W.cell? ⟨w.heap.size, 2, none⟩ = some (.int .i64 0) := by rw [HW.out]; simp [go_sem]
  have r3 : W.cell? ⟨w.heap.size, 3, none⟩ = some (.int .i64 0) := by rw [HW.out]; simp [go_sem]
  have rl : w.heap.size < W.heap.size := World.block_lt_of_cell? W _ r0
  try replace n3 := up_of hB n3
  try replace p0 := up_of hB p0
  try replace p1 := up_of hB p1
  try replace p2 := up_of hB p2
  have rf := fun i => Row.frozen rB i
  have hWs : W.heap.size = w.heap.size + 1 := by rw [HW.out]; simp
  go_region
  all_goals
    go_wp2
    refine bodyPost_ret (resC1 rfl rfl (loadEl (cs := #[.int .i64 v, .int .i64 x, .int .i64 y, .int .i64 z]) (b1 := w.heap.size) ?_ rfl)) rfl ⟨rfl, ?_, ?_⟩
    · refine Row.of ?_
      repeat (first | (with_reducible refine RowG.base rB ?_) | (with_reducible refine RowG.drew ?_) | (with_reducible refine RowG.set ?_) | ((with_reducible refine RowG.other ?_ ?_); (focus (first | omega | (simp; done) | (simp; omega)))) | (with_reducible refine RowG.alloc ?_))
      rfl
    · repeat (first | (with_reducible exact hB) | (with_reducible refine Below.drew ?_) | ((with_reducible refine Below.setC ?_ ?_); (focus (first | omega | (simp; done) | (simp; omega)))) | ((with_reducible refine Below.allo ?_ ?_); (focus (first | omega | (simp; done) | (simp; omega)))))
    · simp [World.setCell, hWs]
theorem element_c (k : Nat) (w : World) (h : Net 106 w g n s cap l s2 cq K sp cp mb P) (ok : NetOk n K P) (hk : k < K.length * P.length) :
    Calls Try.prog 99 #[.pointer (some ⟨g, 0, none⟩), .int .i64 k] w fun e w' => e = .returned (.agg #[.int .i64 ((k / P.length : Nat) : Int), .int .i64 (pOf P k).x, .int .i64 (pOf P k).y, .int .i64 (pOf P k).z]) ∧ Below w.heap.size w w' :=
  (element_cs k w h ok hk).mono fun e w' ⟨h1, h2, _⟩ => ⟨h1, h2⟩
/-- The number of an element. -/
def numZ (P : List Pt) (v : Int) (p : Pt) : Int := v * P.length + ((pix P p).getD 0 : Nat)
def isEl (K : List Vv) (P : List Pt) (v : Int) (p : Pt) : Bool := (pix P p).isSome && bw 0 v (K.length - 1)
theorem pix_lt {P : List Pt} {p : Pt} : (pix P p).getD 0 ≤ P.length := by
  cases h : pix P p with
  | none => simp
  | some i => have := (pix_some h).1; simp; omega
set_option maxRecDepth 100000 in
set_option maxHeartbeats 1000000 in
theorem argument_c (a : Ar) (p : Pt) (w : World) (h : Net 106 w g n s cap l s2 cq K sp cp mb P) (ok : NetOk n K P) (hp : p.small 20) (ha : a.p.small 3) (hav : bw 0 a.v (K.length - 1) = true) :
    Calls Try.prog 74 #[.pointer (some ⟨g, 0, none⟩), .agg #[.int .i64 a.v, .int .i64 a.p.x, .int .i64 a.p.y, .int .i64 a.p.z], .agg #[.int .i64 p.x, .int .i64 p.y, .int .i64 p.z]] w fun e w' => e = .returned (.tuple #[.int .i64 (numZ P a.v (ptP p a.p)), .agg #[.int .i64 (ptP p a.p).x, .int .i64 (ptP p a.p).y, .int .i64 (ptP p a.p).z], .bool (pix P (ptP p a.p)).isSome]) ∧ Below w.heap.size w w' := by
  obtain ⟨n0, n1, n2, n3, n4⟩ := h.cells
  have hpl := fun V => plus_c p a.p V ⟨by have := hp.1; omega, by have := hp.2.1; omega, by have := hp.2.2; omega⟩ ⟨by have := ha.1; omega, by have := ha.2.1; omega, by have := ha.2.2; omega⟩
  have hlk := fun V (h : Net 106 V g n s cap l s2 cq K sp cp mb P) => (h.look ok (p := ptP p a.p) (small_i64 (ptP_small hp ha) (by omega))).1
  have hnz : numZ P a.v (ptP p a.p) = a.v * P.length + ((pix P (ptP p a.p)).getD 0 : Nat) := rfl
  have hil := pix_lt (P := P) (p := ptP p a.p)
  have hPl := ok.len
  have hKl := ok.vars
  obtain ⟨av, hav2⟩ : ∃ m : Nat, a.v = m := ⟨a.v.toNat, by have := bw_iff.1 hav; omega⟩
  have hal : av ≤ 4 := by have := bw_iff.1 hav; omega
  rw [hav2] at hnz ⊢
  have hm := Nat.mul_le_mul hal hPl
  have e1 : (av : Int) * (P.length : Int) = ((av * P.length : Nat) : Int) := (Int.natCast_mul _ _).symm
  obtain ⟨⟨qx, qy, qz⟩, hq⟩ : ∃ q, ptP p a.p = q := ⟨_, rfl⟩
  simp only [hq] at hpl hlk hnz hil ⊢
  obtain ⟨ax, ay, az, hax⟩ : ∃ x y z, a.p = ⟨x, y, z⟩ := ⟨_, _, _, rfl⟩
  simp only [hax] at hpl ⊢
  obtain ⟨i, hi⟩ : ∃ i, (pix P ⟨qx, qy, qz⟩).getD 0 = i := ⟨_, rfl⟩
  obtain ⟨B, hB0⟩ : ∃ B, (pix P ⟨qx, qy, qz⟩).isSome = B := ⟨_, rfl⟩
  obtain ⟨NZ, hNZ⟩ : ∃ z, numZ P av ⟨qx, qy, qz⟩ = z := ⟨_, rfl⟩
  simp only [hi, hB0] at hlk hil
  simp only [hi, hNZ] at hnz
  rw [hB0, hNZ]
  obtain ⟨M, hM⟩ : ∃ m, av * P.length = m := ⟨_, rfl⟩
  rw [hM] at e1 hm
  rw [e1] at hnz
  have w1 : IntKind.i64.wrap ((av : Int) * (P.length : Int)) = (M : Int) := by rw [e1]; exact i64_small (by omega)
  have w2 : IntKind.i64.wrap ((M : Int) + (i : Int)) = NZ := by rw [hnz]; exact i64_small (by omega)
  replace hpl := Lib.hid hpl; replace hlk := Lib.hid hlk; replace hnz := Lib.hid hnz; replace e1 := Lib.hid e1; replace hM := Lib.hid hM; replace hi := Lib.hid hi; replace hB0 := Lib.hid hB0; replace hNZ := Lib.hid hNZ; replace hq := Lib.hid hq; replace hax := Lib.hid hax; replace hav2 := Lib.hid hav2; replace hav := Lib.hid hav
  have h0 := Lib.hid h
  clear hp ha hil h
  go_enter Try.func74, Try.ntmps74
  go_upto_region 1 with (fail)
  refine wp_world fun W HW => ?_
  have hB : Below w.heap.size w W := by rw [HW.out]; (repeat (first | exact Below.refl _ _ | refine Below.alloc ?_ (by simp; try omega) _ | refine Below.setCell ?_ (by simp) _ | refine Below.drew ?_))
  have a0 : W.cell? ⟨w.heap.size, 0, none⟩ = some (.int .i64 av) := by rw [HW.out]; simp [go_sem]
  have a1 : W.cell? ⟨w.heap.size, 1, none⟩ = some (.int .i64 ax) := by rw [HW.out]; simp [go_sem]
  have a2 : W.cell? ⟨w.heap.size, 2, none⟩ = some (.int .i64 ay) := by rw [HW.out]; simp [go_sem]
  have a3 : W.cell? ⟨w.heap.size, 3, none⟩ = some (.int .i64 az) := by rw [HW.out]; simp [go_sem]
  have al : w.heap.size < W.heap.size := World.block_lt_of_cell? W _ a0
  have q0 : W.cell? ⟨w.heap.size + 1, 0, none⟩ = some (.int .i64 p.x) := by rw [HW.out]; simp [go_sem]
  have q1 : W.cell? ⟨w.heap.size + 1, 1, none⟩ = some (.int .i64 p.y) := by rw [HW.out]; simp [go_sem]
  have q2 : W.cell? ⟨w.heap.size + 1, 2, none⟩ = some (.int .i64 p.z) := by rw [HW.out]; simp [go_sem]
  have ql : w.heap.size + 1 < W.heap.size := World.block_lt_of_cell? W _ q0
  have rB : Row W (w.heap.size + 2) 29 #[.int .i64 0, .int .i64 0, .int .i64 0] := (by rw [HW.out]; (repeat (first | (refine blk_new ?_; simp; done) | refine blk_old ?_ _)) : W.heap[w.heap.size + 2]? = some (.cells #[.int .i64 0, .int .i64 0, .int .i64 0] 29 (0, 0)))
  have r0 : W.cell? ⟨w.heap.size + 2, 0, none⟩ = some (.int .i64 0) := by rw [HW.out]; simp [go_sem]
  have r1 : W.cell? ⟨w.heap.size + 2, 1, none⟩ = some (.int .i64 0) := by rw [HW.out]; simp [go_sem]
  have r2 : W.cell? ⟨w.heap.size + 2, 2, none⟩ = some (.int .i64 0) := by rw [HW.out]; simp [go_sem]
  have rl : w.heap.size + 2 < W.heap.size := World.block_lt_of_cell? W _ r0
  try replace h0 := up_of hB h0
  try replace n0 := up_of hB n0
  try replace n3 := up_of hB n3
  try replace n4 := up_of hB n4
  go_upto_region 2 with (first | (go_at_call 106; refine (hpl.out _).mono ?_; rintro e W1 ⟨rfl, hb⟩; (try replace h0 := up_of hb h0); (try replace n0 := up_of hb n0); (try replace n3 := up_of hb n3); (try replace n4 := up_of hb n4); (try replace hB := up_of hb hB); (try replace a0 := up_of hb a0); (try replace a1 := up_of hb a1); (try replace a2 := up_of hb a2); (try replace a3 := up_of hb a3); (try replace al := up_of hb al); (try replace q0 := up_of hb q0); (try replace q1 := up_of hb q1); (try replace q2 := up_of hb q2); (try replace ql := up_of hb ql); (try replace rB := up_of hb rB); (try replace r0 := up_of hb r0); (try replace r1 := up_of hb r1); (try replace r2 := up_of hb r2); (try replace rl := up_of hb rl)))
  refine wp_world fun X HX => ?_
  have hX : Below W1.heap.size W1 X := by rw [HX.out]; (repeat (first | exact Below.refl _ _ | refine Below.alloc ?_ (by simp; try omega) _ | refine Below.setCell ?_ (by simp) _ | refine Below.drew ?_))
  have z0 : X.cell? ⟨W1.heap.size, 0, none⟩ = some (.int .i64 qx) := by rw [HX.out]; simp [go_sem]
  have z1 : X.cell? ⟨W1.heap.size, 1, none⟩ = some (.int .i64 qy) := by rw [HX.out]; simp [go_sem]
  have z2 : X.cell? ⟨W1.heap.size, 2, none⟩ = some (.int .i64 qz) := by rw [HX.out]; simp [go_sem]
  have zl : W1.heap.size < X.heap.size := World.block_lt_of_cell? X _ z0
  try replace h0 := up_of hX h0
  try replace n0 := up_of hX n0
  try replace n3 := up_of hX n3
  try replace n4 := up_of hX n4
  try replace hB := up_of hX hB
  try replace a0 := up_of hX a0
  try replace a1 := up_of hX a1
  try replace a2 := up_of hX a2
  try replace a3 := up_of hX a3
  try replace al := up_of hX al
  try replace q0 := up_of hX q0
  try replace q1 := up_of hX q1
  try replace q2 := up_of hX q2
  try replace ql := up_of hX ql
  try replace rB := up_of hX rB
  try replace r0 := up_of hX r0
  try replace r1 := up_of hX r1
  try replace r2 := up_of hX r2
  try replace rl := up_of hX rl
  try have ld_h0 := World.block_lt_of_cell? _ _ h0
  try have ld_n0 := World.block_lt_of_cell? _ _ n0
  try have ld_a0 := World.block_lt_of_cell? _ _ a0
  try have ld_q0 := World.block_lt_of_cell? _ _ q0
  try have ld_r0 := World.block_lt_of_cell? _ _ r0
  try have ld_z0 := World.block_lt_of_cell? _ _ z0
  refine region_q (by kernel_rfl) (by kernel_rfl) ?_
  dsimp only [List.toList_toArray]
  repeat (first
   | go_big_quiet_skip
   | (go_big_quiet_want
      first
      | (refine qq_det ?_
         apply Exists.intro; refine ⟨fun W' hW' => ?_, ?_⟩
         (· have hk := cellB hW'; have hlk9 := hlk.out W' (up_of hW' h0).out; go_simp; try (first | rfl | rw [if_pos (by omega)]))
         simp only [Act.put, List.setIfInBounds_toArray, List.set_cons_zero, List.set_cons_succ]; go_big_quiet_on)))
  refine wpQuiet_nil ?_
  intro X2 hb
  try replace h0 := up_of hb h0
  try replace n0 := up_of hb n0
  try replace n3 := up_of hb n3
  try replace n4 := up_of hb n4
  try replace hB := up_of hb hB
  try replace a0 := up_of hb a0
  try replace a1 := up_of hb a1
  try replace a2 := up_of hb a2
  try replace a3 := up_of hb a3
  try replace al := up_of hb al
  try replace q0 := up_of hb q0
  try replace q1 := up_of hb q1
  try replace q2 := up_of hb q2
  try replace ql := up_of hb ql
  try replace rB := up_of hb rB
  try replace r0 := up_of hb r0
  try replace r1 := up_of hb r1
  try replace r2 := up_of hb r2
  try replace rl := up_of hb rl
  try replace hX := up_of hb hX
  try replace z0 := up_of hb z0
  try replace z1 := up_of hb z1
  try replace z2 := up_of hb z2
  try replace zl := up_of hb zl
  have rf := fun i => Row.frozen rB i
  go_upto_region 3 with (fail)
  go_region
  all_goals
    go_wp2
    refine bodyPost_ret (resTCT rfl rfl rfl rfl (loadPt (cs := #[.int .i64 qx, .int .i64 qy, .int .i64 qz]) (b1 := w.heap.size + 2) ?_ rfl)) rfl ⟨rfl, ?_⟩
    · refine Row.of ?_
      repeat (first | (with_reducible refine RowG.base rB ?_) | (with_reducible refine RowG.drew ?_) | (with_reducible refine RowG.set ?_) | ((with_reducible refine RowG.other ?_ ?_); (focus (first | omega | (simp; done) | (simp; omega)))) | (with_reducible refine RowG.alloc ?_))
      rfl
    · repeat (first | (with_reducible exact hB) | (with_reducible refine Below.drew ?_) | ((with_reducible refine Below.setC ?_ ?_); (focus (first | omega | (simp; done) | (simp; omega)))) | ((with_reducible refine Below.allo ?_ ?_); (focus (first | omega | (simp; done) | (simp; omega)))))
end
end Go.Proofs.Ytadmnlkgefbhcaa
