/- Recurrences of equal content are the same. -/
import Derived.Test.YtadmnlkgefbhcaaTrnM
namespace Go.Proofs.Ytadmnlkgefbhcaa
open Go.RowKit

theorem run_equalIn_int4 {P : Program} (w : World) (d : Nat) (t e : TypeId) (k : IntKind) (a0 a1 a2 a3 : Int)
    (ht : P.underlying t = some (.array 4 e)) (he : P.underlying e = some (.int k)) (hs : ∀ w, (sizeOf e).run P w = .ok 1 w) (hg : ∀ w, (isAgg e).run P w = .ok false w) :
    (Op.equalIn (d + 1 + 1) t (.agg #[.int k a0, .int k a1, .int k a2, .int k a3]) (.agg #[.int k a0, .int k a1, .int k a2, .int k a3])).run P w = .ok true w := by
  rw [Op.equalIn]
  simp only [Sem.run_bind, run_underlying ht, Result.andThen_ok, hs]
  simp only [Std.Legacy.Range.forIn_eq_forIn_range', Std.Legacy.Range.size]
  simp [Sem.run_bind, Result.andThen_ok, hs, hg, List.range', Op.equalIn, run_underlying he, part]
set_option maxRecDepth 100000 in
theorem init_self (w : World) (a0 a1 a2 a3 : Int) : (Op.equalIn 10000 55 (.agg #[.int .i64 a0, .int .i64 a1, .int .i64 a2, .int .i64 a3]) (.agg #[.int .i64 a0, .int .i64 a1, .int .i64 a2, .int .i64 a3])).run Try.prog w = .ok true w :=
  run_equalIn_int4 w 9998 _ 3 .i64 _ _ _ _ rfl rfl (fun _ => rfl) (fun _ => rfl)
set_option maxRecDepth 100000 in
theorem arg_self (v x y z : Int) (w : World) : (Op.equalIn 10000 78 (.agg #[.int .i64 v, .int .i64 x, .int .i64 y, .int .i64 z]) (.agg #[.int .i64 v, .int .i64 x, .int .i64 y, .int .i64 z])).run Try.prog w = .ok true w := by
  rw [show (10000 : Nat) = 9999 + 1 from rfl, run_equalIn_agg w 9999 78 _ _ (by kernel_rfl) (by kernel_rfl)]
  simp only [Program.fieldsOf, Try.underlying78]
  have h2 : ∀ (x y : Int) w, (Op.equalIn 9999 3 (.int .i64 x) (.int .i64 y)).run Try.prog w = .ok (x == y) w := fun x y w => run_equalIn_int w 9998 _ _ .i64 _ _ Try.underlying3
  have p0 : ∀ (x y z u : Value) (w : World), (part 3 #[x, y, z, u] 0).run Try.prog w = .ok x w := fun x y z u w => by simp [part, go_sem]
  have p1 : ∀ (x y z u : Value) (w : World), (part 29 #[x, y, z, u] 1).run Try.prog w = .ok (.agg #[y, z, u]) w := fun x y z u w => by simp [part, go_sem]
  have h3 : ∀ (a0 a1 a2 b0 b1 b2 : Int) w, (Op.equalIn 9999 29 (.agg #[.int .i64 a0, .int .i64 a1, .int .i64 a2]) (.agg #[.int .i64 b0, .int .i64 b1, .int .i64 b2])).run Try.prog w = .ok (a0 == b0 && (a1 == b1 && a2 == b2)) w := fun a0 a1 a2 b0 b1 b2 w => pt_eql w 9997 _ _ _ _ _ _
  simp [Op.eqFields, p0, p1, Sem.run_bind, h2, h3]
set_option maxRecDepth 100000 in
set_option maxHeartbeats 2000000 in
theorem Same2_eq (n : Int) (s1 s2 : Option Addr) (c1 c2 : Nat) (l : List Iq) (t1 t2 : Option Addr) (q1 q2 : Nat) (K : List Vv) (w : World) (h1 : IqS w s1 l) (h2 : IqS w s2 l) (v1 : VarsM w t1 K) (v2 : VarsM w t2 K) (hl : l.length ≤ 9223372036854775807) (hk : K.length ≤ 9223372036854775807) :
    Calls Try.prog 17 #[.agg #[.int .i64 n, .slice s1 l.length c1, .slice t1 K.length q1], .agg #[.int .i64 n, .slice s2 l.length c2, .slice t2 K.length q2]] w fun e w' => e = .returned (.bool true) ∧ Below w.heap.size w w' := by
  have hsm := fun V (a : IqS V s1 l) (b : IqS V s2 l) => Same_eq n s1 s2 c1 c2 l V a b hl
  have hKb : ((K.length : Int) != K.length) = false := by simp
  replace hsm := Lib.hid hsm
  go_enter Try.func17, Try.ntmps17
  go_upto_region 1 with (fail)
  refine wp_world fun W HW => ?_
  have hB : Below w.heap.size w W := by rw [HW.out]; (repeat (first | exact Below.refl _ _ | refine Below.alloc ?_ (by simp; try omega) _ | refine Below.setCell ?_ (by simp) _ | refine Below.drew ?_))
  have d0 : W.cell? ⟨w.heap.size, 0, none⟩ = some (.int .i64 n) := by rw [HW.out]; simp [go_sem]
  have d1 : W.cell? ⟨w.heap.size, 1, none⟩ = some (.slice s1 l.length c1) := by rw [HW.out]; simp [go_sem]
  have d2 : W.cell? ⟨w.heap.size, 2, none⟩ = some (.slice t1 K.length q1) := by rw [HW.out]; simp [go_sem]
  have dl : w.heap.size < W.heap.size := World.block_lt_of_cell? W _ d0
  have e0 : W.cell? ⟨w.heap.size + 1, 0, none⟩ = some (.int .i64 n) := by rw [HW.out]; simp [go_sem]
  have e1 : W.cell? ⟨w.heap.size + 1, 1, none⟩ = some (.slice s2 l.length c2) := by rw [HW.out]; simp [go_sem]
  have e2 : W.cell? ⟨w.heap.size + 1, 2, none⟩ = some (.slice t2 K.length q2) := by rw [HW.out]; simp [go_sem]
  have el : w.heap.size + 1 < W.heap.size := World.block_lt_of_cell? W _ e0
  try replace v1 := up_of hB v1
  try replace v2 := up_of hB v2
  have h1W := Up.iq hB h1
  have h2W := Up.iq hB h2
  clear h1 h2
  go_upto_region 3 with (first | (go_at_call 54; refine (hsm.out _ h1W h2W).mono ?_; rintro e W2 ⟨rfl, hb⟩; (try replace v1 := up_of hb v1); (try replace v2 := up_of hb v2); (try replace hB := up_of hb hB); (try replace d0 := up_of hb d0); (try replace d1 := up_of hb d1); (try replace d2 := up_of hb d2); (try replace dl := up_of hb dl); (try replace e0 := up_of hb e0); (try replace e1 := up_of hb e1); (try replace e2 := up_of hb e2); (try replace el := up_of hb el)))
  clear h1W h2W hsm
  obtain ⟨A, hAe⟩ : ∃ A, A = W2 := ⟨_, rfl⟩
  have h0 : Below A.heap.size A W2 := by rw [hAe]; exact Below.refl _ _
  have hA1 := Lib.hid (show VarsM A t1 K by rw [hAe]; exact v1)
  have hA2 := Lib.hid (show VarsM A t2 K by rw [hAe]; exact v2)
  have hBA := Lib.hid (show Below w.heap.size w A by rw [hAe]; exact hB)
  have dA := Lib.hid (show A.cell? ⟨w.heap.size, 2, none⟩ = some (.slice t1 K.length q1) ∧ A.cell? ⟨w.heap.size + 1, 2, none⟩ = some (.slice t2 K.length q2) by rw [hAe]; exact ⟨d2, e2⟩)
  clear v1 v2 hB d0 d1 e0 e1 hAe dl el
  go_wp2
  clear d2 e2
  go_loopw [5] (fun ii V => ∃ k : Nat, k ≤ K.length ∧ ii = .int .i64 k ∧ Below A.heap.size A V) (fun ii _ => K.length - (intOf ii).toNat)
  case atStart => exact ⟨0, by omega, rfl, h0⟩
  case round =>
    clear h0
    obtain ⟨k, hk', rfl, hBV⟩ := hrel
    have hB := hBA.out.trans (hBV.mono hBA.out.size)
    obtain ⟨d2, e2⟩ := dA.out
    replace d2 := up_of hBV d2; replace e2 := up_of hBV e2
    by_cases hlt : k < K.length
    · obtain ⟨b1, o1, sa1, ca1, f1, hb1, x0, x1, x2, x3, x4, x5, x6, hsa1, hla1, -, -⟩ := (up_of hBV hA1.out).at hlt
      obtain ⟨b2, o2, sa2, ca2, f2, hb2, y0, y1, y2, y3, y4, y5, y6, hsa2, hla2, -, -⟩ := (up_of hBV hA2.out).at hlt
      cases f1; cases f2
      obtain ⟨X, hX⟩ : ∃ x, K[k] = x := ⟨_, rfl⟩
      rw [hX] at x0 x1 x2 x3 x4 x5 x6 y0 y1 y2 y3 y4 y5 y6 hsa1 hsa2 hla1
      have i1 : (0 : Int) ≤ (k : Int) := by omega
      have i2 : (k : Int) < (K.length : Int) := by omega
      have hin := fun W => init_self W X.i0 X.i1 X.i2 X.i3
      replace hX := Lib.hid hX
      obtain ⟨V0, rfl⟩ : ∃ V0, V0 = wr := ⟨wr, rfl⟩
      go_upto_region 6 with (fail)
      go_region_held3 (fun V => V.cell? ⟨w.heap.size, 2, none⟩ = some (.slice (some ⟨b1, o1, none⟩) K.length q1) ∧ V.cell? ⟨w.heap.size + 1, 2, none⟩ = some (.slice (some ⟨b2, o2, none⟩) K.length q2) ∧ V.cell? ⟨b1, o1 + k * 7, none⟩ = some (.string X.name) ∧ V.cell? ⟨b1, o1 + k * 7 + 1, none⟩ = some (.int .i64 X.op) ∧ V.cell? ⟨b1, o1 + k * 7 + 2, none⟩ = some (.slice sa1 X.args.length ca1) ∧ V.cell? ⟨b1, o1 + k * 7 + 3, none⟩ = some (.int .i64 X.i0) ∧ V.cell? ⟨b1, o1 + k * 7 + 4, none⟩ = some (.int .i64 X.i1) ∧ V.cell? ⟨b1, o1 + k * 7 + 5, none⟩ = some (.int .i64 X.i2) ∧ V.cell? ⟨b1, o1 + k * 7 + 6, none⟩ = some (.int .i64 X.i3) ∧ V.cell? ⟨b2, o2 + k * 7, none⟩ = some (.string X.name) ∧ V.cell? ⟨b2, o2 + k * 7 + 1, none⟩ = some (.int .i64 X.op) ∧ V.cell? ⟨b2, o2 + k * 7 + 2, none⟩ = some (.slice sa2 X.args.length ca2) ∧ V.cell? ⟨b2, o2 + k * 7 + 3, none⟩ = some (.int .i64 X.i0) ∧ V.cell? ⟨b2, o2 + k * 7 + 4, none⟩ = some (.int .i64 X.i1) ∧ V.cell? ⟨b2, o2 + k * 7 + 5, none⟩ = some (.int .i64 X.i2) ∧ V.cell? ⟨b2, o2 + k * 7 + 6, none⟩ = some (.int .i64 X.i3)) ((first | (with_reducible exact ⟨d2, e2, x0, x1, x2, x3, x4, x5, x6, y0, y1, y2, y3, y4, y5, y6⟩) | ((try dsimp only); (repeat' apply And.intro) <;> (repeat (first | (with_reducible assumption) | (with_reducible refine cell_set (by simp; try omega) ?_) | (with_reducible refine cell_drew ?_) | (with_reducible refine cell_alloc ?_ _)))))) ((first | fail))
      · refine exit_world fun Z HZ => ?_
        have hZ : Below V0.heap.size V0 Z := by
          rw [HZ.out]
          repeat (first | (with_reducible exact Below.refl _ _) | (with_reducible refine Below.drew ?_) | ((with_reducible refine Below.setC ?_ ?_); (focus (first | omega | (simp; done) | (simp; omega)))) | ((with_reducible refine Below.allo ?_ ?_); (focus (first | omega | (simp; done) | (simp; omega)))))
        have tA : Row Z (V0.heap.size) 57 #[.string X.name, .int .i64 X.op, .slice sa1 X.args.length ca1, .int .i64 X.i0, .int .i64 X.i1, .int .i64 X.i2, .int .i64 X.i3] := by
          rw [HZ.out]
          refine Row.of ?_
          repeat (first | (with_reducible refine RowG.new ?_) | (with_reducible refine RowG.drew ?_) | (with_reducible refine RowG.set ?_) | ((with_reducible refine RowG.other ?_ ?_); (focus (first | omega | (simp; done) | (simp; omega)))) | ((with_reducible refine RowG.new' ?_ ?_); (focus (first | omega | (simp; done) | (simp; omega)))) | (with_reducible refine RowG.alloc ?_))
          rfl
        have tB : Row Z (V0.heap.size + 1) 57 #[.string X.name, .int .i64 X.op, .slice sa2 X.args.length ca2, .int .i64 X.i0, .int .i64 X.i1, .int .i64 X.i2, .int .i64 X.i3] := by
          rw [HZ.out]
          refine Row.of ?_
          repeat (first | (with_reducible refine RowG.new ?_) | (with_reducible refine RowG.drew ?_) | (with_reducible refine RowG.set ?_) | ((with_reducible refine RowG.other ?_ ?_); (focus (first | omega | (simp; done) | (simp; omega)))) | ((with_reducible refine RowG.new' ?_ ?_); (focus (first | omega | (simp; done) | (simp; omega)))) | (with_reducible refine RowG.alloc ?_))
          rfl
        have hBZ := hBV.trans (hZ.mono hBV.size)
        replace hsa1 := up_of hZ hsa1
        replace hsa2 := up_of hZ hsa2
        clear HZ d2 e2 x0 x1 x2 x3 x4 x5 x6 y0 y1 y2 y3 y4 y5 y6 hZ hBV hB
        have hta := Lib.hid tA
        have htb := Lib.hid tB
        have hsA := Lib.hid hsa1
        have hsB := Lib.hid hsa2
        have p0 : Z.cell? ⟨V0.heap.size, 0, none⟩ = some (.string X.name) := tA.cell rfl
        have p1 : Z.cell? ⟨V0.heap.size, 1, none⟩ = some (.int .i64 X.op) := tA.cell rfl
        have p2 : Z.cell? ⟨V0.heap.size, 2, none⟩ = some (.slice sa1 X.args.length ca1) := tA.cell rfl
        have p3 : Z.cell? ⟨V0.heap.size, 3, none⟩ = some (.int .i64 X.i0) := tA.cell rfl
        have p4 : Z.cell? ⟨V0.heap.size, 4, none⟩ = some (.int .i64 X.i1) := tA.cell rfl
        have p5 : Z.cell? ⟨V0.heap.size, 5, none⟩ = some (.int .i64 X.i2) := tA.cell rfl
        have p6 : Z.cell? ⟨V0.heap.size, 6, none⟩ = some (.int .i64 X.i3) := tA.cell rfl
        have r0 : Z.cell? ⟨V0.heap.size + 1, 0, none⟩ = some (.string X.name) := tB.cell rfl
        have r1 : Z.cell? ⟨V0.heap.size + 1, 1, none⟩ = some (.int .i64 X.op) := tB.cell rfl
        have r2 : Z.cell? ⟨V0.heap.size + 1, 2, none⟩ = some (.slice sa2 X.args.length ca2) := tB.cell rfl
        have r3 : Z.cell? ⟨V0.heap.size + 1, 3, none⟩ = some (.int .i64 X.i0) := tB.cell rfl
        have r4 : Z.cell? ⟨V0.heap.size + 1, 4, none⟩ = some (.int .i64 X.i1) := tB.cell rfl
        have r5 : Z.cell? ⟨V0.heap.size + 1, 5, none⟩ = some (.int .i64 X.i2) := tB.cell rfl
        have r6 : Z.cell? ⟨V0.heap.size + 1, 6, none⟩ = some (.int .i64 X.i3) := tB.cell rfl
        have hob : (X.op != X.op) = false := by simp
        have hal : ((X.args.length : Int) != X.args.length) = false := by simp
        clear hsa1 hsa2 tA tB
        go_wp2
        clear p0 p1 p2 p3 p4 p5 p6 r0 r1 r2 r3 r4 r5 r6
        go_loopw [8] (fun jj V => ∃ j : Nat, j ≤ X.args.length ∧ jj = .int .i64 j ∧ Below Z.heap.size Z V) (fun jj _ => X.args.length - (intOf jj).toNat)
        case atStart => exact ⟨0, by omega, rfl, Below.refl _ _⟩
        case round =>
          obtain ⟨j, hj, rfl, hBW⟩ := hrel
          have p0 : wr.cell? ⟨V0.heap.size, 2, none⟩ = some (.slice sa1 X.args.length ca1) := (up_of hBW hta.out).cell rfl
          have r0 : wr.cell? ⟨V0.heap.size + 1, 2, none⟩ = some (.slice sa2 X.args.length ca2) := (up_of hBW htb.out).cell rfl
          by_cases hlj : j < X.args.length
          · obtain ⟨g1, h1, k1, hg1, z0, z1, z2, z3⟩ := (up_of hBW hsA.out).ar_at hlj
            obtain ⟨g2, h2, k2, hg2, u0, u1, u2, u3⟩ := (up_of hBW hsB.out).ar_at hlj
            cases k1; cases k2
            obtain ⟨⟨av, ⟨ax, ay, az⟩⟩, ha⟩ : ∃ x, X.args[j] = x := ⟨_, rfl⟩
            simp only [ha] at z0 z1 z2 z3 u0 u1 u2 u3
            have has := fun V => arg_self av ax ay az V
            have j1 : (0 : Int) ≤ (j : Int) := by omega
            have j2 : (j : Int) < (X.args.length : Int) := by omega
            replace ha := Lib.hid ha
            go_upto_region 12 with (fail)
            try have ld_p0 := World.block_lt_of_cell? _ _ p0
            try have ld_r0 := World.block_lt_of_cell? _ _ r0
            try have ld_z0 := World.block_lt_of_cell? _ _ z0
            try have ld_u0 := World.block_lt_of_cell? _ _ u0
            refine region_q (by kernel_rfl) (by kernel_rfl) ?_
            dsimp only [List.toList_toArray]
            repeat (first
             | go_big_quiet_skip
             | (go_big_quiet_want
                first
                | (refine qq_det ?_
                   apply Exists.intro; refine ⟨fun W' hW' => ?_, ?_⟩
                   (· have hk := cellB hW'; go_simp; try (first | rfl | rw [if_pos (by omega)]))
                   simp only [Act.put, List.setIfInBounds_toArray, List.set_cons_zero, List.set_cons_succ]; go_big_quiet_on)))
            refine wpQuiet_nil ?_
            intro X1 hb
            try replace p0 := up_of hb p0
            try replace r0 := up_of hb r0
            try replace z0 := up_of hb z0
            try replace z1 := up_of hb z1
            try replace z2 := up_of hb z2
            try replace z3 := up_of hb z3
            try replace u0 := up_of hb u0
            try replace u1 := up_of hb u1
            try replace u2 := up_of hb u2
            try replace u3 := up_of hb u3
            try replace hBW := up_of hb hBW
            go_wp2
            go_roundw
            case rel => exact ⟨j + 1, by omega, rfl, hBW⟩
            case measure => exact meas hlj
          · obtain rfl : j = X.args.length := by omega
            have hBV2 := hBZ.trans (hBW.mono hBZ.size)
            go_wp2
            go_roundw
            case rel => exact ⟨k + 1, by omega, rfl, hBV2⟩
            case measure => exact meas hlt

      · refine exit_world fun Z HZ => ?_
        have hZ : Below V0.heap.size V0 Z := by
          rw [HZ.out]
          repeat (first | (with_reducible exact Below.refl _ _) | (with_reducible refine Below.drew ?_) | ((with_reducible refine Below.setC ?_ ?_); (focus (first | omega | (simp; done) | (simp; omega)))) | ((with_reducible refine Below.allo ?_ ?_); (focus (first | omega | (simp; done) | (simp; omega)))))
        have tA : Row Z (V0.heap.size + 1) 57 #[.string X.name, .int .i64 X.op, .slice sa1 X.args.length ca1, .int .i64 X.i0, .int .i64 X.i1, .int .i64 X.i2, .int .i64 X.i3] := by
          rw [HZ.out]
          refine Row.of ?_
          repeat (first | (with_reducible refine RowG.new ?_) | (with_reducible refine RowG.drew ?_) | (with_reducible refine RowG.set ?_) | ((with_reducible refine RowG.other ?_ ?_); (focus (first | omega | (simp; done) | (simp; omega)))) | ((with_reducible refine RowG.new' ?_ ?_); (focus (first | omega | (simp; done) | (simp; omega)))) | (with_reducible refine RowG.alloc ?_))
          rfl
        have tB : Row Z (V0.heap.size) 57 #[.string X.name, .int .i64 X.op, .slice sa2 X.args.length ca2, .int .i64 X.i0, .int .i64 X.i1, .int .i64 X.i2, .int .i64 X.i3] := by
          rw [HZ.out]
          refine Row.of ?_
          repeat (first | (with_reducible refine RowG.new ?_) | (with_reducible refine RowG.drew ?_) | (with_reducible refine RowG.set ?_) | ((with_reducible refine RowG.other ?_ ?_); (focus (first | omega | (simp; done) | (simp; omega)))) | ((with_reducible refine RowG.new' ?_ ?_); (focus (first | omega | (simp; done) | (simp; omega)))) | (with_reducible refine RowG.alloc ?_))
          rfl
        have hBZ := hBV.trans (hZ.mono hBV.size)
        replace hsa1 := up_of hZ hsa1
        replace hsa2 := up_of hZ hsa2
        clear HZ d2 e2 x0 x1 x2 x3 x4 x5 x6 y0 y1 y2 y3 y4 y5 y6 hZ hBV hB
        have hta := Lib.hid tA
        have htb := Lib.hid tB
        have hsA := Lib.hid hsa1
        have hsB := Lib.hid hsa2
        have p0 : Z.cell? ⟨V0.heap.size + 1, 0, none⟩ = some (.string X.name) := tA.cell rfl
        have p1 : Z.cell? ⟨V0.heap.size + 1, 1, none⟩ = some (.int .i64 X.op) := tA.cell rfl
        have p2 : Z.cell? ⟨V0.heap.size + 1, 2, none⟩ = some (.slice sa1 X.args.length ca1) := tA.cell rfl
        have p3 : Z.cell? ⟨V0.heap.size + 1, 3, none⟩ = some (.int .i64 X.i0) := tA.cell rfl
        have p4 : Z.cell? ⟨V0.heap.size + 1, 4, none⟩ = some (.int .i64 X.i1) := tA.cell rfl
        have p5 : Z.cell? ⟨V0.heap.size + 1, 5, none⟩ = some (.int .i64 X.i2) := tA.cell rfl
        have p6 : Z.cell? ⟨V0.heap.size + 1, 6, none⟩ = some (.int .i64 X.i3) := tA.cell rfl
        have r0 : Z.cell? ⟨V0.heap.size, 0, none⟩ = some (.string X.name) := tB.cell rfl
        have r1 : Z.cell? ⟨V0.heap.size, 1, none⟩ = some (.int .i64 X.op) := tB.cell rfl
        have r2 : Z.cell? ⟨V0.heap.size, 2, none⟩ = some (.slice sa2 X.args.length ca2) := tB.cell rfl
        have r3 : Z.cell? ⟨V0.heap.size, 3, none⟩ = some (.int .i64 X.i0) := tB.cell rfl
        have r4 : Z.cell? ⟨V0.heap.size, 4, none⟩ = some (.int .i64 X.i1) := tB.cell rfl
        have r5 : Z.cell? ⟨V0.heap.size, 5, none⟩ = some (.int .i64 X.i2) := tB.cell rfl
        have r6 : Z.cell? ⟨V0.heap.size, 6, none⟩ = some (.int .i64 X.i3) := tB.cell rfl
        have hob : (X.op != X.op) = false := by simp
        have hal : ((X.args.length : Int) != X.args.length) = false := by simp
        clear hsa1 hsa2 tA tB
        go_wp2
        clear p0 p1 p2 p3 p4 p5 p6 r0 r1 r2 r3 r4 r5 r6
        go_loopw [8] (fun jj V => ∃ j : Nat, j ≤ X.args.length ∧ jj = .int .i64 j ∧ Below Z.heap.size Z V) (fun jj _ => X.args.length - (intOf jj).toNat)
        case atStart => exact ⟨0, by omega, rfl, Below.refl _ _⟩
        case round =>
          obtain ⟨j, hj, rfl, hBW⟩ := hrel
          have p0 : wr.cell? ⟨V0.heap.size + 1, 2, none⟩ = some (.slice sa1 X.args.length ca1) := (up_of hBW hta.out).cell rfl
          have r0 : wr.cell? ⟨V0.heap.size, 2, none⟩ = some (.slice sa2 X.args.length ca2) := (up_of hBW htb.out).cell rfl
          by_cases hlj : j < X.args.length
          · obtain ⟨g1, h1, k1, hg1, z0, z1, z2, z3⟩ := (up_of hBW hsA.out).ar_at hlj
            obtain ⟨g2, h2, k2, hg2, u0, u1, u2, u3⟩ := (up_of hBW hsB.out).ar_at hlj
            cases k1; cases k2
            obtain ⟨⟨av, ⟨ax, ay, az⟩⟩, ha⟩ : ∃ x, X.args[j] = x := ⟨_, rfl⟩
            simp only [ha] at z0 z1 z2 z3 u0 u1 u2 u3
            have has := fun V => arg_self av ax ay az V
            have j1 : (0 : Int) ≤ (j : Int) := by omega
            have j2 : (j : Int) < (X.args.length : Int) := by omega
            replace ha := Lib.hid ha
            go_upto_region 12 with (fail)
            try have ld_p0 := World.block_lt_of_cell? _ _ p0
            try have ld_r0 := World.block_lt_of_cell? _ _ r0
            try have ld_z0 := World.block_lt_of_cell? _ _ z0
            try have ld_u0 := World.block_lt_of_cell? _ _ u0
            refine region_q (by kernel_rfl) (by kernel_rfl) ?_
            dsimp only [List.toList_toArray]
            repeat (first
             | go_big_quiet_skip
             | (go_big_quiet_want
                first
                | (refine qq_det ?_
                   apply Exists.intro; refine ⟨fun W' hW' => ?_, ?_⟩
                   (· have hk := cellB hW'; go_simp; try (first | rfl | rw [if_pos (by omega)]))
                   simp only [Act.put, List.setIfInBounds_toArray, List.set_cons_zero, List.set_cons_succ]; go_big_quiet_on)))
            refine wpQuiet_nil ?_
            intro X1 hb
            try replace p0 := up_of hb p0
            try replace r0 := up_of hb r0
            try replace z0 := up_of hb z0
            try replace z1 := up_of hb z1
            try replace z2 := up_of hb z2
            try replace z3 := up_of hb z3
            try replace u0 := up_of hb u0
            try replace u1 := up_of hb u1
            try replace u2 := up_of hb u2
            try replace u3 := up_of hb u3
            try replace hBW := up_of hb hBW
            go_wp2
            go_roundw
            case rel => exact ⟨j + 1, by omega, rfl, hBW⟩
            case measure => exact meas hlj
          · obtain rfl : j = X.args.length := by omega
            have hBV2 := hBZ.trans (hBW.mono hBZ.size)
            go_wp2
            go_roundw
            case rel => exact ⟨k + 1, by omega, rfl, hBV2⟩
            case measure => exact meas hlt

    · obtain rfl : k = K.length := by omega
      go_wp2
      go_ret
      exact ⟨rfl, hB⟩
end Go.Proofs.Ytadmnlkgefbhcaa
