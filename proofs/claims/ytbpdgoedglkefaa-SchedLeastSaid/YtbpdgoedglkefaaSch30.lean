/- Least offsets: the program. -/
import Derived.Test.YtbpdgoedglkefaaSchOff
namespace Go.Proofs.Ytbpdgoedglkefaa
open Go.RowKit

set_option maxRecDepth 100000 in
set_option maxHeartbeats 4000000 in
theorem offsets_c (n : Int) (s : Option Addr) (cap len : Nat) (s2 : Option Addr) (cq : Nat) (K : List Vv) (f : Pt) (w : World) (hK : VarsM w s2 K) (hK4 : 1 ≤ K.length ∧ K.length ≤ 4) (hA : ∀ v ∈ K, v.args.length ≤ 3 ∧ ∀ a ∈ v.args, bw 0 a.v (K.length - 1) = true) (hN : NearK K) (hf : f.x.natAbs ≤ 9 ∧ f.y.natAbs ≤ 9 ∧ f.z.natAbs ≤ 9) :
    Calls Try.prog 79 #[.agg #[.int .i64 n, .slice s len cap, .slice s2 K.length cq], .agg #[.int .i64 f.x, .int .i64 f.y, .int .i64 f.z]] w fun e w' => (∃ s' c', e = .returned (.tuple #[.slice s' ((bfR K f).getD []).length c', .bool (bfR K f).isSome]) ∧ w'.ownsRow w.heap.size 3 1 (.slice s' ((bfR K f).getD []).length c') ((bfR K f).getD []).length (intE.all ((bfR K f).getD []))) ∧ Below w.heap.size w w' := by
  have hed := fun (v j : Nat) (hv : v < K.length) (hj : j < K[v].args.length) => edge_facts hA hN hf hv hj
  have hGl := gr_len K f
  have hGr := fun (v : Nat) (hv : v < K.length) => congrArg List.length (gr_row f hv)
  have hA3 := fun v hv => (hA v hv).1
  obtain ⟨G, hG, hR⟩ : ∃ G, grG K f = G ∧ bfR K f = bf G (K.length + 1) (zeros K.length) := ⟨_, rfl, rfl⟩
  simp only [hG] at hed hGl hGr
  simp only [List.length_map] at hGr
  obtain ⟨R, hR2⟩ : ∃ x, bfR K f = x := ⟨_, rfl⟩
  rw [hR2] at hR ⊢
  have hmk := run_make_ints K.length (by omega)
  have hoz := fun V => own_zeros V K.length (by omega)
  clear hG hR2 hA hN hf
  replace hed := Lib.hid hed; replace hGl := Lib.hid hGl; replace hGr := Lib.hid hGr; replace hR := Lib.hid hR; replace hoz := Lib.hid hoz; replace hA3 := Lib.hid hA3
  have hK0 := Lib.hid hK
  go_enter Try.func79, Try.ntmps79
  go_upto_region 1 with (fail)
  refine wp_world fun W HW => ?_
  have hB : Below w.heap.size w W := by rw [HW.out]; (repeat (first | exact Below.refl _ _ | refine Below.alloc ?_ (by simp; try omega) _ | refine Below.setCell ?_ (by simp) _ | refine Below.drew ?_))
  have dB : Row W (w.heap.size) 27 #[.int .i64 n, .slice s len cap, .slice s2 K.length cq] := (by rw [HW.out]; (repeat (first | (refine blk_new ?_; simp; done) | refine blk_old ?_ _)) : W.heap[w.heap.size]? = some (.cells #[.int .i64 n, .slice s len cap, .slice s2 K.length cq] 27 (0, 0)))
  have d0 : W.cell? ⟨w.heap.size, 0, none⟩ = some (.int .i64 n) := by rw [HW.out]; simp [go_sem]
  have d1 : W.cell? ⟨w.heap.size, 1, none⟩ = some (.slice s len cap) := by rw [HW.out]; simp [go_sem]
  have d2 : W.cell? ⟨w.heap.size, 2, none⟩ = some (.slice s2 K.length cq) := by rw [HW.out]; simp [go_sem]
  have dl : w.heap.size < W.heap.size := World.block_lt_of_cell? W _ d0
  have gB : Row W (w.heap.size + 1) 29 #[.int .i64 f.x, .int .i64 f.y, .int .i64 f.z] := (by rw [HW.out]; (repeat (first | (refine blk_new ?_; simp; done) | refine blk_old ?_ _)) : W.heap[w.heap.size + 1]? = some (.cells #[.int .i64 f.x, .int .i64 f.y, .int .i64 f.z] 29 (0, 0)))
  have g0 : W.cell? ⟨w.heap.size + 1, 0, none⟩ = some (.int .i64 f.x) := by rw [HW.out]; simp [go_sem]
  have g1 : W.cell? ⟨w.heap.size + 1, 1, none⟩ = some (.int .i64 f.y) := by rw [HW.out]; simp [go_sem]
  have g2 : W.cell? ⟨w.heap.size + 1, 2, none⟩ = some (.int .i64 f.z) := by rw [HW.out]; simp [go_sem]
  have gl : w.heap.size + 1 < W.heap.size := World.block_lt_of_cell? W _ g0
  try replace hK := up_of hB hK
  have hmkW := hmk W
  have hozW := hoz.out W
  have hAl : Below W.heap.size W (W.alloc (.cells (zs K.length).toArray 3)) := (Below.refl _ W).alloc (Nat.le_refl _) _
  obtain ⟨X0, hX0⟩ : ∃ x, W.alloc (.cells (zs K.length).toArray 3) = x := ⟨_, rfl⟩
  rw [hX0] at hmkW hozW hAl
  have hBX0 := hB.trans (hAl.mono hB.size)
  have hdX := up_of hAl dB; have hgX := up_of hAl gB
  have hX0s : W.heap.size < X0.heap.size := by rw [← hX0]; simp
  have h2W := gl
  have h1W := dl
  replace hX0 := Lib.hid hX0
  clear hmk hoz hAl
  have w1 : IntKind.i64.wrap ((K.length : Int) + 1) = ((K.length + 1 : Nat) : Int) := by rw [i64_small (by omega)]; rfl
  have w2 : wrap64 ((K.length : Int) + 1) = ((K.length + 1 : Nat) : Int) := by unfold wrap64; omega
  obtain ⟨M, hM⟩ : ∃ x, K.length + 1 = x := ⟨_, rfl⟩
  rw [hM] at w1 w2
  have hM5 : M ≤ 5 := by omega
  have hR1 : R = bf G (M - 0) (zeros K.length) := by rw [← hM]; exact hR.out
  replace hM := Lib.hid hM; replace hR1 := Lib.hid hR1
  clear hR
  obtain ⟨dx0, dx1, dx2⟩ := hdX.three
  go_wp2
  go_loopw [21] (fun kk V => ∃ (k : Nat) (off : List Int), k ≤ M ∧ kk = .int .i64 k ∧ Hid (off.length = K.length) ∧ Hid (R = bf G (M - k) off) ∧ Hid (BetB off (984 * k)) ∧ V.ownsRow W.heap.size 3 1 (.slice (some ⟨W.heap.size, 0, none⟩) K.length K.length) K.length (intE.all off) ∧ Row V w.heap.size 27 #[.int .i64 n, .slice s len cap, .slice s2 K.length cq] ∧ Row V (w.heap.size + 1) 29 #[.int .i64 f.x, .int .i64 f.y, .int .i64 f.z] ∧ Below w.heap.size w V ∧ W.heap.size < V.heap.size) (fun kk _ => M - (intOf kk).toNat)
  case atStart => exact ⟨0, zeros K.length, by omega, rfl, Lib.hid (zeros_len _), hR1, bet_zeros _, hozW, hdX, hgX, hBX0, hX0s⟩
  case round =>
    clear hozW hdX hgX hBX0 hmkW hR1 dx0 dx1 dx2 dB gB d0 d1 d2 g0 g1 g2 hB hK hX0s
    obtain ⟨k, off, hk, rfl, hol, hRk, hbt, hown, dB, gB, hB, hWV⟩ := hrel
    obtain ⟨d0, d1, d2⟩ := dB.three
    by_cases hlt : k < M
    · have hrd : rxRound G off = rxRows G K.length (off, false) := by unfold rxRound; rw [hGl.out]
      have hst := bf_step G (M - (k + 1)) off
      rw [show M - (k + 1) + 1 = M - k by omega, ← hRk.out, hrd] at hst
      have hlen := rows_len G (off, false)
      simp only [hol.out] at hlen
      have hs0 : rxRows G 0 (off, false) = (off, false) := rfl
      have hsc := fun v => rows_succ G v (off, false)
      obtain ⟨S, hS⟩ : ∃ S : Nat → List Int × Bool, (fun v => rxRows G v (off, false)) = S := ⟨_, rfl⟩
      have hSv : ∀ v, rxRows G v (off, false) = S v := fun v => by rw [← hS]
      simp only [hSv] at hst hlen hsc hs0
      have hown0 : wr.ownsRow W.heap.size 3 1 (.slice (some ⟨W.heap.size, 0, none⟩) K.length K.length) K.length (intE.all (S 0).1) := by rw [hs0]; exact hown
      have hbt0 : BetB (S 0).1 (984 * k + 246 * (0 : Nat)) := by rw [hs0]; exact hbt.out.mono (by omega)
      have hs02 : (S 0).2 = false := by rw [hs0]
      replace hst := Lib.hid hst; replace hlen := Lib.hid hlen; replace hsc := Lib.hid hsc; replace hbt0 := Lib.hid hbt0
      clear hrd hSv hS hs0 hown hbt hRk
      have gk1 : (0 : Int) ≤ (k : Int) := by omega
      have gk2 : (k : Int) < (M : Int) := by omega
      go_wp2
      go_loopw [7, 26] (fun ch vv V => ∃ v : Nat, v ≤ K.length ∧ vv = .int .i64 v ∧ ch = .bool (S v).2 ∧ Hid (BetB (S v).1 (984 * k + 246 * v)) ∧ V.ownsRow W.heap.size 3 1 (.slice (some ⟨W.heap.size, 0, none⟩) K.length K.length) K.length (intE.all (S v).1) ∧ Row V w.heap.size 27 #[.int .i64 n, .slice s len cap, .slice s2 K.length cq] ∧ Row V (w.heap.size + 1) 29 #[.int .i64 f.x, .int .i64 f.y, .int .i64 f.z] ∧ Below w.heap.size w V ∧ W.heap.size < V.heap.size) (fun _ vv _ => K.length - (intOf vv).toNat)
      case atStart => exact ⟨0, by omega, rfl, by rw [hs02], hbt0, hown0, dB, gB, hB, hWV⟩
      case round =>
        clear hbt0 hown0 dB gB hB hWV hs02 d0 d1 d2
        obtain ⟨v, hv, rfl, rfl, hbt, hown, dB, gB, hB, hWV⟩ := hrel
        obtain ⟨d0, d1, d2⟩ := dB.three
        by_cases hlv : v < K.length
        · obtain ⟨bk, ok, sa, ca, ek, hbk, q0, q1, q2, q3, q4, q5, q6, hsa, hal, -, -⟩ := hK0.out.at hlv
          cases ek
          replace q0 := up_of hB q0; replace q1 := up_of hB q1; replace q2 := up_of hB q2; replace q3 := up_of hB q3; replace q4 := up_of hB q4; replace q5 := up_of hB q5; replace q6 := up_of hB q6
          have hXa := hed.out v
          have hXl := hGr.out v hlv
          have hX3 := hA3.out _ (List.getElem_mem hlv)
          have hSn := hsc.out v
          have hSl : (S v).1.length = K.length := hlen.out v
          have hpz := part_zero G v (S v)
          have hpa := part_all G v (S v)
          rw [hXl] at hpa
          rw [← hSn] at hpa
          have hpl := fun j => (offPart_len G v (S v) j).trans hSl
          obtain ⟨X, hX⟩ : ∃ x, K[v] = x := ⟨_, rfl⟩
          rw [hX] at q0 q1 q2 q3 q4 q5 q6 hsa hal hX3 hpa
          have hed2 : ∀ j (hj : j < X.args.length), ∃ (u : Nat) (d : Int), X.args[j].v = u ∧ u < K.length ∧ wrap64 (dotZ f X.args[j].p) = d ∧ -81 ≤ d ∧ d ≤ 81 ∧ ∀ st, rxPart G v st (j + 1) = rx v (rxPart G v st j) (u, 1 + d) := by subst hX; exact fun j hj => hXa j hlv hj
          obtain ⟨P, hP⟩ : ∃ P : Nat → List Int × Bool, (fun j => rxPart G v (S v) j) = P := ⟨_, rfl⟩
          have hPj : ∀ j, rxPart G v (S v) j = P j := fun j => by rw [← hP]
          have hed3 : ∀ j (hj : j < X.args.length), ∃ (u : Nat) (d : Int), X.args[j].v = u ∧ u < K.length ∧ wrap64 (dotZ f X.args[j].p) = d ∧ -81 ≤ d ∧ d ≤ 81 ∧ P (j + 1) = rx v (P j) (u, 1 + d) := fun j hj => by
            obtain ⟨u, d, e1, e2, e3, e4, e5, e6⟩ := hed2 j hj
            refine ⟨u, d, e1, e2, e3, e4, e5, ?_⟩
            rw [← hPj, ← hPj]; exact e6 _
          simp only [hPj] at hpz hpa hpl
          have hownP : wr.ownsRow W.heap.size 3 1 (.slice (some ⟨W.heap.size, 0, none⟩) K.length K.length) K.length (intE.all (P 0).1) := by rw [hpz]; exact hown
          have hbtP : BetB (P 0).1 (984 * k + 246 * v + 82 * (0 : Nat)) := by rw [hpz]; exact hbt.out.mono (by omega)
          have hP02 : (P 0).2 = (S v).2 := by rw [hpz]
          clear hed2 hXa hXl hPj hP hpz hSn hSl hown hbt
          replace hed3 := Lib.hid hed3; replace hpa := Lib.hid hpa; replace hpl := Lib.hid hpl; replace hbtP := Lib.hid hbtP; replace hX := Lib.hid hX; replace hP02 := Lib.hid hP02; replace hsa := Lib.hid hsa
          have gv1 : (0 : Int) ≤ (v : Int) := by omega
          have gv2 : (v : Int) < (K.length : Int) := by omega
          obtain ⟨V0, rfl⟩ : ∃ V0, V0 = wr := ⟨wr, rfl⟩
          go_upto_region 8 with (fail)
          refine wp_world fun Y HY => ?_
          have hY : Below V0.heap.size V0 Y := by rw [HY.out]; (repeat (first | exact Below.refl _ _ | refine Below.alloc ?_ (by simp; try omega) _ | refine Below.setCell ?_ (by simp) _ | refine Below.drew ?_))
          have x0 : Y.cell? ⟨V0.heap.size, 0, none⟩ = some (.string X.name) := by rw [HY.out]; simp [go_sem]
          have x1 : Y.cell? ⟨V0.heap.size, 1, none⟩ = some (.int .i64 X.op) := by rw [HY.out]; simp [go_sem]
          have x2 : Y.cell? ⟨V0.heap.size, 2, none⟩ = some (.slice sa X.args.length ca) := by rw [HY.out]; simp [go_sem]
          have x3 : Y.cell? ⟨V0.heap.size, 3, none⟩ = some (.int .i64 X.i0) := by rw [HY.out]; simp [go_sem]
          have x4 : Y.cell? ⟨V0.heap.size, 4, none⟩ = some (.int .i64 X.i1) := by rw [HY.out]; simp [go_sem]
          have x5 : Y.cell? ⟨V0.heap.size, 5, none⟩ = some (.int .i64 X.i2) := by rw [HY.out]; simp [go_sem]
          have x6 : Y.cell? ⟨V0.heap.size, 6, none⟩ = some (.int .i64 X.i3) := by rw [HY.out]; simp [go_sem]
          have xl : V0.heap.size < Y.heap.size := World.block_lt_of_cell? Y _ x0
          try replace hownP := up_of hY hownP
          try replace dB := up_of hY dB
          try replace gB := up_of hY gB
          try replace hB := up_of hY hB
          try replace hWV := up_of hY hWV
          rw [← hP02.out]
          go_wp2
          go_loopw [7, 34] (fun ch jj V => ∃ j : Nat, j ≤ X.args.length ∧ jj = .int .i64 j ∧ ch = .bool (P j).2 ∧ Hid (BetB (P j).1 (984 * k + 246 * v + 82 * j)) ∧ V.ownsRow W.heap.size 3 1 (.slice (some ⟨W.heap.size, 0, none⟩) K.length K.length) K.length (intE.all (P j).1) ∧ Row V w.heap.size 27 #[.int .i64 n, .slice s len cap, .slice (some ⟨bk, ok, none⟩) K.length cq] ∧ Row V (w.heap.size + 1) 29 #[.int .i64 f.x, .int .i64 f.y, .int .i64 f.z] ∧ Below w.heap.size w V ∧ W.heap.size < V.heap.size) (fun _ jj _ => X.args.length - (intOf jj).toNat)
          case atStart => exact ⟨0, by omega, rfl, rfl, hbtP, hownP, dB, gB, hB, hWV⟩
          case round =>
            clear hbtP hownP dB gB hB hWV
            obtain ⟨j, hj, rfl, rfl, hbt, hown, dB, gB, hB, hWV⟩ := hrel
            obtain ⟨g0, g1, g2⟩ := gB.three
            by_cases hlj : j < X.args.length
            · obtain ⟨u, d, e1, e2, e3, e4, e5, e6⟩ := hed3.out j hlj
              obtain ⟨ba, oa, ea, hba, z0, z1, z2, z3⟩ := (up_of hB hsa.out).ar_at hlj
              cases ea
              obtain ⟨a, ha⟩ : ∃ x, X.args[j] = x := ⟨_, rfl⟩
              rw [ha] at z0 z1 z2 z3 e1 e3
              rw [e1] at z0
              have htm := fun V => schTimes_c f a.p V
              simp only [e3] at htm
              have hPl : (P j).1.length = K.length := hpl.out j
              have hul : u < (P j).1.length := by omega
              have hvl : v < (P j).1.length := by omega
              have hbx := rx_bet (v := v) (st := P j) hvl (e := (u, 1 + d)) hbt.out (by show 1 + d ≤ 82; omega)
              have x0 := owns_cell hown (intE_at _ hul)
              have y0 := owns_cell hown (intE_at _ hvl)
              have hb1 := hbt.out u
              have hb2 := hbt.out v
              have hrx : rx v (P j) (u, 1 + d) = if (P j).1[v] < (P j).1[u] + (1 + d) then ((P j).1.set v ((P j).1[u] + (1 + d)), true) else P j := by
                unfold rx
                rw [getD_mem hvl, getD_mem hul]
              rw [← e6] at hrx hbx
              rw [getD_mem hul] at hb1
              rw [getD_mem hvl] at hb2
              obtain ⟨ou, hou⟩ : ∃ x, (P j).1[u] = x := ⟨_, rfl⟩
              obtain ⟨ov, hov⟩ : ∃ x, (P j).1[v] = x := ⟨_, rfl⟩
              rw [hou] at x0 hrx hb1
              rw [hov] at y0 hrx hb2
              have hbx2 : BetB (P (j + 1)).1 (984 * k + 246 * v + 82 * ((j + 1 : Nat) : Int)) := hbx.mono (by omega)
              have wa1 : wrap64 (ou + 1) = ou + 1 := by unfold wrap64; omega
              have wa2 : IntKind.i64.wrap (ou + 1) = ou + 1 := i64_small (by omega)
              have wa3 : wrap64 (ou + 1 + d) = ou + (1 + d) := by unfold wrap64; omega
              have wa4 : IntKind.i64.wrap (ou + 1 + d) = ou + (1 + d) := by rw [i64_small (by omega)]; omega
              have wb1 : wrap64 (ou + d) = ou + d := by unfold wrap64; omega
              have wb2 : IntKind.i64.wrap (ou + d) = ou + d := i64_small (by omega)
              have wb3 : wrap64 (ou + d + 1) = ou + (1 + d) := by unfold wrap64; omega
              have wb4 : IntKind.i64.wrap (ou + d + 1) = ou + (1 + d) := by rw [i64_small (by omega)]; omega
              obtain ⟨nn, hnn⟩ : ∃ x, ou + (1 + d) = x := ⟨_, rfl⟩
              rw [hnn] at wa3 wa4 wb3 wb4 hrx
              have gj1 : (0 : Int) ≤ (j : Int) := by omega
              have gj2 : (j : Int) < (X.args.length : Int) := by omega
              have gu1 : (0 : Int) ≤ (u : Int) := by omega
              have gu2 : (u : Int) < (K.length : Int) := by omega
              replace htm := Lib.hid htm; replace hou := Lib.hid hou; replace hov := Lib.hid hov; replace hnn := Lib.hid hnn; replace ha := Lib.hid ha; replace hbx2 := Lib.hid hbx2; replace hPl := Lib.hid hPl; replace e6 := Lib.hid e6; replace e1 := Lib.hid e1; replace e3 := Lib.hid e3
              clear hbx hbt
              obtain ⟨V1, rfl⟩ : ∃ V1, V1 = wr := ⟨wr, rfl⟩
              have hVV := Below.refl V1.heap.size V1
              go_upto_region 11 with (fail)
              refine wp_world fun Y2 HY2 => ?_
              have hY2 : Below V1.heap.size V1 Y2 := by rw [HY2.out]; (repeat (first | exact Below.refl _ _ | refine Below.alloc ?_ (by simp; try omega) _ | refine Below.setCell ?_ (by simp) _ | refine Below.drew ?_))
              have e0 : Y2.cell? ⟨V1.heap.size, 0, none⟩ = some (.int .i64 u) := by rw [HY2.out]; simp [go_sem]
              have e1 : Y2.cell? ⟨V1.heap.size, 1, none⟩ = some (.int .i64 a.p.x) := by rw [HY2.out]; simp [go_sem]
              have e2 : Y2.cell? ⟨V1.heap.size, 2, none⟩ = some (.int .i64 a.p.y) := by rw [HY2.out]; simp [go_sem]
              have e3 : Y2.cell? ⟨V1.heap.size, 3, none⟩ = some (.int .i64 a.p.z) := by rw [HY2.out]; simp [go_sem]
              have el : V1.heap.size < Y2.heap.size := World.block_lt_of_cell? Y2 _ e0
              try replace hown := up_of hY2 hown
              try replace dB := up_of hY2 dB
              try replace gB := up_of hY2 gB
              try replace hB := up_of hY2 hB
              try replace hWV := up_of hY2 hWV
              try replace g0 := up_of hY2 g0
              try replace g1 := up_of hY2 g1
              try replace g2 := up_of hY2 g2
              try replace x0 := up_of hY2 x0
              try replace y0 := up_of hY2 y0
              try replace hVV := up_of hY2 hVV
              try have ld_g0 := World.block_lt_of_cell? _ _ g0
              try have ld_x0 := World.block_lt_of_cell? _ _ x0
              try have ld_y0 := World.block_lt_of_cell? _ _ y0
              try have ld_e0 := World.block_lt_of_cell? _ _ e0
              refine region_q (by kernel_rfl) (by kernel_rfl) ?_
              dsimp only [List.toList_toArray]
              repeat (first
               | go_big_quiet_skip
               | (go_big_quiet_want
                  first
                  | (refine qq_det ?_
                     apply Exists.intro; refine ⟨fun W' hW' => ?_, ?_⟩
                     (· have hk := cellB hW'; go_simp; try (first | rfl | rw [if_pos (by omega)]))
                     simp only [Act.put, List.setIfInBounds_toArray, List.set_cons_zero, List.set_cons_succ]; go_big_quiet_on)
                  | (refine qq_call ?_
                     apply Exists.intro; apply Exists.intro; refine ⟨fun W' hW' => ?_, ?_⟩
                     (· have hk := cellB hW'; go_simp; exact ⟨rfl, rfl⟩)
                     apply Exists.intro; refine ⟨fun W' hW' => ?_, ?_⟩
                     (· first | (go_at_call 60; exact qc hW' (htm.out _)))
                     simp only [Act.put, List.setIfInBounds_toArray, List.set_cons_zero, List.set_cons_succ]; go_big_quiet_on)))
              refine wpQuiet_nil ?_
              intro Z hb
              try replace hown := up_of hb hown
              try replace dB := up_of hb dB
              try replace gB := up_of hb gB
              try replace hB := up_of hb hB
              try replace hWV := up_of hb hWV
              try replace g0 := up_of hb g0
              try replace g1 := up_of hb g1
              try replace g2 := up_of hb g2
              try replace x0 := up_of hb x0
              try replace y0 := up_of hb y0
              try replace hVV := up_of hb hVV
              try replace hY2 := up_of hb hY2
              try replace e0 := up_of hb e0
              try replace e1 := up_of hb e1
              try replace e2 := up_of hb e2
              try replace e3 := up_of hb e3
              try replace el := up_of hb el
              by_cases hcm : ov < nn
              · rw [if_pos hcm] at hrx
                replace hrx := Lib.hid hrx
                have xf := fun i => World.ownsRow.frozenAt hown i
                have hstr := fun x => World.ownsRow.stored hown v (.int .i64 x)
                simp only [int_set] at hstr
                replace hstr := Lib.hid hstr
                go_wp2
                go_roundw
                case rel =>
                  refine ⟨j + 1, by omega, rfl, by rw [hrx.out], hbx2, ?_, ?_, ?_, ?_, ?_⟩
                  · rw [hrx.out]; exact (hstr.out _).1
                  · refine Row.of ?_
                    repeat (first | (with_reducible refine RowG.base dB ?_) | (with_reducible refine RowG.drew ?_) | (with_reducible refine RowG.set ?_) | ((with_reducible refine RowG.other ?_ ?_); (focus (first | omega | (simp; done) | (simp; omega)))) | (with_reducible refine RowG.alloc ?_))
                    rfl
                  · refine Row.of ?_
                    repeat (first | (with_reducible refine RowG.base gB ?_) | (with_reducible refine RowG.drew ?_) | (with_reducible refine RowG.set ?_) | ((with_reducible refine RowG.other ?_ ?_); (focus (first | omega | (simp; done) | (simp; omega)))) | (with_reducible refine RowG.alloc ?_))
                    rfl
                  · repeat (first | (with_reducible exact hB) | (with_reducible refine Below.drew ?_) | ((with_reducible refine Below.setC ?_ ?_); (focus (first | omega | (simp; done) | (simp; omega)))) | ((with_reducible refine Below.allo ?_ ?_); (focus (first | omega | (simp; done) | (simp; omega)))))
                  · simp; exact hWV
                case measure => exact meas hlj
              · rw [if_neg hcm] at hrx
                replace hrx := Lib.hid hrx
                go_wp2
                go_roundw
                case rel =>
                  refine ⟨j + 1, by omega, rfl, by rw [hrx.out], hbx2, by rw [hrx.out]; exact hown, dB, gB, hB, hWV⟩
                case measure => exact meas hlj
            · obtain rfl : j = X.args.length := by omega
              rw [hpa.out] at hown hbt ⊢
              have hbt3 : BetB (S (v + 1)).1 (984 * k + 246 * ((v + 1 : Nat) : Int)) := hbt.out.mono (by omega)
              replace hbt3 := Lib.hid hbt3
              clear hbt
              go_wp2
              go_roundw
              case rel => exact ⟨v + 1, by omega, rfl, rfl, hbt3, hown, dB, gB, hB, hWV⟩
              case measure => exact meas hlv
        · obtain rfl : v = K.length := by omega
          have hst2 := hst.out
          have hSl : (S K.length).1.length = K.length := hlen.out K.length
          obtain ⟨Q, hQ⟩ : ∃ Q, S K.length = Q := ⟨_, rfl⟩
          rw [hQ] at hst2 hSl hown hbt ⊢
          obtain ⟨O, c⟩ := Q
          simp only at hst2 hSl hown hbt ⊢
          have hbt3 : BetB O (984 * ((k + 1 : Nat) : Int)) := hbt.out.mono (by omega)
          replace hbt3 := Lib.hid hbt3; replace hQ := Lib.hid hQ; replace hSl := Lib.hid hSl
          clear hbt hst
          cases c
          · simp only [Bool.false_eq_true, if_false] at hst2
            subst hst2
            go_wp2
            go_ret2
            refine ⟨⟨some ⟨W.heap.size, 0, none⟩, K.length, ?_, ?_⟩, hB⟩
            · rw [Option.getD_some, hSl.out]; rfl
            · rw [Option.getD_some, hSl.out]; exact owns_mono hown (by omega)
          · simp only [if_true] at hst2
            replace hst2 := Lib.hid hst2
            go_wp2
            go_roundw
            case rel => exact ⟨k + 1, O, by omega, rfl, hSl, hst2, hbt3, hown, dB, gB, hB, hWV⟩
            case measure => exact meas hlt
    · obtain rfl : k = M := by omega
      have hn : R = none := by rw [hRk.out, Nat.sub_self]; rfl
      subst hn
      go_wp2
      go_ret2
      exact ⟨⟨none, 0, rfl, World.ownsRow_nil _ _ _ _⟩, hB⟩

end Go.Proofs.Ytbpdgoedglkefaa
