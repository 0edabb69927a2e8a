/- The iterator over what an element uses: the program. -/
import Derived.Test.YtakbpjgnjfigcaaGreatB10
import Derived.Test.YtakbpjgnjfigcaaGreatB7
import Derived.Sort.CutIn
namespace Go.Proofs.YtakbpjgnjfigcaaGreat
open Go.RowKit Go.Maps

attribute [local go_sem] Oper.semAt_some

section
variable {g : Nat} {n : Int} {s : Option Addr} {cap : Nat} {l : List Iq} {s2 : Option Addr} {cq : Nat} {K : List Vv} {sp : Option Addr} {cp mb : Nat} {P : List Pt}
/-- The net lies as it lay, where all below lies as it lay. -/
theorem Net.keep {T : Nat} {A W : World} (h : Net T A g n s cap l s2 cq K sp cp mb P) (hs : A.heap.size ≤ W.heap.size) (hk : ∀ k, k < A.heap.size → W.heap[k]? = A.heap[k]?) : Net T W g n s cap l s2 cq K sp cp mb P := by
  have hb : Below A.heap.size A { A with heap := W.heap } := ⟨rfl, rfl, rfl, hs, hk⟩
  have h2 := Net.up hb h
  exact ⟨h2.row, ⟨⟨h2.rc.dom.iq, h2.rc.dom.len, h2.rc.dom.wf⟩, h2.rc.vars, h2.rc.len, h2.rc.cap, h2.rc.capm⟩, h2.pts, h2.map⟩
theorem vOf_at {K : List Vv} {P : List Pt} {k : Nat} (h : k / P.length < K.length) : vOf K P k = K[k / P.length] := by
  unfold vOf; rw [List.getD_eq_getElem?_getD, List.getElem?_eq_getElem h]; rfl
theorem numZ_use {P : List Pt} {K : List Vv} {a : Ar} {p : Pt} {i : Nat} (ha : bw 0 a.v (K.length - 1) = true) (h : pix P (ptP p a.p) = some i) : numZ P a.v (ptP p a.p) = ((a.v.toNat * P.length + i : Nat) : Int) := by
  have := bw_iff.1 ha
  unfold numZ
  rw [h]
  obtain ⟨m, hm⟩ : ∃ m : Nat, a.v = m := ⟨a.v.toNat, by omega⟩
  rw [hm, Int.toNat_natCast, Int.natCast_add, Int.natCast_mul]; rfl
set_option maxRecDepth 100000 in
set_option maxHeartbeats 4000000 in
theorem used1_iter (k b1 : Nat) (A w : World) (h : Net 126 A g n s cap l s2 cq K sp cp mb P) (ok : NetOk n K P) (hAw : Below A.heap.size A w) (hk : k < K.length * P.length) (Tw : Nat → Prop) (hT : ∀ j, Tw j → A.heap.size ≤ j ∧ j < b1)
    (c1 : w.cell? ⟨b1, 0, none⟩ = some (.pointer (some ⟨g, 0, none⟩))) (c2 : w.cell? ⟨b1 + 1, 0, none⟩ = some (.int .i64 k)) :
    IterT Tryz.prog 85 #[.pointer (some ⟨b1, 0, none⟩), .pointer (some ⟨b1 + 1, 0, none⟩)] (fun u : Nat => .int .i64 (u : Int)) Tw 2 (useN K P k) w := by
  intro ly J Jx W hW hJb hY h0
  obtain ⟨hk1, hk2, hk3⟩ := num_div hk
  have hAW : Below A.heap.size A W := hAw.trans (hW.mono hAw.size)
  have hn0 := h.keep hAW.size (fun j hj => hAW.block j hj)
  have e1 := Up.cell hW c1
  have e2 := Up.cell hW c2
  have hb1 : b1 < w.heap.size := World.block_lt_of_cell? w _ c1
  have hws := hW.size
  have hus : useN K P k = K[k / P.length].args.filterMap fun a => argN P a (pOf P k) := by unfold useN; rw [vOf_at hk1]
  have hpo : (pOf P k).small 20 := by rw [pOf_at hk2]; exact ok.pts _ (List.getElem_mem hk2)
  have hsh := ok.shift _ (List.getElem_mem hk1)
  have hva := ok.var _ (List.getElem_mem hk1)
  have hel := fun V (h : Net 126 V g n s cap l s2 cq K sp cp mb P) => element_cs k V h ok hk
  have harg := fun V (h : Net 126 V g n s cap l s2 cq K sp cp mb P) a ha hav => argument_c a (pOf P k) V h ok hpo ha hav
  obtain ⟨US, hUS⟩ : ∃ x, useN K P k = x := ⟨_, rfl⟩
  rw [hUS] at hus
  simp only [hUS] at hY ⊢
  obtain ⟨⟨px, py, pz⟩, hpp⟩ : ∃ p, pOf P k = p := ⟨_, rfl⟩
  simp only [hpp] at hus hel harg
  clear hUS hpo
  obtain ⟨v, hv⟩ : ∃ v, k / P.length = v := ⟨_, rfl⟩
  simp only [hv] at hk1 hel hus hsh hva
  replace hJb := Lib.hid hJb; replace hY := Lib.hid hY; replace hsh := Lib.hid hsh; replace hva := Lib.hid hva; replace hel := Lib.hid hel; replace harg := Lib.hid harg; replace hus := Lib.hid hus; replace hpp := Lib.hid hpp; replace hv := Lib.hid hv; replace hk3 := Lib.hid hk3; replace hk2 := Lib.hid hk2; replace hk := Lib.hid hk; replace ok := Lib.hid ok
  refine callsIn_of_wp Tryz.func85 rfl trivial ?_ rfl
  simp only [Tryz.ntmps85, List.size_toArray, List.length_cons, List.length_nil, Nat.reduceAdd, Nat.reduceSub, Array.replicate_succ, Array.replicate_zero, List.push_toArray, List.append_toArray, List.nil_append, List.cons_append]
  gi_wp2_with (gi_at_call 84; refine (ci (hel.out _ hn0)).mono ?_; rintro e W1 ⟨rfl, hb, hs1⟩; replace hs1 := Lib.hid hs1; have hn1 := Net.up hb hn0; replace e1 := Up.cell hb e1; replace e2 := Up.cell hb e2)
  refine wpIn_world fun X HX => ?_
  have hX : Below W1.heap.size W1 X := by rw [HX.out]; (repeat (first | exact Below.refl _ _ | refine Below.alloc ?_ (by simp; try omega) _ | refine Below.setCell ?_ (by simp) _ | refine Below.drew ?_))
  have q0 : X.cell? ⟨W1.heap.size, 0, none⟩ = some (.int .i64 v) := by rw [HX.out]; simp [go_sem]
  have q1 : X.cell? ⟨W1.heap.size, 1, none⟩ = some (.int .i64 px) := by rw [HX.out]; simp [go_sem]
  have q2 : X.cell? ⟨W1.heap.size, 2, none⟩ = some (.int .i64 py) := by rw [HX.out]; simp [go_sem]
  have q3 : X.cell? ⟨W1.heap.size, 3, none⟩ = some (.int .i64 pz) := by rw [HX.out]; simp [go_sem]
  replace e1 := Up.cell hX e1; replace e2 := Up.cell hX e2
  have hWX : Below W.heap.size W X := Up.to hb hX hb.size
  have hnX := Net.up hX hn1
  obtain ⟨n0, n1, n2, n3, n4⟩ := hnX.cells
  obtain ⟨vb, vo, sa, ca, rfl, hvb, z0, z1, z2, z3, z4, z5, z6, hsa, hal, -, -⟩ := h.rc.vars.at hk1
  have hAX : Below A.heap.size A X := hAW.trans (hWX.mono hAW.size)
  have hX0 := hWX.size
  have y2 := Up.cell hAX z2
  have hva' := hva.out
  have hsh' := hsh.out
  obtain ⟨args, hargs⟩ : ∃ x, K[v].args = x := ⟨_, rfl⟩
  rw [hargs] at y2 hsa hal hva' hsh'
  have hus' := hus.out
  rw [hargs] at hus'
  have hJX := hJb.out _ _ _ h0 hWX
  have hb2 : b1 + 1 < w.heap.size := World.block_lt_of_cell? w _ c2
  have ht1 : b1 < w.heap.size ∧ ¬ Tw b1 := ⟨hb1, fun ht => by have := (hT _ ht).2; omega⟩
  have ht2 : b1 + 1 < w.heap.size ∧ ¬ Tw (b1 + 1) := ⟨hb2, fun ht => by have := (hT _ ht).2; omega⟩
  have hqT : W.heap.size ≤ W1.heap.size ∧ W1.heap.size < W.heap.size + 2 := ⟨by have := hs1.out; omega, by have := hs1.out; omega⟩
  have hXs : W.heap.size + 2 ≤ X.heap.size := by have := hs1.out; have := World.block_lt_of_cell? X _ q0; simp only at this; omega
  have hlow : ∀ V, KeepN Tw w.heap.size W.heap.size 2 X V → A.heap.size ≤ V.heap.size ∧ ∀ k, k < A.heap.size → V.heap[k]? = A.heap[k]? := fun V hk => ⟨Nat.le_trans hAX.size hk.size, fun k hkA => by
    have h3 := hAw.size
    rw [hk.low k (by omega) (fun ht => by have := (hT k ht).1; omega)]
    exact hAX.block k hkA⟩
  replace hva := Lib.hid hva'; replace hsh := Lib.hid hsh'; replace hus := Lib.hid hus'; replace hsa := Lib.hid hsa; replace hargs := Lib.hid hargs; replace hlow := Lib.hid hlow; replace hAX := Lib.hid hAX; replace hnX := Lib.hid hnX; replace hJX := Lib.hid hJX; replace h := Lib.hid h; replace hqT := Lib.hid hqT; replace ht1 := Lib.hid ht1; replace ht2 := Lib.hid ht2
  clear hn0 hn1 z0 z1 z2 z3 z4 z5 z6 hva' hsh' hus' h0 hAW hAw
  gi_region
  have hXX : Below X.heap.size X X.drew := (Below.refl _ _).drew
  have hK0 : KeepN Tw w.heap.size W.heap.size 2 X X.drew := KeepN.of_below hXX (by omega) hXs
  have hJ0 := hJb.out _ _ _ hJX.out hXX
  gi_wp2
  gi_loopw [24] (fun ii V => ∃ (j : Nat) (pre : List Nat), j ≤ args.length ∧ ii = .int .i64 j ∧ Hid (US = pre ++ (args.drop j).filterMap fun a => argN P a ⟨px, py, pz⟩) ∧ J pre V ∧ KeepN Tw w.heap.size W.heap.size 2 X V) (fun ii _ => args.length - (intOf ii).toNat)
  case atStart => exact ⟨0, [], by omega, rfl, Lib.hid (by rw [hus.out]; simp), hJ0, hK0⟩
  case round =>
    clear hJ0 hK0 hXX
    obtain ⟨j, pre, hj, rfl, hpre, hjp, hKx⟩ := hrel
    have f1 := hKx.cell (a := ⟨b1, 0, none⟩) (.inl ht1.out) e1
    have f2 := hKx.cell (a := ⟨b1 + 1, 0, none⟩) (.inl ht2.out) e2
    have g0 := hKx.cell (a := ⟨W1.heap.size, 0, none⟩) (.inr hqT.out) q0
    have g1 := hKx.cell (a := ⟨W1.heap.size, 1, none⟩) (.inr hqT.out) q1
    have g2 := hKx.cell (a := ⟨W1.heap.size, 2, none⟩) (.inr hqT.out) q2
    have g3 := hKx.cell (a := ⟨W1.heap.size, 3, none⟩) (.inr hqT.out) q3
    have hws2 : W.heap.size + 2 ≤ wr.heap.size := Nat.le_trans hXs hKx.size
    have l1 : b1 < wr.heap.size := World.block_lt_of_cell? wr _ f1
    have l2 : W1.heap.size < wr.heap.size := World.block_lt_of_cell? wr _ g0
    by_cases hlt : j < args.length
    · obtain ⟨hl1, hl2⟩ := hlow.out wr hKx
      have hnw := h.out.keep hl1 hl2
      have hsw : SlS arE wr sa args := SlS.up (⟨rfl, rfl, rfl, hl1, hl2⟩ : Below A.heap.size A { A with heap := wr.heap }) hsa.out
      obtain ⟨ba, oa, ea, hba, x0, x1, x2, x3⟩ := hsw.ar_at hlt
      have hav := hva.out _ (List.getElem_mem hlt)
      have hsm := hsh.out _ (List.getElem_mem hlt)
      have hdr : args.drop j = args[j] :: args.drop (j + 1) := List.drop_eq_getElem_cons hlt
      have hp2 := hpre.out
      rw [hdr, List.filterMap_cons] at hp2
      obtain ⟨a, ha⟩ : ∃ x, args[j] = x := ⟨_, rfl⟩
      rw [ha] at x0 x1 x2 x3 hav hsm hp2
      have hrg := fun V h => harg.out V h a hsm hav
      have hnz := fun i (h : pix P (ptP ⟨px, py, pz⟩ a.p) = some i) => numZ_use hav h
      have haN : argN P a ⟨px, py, pz⟩ = (pix P (ptP ⟨px, py, pz⟩ a.p)).map fun i => a.v.toNat * P.length + i := rfl
      rw [haN] at hp2
      obtain ⟨⟨ax, ay, az⟩, hap⟩ : ∃ x, a.p = x := ⟨_, rfl⟩
      obtain ⟨av, hav2⟩ : ∃ x, a.v = x := ⟨_, rfl⟩
      simp only [hap] at x1 x2 x3 hrg hnz hp2
      simp only [hav2] at x0 hrg hnz hp2
      obtain ⟨⟨rx, ry, rz⟩, hrp⟩ : ∃ x, ptP ⟨px, py, pz⟩ ⟨ax, ay, az⟩ = x := ⟨_, rfl⟩
      simp only [hrp] at hrg hnz hp2
      have i1 : (0 : Int) ≤ (j : Int) := by omega
      have i2 : (j : Int) < (args.length : Int) := by omega
      subst ea
      clear haN hpre hdr hsw ha hap hav2 hrp
      cases hpx : pix P ⟨rx, ry, rz⟩ with
      | none =>
        rw [hpx] at hp2
        simp only [hpx, Option.isSome_none] at hrg
        replace hp2 : Hid _ := Lib.hid hp2
        obtain ⟨NZ, hNZ⟩ : ∃ z, numZ P av ⟨rx, ry, rz⟩ = z := ⟨_, rfl⟩
        simp only [hNZ] at hrg
        replace hrg := Lib.hid hrg
        clear hnz hNZ hpx
        gi_wp2_with fail
        refine callsIn_world fun Y HY => ?_
        have hY2 : Below wr.heap.size wr Y := by rw [HY.out]; (repeat (first | exact Below.refl _ _ | refine Below.alloc ?_ (by simp; try omega) _ | refine Below.setCell ?_ (by simp) _ | refine Below.drew ?_))
        have z0 : Y.cell? ⟨wr.heap.size, 0, none⟩ = some (.int .i64 av) := by rw [HY.out]; simp [go_sem]
        have z1 : Y.cell? ⟨wr.heap.size, 1, none⟩ = some (.int .i64 ax) := by rw [HY.out]; simp [go_sem]
        have z2 : Y.cell? ⟨wr.heap.size, 2, none⟩ = some (.int .i64 ay) := by rw [HY.out]; simp [go_sem]
        have z3 : Y.cell? ⟨wr.heap.size, 3, none⟩ = some (.int .i64 az) := by rw [HY.out]; simp [go_sem]
        refine (ci (hrg.out Y (Net.up hY2 hnw))).mono ?_
        rintro e Z ⟨rfl, hbz⟩
        have hZ : Below wr.heap.size wr Z := Up.to hY2 hbz hY2.size
        have hZs := hZ.size
        clear HY
        gi_wp2
        go_roundw
        case rel =>
          have hf : ∀ V, Below wr.heap.size wr V → J pre V ∧ KeepN Tw w.heap.size W.heap.size 2 X V := fun V hb => ⟨hJb.out _ _ _ hjp hb, hKx.trans (KeepN.of_below hb (by omega) hws2)⟩
          refine ⟨j + 1, pre, by omega, rfl, hp2, hf _ ?_⟩
          repeat (first | (with_reducible exact hZ) | (with_reducible refine Below.drew ?_) | ((with_reducible refine Below.setC ?_ ?_); (focus (first | omega | (simp; done) | (simp; omega)))) | ((with_reducible refine Below.allo ?_ ?_); (focus (first | omega | (simp; done) | (simp; omega)))))
        case measure => exact meas hlt
      | some i =>
        rw [hpx] at hp2
        have hnz2 := hnz i hpx
        simp only [hpx, Option.isSome_some, hnz2] at hrg
        obtain ⟨u, hu⟩ : ∃ u, av.toNat * P.length + i = u := ⟨_, rfl⟩
        simp only [Option.map_some, hu] at hp2
        simp only [hu] at hrg
        have hp3 : US = (pre ++ [u]) ++ (args.drop (j + 1)).filterMap fun a => argN P a ⟨px, py, pz⟩ := by rw [hp2]; simp
        have hlt2 : pre ++ [u] <+: US := ⟨_, hp3.symm⟩
        replace hp3 := Lib.hid hp3
        replace hrg := Lib.hid hrg
        clear hnz hnz2 hpx hp2 hu
        gi_wp2_with fail
        refine callsIn_world fun Y HY => ?_
        have hY2 : Below wr.heap.size wr Y := by rw [HY.out]; (repeat (first | exact Below.refl _ _ | refine Below.alloc ?_ (by simp; try omega) _ | refine Below.setCell ?_ (by simp) _ | refine Below.drew ?_))
        have z0 : Y.cell? ⟨wr.heap.size, 0, none⟩ = some (.int .i64 av) := by rw [HY.out]; simp [go_sem]
        have z1 : Y.cell? ⟨wr.heap.size, 1, none⟩ = some (.int .i64 ax) := by rw [HY.out]; simp [go_sem]
        have z2 : Y.cell? ⟨wr.heap.size, 2, none⟩ = some (.int .i64 ay) := by rw [HY.out]; simp [go_sem]
        have z3 : Y.cell? ⟨wr.heap.size, 3, none⟩ = some (.int .i64 az) := by rw [HY.out]; simp [go_sem]
        refine (ci (hrg.out Y (Net.up hY2 hnw))).mono ?_
        rintro e Z ⟨rfl, hbz⟩
        have hZ : Below wr.heap.size wr Z := Up.to hY2 hbz hY2.size
        have hZs := hZ.size
        clear HY
        gi_upto_region 5 with (fail)
        refine wpIn_world fun R HR => ?_
        have hR : Below wr.heap.size wr R := by
          rw [HR.out]
          repeat (first | (with_reducible exact hZ) | (with_reducible refine Below.drew ?_) | ((with_reducible refine Below.setC ?_ ?_); (focus (first | omega | (simp; done) | (simp; omega)))) | ((with_reducible refine Below.allo ?_ ?_); (focus (first | omega | (simp; done) | (simp; omega)))))
        have hjR := hJb.out _ _ _ hjp hR
        have hKR := hKx.trans (KeepN.of_below hR (by omega) hws2)
        obtain ⟨fn, tmps, assign, body, hy, hRd⟩ := hY.out pre u R hjR hlt2 (Nat.le_trans hws2 hR.size)
        clear HR hY2 hbz z0 z1 z2 z3
        gi_wp2
        refine hRd.mono ?_
        rintro e Q (⟨rfl, hjQ, hkQ⟩ | ⟨rfl, hjQ⟩)
        · gi_wp2
          go_roundw
          case rel => exact ⟨j + 1, pre ++ [u], by omega, rfl, hp3, hjQ, hKR.trans hkQ⟩
          case measure => exact meas hlt
        · gi_wp2
          refine bodyPost_ret (results_none rfl _ _ _) rfl ?_
          exact ⟨⟨_, rfl⟩, .inr ⟨_, ⟨_, hp3.out.symm⟩, hjQ⟩⟩
    · obtain rfl : j = args.length := by omega
      have hp : US = pre := by rw [hpre.out]; simp
      replace hp := Lib.hid hp
      gi_wp2
      go_end0
      exact ⟨⟨_, rfl⟩, .inl (by rw [hp.out]; exact hjp)⟩
set_option maxRecDepth 100000 in
theorem used_c (k : Nat) (A w : World) (h : Net 126 A g n s cap l s2 cq K sp cp mb P) (ok : NetOk n K P) (hAw : Below A.heap.size A w) (hk : k < K.length * P.length) (Tw : Nat → Prop) (hT : ∀ j, Tw j → A.heap.size ≤ j ∧ j < w.heap.size) :
    Calls Tryz.prog 39 #[.pointer (some ⟨g, 0, none⟩), .int .i64 k] w fun e w' => e = .returned (.func (.func 85) #[] #[.pointer (some ⟨w.heap.size, 0, none⟩), .pointer (some ⟨w.heap.size + 1, 0, none⟩)]) ∧ IterT Tryz.prog 85 #[.pointer (some ⟨w.heap.size, 0, none⟩), .pointer (some ⟨w.heap.size + 1, 0, none⟩)] (fun u : Nat => .int .i64 (u : Int)) Tw 2 (useN K P k) w' ∧ Below w.heap.size w w' ∧ w'.heap.size = w.heap.size + 2 := by
  have hit := fun (W : World) (hW : Below w.heap.size w W) c1 c2 => used1_iter k w.heap.size A W h ok (hAw.trans (hW.mono hAw.size)) hk Tw hT c1 c2
  replace hit := Lib.hid hit
  clear h ok hAw hk hT
  go_enter Tryz.func39, Tryz.ntmps39
  go_wp2
  go_ret
  have hX : ∀ o1 o2, Below w.heap.size w ((w.alloc o1).alloc o2) := fun o1 o2 => ((Below.refl _ w).alloc (Nat.le_refl _) o1).alloc (by simp) o2
  exact ⟨rfl, hit.out _ (hX _ _) (by simp [go_sem]) (by simp [go_sem]), hX _ _, by simp⟩
end
end Go.Proofs.YtakbpjgnjfigcaaGreat
