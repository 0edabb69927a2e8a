/- The first claims that clash: the program. -/
import Derived.Test.YtgeoehokojijdaaMixEnt
import Derived.Test.YtgeoehokojijdaaMixTab
import Derived.Test.YtgeoehokojijdaaMix15
namespace Go.Proofs.Ytgeoehokojijdaa
open Go.RowKit

theorem news_kept {Y V2 : World} {mb : Nat} {t : TypeId} {cs : List Value} (hg : (Y.alloc (.cells cs.toArray t)).grownBy V2 (some mb)) (hmb : mb < Y.heap.size) : ∀ j u, cs[j]? = some u → V2.cell? ((⟨Y.heap.size, 0, none⟩ : Addr).add j) = some u := fun j u hu => by
  have h := news_new Y cs t j u hu
  rw [add_eq] at h ⊢
  unfold World.cell? at h ⊢
  rw [show V2.heap[(⟨Y.heap.size, 0 + j, none⟩ : Addr).block]? = (Y.alloc (.cells cs.toArray t)).heap[(⟨Y.heap.size, 0 + j, none⟩ : Addr).block]? from hg.block _ (by simp) (by simp; omega)]
  exact h
theorem Row.upB {n : Nat} {W W' : World} {b t : Nat} {arr : Array Value} (h : Below n W W') (hb : b < n) (r : Row W b t arr) : Row W' b t arr := (h.block b hb).trans r
theorem grp_below {B : Nat} {Y V2 V3 V4 : World} {o : Obj} {e size n : Nat} {F : Value} {xs : List Value} (h1 : (Y.alloc o).grownBy V2 (some B)) (h2 : V2.grownBy V3 F.ownBlock) (h3 : V3.grownBy V4 (some B)) (hown : V2.ownsRow (B + 1) e size F n xs) (hB : B < Y.heap.size) : Below B Y V4 := by
  have s1 : Y.heap.size ≤ V2.heap.size := by have := h1.size; simp at this; omega
  have s2 := h2.size
  have b1 := (Below.refl B Y).alloc (Nat.le_of_lt hB) o
  have b2 := b1.grown h1 (by simp; omega) (fun j hj => by cases hj; exact Nat.le_refl _)
  have b3 := b2.grown h2 (by omega) (fun j hj => by have := (hown.lt j hj).1; omega)
  exact b3.grown h3 (by omega) (fun j hj => by cases hj; exact Nat.le_refl _)
/-- What clash hands back. -/
def ClPost (k : List (List Clm)) (p : Int) (st : List Int) (a0 a1 b0 b1 : Int) (ok : Bool) : Prop :=
  (noHit k st p ∧ ok = false ∧ a0 = 0 ∧ a1 = 0 ∧ b0 = 0 ∧ b1 = 0) ∨
  (ok = true ∧ ∃ i m j n : Nat, NB k st p i m j n ∧ hitAt k st p i m j n ∧ a0 = i ∧ a1 = m ∧ b0 = j ∧ b1 = n)
def ClRet (k : List (List Clm)) (p : Int) (st : List Int) (w : World) (e : Ending) (w' : World) : Prop :=
  (∃ (a0 a1 b0 b1 : Int) (ok : Bool), e = .returned (.tuple #[.agg #[.int .i64 a0, .int .i64 a1], .agg #[.int .i64 b0, .int .i64 b1], .bool ok]) ∧ ClPost k p st a0 a1 b0 b1 ok) ∧ Below w.heap.size w w'
theorem cl_end {fn : Func} (hr : fn.results = #[.cell 6 45, .cell 7 45, .tmp 8]) {k : List (List Clm)} {p : Int} {st : List Int} (a0 a1 b0 b1 : Int) (ok : Bool) {tmps : Array Value} {w X : World} {c1 c2 : Nat}
    (h6 : tmps.getD 6 undef = .pointer (some ⟨c1, 0, none⟩)) (h7 : tmps.getD 7 undef = .pointer (some ⟨c2, 0, none⟩)) (h8 : tmps.getD 8 undef = .bool ok)
    (r1 : Row X c1 45 #[.int .i64 a0, .int .i64 a1]) (r2 : Row X c2 45 #[.int .i64 b0, .int .i64 b1]) (hp : ClPost k p st a0 a1 b0 b1 ok) (hB : Below w.heap.size w X) :
    bodyPost Try.prog fn (ClRet k p st w) .ret { tmps := tmps, defers := [] } X :=
  bodyPost_ret (results_ccs hr h6 h7 h8 (load_two r1) (load_two r2)) rfl ⟨⟨a0, a1, b0, b1, ok, rfl, hp⟩, hB⟩
theorem allE_len {k : List (List Clm)} {st : List Int} {p : Int} (hl : ∀ n, kLen k n ≤ 20) : ∀ N, (allE k st p N).length ≤ 20 * N
  | 0 => Nat.le_refl _
  | N + 1 => by
    have h1 := allE_len hl (st := st) (p := p) N
    have h2 : (rowE k st p N (kLen k N)).length = kLen k N := by simp [rowE]
    have h3 := hl N
    rw [allE_succ, List.length_append]; omega
set_option maxRecDepth 100000 in
set_option maxHeartbeats 1000000 in
theorem clash_c (s : Option Addr) (cap : Nat) (k : List (List Clm)) (p : Int) (t : Option Addr) (ct : Nat) (st : List Int) (w : World) (h : Ker w s cap k) (g : Ints w t st) (hv : vldB k = true) (hp : 1 ≤ p ∧ p ≤ 20) (hst : st.length = k.length) (hsr : ∀ n ∈ st, 0 ≤ n ∧ n < p) :
    Calls Try.prog 62 #[.slice s k.length cap, .int .i64 p, .slice t st.length ct] w (ClRet k p st w) := by
  have hkl := h.len
  have hsl := g.len
  have hk3 := vldB_k hv
  have hkn : ∀ n, kLen k n ≤ 20 := fun n => by
    unfold kLen
    rw [List.getD_eq_getElem?_getD]
    cases hc : k[n]? with
    | none => simp
    | some l => exact (vldB_l hv (List.mem_of_getElem? hc)).2.2
  have hEl : ∀ n i, n < k.length → i ≤ kLen k n → (allE k st p n ++ rowE k st p n i).length ≤ 100 := fun n i h1 h2 => by
    have h3 := allE_len hkn (st := st) (p := p) n
    have h4 := hkn n
    rw [List.length_append, show (rowE k st p n i).length = i by simp [rowE]]; omega
  have hE0 : allE k st p 0 = [] := rfl
  have hEz : ∀ n, allE k st p n = allE k st p n ++ rowE k st p n 0 := fun n => by simp [rowE]
  have hEs : ∀ n i, allE k st p n ++ rowE k st p n i ++ [(sAt k st p n i, (⟨(n : Int), (i : Int)⟩ : Clm))] = allE k st p n ++ rowE k st p n (i + 1) := fun n i => by rw [rowE_succ, List.append_assoc]; rfl
  have hEe : ∀ n, allE k st p n ++ rowE k st p n (kLen k n) = allE k st p (n + 1) := fun n => (allE_succ k st p n).symm
  have hkA : ∀ n i (hn : n < k.length) (hi : i < k[n].length), kAt k n i = k[n][i] := fun n i hn hi => by simp [kAt, List.getElem?_eq_getElem hn, List.getElem?_eq_getElem hi]
  have hkL : ∀ n (hn : n < k.length), kLen k n = k[n].length := fun n hn => kLen_at hn
  have hcl := fun (n : Nat) (hn : n < k.length) (c : Clm) hc => vldB_c hv (List.getElem_mem hn) (c := c) hc
  have hsA : ∀ n i (hn : n < k.length) (hi : i < k[n].length) S, st[n]? = some S → sAt k st p n i = ⟨k[n][i].cell, (S + k[n][i].time) % p⟩ := fun n i hn hi S hS => by
    unfold sAt slC; rw [hkA n i hn hi, List.getD_eq_getElem?_getD, hS]; rfl
  have hgd : ∀ s, grp k st p s = grpL (allE k st p k.length) s := fun s => rfl
  have hno : oneTo k st p k.length 0 → ClPost k p st 0 0 0 0 false := fun hh => .inl ⟨clash_none hh, rfl, rfl, rfl, rfl, rfl⟩
  have hyes := fun (n i : Nat) hn hi ho hl => clash_some (k := k) (st := st) (p := p) (n := n) (i := i) hn hi ho hl
  have hmm := @run_makeMap Try.prog
  obtain ⟨p, rfl⟩ : ∃ n : Nat, p = n := ⟨p.toNat, by omega⟩
  have hp0 : ¬ (p : Int) = 0 := by omega
  have hp1 : ¬ p = 0 := by omega
  have h0 := Lib.hid h
  have g0 := Lib.hid g
  replace hv := Lib.hid hv; replace hst := Lib.hid hst; replace hsr := Lib.hid hsr; replace hkn := Lib.hid hkn; replace hEl := Lib.hid hEl; replace hE0 := Lib.hid hE0; replace hEz := Lib.hid hEz; replace hEs := Lib.hid hEs; replace hEe := Lib.hid hEe; replace hkA := Lib.hid hkA; replace hkL := Lib.hid hkL; replace hcl := Lib.hid hcl; replace hsA := Lib.hid hsA; replace hgd := Lib.hid hgd; replace hno := Lib.hid hno; replace hyes := Lib.hid hyes
  go_enter Try.func62, Try.ntmps62
  go_upto_region 1 with (fail)
  refine wp_world fun W HW => ?_
  have hB : Below w.heap.size w W := by rw [HW.out]; (repeat (first | exact Below.refl _ _ | refine Below.alloc ?_ (by simp; try omega) _ | refine Below.setCell ?_ (by simp) _ | refine Below.drew ?_))
  have aB : Row W (w.heap.size) 45 #[.int .i64 0, .int .i64 0] := (by rw [HW.out]; (repeat (first | (refine blk_new ?_; simp; done) | refine blk_old ?_ _)) : W.heap[w.heap.size]? = some (.cells #[.int .i64 0, .int .i64 0] 45 (0, 0)))
  have a0 : W.cell? ⟨w.heap.size, 0, none⟩ = some (.int .i64 0) := by rw [HW.out]; simp [go_sem]
  have a1 : W.cell? ⟨w.heap.size, 1, none⟩ = some (.int .i64 0) := by rw [HW.out]; simp [go_sem]
  have al : w.heap.size < W.heap.size := World.block_lt_of_cell? W _ a0
  have bB : Row W (w.heap.size + 1) 45 #[.int .i64 0, .int .i64 0] := (by rw [HW.out]; (repeat (first | (refine blk_new ?_; simp; done) | refine blk_old ?_ _)) : W.heap[w.heap.size + 1]? = some (.cells #[.int .i64 0, .int .i64 0] 45 (0, 0)))
  have b0 : W.cell? ⟨w.heap.size + 1, 0, none⟩ = some (.int .i64 0) := by rw [HW.out]; simp [go_sem]
  have b1 : W.cell? ⟨w.heap.size + 1, 1, none⟩ = some (.int .i64 0) := by rw [HW.out]; simp [go_sem]
  have bl : w.heap.size + 1 < W.heap.size := World.block_lt_of_cell? W _ b0
  try replace h := up_of hB h
  try replace g := up_of hB g
  go_upto_region 2 with (fail)
  refine wp_world fun X HX => ?_
  have hWs := hB.size
  have hX : Below w.heap.size w X := by
    rw [HX.out]
    repeat (first | (with_reducible exact hB) | (with_reducible refine Below.drew ?_) | ((with_reducible refine Below.setC ?_ ?_); (focus (first | omega | (simp; done) | (simp; omega)))) | ((with_reducible refine Below.allo ?_ ?_); (focus (first | omega | (simp; done) | (simp; omega)))))
  have hax : Row X w.heap.size 45 #[.int .i64 0, .int .i64 0] := by
    rw [HX.out]; exact aB.alloc _
  have hbx : Row X (w.heap.size + 1) 45 #[.int .i64 0, .int .i64 0] := by
    rw [HX.out]; exact bB.alloc _
  have hal := aB.lt
  have hbl := bB.lt
  have hG : Grp X W.heap.size (allE k st p 0) (fun _ => .slice none 0 0) := by
    rw [HX.out, hE0.out]; exact Grp.made W
  clear hmm aB bB hB h g
  go_wp2
  go_loopw [23] (fun ii V => ∃ (n : Nat) (f : Clm → Value), n ≤ k.length ∧ ii = .int .i64 n ∧ Below w.heap.size w V ∧ Row V w.heap.size 45 #[.int .i64 0, .int .i64 0] ∧ Row V (w.heap.size + 1) 45 #[.int .i64 0, .int .i64 0] ∧ Grp V W.heap.size (allE k st p n) f) (fun ii _ => k.length - (intOf ii).toNat)
  case atStart => exact ⟨0, _, by omega, rfl, hX, hax, hbx, hG⟩
  case round =>
    clear hX hax hbx hG
    obtain ⟨n, f, hn, rfl, hX, hax, hbx, hG⟩ := hrel
    by_cases hlt : n < k.length
    · obtain ⟨bk, ok, sl1, cl1, rfl, -, qk, slk, -, -⟩ := h0.out.ss.at hlt
      have hcx := hcl.out n hlt
      have hlx := hkn.out n
      have hnst : n < st.length := by have := hst.out; omega
      obtain ⟨bs, os, rfl, -, sq⟩ := g0.out.sl.int_at hnst
      have hsn := hsr.out _ (List.getElem_mem hnst)
      have hSe : st[n]? = some st[n] := List.getElem?_eq_getElem hnst
      have hkl1 := hkL.out n hlt
      have hsA1 := hsA.out n
      obtain ⟨S, hS⟩ : ∃ v, st[n] = v := ⟨_, rfl⟩
      obtain ⟨l, hl⟩ : ∃ l, k[n] = l := ⟨_, rfl⟩
      rw [hS] at sq hsn hSe
      rw [hl] at qk slk hcx hkl1
      rw [hkl1] at hlx
      have hsA2 : ∀ i (hi : i < l.length), sAt k st p n i = ⟨l[i].cell, (S + l[i].time) % (p : Int)⟩ := fun i hi => by
        subst hl; exact hsA1 i hlt hi S hSe
      rw [hEz.out n] at hG
      have qk1 := up_of hX qk
      have hEe1 := hEe.out n
      rw [hkl1] at hEe1
      replace hS := Lib.hid hS; replace hl := Lib.hid hl; replace hcx := Lib.hid hcx; replace slk := Lib.hid slk; replace sq := Lib.hid sq; replace qk := Lib.hid qk; replace hsA2 := Lib.hid hsA2; replace hkl1 := Lib.hid hkl1; replace hEe1 := Lib.hid hEe1
      have i1 : (0 : Int) ≤ (n : Int) := by omega
      have i2 : (n : Int) < (k.length : Int) := by omega
      have i3 : (n : Int) < (st.length : Int) := by omega
      clear hsA1 hSe
      go_wp2
      go_loopw [30] (fun ii V => ∃ (i : Nat) (f : Clm → Value), i ≤ l.length ∧ ii = .int .i64 i ∧ Below w.heap.size w V ∧ Row V w.heap.size 45 #[.int .i64 0, .int .i64 0] ∧ Row V (w.heap.size + 1) 45 #[.int .i64 0, .int .i64 0] ∧ Grp V W.heap.size (allE k st p n ++ rowE k st p n i) f) (fun ii _ => l.length - (intOf ii).toNat)
      case atStart => exact ⟨0, f, by omega, rfl, hX, hax, hbx, hG⟩
      case round =>
        clear hX hax hbx hG qk1 f
        obtain ⟨i, f, hi, rfl, hX, hax, hbx, hG⟩ := hrel
        have hXs := hX.size
        by_cases hil : i < l.length
        · obtain ⟨bx, ox, rfl, hbx2, x0, x1⟩ := (up_of hX slk).out.clm_at hil
          have hxb := hcx.out _ (List.getElem_mem hil)
          have e2 := hsA2.out i hil
          have hEs1 := hEs.out n i
          have hEl1 := hEl.out n i hlt (by have := hkl1.out; omega)
          obtain ⟨x, hx⟩ : ∃ x, l[i] = x := ⟨_, rfl⟩
          rw [hx] at x0 x1 hxb e2
          obtain ⟨R, hR⟩ : ∃ R, (S + x.time) % (p : Int) = R := ⟨_, rfl⟩
          have hRb : 0 ≤ R ∧ R < (p : Int) := by
            rw [← hR]; exact ⟨Int.emod_nonneg _ hp0, Int.emod_lt_of_pos _ (by omega)⟩
          rw [hR] at e2
          have u7 := i64_small (n := S + x.time) (by omega)
          have u8 : (S + x.time).tmod (p : Int) = R := by rw [Int.tmod_eq_emod_of_nonneg (by omega)]; exact hR
          have hok : clmOk (sAt k st p n i) = true := by rw [e2]; simp [clmOk, bw_iff]; omega
          have s0 := (up_of hX sq).out
          obtain ⟨E, hE⟩ : ∃ E, allE k st p n ++ rowE k st p n i = E := ⟨_, rfl⟩
          rw [hE] at hG hEs1 hEl1
          rw [e2] at hok hEs1
          replace hE := Lib.hid hE; replace hEs1 := Lib.hid hEs1; replace hx := Lib.hid hx; replace hR := Lib.hid hR; replace e2 := Lib.hid e2; replace hok := Lib.hid hok; replace hEl1 := Lib.hid hEl1
          have i4 : (0 : Int) ≤ (i : Int) := by omega
          have i5 : (i : Int) < (l.length : Int) := by omega
          replace hG := Lib.hid hG
          go_upto_region 8 with (fail)
          refine wp_world fun Z HZ => ?_
          have hZ : Below wr.heap.size wr Z := by rw [HZ.out]; (repeat (first | exact Below.refl _ _ | refine Below.alloc ?_ (by simp; try omega) _ | refine Below.setCell ?_ (by simp) _ | refine Below.drew ?_))
          have x0 : Z.cell? ⟨wr.heap.size, 0, none⟩ = some (.int .i64 x.cell) := by rw [HZ.out]; simp [go_sem]
          have x1 : Z.cell? ⟨wr.heap.size, 1, none⟩ = some (.int .i64 x.time) := by rw [HZ.out]; simp [go_sem]
          have xl : wr.heap.size < Z.heap.size := World.block_lt_of_cell? Z _ x0
          try replace hX := up_of hZ hX
          try replace hax := up_of hZ hax
          try replace hbx := up_of hZ hbx
          try replace hG := up_of hZ hG
          try replace s0 := up_of hZ s0
          have hs0l := World.block_lt_of_cell? Z _ s0
          have hx0l := World.block_lt_of_cell? Z _ x0
          go_region
          all_goals
            go_upto_region 9 with (fail)
            refine wp_world fun Y HY => ?_
            have hY : Below Z.heap.size Z Y := by rw [HY.out]; (repeat (first | exact Below.refl _ _ | refine Below.alloc ?_ (by simp; try omega) _ | refine Below.setCell ?_ (by simp) _ | refine Below.drew ?_))
            have y0 : Y.cell? ⟨Z.heap.size, 0, none⟩ = some (.int .i64 x.cell) := by rw [HY.out]; simp [go_sem]
            have y1 : Y.cell? ⟨Z.heap.size, 1, none⟩ = some (.int .i64 R) := by rw [HY.out]; simp [go_sem]
            have yl : Z.heap.size < Y.heap.size := World.block_lt_of_cell? Y _ y0
            try replace hX := up_of hY hX
            try replace hax := up_of hY hax
            try replace hbx := up_of hY hbx
            try replace hG := up_of hY hG
            try replace s0 := up_of hY s0
            try replace hZ := up_of hY hZ
            try replace x0 := up_of hY x0
            try replace x1 := up_of hY x1
            try replace xl := up_of hY xl
            have G1 : Grp (Y.alloc (.cells #[.int .i64 n, .int .i64 i] 45)) W.heap.size E f := hG.out.up ((Below.refl Y.heap.size Y).alloc (Nat.le_refl _) _)
            have hmbY := hG.out.lt
            obtain ⟨st0, V2, hrun, hg12, hown2, hback⟩ := G1.entry hok.out (by have := hEl1.out; unfold maxLen; omega)
            replace hrun : (Instr.mapEntry 94 (.map (some W.heap.size)) (.agg #[.int .i64 x.cell, .int .i64 R])).run Try.prog (Y.alloc (.cells #[.int .i64 n, .int .i64 i] 45)) = _ := hrun
            have hgl := grpL_le E ⟨x.cell, R⟩
            obtain ⟨GL, hGL⟩ : ∃ G, grpL E ⟨x.cell, R⟩ = G := ⟨_, rfl⟩
            obtain ⟨F, hF⟩ : ∃ F, f ⟨x.cell, R⟩ = F := ⟨_, rfl⟩
            simp only [hGL, hF] at hrun hown2 hback hgl
            have hnews := news_kept (cs := [.int .i64 n, .int .i64 i]) hg12 hmbY
            have hgE : GL.length ≤ 100 := by have := hEl1.out; omega
            have hV2s : W.heap.size + 1 ≤ V2.heap.size := by have := hg12.size; simp at this; omega
            replace hback := Lib.hid hback; replace hGL := Lib.hid hGL; replace hF := Lib.hid hF; replace hnews := Lib.hid hnews
            clear G1 hgl
            go_wp2_with (first | (refine wpList_mapEntry rfl _ _ _ rfl rfl rfl hrun ?_) | (at_builtin; obtain ⟨i0, hi0, hz0, hz1, hz2⟩ := info_parts info_pair; refine wpList_append_own_at _ rfl _ _ 42 rfl (W.heap.size + 1) 45 i0 _ 2 16 Try.underlying42 hi0 hz0 hz1 hz2 rfl (by decide) _ _ _ rfl hown2 ⟨Y.heap.size, 0, none⟩ 1 1 [.int .i64 n, .int .i64 i] rfl rfl hnews.out (by simp [Value.oneCell']) (by unfold maxLen; omega) (by omega) hV2s ?_; intro v' V3 hown3 hgrow3 hnil3 hat3; obtain ⟨V4, hst4, hG4, hg34⟩ := hback.out V3 v' ⟨n, i⟩ hown3 hgrow3 hat3) | (refine wpList_entryStore rfl _ _ _ _ rfl rfl rfl rfl hst4 ?_))
            have hBm := grp_below hg12 hgrow3 hg34 hown2 hmbY
            rw [hEs1.out] at hG4
            go_roundw
            case rel => exact ⟨i + 1, _, by omega, by go_num, hX.trans (hBm.mono hWs), Row.upB hBm (by omega) hax, Row.upB hBm (by omega) hbx, hG4⟩
            case measure => exact meas hil
        · obtain rfl : i = l.length := by omega
          rw [hEe1.out] at hG
          go_wp2
          go_roundw
          case rel => exact ⟨n + 1, f, by omega, by go_num, hX, hax, hbx, hG⟩
          case measure => exact meas hlt
    · obtain rfl : n = k.length := by omega
      clear hEz hEs hEe hEl hE0
      obtain ⟨wo, hwo⟩ : ∃ wo : World, wo = wr := ⟨_, rfl⟩
      subst hwo
      have hXs := hX.size
      have hG0 := Lib.hid hG
      have hone : Hid (oneTo k st p 0 0) := Lib.hid oneTo_zero
      clear hG
      go_wp2
      go_loopw [61] (fun ii V => ∃ n : Nat, n ≤ k.length ∧ ii = .int .i64 n ∧ Below wo.heap.size wo V ∧ Hid (oneTo k st p n 0)) (fun ii _ => k.length - (intOf ii).toNat)
      case atStart => exact ⟨0, by omega, rfl, Below.refl _ _, hone⟩
      case round =>
        clear hone
        obtain ⟨n, hn, rfl, hR, hone⟩ := hrel
        have hXR := hX.trans (hR.mono hXs)
        have hax2 := up_of hR hax
        have hbx2 := up_of hR hbx
        have hRs := hR.size
        by_cases hlt : n < k.length
        · obtain ⟨bk, ok, sl1, cl1, rfl, -, qk, slk, -, -⟩ := h0.out.ss.at hlt
          have hcx := hcl.out n hlt
          have hlx := hkn.out n
          have hnst : n < st.length := by have := hst.out; omega
          obtain ⟨bs, os, rfl, -, sq⟩ := g0.out.sl.int_at hnst
          have hsn := hsr.out _ (List.getElem_mem hnst)
          have hSe : st[n]? = some st[n] := List.getElem?_eq_getElem hnst
          have hkl1 := hkL.out n hlt
          have hsA1 := hsA.out n
          obtain ⟨S, hS⟩ : ∃ v, st[n] = v := ⟨_, rfl⟩
          obtain ⟨l, hl⟩ : ∃ l, k[n] = l := ⟨_, rfl⟩
          rw [hS] at sq hsn hSe
          rw [hl] at qk slk hcx hkl1
          rw [hkl1] at hlx
          have hsA2 : ∀ i (hi : i < l.length), sAt k st p n i = ⟨l[i].cell, (S + l[i].time) % (p : Int)⟩ := fun i hi => by
            subst hl; exact hsA1 i hlt hi S hSe
          have qk1 := up_of hXR qk
          replace hS := Lib.hid hS; replace hl := Lib.hid hl; replace hcx := Lib.hid hcx; replace slk := Lib.hid slk; replace sq := Lib.hid sq; replace qk := Lib.hid qk; replace hsA2 := Lib.hid hsA2; replace hkl1 := Lib.hid hkl1
          have i1 : (0 : Int) ≤ (n : Int) := by omega
          have i2 : (n : Int) < (k.length : Int) := by omega
          have i3 : (n : Int) < (st.length : Int) := by omega
          clear hsA1 hSe
          go_wp2
          go_loopw [68] (fun ii V => ∃ i : Nat, i ≤ l.length ∧ ii = .int .i64 i ∧ Below wo.heap.size wo V ∧ Hid (oneTo k st p n i)) (fun ii _ => l.length - (intOf ii).toNat)
          case atStart => exact ⟨0, by omega, rfl, hR, hone⟩
          case round =>
            clear hR hone hXR hax2 hbx2 hRs qk1
            obtain ⟨i, hi, rfl, hR, hone⟩ := hrel
            have hXR := hX.trans (hR.mono hXs)
            have hXRs := hXR.size
            have hRs := hR.size
            by_cases hil : i < l.length
            · obtain ⟨bx, ox, rfl, hbx3, x0, x1⟩ := (up_of hXR slk).out.clm_at hil
              have hxb := hcx.out _ (List.getElem_mem hil)
              have e2 := hsA2.out i hil
              obtain ⟨x, hx⟩ : ∃ x, l[i] = x := ⟨_, rfl⟩
              rw [hx] at x0 x1 hxb e2
              obtain ⟨R, hR0⟩ : ∃ R, (S + x.time) % (p : Int) = R := ⟨_, rfl⟩
              have hRb : 0 ≤ R ∧ R < (p : Int) := by
                rw [← hR0]; exact ⟨Int.emod_nonneg _ hp0, Int.emod_lt_of_pos _ (by omega)⟩
              rw [hR0] at e2
              have u7 := i64_small (n := S + x.time) (by omega)
              have u8 : (S + x.time).tmod (p : Int) = R := by rw [Int.tmod_eq_emod_of_nonneg (by omega)]; exact hR0
              have hok : clmOk (sAt k st p n i) = true := by rw [e2]; simp [clmOk, bw_iff]; omega
              have s0 := (up_of hXR sq).out
              have hki : i < kLen k n := by rw [hkl1.out]; exact hil
              have hge := hgd.out (sAt k st p n i)
              have hnxt : (grp k st p (sAt k st p n i)).length ≤ 1 → oneTo k st p n (i + 1) := fun hh => oneTo_next hone.out hh
              have hend := hyes.out n i hlt hki hone.out
              rw [e2] at hok hge hnxt hend
              have haX := up_of hR hax
              have hbX := up_of hR hbx
              have hG1 := up_of hR hG0
              obtain ⟨GL, hGL⟩ : ∃ G, grp k st p ⟨x.cell, R⟩ = G := ⟨_, rfl⟩
              rw [hGL] at hge hnxt hend
              replace hge := Lib.hid hge; replace hnxt := Lib.hid hnxt; replace hend := Lib.hid hend; replace hx := Lib.hid hx; replace hR0 := Lib.hid hR0; replace e2 := Lib.hid e2; replace hok := Lib.hid hok; replace hGL := Lib.hid hGL
              have i4 : (0 : Int) ≤ (i : Int) := by omega
              have i5 : (i : Int) < (l.length : Int) := by omega
              go_upto_region 18 with (fail)
              refine wp_world fun Z HZ => ?_
              have hZ : Below wr.heap.size wr Z := by rw [HZ.out]; (repeat (first | exact Below.refl _ _ | refine Below.alloc ?_ (by simp; try omega) _ | refine Below.setCell ?_ (by simp) _ | refine Below.drew ?_))
              have x0 : Z.cell? ⟨wr.heap.size, 0, none⟩ = some (.int .i64 x.cell) := by rw [HZ.out]; simp [go_sem]
              have x1 : Z.cell? ⟨wr.heap.size, 1, none⟩ = some (.int .i64 x.time) := by rw [HZ.out]; simp [go_sem]
              have xl : wr.heap.size < Z.heap.size := World.block_lt_of_cell? Z _ x0
              try replace hR := up_of hZ hR
              try replace haX := up_of hZ haX
              try replace hbX := up_of hZ hbX
              try replace hG1 := up_of hZ hG1
              try replace s0 := up_of hZ s0
              have hlk := (hG1.out.up (Below.drew (Below.refl Z.heap.size Z))).look hok.out
              replace hlk : (Instr.lookup 94 (.map (some W.heap.size)) (.agg #[.int .i64 x.cell, .int .i64 R]) false).run Try.prog Z.drew = _ := hlk
              have how := hG1.out.own _ hok.out
              rw [← hge.out] at how
              obtain ⟨sF, cF, hF, -⟩ := owns_shape how
              rw [hF] at hlk how
              have hsl2 := SlS.of_own (E := clmE) how
              have hgl := how.1
              replace how := Lib.hid how; replace hF := Lib.hid hF; replace hgl := Lib.hid hgl
              have hs0l := World.block_lt_of_cell? Z _ s0
              have hx0l := World.block_lt_of_cell? Z _ x0
              go_region
              all_goals
                go_upto_region 19 with (fail)
                by_cases hg2 : 1 < GL.length
                · obtain ⟨j, m, ⟨r, hGr⟩, hNB, hhit⟩ := hend.out hg2
                  have hpost : ClPost k p st n i j m true := .inr ⟨rfl, n, i, j, m, hNB, hhit, rfl, rfl, rfl, rfl⟩
                  have e0 : GL[0] = ⟨(n : Int), (i : Int)⟩ := by simp [hGr]
                  have e1 : GL[1] = ⟨(j : Int), (m : Int)⟩ := by simp [hGr]
                  obtain ⟨b1, o1, rfl, hb1, p0, p1⟩ := hsl2.clm_at (i := 0) (by omega)
                  obtain ⟨b2, o2, eb, -, q0, q1⟩ := hsl2.clm_at (i := 1) (by omega)
                  cases eb
                  rw [e0] at p0 p1
                  rw [e1] at q0 q1
                  simp only [Nat.zero_mul, Nat.add_zero, Nat.one_mul] at p0 p1 q0 q1
                  replace hpost := Lib.hid hpost; replace hGr := Lib.hid hGr; replace e0 := Lib.hid e0; replace e1 := Lib.hid e1
                  have hXZ := hX.trans (hR.mono hXs)
                  clear hsl2 hlk hend hnxt hNB hhit
                  go_upto_region 20 with (fail)
                  refine wp_world fun Y HY => ?_
                  have hZY : Below Z.heap.size Z Y := by
                    rw [HY.out]
                    exact Below.drew (Below.refl _ _)
                  have hXY := Up.trans hXZ (hZY)
                  replace p0 := up_of hZY p0; replace p1 := up_of hZY p1; replace q0 := up_of hZY q0; replace q1 := up_of hZY q1
                  have haY := up_of hZY haX
                  have hbY := up_of hZY hbX
                  have af := fun i => Row.frozen haY i
                  have bf := fun i => Row.frozen hbY i
                  obtain ⟨a0, a1⟩ := haY.two
                  obtain ⟨c0, c1⟩ := hbY.two
                  have hb1l := World.block_lt_of_cell? Y _ p0
                  have hal2 := haY.lt
                  have hbl2 := hbY.lt
                  have hg3 : (1 : Int) < (GL.length : Int) := by omega
                  have hg4 : (0 : Int) < (GL.length : Int) := by omega
                  have hXYs := hXY.size
                  clear hXZ hZY hR hXR
                  go_region
                  all_goals
                    go_wp2
                    refine cl_end rfl n i j m true rfl rfl rfl ?_ ?_ hpost.out ?_
                    · refine Row.of ?_
                      repeat (first | (with_reducible refine RowG.base haY ?_) | (with_reducible refine RowG.drew ?_) | (with_reducible refine RowG.set ?_) | ((with_reducible refine RowG.other ?_ ?_); (focus (first | omega | (simp; done) | (simp; omega)))) | (with_reducible refine RowG.alloc ?_))
                      rfl
                    · refine Row.of ?_
                      repeat (first | (with_reducible refine RowG.base hbY ?_) | (with_reducible refine RowG.drew ?_) | (with_reducible refine RowG.set ?_) | ((with_reducible refine RowG.other ?_ ?_); (focus (first | omega | (simp; done) | (simp; omega)))) | (with_reducible refine RowG.alloc ?_))
                      rfl
                    · repeat (first | (with_reducible exact hXY) | (with_reducible refine Below.drew ?_) | ((with_reducible refine Below.setC ?_ ?_); (focus (first | omega | (simp; done) | (simp; omega)))) | ((with_reducible refine Below.allo ?_ ?_); (focus (first | omega | (simp; done) | (simp; omega)))))
                · have hg3 : ¬ (1 : Int) < (GL.length : Int) := by omega
                  have hone2 : Hid (oneTo k st p n (i + 1)) := Lib.hid (hnxt.out (by omega))
                  clear hsl2 hlk hend hnxt hone
                  go_wp2
                  go_roundw
                  case rel => exact ⟨i + 1, by omega, by go_num, Below.drew hR, hone2⟩
                  case measure => exact meas hil
            · obtain rfl : i = l.length := by omega
              have hone2 : Hid (oneTo k st p (n + 1) 0) := Lib.hid (oneTo_row (by rw [hkl1.out]; exact hone.out))
              clear hone
              go_wp2
              go_roundw
              case rel => exact ⟨n + 1, by omega, by go_num, hR, hone2⟩
              case measure => exact meas hlt
        · obtain rfl : n = k.length := by omega
          have hpost := hno.out hone.out
          replace hpost := Lib.hid hpost
          clear hone
          have af := fun i => Row.frozen hax2 i
          have bf := fun i => Row.frozen hbx2 i
          obtain ⟨a0, a1⟩ := hax2.two
          obtain ⟨c0, c1⟩ := hbx2.two
          have hal2 := hax2.lt
          have hbl2 := hbx2.lt
          have hXRs := hXR.size
          go_upto_region 23 with (fail)
          go_region
          all_goals
            go_wp2
            refine cl_end rfl 0 0 0 0 false rfl rfl rfl ?_ ?_ hpost.out ?_
            · refine Row.of ?_
              repeat (first | (with_reducible refine RowG.base hax2 ?_) | (with_reducible refine RowG.drew ?_) | (with_reducible refine RowG.set ?_) | ((with_reducible refine RowG.other ?_ ?_); (focus (first | omega | (simp; done) | (simp; omega)))) | (with_reducible refine RowG.alloc ?_))
              rfl
            · refine Row.of ?_
              repeat (first | (with_reducible refine RowG.base hbx2 ?_) | (with_reducible refine RowG.drew ?_) | (with_reducible refine RowG.set ?_) | ((with_reducible refine RowG.other ?_ ?_); (focus (first | omega | (simp; done) | (simp; omega)))) | (with_reducible refine RowG.alloc ?_))
              rfl
            · repeat (first | (with_reducible exact hXR) | (with_reducible refine Below.drew ?_) | ((with_reducible refine Below.setC ?_ ?_); (focus (first | omega | (simp; done) | (simp; omega)))) | ((with_reducible refine Below.allo ?_ ?_); (focus (first | omega | (simp; done) | (simp; omega)))))
end Go.Proofs.Ytgeoehokojijdaa
