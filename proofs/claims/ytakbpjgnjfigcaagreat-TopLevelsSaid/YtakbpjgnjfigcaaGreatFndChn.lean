/- A longest chain of elements: the program. -/
import Derived.Test.YtakbpjgnjfigcaaGreatFndCir
import Derived.Test.YtakbpjgnjfigcaaGreatQIn
namespace Go.Proofs.YtakbpjgnjfigcaaGreat
open Go.RowKit Go.Maps

attribute [local go_sem] Oper.semAt_some

/-- The walk down the levels as it lies. -/
structure ChnM (ba : Nat) (Z V : World) (a : Nat) (W : List Nat) (wv : Value) : Prop where
  be : Below ba Z V
  bx : Row V ba 3 #[.int .i64 (a : Int)]
  wk : V.ownsRow (ba + 1) 3 1 wv W.length (intE.all (toI W))
section
variable {ba : Nat} {Z V V' : World} {a : Nat} {W : List Nat} {wv : Value}
theorem ChnM.cellsUp (h : ChnM ba Z V a W wv) {n : Nat} (hn : ba < n) (hu : CellsUp n V V') : ChnM ba Z V' a W wv :=
  ⟨h.be.trans (hu.below.mono (by omega)), hu.cells _ _ _ _ h.bx, hu.owns h.wk⟩
theorem ChnM.up (hb : Below V.heap.size V V') (h : ChnM ba Z V a W wv) : ChnM ba Z V' a W wv :=
  ⟨h.be.trans (hb.mono (Nat.le_of_lt h.bx.lt)), up_of hb h.bx, up_of hb h.wk⟩
instance : UpF V V' (ChnM ba Z V a W wv) (ChnM ba Z V' a W wv) := ⟨fun h c => ChnM.up h c⟩
theorem ChnM.set (h : ChnM ba Z V a W wv) (u : Nat) : ChnM ba Z (V.setCell ⟨ba, 0, none⟩ (.int .i64 (u : Int))) u W wv := by
  refine ⟨h.be.setCell (Nat.le_refl _) _, ?_, ?_⟩
  · have h1 := h.bx
    refine Row.of ?_
    repeat (first | (with_reducible refine RowG.base h1 ?_) | (with_reducible refine RowG.drew ?_) | (with_reducible refine RowG.set ?_) | ((with_reducible refine RowG.other ?_ ?_); (focus (first | omega | (simp; done) | (simp; omega)))) | (with_reducible refine RowG.alloc ?_))
    rfl
  · refine own_chg (p := fun j => j = ba) ((Chg.refl _ _).setCell (by rfl) _) (fun j hj e => by omega) h.wk
theorem ChnM.wput {o : Obj} {wv' : Value} (h : ChnM ba Z V a W wv) (hg : (V.alloc o).grownBy V' wv.ownBlock) (hw : V'.ownsRow (ba + 1) 3 1 wv' (W.length + 1) (intE.all (toI W) ++ [.int .i64 (a : Int)])) : ChnM ba Z V' a (W ++ [a]) wv' := by
  have hb : Below V.heap.size V (V.alloc o) := (Below.refl _ V).alloc (Nat.le_refl _) _
  have h2 := ChnM.up hb h
  have hne : ∀ j, j < ba + 1 → some j ≠ wv.ownBlock := fun j hj e => by have := (h2.wk.lt _ e.symm).1; omega
  refine ⟨h2.be.grown hg (Nat.le_of_lt h2.bx.lt) (fun j e => by have := (h2.wk.lt _ e).1; omega), (hg.block _ h2.bx.lt (hne _ (by omega))).trans h2.bx, ?_⟩
  rw [toI_snoc, int_snoc]
  simpa using hw
end
def ChnR (K : List Vv) (P : List Pt) (e : Ending) (w' : World) : Prop :=
  (¬ okN2 K P ∧ e = .returned (.tuple #[.slice none 0 0, .int .i64 21])) ∨
  (okN2 K P ∧ ∃ so co L, e = .returned (.tuple #[.slice so (L : List Ar).length co, .int .i64 0]) ∧ SlS arE w' so L ∧ (chB K P L = true ∧ L.length = mostL (rowsN P.length (lvsL K P) K.length) ∧ L.length ≤ 4000 ∧ ∀ y ∈ L, y.I64))
set_option maxRecDepth 100000 in
set_option maxHeartbeats 4000000 in
theorem Chain_c (n : Int) (s : Option Addr) (cap : Nat) (l : List Iq) (s2 : Option Addr) (cq : Nat) (K : List Vv) (w : World) (hr : RecM w s l s2 cq K) (hb : recB n l K = true) :
    Calls Tryz.prog 14 #[.agg #[.int .i64 n, .slice s l.length cap, .slice s2 K.length cq]] w fun e w' => ChnR K (pts n l) e w' ∧ Below w.heap.size w w' := by
  have hst := fun V (hr : RecM V s l s2 cq K) => straight_c n s cap l s2 cq K V hr hb
  have ok := netOk hb
  obtain ⟨P, hP⟩ : ∃ P, pts n l = P := ⟨_, rfl⟩
  simp only [hP] at hst ok ⊢
  clear hP hb
  have helm := fun g sp cp mb V (h : Net 126 V g n s cap l s2 cq K sp cp mb P) sl cl ks hs hlt hl => nelements_c sl cl ks V h ok hs hlt hl
  have hused := fun g sp cp mb (A : World) (h : Net 126 A g n s cap l s2 cq K sp cp mb P) (k : Nat) (hk : k < K.length * P.length) (V : World) (hV : Below A.heap.size A V) (Tw : Nat → Prop) hT => used_c k A V h ok hV hk Tw hT
  have hlev := fun g sp cp mb V (h : Net 126 V g n s cap l s2 cq K sp cp mb P) so co out wait ho hd hf => nlevels_c so co out wait V h ok ho hd hf
  have hNs := ok.size
  have hult := ok.use_lt
  have hLl := lvsL_len K P
  have hLa := fun k (hk : k < K.length * P.length) => lvsL_at (K := K) (P := P) hk
  have hfin : ∀ (W : List Nat), Wk (useN K P) W → (∀ k ∈ W, k < K.length * P.length) → ((W.length : Nat) : Int) = mostL (rowsN P.length (lvsL K P) K.length) → W.length ≤ 4000 → chB K P (W.reverse.map (elOf P)) = true ∧ ((W.reverse.map (elOf P)).length : Int) = mostL (rowsN P.length (lvsL K P) K.length) ∧ (W.reverse.map (elOf P)).length ≤ 4000 ∧ ∀ y ∈ W.reverse.map (elOf P), y.I64 := fun W h1 h2 h3 h4 =>
    ⟨chB_wk ok (fun k hk => h2 k (List.mem_reverse.1 hk)) h1.rev, by simpa using h3, by simpa using h4, fun y hy => by
      obtain ⟨k, hk, rfl⟩ := List.mem_map.1 hy
      exact elOf_i64 ok (h2 k (List.mem_reverse.1 hk))⟩
  have hnil : K.length * P.length = 0 → mostL (rowsN P.length (lvsL K P) K.length) = 0 := fun h => most_none hLl h
  have hmost : ∀ k, k < K.length * P.length → (∀ j, j < K.length * P.length → (lvsL K P).getD j 0 ≤ (lvsL K P).getD k 0) → mostL (rowsN P.length (lvsL K P) K.length) = (lvsL K P).getD k 0 := fun k hk h => most_rows hLl hk (by rw [hLa k hk]; omega) h
  have hgd : okN2 K P → ∀ k, k < K.length * P.length → Gd (useN K P) k := fun h => h
  have hchn : chB K P [] = true := rfl
  unfold ChnR StrOk at *
  obtain ⟨OK2, hOK2⟩ : ∃ x, okN2 K P = x := ⟨_, rfl⟩
  obtain ⟨MM, hMM⟩ : ∃ x, mostL (rowsN P.length (lvsL K P) K.length) = x := ⟨_, rfl⟩
  obtain ⟨LL, hLL⟩ : ∃ x, lvsL K P = x := ⟨_, rfl⟩
  simp only [hOK2] at hst hgd
  simp only [hMM] at hfin hnil hmost
  simp only [hLL] at hlev hLl hLa hmost
  obtain ⟨GL, hGL⟩ : ∃ G : List Ar → Prop, (fun (L : List Ar) => chB K P L = true ∧ (L.length : Int) = MM ∧ L.length ≤ 4000 ∧ ∀ y ∈ L, y.I64) = G := ⟨_, rfl⟩
  have hGL2 : ∀ L : List Ar, (chB K P L = true ∧ (L.length : Int) = MM ∧ L.length ≤ 4000 ∧ ∀ y ∈ L, y.I64) = GL L := fun L => by rw [← hGL]
  have hG0 : MM = 0 → GL [] := fun h => by rw [← hGL]; exact ⟨hchn, by simp [h], by simp, by simp⟩
  simp only [hOK2, hMM, hGL2] at hfin ⊢
  obtain ⟨N, hN⟩ : ∃ N, K.length * P.length = N := ⟨_, rfl⟩
  simp only [hN] at hst helm hused hlev hNs hult hLl hLa hfin hnil hmost hgd
  obtain ⟨us, hus⟩ : ∃ f, useN K P = f := ⟨_, rfl⟩
  simp only [hus] at hst hused hlev hult hLa hfin hgd
  clear ok hOK2 hGL hGL2 hN hus hMM hLL hchn
  replace hst := Lib.hid hst; replace helm := Lib.hid helm; replace hused := Lib.hid hused; replace hlev := Lib.hid hlev; replace hult := Lib.hid hult; replace hLl := Lib.hid hLl; replace hLa := Lib.hid hLa; replace hfin := Lib.hid hfin; replace hnil := Lib.hid hnil; replace hmost := Lib.hid hmost; replace hgd := Lib.hid hgd; replace hG0 := Lib.hid hG0
  refine calls_of_wp_marks Tryz.func14 rfl ?_
  simp only [Tryz.ntmps14, List.size_toArray, List.length_cons, List.length_nil, Nat.reduceAdd, Nat.reduceSub, Array.replicate_succ, Array.replicate_zero, List.push_toArray, List.append_toArray, List.nil_append, List.cons_append]
  go_upto_region 1 with (fail)
  refine wp_world fun W HW => ?_
  have hB : Below w.heap.size w W := by rw [HW.out]; (repeat (first | exact Below.refl _ _ | refine Below.alloc ?_ (by simp; try omega) _ | refine Below.setCell ?_ (by simp) _ | refine Below.drew ?_))
  have d0 : W.cell? ⟨w.heap.size, 0, none⟩ = some (.int .i64 n) := by rw [HW.out]; simp [go_sem]
  have d1 : W.cell? ⟨w.heap.size, 1, none⟩ = some (.slice s l.length cap) := by rw [HW.out]; simp [go_sem]
  have d2 : W.cell? ⟨w.heap.size, 2, none⟩ = some (.slice s2 K.length cq) := by rw [HW.out]; simp [go_sem]
  have dl : w.heap.size < W.heap.size := World.block_lt_of_cell? W _ d0
  try replace hr := up_of hB hr
  go_upto_region 2 with (first | (go_at_call 44; refine (hst.out _ hr).mono ?_; rintro e W1 ⟨h1, hb⟩; replace hB := up_of hb hB; (rcases h1 with ⟨hok, g, sp, cp, mb, so, co, out, wait, rfl, hnt, hso, hod, hfull⟩ | ⟨hno, rfl⟩) <;> (first | (replace hfull := Lib.hid hfull) | skip)))
  rotate_left
  · replace hno := Lib.hid hno
    go_wp2
    exact marks_ret0 (results_tmp2 rfl _ _ _) ⟨.inl ⟨hno.out, rfl⟩, hB⟩
  clear hr d0 d1 d2 dl
  replace hok := Lib.hid hok; replace hod := Lib.hid hod
  by_cases hz : out.length = 0
  · have hM0 : MM = 0 := hnil.out (by rw [← hfull.out]; exact hz)
    have hz0 : ((out.length : Int) == 0) = true := by simp [hz]
    replace hM0 := Lib.hid hM0; replace hz := Lib.hid hz
    go_wp2
    exact marks_ret0 (results_tmp2 rfl _ _ _) ⟨.inr ⟨hok.out, none, 0, [], rfl, .inl rfl, hG0.out hM0.out⟩, hB⟩
  have hz0 : ((out.length : Int) == 0) = false := beq_eq_false_iff_ne.2 (by omega)
  have hNpos : 0 < N := by rw [← hfull.out]; omega
  replace hz := Lib.hid hz
  go_upto_region 7 with (first | (go_at_call 48; refine (hlev.out _ _ _ _ _ hnt _ _ _ _ hso hod.out hfull.out).mono ?_; rintro e W2 ⟨⟨bl, rfl, hll⟩, hb⟩; replace hB := up_of hb hB; replace hnt := up_of hb hnt))
  clear hso
  refine wp_world fun X HX => ?_
  have hX : Below W2.heap.size W2 X := by
    rw [HX.out]
    repeat (first | (with_reducible exact Below.refl _ _) | (with_reducible refine Below.drew ?_) | ((with_reducible refine Below.setC ?_ ?_); (focus (first | omega | (simp; done) | (simp; omega)))) | ((with_reducible refine Below.allo ?_ ?_); (focus (first | omega | (simp; done) | (simp; omega)))))
  have vB : Row X W2.heap.size 31 #[.slice (some ⟨bl, 0, none⟩) N N] := by
    rw [HX.out]
    refine Row.of ?_
    repeat (first | (with_reducible refine RowG.new ?_) | (with_reducible refine RowG.drew ?_) | (with_reducible refine RowG.set ?_) | ((with_reducible refine RowG.other ?_ ?_); (focus (first | omega | (simp; done) | (simp; omega)))) | ((with_reducible refine RowG.new' ?_ ?_); (focus (first | omega | (simp; done) | (simp; omega)))) | (with_reducible refine RowG.alloc ?_))
    rfl
  have v0 : X.cell? ⟨W2.heap.size, 0, none⟩ = some (.slice (some ⟨bl, 0, none⟩) N N) := vB.cell rfl
  try replace hB := up_of hX hB
  try replace hnt := up_of hX hnt
  try replace hll := up_of hX hll
  clear HX
  have hmx := fun V (h : SlS intE V (some ⟨bl, 0, none⟩) LL) => imax_c (some ⟨bl, 0, none⟩) N LL V (by rw [hLl.out]; omega) h
  have hix := fun c V (h : SlS intE V (some ⟨bl, 0, none⟩) LL) => iindex_c c (some ⟨bl, 0, none⟩) N LL V h (by rw [hLl.out]; omega)
  simp only [hLl.out] at hmx hix
  have hixk : ∀ M, M ∈ LL → (∀ x ∈ LL, x ≤ M) → ∃ k, k < N ∧ fidx (fun x => M == x) LL = (k : Int) ∧ MM = LL.getD k 0 := fun M hM hmax => by
    rcases fidx_cases (fun x => M == x) LL with ⟨h1, h2⟩ | ⟨k, hk, h1, h2⟩
    · have := h2 M hM; simp at this
    · have hk2 : k < N := by rw [← hLl.out]; exact hk
      refine ⟨k, hk2, h1, hmost.out k hk2 fun j hj => ?_⟩
      have hj2 : j < LL.length := by rw [hLl.out]; exact hj
      have e1 : M = LL[k] := by simpa using h2
      rw [List.getD_eq_getElem?_getD, List.getD_eq_getElem?_getD, List.getElem?_eq_getElem hj2, List.getElem?_eq_getElem hk]
      simp only [Option.getD_some]
      rw [← e1]; exact hmax _ (List.getElem_mem hj2)
  replace hmx := Lib.hid hmx; replace hix := Lib.hid hix; replace hixk := Lib.hid hixk
  have hXs := hB.size
  go_upto_region 7 with (fail)
  go_cut [8] from 26 (fun t8 wx => ∃ k : Nat, t8 = .pointer (some ⟨X.heap.size, 0, none⟩) ∧ Hid (k < N ∧ MM = LL.getD k 0) ∧ Below X.heap.size X wx ∧ Row wx X.heap.size 3 #[.int .i64 (k : Int)])
  case first =>
    go_region_held3 (fun V => V.cell? ⟨W2.heap.size, 0, none⟩ = some (.slice (some ⟨bl, 0, none⟩) N N)) ((first | exact v0 | ((try dsimp only); (repeat (first | (with_reducible exact v0) | (with_reducible refine cell_set (by simp; try omega) ?_) | (with_reducible refine cell_drew ?_) | (with_reducible refine cell_alloc ?_ _)))))) ((first | (go_at_call 50; refine calls_below (W0 := X) (by (repeat (first | exact Below.refl _ _ | refine Below.alloc ?_ (by simp; try omega) _ | refine Below.drew ?_))) fun hpre => ?_; refine (hmx.out _ (up_of hpre hll)).mono ?_; rintro e w' ⟨⟨M, rfl, hM1, hM2⟩, rfl⟩; clear hpre) | (go_at_call 49; refine calls_below (W0 := X) (by (repeat (first | exact Below.refl _ _ | refine Below.alloc ?_ (by simp; try omega) _ | refine Below.drew ?_))) fun hpre => ?_; obtain ⟨k, hk, ek, hkM⟩ := hixk.out M hM1 hM2; refine (hix.out _ _ (up_of hpre hll)).mono ?_; rintro e w' ⟨rfl, rfl⟩; rw [ek]; clear hpre)))
    all_goals
      go_wp2_with fail
      go_meet
      refine ⟨k, rfl, Lib.hid ⟨hk, hkM⟩, ?_, ?_⟩
      · repeat (first | (with_reducible exact Below.refl _ _) | (with_reducible refine Below.drew ?_) | ((with_reducible refine Below.setC ?_ ?_); (focus (first | omega | (simp; done) | (simp; omega)))) | ((with_reducible refine Below.allo ?_ ?_); (focus (first | omega | (simp; done) | (simp; omega)))))
      · refine Row.of ?_
        repeat (first | (with_reducible refine RowG.new ?_) | (with_reducible refine RowG.drew ?_) | (with_reducible refine RowG.set ?_) | ((with_reducible refine RowG.other ?_ ?_); (focus (first | omega | (simp; done) | (simp; omega)))) | ((with_reducible refine RowG.new' ?_ ?_); (focus (first | omega | (simp; done) | (simp; omega)))) | (with_reducible refine RowG.alloc ?_))
        rfl
  case rest =>
    obtain ⟨k, rfl, hk, hBX, hbx⟩ := hcut
    have hBXs := hBX.size
    have hlk := hLa.out k hk.out.1
    have hMk := hk.out.2
    rw [hlk] at hMk
    have hgk := hgd.out hok.out
    have hkO := hod.out.full hfull.out k hk.out.1
    obtain ⟨m, hm⟩ : ∃ m, lvl us k = m := ⟨_, rfl⟩
    have hmN : m ≤ N := by
      obtain ⟨j, hj, e⟩ := List.getElem_of_mem hkO
      have h1 := hod.out.lvl_le j hj
      rw [e, hm] at h1
      have := hfull.out
      omega
    rw [hm] at hMk
    have hpos : ∀ a, a < N → 1 ≤ lvl us a := fun a ha => lvl_pos (hgk a ha)
    have hprev : ∀ a, a < N → 1 < lvl us a → ∃ u ∈ us a, lvl us a = lvl us u + 1 := fun a ha h => lvl_prev (hgk a ha) h
    have hb0 : wc.cell? ⟨X.heap.size, 0, none⟩ = some (.int .i64 (k : Int)) := hbx.cell rfl
    have hwX := hB.size
    have hkN := hk.out.1
    have hntX := Lib.hid hnt
    have hllX := Lib.hid hll
    have vX := Lib.hid v0
    have hBX0 := Lib.hid hB
    have hbl := hbx.lt
    replace hlk := Lib.hid hlk; replace hMk := Lib.hid hMk; replace hgk := Lib.hid hgk; replace hm := Lib.hid hm; replace hpos := Lib.hid hpos; replace hprev := Lib.hid hprev
    clear hkO
    go_upto_region 9 with (fail)
    refine wp_world fun Y HY => ?_
    have hC : ChnM X.heap.size X Y k [k] (.slice (some ⟨wc.heap.size, 0, none⟩) 1 1) := by
      rw [HY.out]
      exact ⟨hBX.alloc hBXs _, hbx.alloc _, World.ownsRow_lit wc #[.int .i64 (k : Int)] 1 (by omega) (by unfold maxLen; omega) rfl⟩
    have hI0 : Wk us [k] ∧ (∀ x ∈ [k], x < N) ∧ (∃ W0, [k] = W0 ++ [k]) ∧ [k].length + lvl us k = m + 1 := ⟨Wk.one us k, by simp [hkN], ⟨[], rfl⟩, by rw [hm.out]; simp; omega⟩
    replace hI0 := Lib.hid hI0
    clear HY hBX hbx hb0 hll hnt v0 vB hB hX hk
    refine wp_loop_marks [9, 32, 33, 34, 35, 36, 37, 38, 39, 52, 53, 54, 55] (fun z ds V => ∃ (a : Nat) (W : List Nat) (sv : Option Addr) (cv : Nat), z 9 = .slice sv W.length cv ∧ ChnM X.heap.size X V a W (.slice sv W.length cv) ∧ Hid (Wk us W ∧ (∀ x ∈ W, x < N) ∧ (∃ W0, W = W0 ++ [a]) ∧ W.length + lvl us a = m + 1) ∧ Marks w.heap.size ds V) (fun z => m - slN (z 9)) ?_ ?_
    · exact ⟨k, [k], _, 1, rfl, hC, hI0, Marks.nil _ _⟩
    · clear hC hI0 hkN hbl
      rintro z ds U ⟨a, W, sv, cv, z9, hC, hinv, hM⟩
      simp only [setMany, List.setIfInBounds_toArray, List.set_cons_zero, List.set_cons_succ]
      simp only [z9]
      obtain ⟨hwk, hWN, ⟨W0, hW0⟩, hWl⟩ := hinv.out
      have haN : a < N := hWN a (by rw [hW0]; simp)
      have hBU := hC.be
      have v0 := up_of hBU vX.out
      have hB := hBX0.out.trans (hBU.mono hwX)
      have haL : a < LL.length := by rw [hLl.out]; exact haN
      obtain ⟨b3, o3, e3, hb3, a0⟩ := (up_of hBU hllX.out).int_at haL
      cases e3
      have eaL : LL[a] = ((lvl us a : Nat) : Int) := by rw [← hLa.out a haN, List.getD_eq_getElem?_getD, List.getElem?_eq_getElem haL]; rfl
      rw [eaL] at a0
      have hpa := hpos.out a haN
      have hpv := hprev.out a haN
      obtain ⟨la, hla⟩ : ∃ x, lvl us a = x := ⟨_, rfl⟩
      rw [hla] at a0 hpa hpv hWl
      have hb0 : U.cell? ⟨X.heap.size, 0, none⟩ = some (.int .i64 (a : Int)) := hC.bx.cell rfl
      have i1 : (0 : Int) ≤ (a : Int) := by omega
      have i2 : (a : Int) < (N : Int) := by omega
      simp only [Nat.zero_add] at a0
      by_cases hgt : 1 < la
      · have hgt2 : (1 : Int) < (la : Int) := by omega
        obtain ⟨u1, hu1, hlu1⟩ := hpv hgt
        have hla4 : la ≤ 4001 := by omega
        have hCo := Lib.hid hC
        have hMo := Lib.hid hM
        replace hinv := Lib.hid hinv; replace hwk := Lib.hid hwk; replace hWN := Lib.hid hWN; replace hW0 := Lib.hid hW0; replace eaL := Lib.hid eaL; replace hpv := Lib.hid hpv; replace hlu1 := Lib.hid hlu1; replace hu1 := Lib.hid hu1; replace hla := Lib.hid hla; replace hWl := Lib.hid hWl
        clear hB
        go_wp2_with (first | (go_at_call 39; refine (hused.out _ _ _ _ X hntX.out a haN U hC.be (fun j => X.heap.size ≤ j ∧ j < U.heap.size) (fun j hj => hj)).mono ?_; rintro e Y ⟨rfl, hit, hb, hYs⟩; replace hYs := Lib.hid hYs))
        have hCY := ChnM.up hb hCo.out
        have hMY := Marks.up hb hMo.out
        have hbY : X.heap.size < Y.heap.size := hCY.bx.lt
        clear hC hM hBU v0 a0 hb0
        refine' wp_rangeT rfl (fun _ _ => by simp [go_sem]) hit (fun pre V => ChnM X.heap.size X V a W (.slice sv W.length cv) ∧ MarksIn w.heap.size Y.heap.size ds V ∧ Y.heap.size ≤ V.heap.size ∧ ∀ u ∈ pre, ¬ lvl us u + 1 = la) (fun c pre V => c = .exit 2 ∧ ∃ u, u ∈ us a ∧ lvl us u + 1 = la ∧ ChnM X.heap.size X V u W (.slice sv W.length cv) ∧ MarksIn w.heap.size Y.heap.size ds V ∧ Y.heap.size ≤ V.heap.size) ?hI ?hIx (fun s W h => h.2.2.1) (fun _ s W h => h.2.choose_spec.2.2.2.2) ⟨hCY, hMY.lt, Nat.le_refl _, by simp⟩ _ ?assign ?body ?done ?stop
        case hI =>
          rintro pre A B ⟨h1, h2, h3, h4⟩ hu
          exact ⟨h1.cellsUp hbY hu, h2.below hu.below, Nat.le_trans h3 hu.below.size, h4⟩
        case hIx =>
          rintro c pre A B ⟨h0, u, h1, h2, h3, h4, h5⟩ hu
          exact ⟨h0, u, h1, h2, h3.cellsUp hbY hu, h4.below hu.below, Nat.le_trans h5 hu.below.size⟩
        case assign =>
          intro l x W K hK
          simp only [List.setIfInBounds_toArray, List.set_cons_zero, List.set_cons_succ]
          gi_wp2
          exact hK
        case body =>
          rintro l pre x V ⟨h1, h2, h3, h4⟩ hpre hW2
          have hxm : x ∈ us a := hpre.subset (by simp)
          have hxN := hult.out a x hxm
          have v0 := up_of h1.be vX.out
          have hxL : x < LL.length := by rw [hLl.out]; exact hxN
          obtain ⟨b3, o3, e3, hb3, x0⟩ := (up_of h1.be hllX.out).int_at hxL
          cases e3
          obtain ⟨b3, o3, e3, hb4, a0⟩ := (up_of h1.be hllX.out).int_at haL
          cases e3
          have exL : LL[x] = ((lvl us x : Nat) : Int) := by rw [← hLa.out x hxN, List.getD_eq_getElem?_getD, List.getElem?_eq_getElem hxL]; rfl
          rw [exL] at x0
          rw [eaL.out, hla.out] at a0
          simp only [Nat.zero_add] at a0 x0
          have b0 : V.cell? ⟨X.heap.size, 0, none⟩ = some (.int .i64 (a : Int)) := h1.bx.cell rfl
          obtain ⟨lx, hlx⟩ : ∃ y, lvl us x = y := ⟨_, rfl⟩
          rw [hlx] at x0
          have w1 : IntKind.i64.wrap ((la : Int) - 1) = (la : Int) - 1 := i64_small (by omega)
          have j1 : (0 : Int) ≤ (x : Int) := by omega
          have j2 : (x : Int) < (N : Int) := by omega
          replace h1 := Lib.hid h1; replace h2 := Lib.hid h2; replace hlx := Lib.hid hlx; replace exL := Lib.hid exL; replace h4 := Lib.hid h4; replace hpre := Lib.hid hpre
          gi_upto_region 12 with (fail)
          by_cases hp : lx + 1 = la
          · have hq : ((lx : Int) == (la : Int) - 1) = true := beq_iff_eq.2 (by omega)
            replace hp := Lib.hid hp
            try have ld_v0 := World.block_lt_of_cell? _ _ v0
            try have ld_a0 := World.block_lt_of_cell? _ _ a0
            try have ld_x0 := World.block_lt_of_cell? _ _ x0
            try have ld_b0 := World.block_lt_of_cell? _ _ b0
            refine region_qi (by kernel_rfl) (by kernel_rfl) (by kernel_rfl) ?_
            dsimp only [List.toList_toArray]
            repeat (first
             | go_big_quiet_skip
             | (go_big_quiet_want
                first
                | (refine qq_det ?_
                   apply Exists.intro; refine ⟨fun W' hW' => ?_, ?_⟩
                   (· have hk := cellB hW'; go_simp; try (first | rfl | rw [if_pos (by omega)]))
                   simp only [Act.put, List.setIfInBounds_toArray, List.set_cons_zero, List.set_cons_succ]; go_big_quiet_on)))
            refine wpQuiet_nil ?_
            intro V1 hb
            try replace v0 := up_of hb v0
            try replace a0 := up_of hb a0
            try replace x0 := up_of hb x0
            try replace b0 := up_of hb b0
            have h1' := ChnM.up hb h1.out
            have h2' := h2.out.below (hb.mono h3)
            have hset := h1'.set x
            have hfr := h1'.bx.frozen 0
            have hst := KeepsOthers.setCell V1 ⟨X.heap.size, 0, none⟩ (.int .i64 (x : Int))
            have hMs := h2'.others hst
            have hK1 := KeepsOthers.of_below hb
            have hsz := hb.size
            replace h1' := Lib.hid h1'; replace h2' := Lib.hid h2'; replace hset := Lib.hid hset; replace hst := Lib.hid hst; replace hMs := Lib.hid hMs; replace hK1 := Lib.hid hK1
            gi_wp2
            exact ⟨(hK1.out.trans hst.out).from _, rfl, x, hxm, by rw [hlx.out]; exact hp.out, hset.out, hMs.out, by simp [World.setCell]; omega⟩
          · have hq : ((lx : Int) == (la : Int) - 1) = false := beq_eq_false_iff_ne.2 (by omega)
            replace hp := Lib.hid hp
            try have ld_v0 := World.block_lt_of_cell? _ _ v0
            try have ld_a0 := World.block_lt_of_cell? _ _ a0
            try have ld_x0 := World.block_lt_of_cell? _ _ x0
            try have ld_b0 := World.block_lt_of_cell? _ _ b0
            refine region_qi (by kernel_rfl) (by kernel_rfl) (by kernel_rfl) ?_
            dsimp only [List.toList_toArray]
            repeat (first
             | go_big_quiet_skip
             | (go_big_quiet_want
                first
                | (refine qq_det ?_
                   apply Exists.intro; refine ⟨fun W' hW' => ?_, ?_⟩
                   (· have hk := cellB hW'; go_simp; try (first | rfl | rw [if_pos (by omega)]))
                   simp only [Act.put, List.setIfInBounds_toArray, List.set_cons_zero, List.set_cons_succ]; go_big_quiet_on)))
            refine wpQuiet_nil ?_
            intro V1 hb
            try replace v0 := up_of hb v0
            try replace a0 := up_of hb a0
            try replace x0 := up_of hb x0
            try replace b0 := up_of hb b0
            have hsz := hb.size
            have h1' := Lib.hid (ChnM.up hb h1.out)
            have h2' := Lib.hid (h2.out.below (hb.mono h3))
            have hK1 := Lib.hid (KeepsOthers.of_below hb)
            gi_wp2
            refine ⟨hK1.out.from _, KeepN.of_below hb h3 hW2, h1'.out, h2'.out, by omega, fun u hu => ?_⟩
            rcases List.mem_append.1 hu with hu | hu
            · exact h4.out u hu
            · simp at hu; subst hu; rw [hlx.out]; exact hp.out
        case stop =>
          rintro D c pre V hD hpre ⟨rfl, u, hu, hwu, h3, h4, h5⟩ hK
          have hMD := h4.push hD (by omega) hK
          have hown := h3.wk
          have hsn := Wk.snoc (us := us) (W := W0) (a := a) (u := u) (by rw [← hW0.out]; exact hwk.out) hu
          rw [← hW0.out] at hsn
          have huN := hult.out a u hu
          have hl2 : (W ++ [u]).length = W.length + 1 := by simp
          have hin2 : Wk us (W ++ [u]) ∧ (∀ x ∈ W ++ [u], x < N) ∧ (∃ W1, W ++ [u] = W1 ++ [u]) ∧ (W ++ [u]).length + lvl us u = m + 1 := ⟨hsn, fun x hx => by
            rcases List.mem_append.1 hx with hx | hx
            · exact hWN.out x hx
            · simp at hx; subst hx; exact huN, ⟨W, rfl⟩, by have := hWl.out; rw [hl2]; omega⟩
          have hb0 : V.cell? ⟨X.heap.size, 0, none⟩ = some (.int .i64 (u : Int)) := h3.bx.cell rfl
          have hVs : X.heap.size < V.heap.size := h3.bx.lt
          have hWm : W.length < m := by have := hWl.out; omega
          obtain ⟨i0, hi0, hz0, hz1, hz2⟩ := info_parts info_int
          replace h3 := Lib.hid h3; replace hin2 := Lib.hid hin2; replace hMD := Lib.hid hMD; replace hsn := Lib.hid hsn; replace hl2 := Lib.hid hl2; replace hwu := Lib.hid hwu; replace h4 := Lib.hid h4
          dsimp only
          go_wp2_with (first | (at_builtin; refine wpList_append_lies _ rfl _ _ 31 rfl (X.heap.size + 1) 3 i0 (.int .i64 0) 1 8 Tryz.underlying31 hi0 hz0 hz1 hz2 rfl (by decide) _ _ _ rfl (hown.alloc _) ⟨V.heap.size, 0, none⟩ 1 1 [.int .i64 (u : Int)] rfl rfl (news_new _ _ _) (by simp [Value.oneCell']) (by decide) (by unfold maxLen; omega) (by omega) (by simp; omega) (V.heap.size + 1) (by simp) ?_; intro gg cap1 w1 hown1 hgrow hat hlt3))
          have hC1 := h3.out.wput hgrow hown1
          have hM1 := hMD.out.grownC hgrow hown
          rw [← hl2.out] at hC1
          refine ⟨⟨by kernel_rfl, u, W ++ [u], some ⟨gg, 0, none⟩, cap1, congrArg (Value.slice _ · _) hl2.out.symm, hC1, hin2, hM1⟩, ?_⟩
          show m - (W.length + 1) < m - W.length
          omega
        case done =>
          rintro D V hD ⟨h1, h2, h3, h4⟩ hK
          exact absurd hlu1.out.symm (h4 u1 hu1.out)
      · have hgt2 : ¬ ((1 : Int) < (la : Int)) := by omega
        have hWm : W.length = m := by omega
        have hnt := up_of hBU hntX.out
        have hsl : SlS intE U sv (toI W) := by
          refine SlS.of_own (E := intE) (base := X.heap.size + 1) (e := 3) (cap := cv) ?_
          rw [toI_len]; exact hC.wk
        have hgood := hfin.out W hwk hWN (by rw [hWm]; exact hMk.out.symm) (by omega)
        have hE := fun V (h : Net 126 V g n s cap l s2 cq K sp cp mb P) (hs : SlS intE V sv (toI W)) cl => helm.out _ _ _ _ V h sv cl W hs hWN (by omega)
        obtain ⟨RL, hRL⟩ : ∃ x, W.reverse.map (elOf P) = x := ⟨_, rfl⟩
        simp only [hRL] at hE hgood
        have hRl : RL.length = W.length := by rw [← hRL]; simp
        replace hE := Lib.hid hE; replace hgood := Lib.hid hgood; replace hRl := Lib.hid hRl; replace hRL := Lib.hid hRL; replace hinv := Lib.hid hinv; replace hC := Lib.hid hC; replace hWm := Lib.hid hWm; replace hWl := Lib.hid hWl; replace hwk := Lib.hid hwk; replace hWN := Lib.hid hWN; replace hW0 := Lib.hid hW0; replace eaL := Lib.hid eaL; replace hla := Lib.hid hla; replace hpv := Lib.hid hpv
        go_wp2_with (first | (go_at_call 38; refine calls_below (W0 := U) (by (repeat (first | exact Below.refl _ _ | refine Below.alloc ?_ (by simp; try omega) _ | refine Below.drew ?_))) fun hpre => ?_; refine (hE.out _ (up_of hpre hnt) (up_of hpre hsl) _).mono ?_; rintro e W5 ⟨⟨so2, co2, rfl, hre⟩, hb⟩; replace hB := up_of hb (up_of hpre hB); replace hM := Marks.up hb (Marks.up hpre hM)))
        refine marks_retN hM hB.size fun W' hu => ?_
        refine ⟨_, results_tmp2 rfl _ _ _, ⟨.inr ⟨hok.out, so2, co2, RL, ?_, ?_, hgood.out⟩, hB.trans hu.below⟩⟩
        · rw [hRl.out]; rfl
        · exact hre.cellsUp hu
end Go.Proofs.YtakbpjgnjfigcaaGreat
