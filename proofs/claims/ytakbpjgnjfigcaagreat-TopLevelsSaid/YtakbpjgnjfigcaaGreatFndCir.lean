/- A circle of elements: the program. -/
import Derived.Test.YtakbpjgnjfigcaaGreatC7
import Derived.Test.YtakbpjgnjfigcaaGreatUses
import Derived.Test.YtakbpjgnjfigcaaGreatB12
namespace Go.Proofs.YtakbpjgnjfigcaaGreat
open Go.RowKit Go.Maps

attribute [local go_sem] Oper.semAt_some

theorem fidx_cases {α : Type} (pr : α → Bool) (l : List α) : (fidx pr l = -1 ∧ ∀ x ∈ l, pr x = false) ∨ ∃ k, ∃ h : k < l.length, fidx pr l = (k : Int) ∧ pr l[k] = true := by
  unfold fidx
  cases h : l.findIdx? pr with
  | none =>
    refine .inl ⟨rfl, fun x hx => ?_⟩
    have := List.findIdx?_eq_none_iff.1 h x hx
    simpa using this
  | some i =>
    obtain ⟨h1, h2, -⟩ := List.findIdx?_eq_some_iff_getElem.1 h
    exact .inr ⟨i, h1, rfl, h2⟩
theorem SlS.cellsUp {α : Type} {E : Elt α} {n : Nat} {V V' : World} {s : Option Addr} {L : List α} (h : SlS E V s L) (hu : CellsUp n V V') : SlS E V' s L := by
  rcases h with h | ⟨b, off, e, hb, c⟩
  · exact .inl h
  · exact .inr ⟨b, off, e, Nat.lt_of_lt_of_le hb hu.below.size, fun j u hj => hu.cell (c j u hj)⟩
/-- The walk as it lies. -/
structure CirM (ba : Nat) (Z V : World) (a : Nat) (M W : List Nat) (wv : Value) : Prop where
  be : Below ba Z V
  bx : Row V ba 3 #[.int .i64 (a : Int)]
  mp : V.ownsMap Tryz.prog 3 (plainElem Tryz.prog 3) (ba + 1) M.length (wkD M.reverse)
  wk : V.ownsRow (ba + 2) 3 1 wv W.length (intE.all (toI W))
theorem map_block {V V' : World} {P : Program} {k b n : Nat} {R : Value → Option (DataW Unit × List MemPlace)} {D : DataW Unit} (h : V.ownsMap P k R b n D) (e : V'.heap[b]? = V.heap[b]?) : V'.ownsMap P k R b n D := by
  obtain ⟨es, clock, h1, h2⟩ := h
  exact ⟨es, clock, e.trans h1, h2⟩
theorem Marks.grownM {base b n : Nat} {ds : List Deferred} {V V' : World} {P : Program} {k : Nat} {R : Value → Option (DataW Unit × List MemPlace)} {D : DataW Unit} (hM : Marks base ds V) (hg : V.grownBy V' (some b)) (hb : V.ownsMap P k R b n D) : Marks base ds V' := by
  refine (hM.lt.keep fun j _ hj o ho e => ?_).all
  refine (hg.block j hj fun hjb => ?_).trans ho
  cases hjb
  obtain ⟨es, clock, h1, -⟩ := hb
  rw [h1] at ho
  cases ho
  cases e
theorem Marks.grownC {base B e sz n : Nat} {ds : List Deferred} {V V' : World} {o : Obj} {v : Value} {xs : List Value} (hM : Marks base ds V) (hg : (V.alloc o).grownBy V' v.ownBlock) (hw : V.ownsRow B e sz v n xs) : Marks base ds V' := by
  have hb : Below V.heap.size V (V.alloc o) := (Below.refl _ V).alloc (Nat.le_refl _) _
  have hw2 := up_of hb hw
  refine Marks.others ((KeepsOthers.of_below hb).trans (KeepsOthers.of_grownBy hg fun j o ej hj => ?_)) hM
  rcases hw2.2 with ⟨h, _⟩ | ⟨g', c', cur, h, _, hgb, _⟩
  · rw [h] at ej; simp [Value.ownBlock] at ej
  · rw [h] at ej
    obtain rfl : g' = j := by simpa [Value.ownBlock] using ej
    rw [hgb] at hj; cases hj; rfl
section
variable {ba : Nat} {Z V V' : World} {a : Nat} {M W : List Nat} {wv : Value}
theorem CirM.cellsUp (h : CirM ba Z V a M W wv) {n : Nat} (hn : ba + 1 < n) (hu : CellsUp n V V') : CirM ba Z V' a M W wv :=
  ⟨h.be.trans (hu.below.mono (by omega)), hu.cells _ _ _ _ h.bx, map_block h.mp (hu.below.block _ hn), hu.owns h.wk⟩
theorem CirM.up (hb : Below V.heap.size V V') (h : CirM ba Z V a M W wv) : CirM ba Z V' a M W wv :=
  ⟨h.be.trans (hb.mono (Nat.le_of_lt h.bx.lt)), up_of hb h.bx, up_of hb h.mp, up_of hb h.wk⟩
instance : UpF V V' (CirM ba Z V a M W wv) (CirM ba Z V' a M W wv) := ⟨fun h c => CirM.up h c⟩
/-- The next element is stored. -/
theorem CirM.set (h : CirM ba Z V a M W wv) (u : Nat) : CirM ba Z (V.setCell ⟨ba, 0, none⟩ (.int .i64 (u : Int))) u M W wv := by
  refine ⟨h.be.setCell (Nat.le_refl _) _, ?_, h.mp.setCell (by show ba + 1 ≠ ba; omega) _, ?_⟩
  · have h1 := h.bx
    refine Row.of ?_
    repeat (first | (with_reducible refine RowG.base h1 ?_) | (with_reducible refine RowG.drew ?_) | (with_reducible refine RowG.set ?_) | ((with_reducible refine RowG.other ?_ ?_); (focus (first | omega | (simp; done) | (simp; omega)))) | (with_reducible refine RowG.alloc ?_))
    rfl
  · refine own_chg (p := fun j => j = ba) ((Chg.refl _ _).setCell (by rfl) _) (fun j hj e => by omega) h.wk
theorem CirM.mput (h : CirM ba Z V a W W wv) (hg : V.grownBy V' (some (ba + 1))) (hm : V'.ownsMap Tryz.prog 3 (plainElem Tryz.prog 3) (ba + 1) (W.length + 1) ((wkD W.reverse).put (natK a) (.lit (.int .i64 (W.length : Int))))) : CirM ba Z V' a (W ++ [a]) W wv := by
  refine ⟨h.be.grown hg (Nat.le_of_lt h.bx.lt) (fun j e => by cases e; omega), (hg.block _ h.bx.lt (by simp)).trans h.bx, ?_, h.wk.kept hg (.inr fun e => ?_)⟩
  · simpa [wkD] using hm
  · have := (h.wk.lt _ e).1
    omega
theorem CirM.wput {o : Obj} {wv' : Value} (h : CirM ba Z V a M W wv) (hg : (V.alloc o).grownBy V' wv.ownBlock) (hw : V'.ownsRow (ba + 2) 3 1 wv' (W.length + 1) (intE.all (toI W) ++ [.int .i64 (a : Int)])) : CirM ba Z V' a M (W ++ [a]) wv' := by
  have hb : Below V.heap.size V (V.alloc o) := (Below.refl _ V).alloc (Nat.le_refl _) _
  have h2 := CirM.up hb h
  have hne : ∀ j, j < ba + 2 → some j ≠ wv.ownBlock := fun j hj e => by have := (h2.wk.lt _ e.symm).1; omega
  refine ⟨h2.be.grown hg (Nat.le_of_lt h2.bx.lt) (fun j e => by have := (h2.wk.lt _ e).1; omega), (hg.block _ h2.bx.lt (hne _ (by omega))).trans h2.bx, map_block h2.mp (hg.block _ h2.mp.lt (hne _ (by omega))), ?_⟩
  rw [toI_snoc, int_snoc]
  simpa using hw
end
def slN : Value → Nat
  | .slice _ n _ => n
  | _ => 0
def CclR (K : List Vv) (P : List Pt) (e : Ending) (w' : World) : Prop :=
  (okN2 K P ∧ e = .returned (.tuple #[.slice none 0 0, .int .i64 5])) ∨
  (¬ okN2 K P ∧ ∃ so co L, e = .returned (.tuple #[.slice so (L : List Ar).length co, .int .i64 0]) ∧ SlS arE w' so L ∧ icB K P L = true ∧ L.length ≤ 4000 ∧ ∀ y ∈ L, y.I64)
set_option maxRecDepth 100000 in
set_option maxHeartbeats 4000000 in
theorem Circle_c (n : Int) (s : Option Addr) (cap : Nat) (l : List Iq) (s2 : Option Addr) (cq : Nat) (K : List Vv) (w : World) (hr : RecM w s l s2 cq K) (hb : recB n l K = true) :
    Calls Tryz.prog 10 #[.agg #[.int .i64 n, .slice s l.length cap, .slice s2 K.length cq]] w fun e w' => CclR K (pts n l) e w' ∧ Below w.heap.size w w' := by
  have hn := fun V (hr : RecM V s l s2 cq K) => newNet_yes n s cap l s2 cq K V hr hb
  have ok := netOk hb
  obtain ⟨P, hP⟩ : ∃ P, pts n l = P := ⟨_, rfl⟩
  simp only [hP] at hn ok ⊢
  clear hP hb
  have ho := fun g sp cp mb V (h : Net 126 V g n s cap l s2 cq K sp cp mb P) => order_c V h ok
  have helm := fun g sp cp mb V (h : Net 126 V g n s cap l s2 cq K sp cp mb P) sl cl ks hs hlt hl => nelements_c sl cl ks V h ok hs hlt hl
  have hused := fun g sp cp mb (A : World) (h : Net 126 A g n s cap l s2 cq K sp cp mb P) (k : Nat) (hk : k < K.length * P.length) (V : World) (hV : Below A.heap.size A V) (Tw : Nat → Prop) hT => used_c k A V h ok hV hk Tw hT
  have hNs := ok.size
  have hult := ok.use_lt
  have hiff := fun out wait (h : Ordd (useN K P) (K.length * P.length) out wait) => h.iff (fun k _ => ok.use_lt k)
  have hle := fun out wait (h : Ordd (useN K P) (K.length * P.length) out wait) => h.le
  have hic : ∀ (W : List Nat) (a f : Nat), Wk (useN K P) (W ++ [a]) → (∀ k ∈ W, k < K.length * P.length) → W.Nodup → (hf : f < W.length) → W[f] = a → icB K P ((W.drop f).reverse.map (elOf P)) = true ∧ ((W.drop f).reverse.map (elOf P)).length ≤ 4000 ∧ ∀ y ∈ ((W.drop f).reverse.map (elOf P)), y.I64 := fun W a f h1 h2 h3 h4 h5 =>
    ⟨ic_walk ok h1 h2 h3 h4 h5, by
      have := nd_small h2 h3
      simp; omega, fun y hy => by
      obtain ⟨k, hk, rfl⟩ := List.mem_map.1 hy
      exact elOf_i64 ok (h2 k (List.mem_of_mem_drop (List.mem_reverse.1 hk)))⟩
  have hokN : okN2 K P ↔ ∀ k, k < K.length * P.length → Gd (useN K P) k := Iff.rfl
  unfold CclR
  obtain ⟨OK2, hOK2⟩ : ∃ x, okN2 K P = x := ⟨_, rfl⟩
  obtain ⟨GL, hGL⟩ : ∃ G : List Ar → Prop, (fun L => icB K P L = true ∧ L.length ≤ 4000 ∧ ∀ y ∈ L, y.I64) = G := ⟨_, rfl⟩
  have hGL2 : ∀ L, (icB K P L = true ∧ L.length ≤ 4000 ∧ ∀ y ∈ L, y.I64) = GL L := fun L => by rw [← hGL]
  simp only [hOK2] at hokN
  simp only [hOK2, hGL2] at hic ⊢
  obtain ⟨N, hN⟩ : ∃ N, K.length * P.length = N := ⟨_, rfl⟩
  simp only [hN] at ho helm hused hNs hult hiff hle hic hokN
  obtain ⟨us, hus⟩ : ∃ f, useN K P = f := ⟨_, rfl⟩
  simp only [hus] at ho hused hult hiff hle hic hokN
  clear ok hOK2 hGL hGL2 hN hus
  replace hn := Lib.hid hn; replace ho := Lib.hid ho; replace helm := Lib.hid helm; replace hused := Lib.hid hused; replace hult := Lib.hid hult; replace hiff := Lib.hid hiff; replace hle := Lib.hid hle; replace hic := Lib.hid hic; replace hokN := Lib.hid hokN
  have hmm := @run_makeMap Tryz.prog
  refine calls_of_wp_marks Tryz.func10 rfl ?_
  simp only [Tryz.ntmps10, List.size_toArray, List.length_cons, List.length_nil, Nat.reduceAdd, Nat.reduceSub, Array.replicate_succ, Array.replicate_zero, List.push_toArray, List.append_toArray, List.nil_append, List.cons_append]
  go_upto_region 1 with (fail)
  refine wp_world fun W HW => ?_
  have hB : Below w.heap.size w W := by rw [HW.out]; (repeat (first | exact Below.refl _ _ | refine Below.alloc ?_ (by simp; try omega) _ | refine Below.setCell ?_ (by simp) _ | refine Below.drew ?_))
  have d0 : W.cell? ⟨w.heap.size, 0, none⟩ = some (.int .i64 n) := by rw [HW.out]; simp [go_sem]
  have d1 : W.cell? ⟨w.heap.size, 1, none⟩ = some (.slice s l.length cap) := by rw [HW.out]; simp [go_sem]
  have d2 : W.cell? ⟨w.heap.size, 2, none⟩ = some (.slice s2 K.length cq) := by rw [HW.out]; simp [go_sem]
  have dl : w.heap.size < W.heap.size := World.block_lt_of_cell? W _ d0
  try replace hr := up_of hB hr
  go_upto_region 2 with (first | (go_at_call 31; refine (hn.out _ hr).mono ?_; rintro e W1 ⟨⟨g, sp, cp, mb, rfl, hnt⟩, hb⟩; (try replace hr := up_of hb hr); (try replace hB := up_of hb hB); (try replace d0 := up_of hb d0); (try replace d1 := up_of hb d1); (try replace d2 := up_of hb d2); (try replace dl := up_of hb dl)))
  clear hr d0 d1 d2 dl
  go_upto_region 5 with (first | (go_at_call 32; refine (ho.out _ _ _ _ _ hnt).mono ?_; rintro e W3 ⟨out, wait, so, co, sw, cw, rfl, hso, hsw, hod, hb⟩; replace hB := up_of hb hB; replace hnt := up_of hb hnt))
  refine wp_world fun X HX => ?_
  have hX : Below W3.heap.size W3 X := by rw [HX.out]; (repeat (first | exact Below.refl _ _ | refine Below.alloc ?_ (by simp; try omega) _ | refine Below.setCell ?_ (by simp) _ | refine Below.drew ?_))
  have v0 : X.cell? ⟨W3.heap.size, 0, none⟩ = some (.slice sw N cw) := by rw [HX.out]; simp [go_sem]
  have vl : W3.heap.size < X.heap.size := World.block_lt_of_cell? X _ v0
  try replace hB := up_of hX hB
  try replace hnt := up_of hX hnt
  try replace hsw := up_of hX hsw
  have hwl := hod.len
  have hif := fun V (h : SlS intE V sw wait) => int_indexf 37 #[] (fun _ _ => rfl) sw cw wait (fun n => decide (0 < n)) V h (by omega) (fun q _ W _ => circle1_c q W)
  rw [hwl] at hif
  have hd := hiff.out out wait hod
  rcases fidx_cases (fun n : Int => decide (0 < n)) wait with ⟨hf, hall⟩ | ⟨k, hk, hf, hp⟩
  · have hok : OK2 := by
      rw [hokN.out]
      refine Classical.byContradiction fun hc => ?_
      obtain ⟨k, hk, h0⟩ := hod.some_waits (hd.2 hc)
      have hkl : k < wait.length := by rw [hwl]; exact hk
      have h1 := hall wait[k] (List.getElem_mem hkl)
      rw [List.getD_eq_getElem?_getD, List.getElem?_eq_getElem hkl] at h0
      simp at h1 h0; omega
    rw [hf] at hif
    replace hif := Lib.hid hif; replace hok := Lib.hid hok; replace hwl := Lib.hid hwl
    clear hd hod hall hf
    go_upto_region 6 with (first | (go_at_call 36; refine (hif.out _ hsw).mono ?_; rintro e W4 ⟨rfl, hb⟩; (try replace hB := up_of hb hB); (try replace hnt := up_of hb hnt); (try replace hsw := up_of hb hsw); (try replace hX := up_of hb hX); (try replace v0 := up_of hb v0); (try replace vl := up_of hb vl)))
    go_wp2
    have hBs := hB.size
    refine marks_ret0 (results_tmp2 rfl _ _ _) ⟨.inl ⟨hok.out, rfl⟩, ?_⟩
    repeat (first | (with_reducible exact hB) | (with_reducible refine Below.drew ?_) | ((with_reducible refine Below.setC ?_ ?_); (focus (first | omega | (simp; done) | (simp; omega)))) | ((with_reducible refine Below.allo ?_ ?_); (focus (first | omega | (simp; done) | (simp; omega)))))
  have hkN : k < N := by omega
  have hno : ¬ OK2 := by
    rw [hokN.out]
    intro hc
    have h0 : wait[k] > 0 := by simpa using hp
    refine hod.none_waits (k := k) ?_ hkN ?_
    · have h1 := hle.out out wait hod
      have h2 : ¬ out.length < N := fun h => hd.1 h hc
      omega
    · rw [List.getD_eq_getElem?_getD, List.getElem?_eq_getElem hk]; exact h0
  have hpos : 0 < wait.getD k 0 := by
    rw [List.getD_eq_getElem?_getD, List.getElem?_eq_getElem hk]; simpa using hp
  obtain ⟨Wt, hWt⟩ : ∃ f : Nat → Prop, ∀ u, f u ↔ 0 < wait.getD u 0 := ⟨fun u => 0 < wait.getD u 0, fun _ => Iff.rfl⟩
  have hnx : ∀ k, k < N → Wt k → ∃ u ∈ us k, Wt u := fun k hk hw => by
    obtain ⟨u, hu, h0⟩ := hod.next (fun k _ => hult.out k) hk ((hWt k).1 hw)
    exact ⟨u, hu, (hWt u).2 h0⟩
  replace hpos := (hWt k).2 hpos
  replace hWt := Lib.hid hWt
  have hkn : ¬ ((k : Int) < 0) := by omega
  rw [hf] at hif
  replace hif := Lib.hid hif; replace hno := Lib.hid hno; replace hwl := Lib.hid hwl; replace hnx := Lib.hid hnx; replace hpos := Lib.hid hpos
  clear hd hod hf hp hk
  go_upto_region 6 with (first | (go_at_call 36; refine (hif.out _ hsw).mono ?_; rintro e Z ⟨rfl, hb⟩; (try replace hB := up_of hb hB); (try replace hnt := up_of hb hnt); (try replace hsw := up_of hb hsw); (try replace hX := up_of hb hX); (try replace v0 := up_of hb v0); (try replace vl := up_of hb vl)))
  go_upto_region 10 with (fail)
  refine wp_world fun Y HY => ?_
  have hBY : Below Z.heap.size Z Y := by
    rw [HY.out]
    repeat (first | (with_reducible exact Below.refl _ _) | (with_reducible refine Below.drew ?_) | ((with_reducible refine Below.setC ?_ ?_); (focus (first | omega | (simp; done) | (simp; omega)))) | ((with_reducible refine Below.allo ?_ ?_); (focus (first | omega | (simp; done) | (simp; omega)))))
  have a0 : Row Y Z.heap.size 3 #[.int .i64 (k : Int)] := by
    rw [HY.out]
    refine Row.of ?_
    repeat (first | (with_reducible refine RowG.new ?_) | (with_reducible refine RowG.drew ?_) | (with_reducible refine RowG.set ?_) | ((with_reducible refine RowG.other ?_ ?_); (focus (first | omega | (simp; done) | (simp; omega)))) | ((with_reducible refine RowG.new' ?_ ?_); (focus (first | omega | (simp; done) | (simp; omega)))) | (with_reducible refine RowG.alloc ?_))
    rfl
  have m0 : Y.heap[Z.heap.size + 1]? = some (.map #[] 0) := by
    rw [HY.out]
    (repeat (first | (refine blk_new ?_; simp; done) | refine blk_old ?_ _))
  have hM0 : Y.ownsMap Tryz.prog 3 (plainElem Tryz.prog 3) (Z.heap.size + 1) 0 (wkD []) := by
    have h1 := World.ownsMap_made (Z.alloc (.cells #[] 0)) Tryz.prog 3 (plainElem (H := Unit) Tryz.prog 3)
    rw [World.size_alloc] at h1
    refine map_block h1 (m0.trans ?_)
    have h2 := World.alloc_heap_new (Z.alloc (.cells #[] 0)) (.map #[] 0)
    rw [World.size_alloc] at h2
    exact h2.symm
  have hYs : Y.heap.size = Z.heap.size + 2 := by rw [HY.out]; simp [World.setCell]
  have hC : CirM Z.heap.size Z Y k [] [] (.slice none 0 0) := ⟨hBY, a0, hM0, World.ownsRow_nil _ _ _ _⟩
  have hI0 : Wk us ([] ++ [k]) ∧ (∀ x ∈ ([] : List Nat) ++ [k], x < N ∧ Wt x) ∧ ([] : List Nat).Nodup := ⟨Wk.one us k, by
    intro x hx
    simp at hx; subst hx
    exact ⟨hkN, hpos.out⟩, List.nodup_nil⟩
  have hwZ := hB.size
  have hntZ := Lib.hid hnt
  have hswZ := Lib.hid hsw
  have vZ := Lib.hid v0
  have hBZ := Lib.hid hB
  replace hI0 := Lib.hid hI0
  clear HY hBY a0 m0 hM0 hif hnt hsw v0 vl hB hpos hkn
  refine wp_loop_marks [9, 11, 12, 31, 32, 33, 34, 35, 36, 37, 43, 44, 45, 46, 47, 48, 49, 50, 51, 52, 53] (fun z ds V => ∃ (a : Nat) (W : List Nat) (sv : Option Addr) (cv : Nat), z 9 = .slice sv W.length cv ∧ CirM Z.heap.size Z V a W W (.slice sv W.length cv) ∧ Hid (Wk us (W ++ [a]) ∧ (∀ x ∈ W ++ [a], x < N ∧ Wt x) ∧ W.Nodup) ∧ Marks w.heap.size ds V) (fun z => N - slN (z 9)) ?_ ?_
  · exact ⟨k, [], none, 0, rfl, hC, hI0, Marks.nil _ _⟩
  · clear hC hI0 hkN hYs
    rintro z ds U ⟨a, W, sv, cv, z9, hC, hinv, hM⟩
    simp only [setMany, List.setIfInBounds_toArray, List.set_cons_zero, List.set_cons_succ]
    simp only [z9]
    have hBU := hC.be
    have hnt := up_of hBU hntZ.out
    have v0 := up_of hBU vZ.out
    have hB := hBZ.out.trans (hBU.mono hwZ)
    have hb0 : U.cell? ⟨Z.heap.size, 0, none⟩ = some (.int .i64 (a : Int)) := hC.bx.cell rfl
    have haN := (hinv.out.2.1 a (by simp)).1
    have hWN : ∀ x ∈ W, x < N := fun x hx => (hinv.out.2.1 x (by simp [hx])).1
    have hWl : W.length ≤ N := nd_small hWN hinv.out.2.2
    have hlk := wk_look hC.mp (a := a) (by omega)
    cases hw : wkI W.reverse a with
    | some f =>
      obtain ⟨hf, hfa⟩ := wkI_some hw
      rw [hw] at hlk
      simp only [Option.getD_some, Option.isSome_some] at hlk
      simp only [List.reverse_reverse] at hf hfa
      have hgood := hic.out W a f hinv.out.1 hWN hinv.out.2.2 hf hfa
      have hown := hC.wk
      obtain ⟨gb, hgb, hg1, hg2⟩ := own_ex hown (by omega)
      subst hgb
      have hsl0 : SlS intE U (some ⟨gb, 0, none⟩) (toI W) := by
        refine SlS.of_own (E := intE) (base := Z.heap.size + 2) (e := 3) (cap := cv) ?_
        rw [toI_len]; exact hown
      have hsl := hsl0.part f (W.length - f)
      have hdr : ((toI W).drop f).take (W.length - f) = toI (W.drop f) := by
        rw [toI, toI, ← List.map_drop, List.take_of_length_le (by simp)]
      rw [hdr] at hsl
      have hdl : (W.drop f).length = W.length - f := List.length_drop
      have hwc := (own_cap hown).1
      have hE := fun V (h : Net 126 V g n s cap l s2 cq K sp cp mb P) (hs : SlS intE V (some ⟨gb, 0 + f, none⟩) (toI (W.drop f))) cl => helm.out _ _ _ _ V h _ cl _ hs (fun x hx => hWN x (List.mem_of_mem_drop hx)) (by omega)
      obtain ⟨D, hD⟩ : ∃ x, W.drop f = x := ⟨_, rfl⟩
      simp only [hD] at hE hsl hgood hdl
      obtain ⟨RL, hRL⟩ : ∃ x, D.reverse.map (elOf P) = x := ⟨_, rfl⟩
      simp only [hRL] at hE hgood
      have hRl : RL.length = D.length := by rw [← hRL]; simp
      simp only [hdl] at hE hRl
      have i1 : (0 : Int) ≤ (f : Int) := by omega
      have i2 : (f : Int) ≤ (W.length : Int) := by omega
      simp only [Nat.zero_add] at hsl hE
      replace hE := Lib.hid hE; replace hgood := Lib.hid hgood; replace hdl := Lib.hid hdl; replace hRl := Lib.hid hRl; replace hD := Lib.hid hD; replace hRL := Lib.hid hRL; replace hinv := Lib.hid hinv; replace hC := Lib.hid hC; replace hfa := Lib.hid hfa; replace hw := Lib.hid hw; replace hWN := Lib.hid hWN; replace hdr := Lib.hid hdr; replace hown := Lib.hid hown
      clear hsl0 v0
      go_wp2_with (first | (go_at_call 38; refine (hE.out _ hnt hsl _).mono ?_; rintro e W5 ⟨⟨so2, co2, rfl, hre⟩, hb⟩; replace hB := up_of hb hB; replace hM := Marks.up hb hM))
      refine marks_retN hM hB.size fun W' hu => ?_
      refine ⟨_, results_tmp2 rfl _ _ _, ⟨.inr ⟨hno.out, so2, co2, RL, ?_, ?_, hgood.out⟩, hB.trans hu.below⟩⟩
      · rw [hRl.out]; rfl
      · exact hre.cellsUp hu
    | none =>
      have hna : a ∉ W := fun h => wkI_none hw (List.mem_reverse.2 h)
      rw [hw] at hlk
      simp only [Option.getD_none, Option.isSome_none] at hlk
      have haw := (hinv.out.2.1 a (by simp)).2
      have hnd2 : (W ++ [a]).Nodup := by
        rw [List.nodup_append]
        refine ⟨hinv.out.2.2, by simp, ?_⟩
        intro x hx y hy e
        simp at hy; subst hy; subst e
        exact hna hx
      have hN2 : (W ++ [a]).length ≤ N := nd_small (fun x hx => (hinv.out.2.1 x hx).1) hnd2
      have hl2 : (W ++ [a]).length = W.length + 1 := by simp
      have hnext := fun u (hu : u ∈ us a) => hinv.out.1.snoc hu
      have hlt2 := hinv.out.2.1
      have hkey := key_of_nat (k := a) (by omega)
      have hown := hC.wk
      have hmp := hC.mp
      have hbx := hC.bx
      have hgb : ∀ g, (Value.slice sv W.length cv).ownBlock = some g → Z.heap.size + 2 ≤ g ∧ g < U.heap.size := fun g e => hown.lt g e
      have hU2 := hmp.lt
      replace hnd2 := Lib.hid hnd2; replace hnext := Lib.hid hnext; replace hlt2 := Lib.hid hlt2; replace hinv := Lib.hid hinv; replace hC := Lib.hid hC; replace hw := Lib.hid hw; replace hWN := Lib.hid hWN; replace hna := Lib.hid hna; replace hgb := Lib.hid hgb; replace hl2 := Lib.hid hl2
      clear hB hnt v0
      go_upto_region 14 with (at_mapUpdate; refine wpList_mapUpdate_own _ rfl _ _ _ 80 rfl 3 3 key_intW Tryz.underlying80 _ (Z.heap.size + 1) W.length (wkD W.reverse) rfl hmp (by unfold maxLen; omega) _ _ _ rfl rfl hkey (.lit (.int .i64 (W.length : Int))) [] (plainElem_int (H := Unit) Tryz.underlying3 (a := (W.length : Int)) (wf_64 ⟨by omega, by omega⟩)) ?_; intro w9 hown9 hgrow9)
      have hC9 := hC.out.mput hgrow9 hown9
      have hM9 := hM.grownM hgrow9 hC.out.mp
      have hown2 := hC9.wk
      have h9s : Z.heap.size + 1 < w9.heap.size := hC9.mp.lt
      have hbx2 : w9.cell? ⟨Z.heap.size, 0, none⟩ = some (.int .i64 (a : Int)) := hC9.bx.cell rfl
      obtain ⟨i0, hi0, hz0, hz1, hz2⟩ := info_parts info_int
      replace hC9 := Lib.hid hC9; replace hM9 := Lib.hid hM9
      clear hown hmp hbx hown9 hgrow9 hb0 hlk hM
      go_upto_region 15 with (first | (at_builtin; refine wpList_append_lies _ rfl _ _ 31 rfl (Z.heap.size + 2) 3 i0 (.int .i64 0) 1 8 Tryz.underlying31 hi0 hz0 hz1 hz2 rfl (by decide) _ _ _ rfl (hown2.alloc _) ⟨w9.heap.size, 0, none⟩ 1 1 [.int .i64 (a : Int)] rfl rfl (news_new _ _ _) (by simp [Value.oneCell']) (by decide) (by unfold maxLen; omega) (by omega) (by simp; omega) (w9.heap.size + 1) (by simp) ?_; intro gg cap1 w1 hown1 hgrow hat hlt3))
      have hC1 := hC9.out.wput hgrow hown1
      have hM1 := hM9.out.grownC hgrow hown2
      have hb1 : w1.cell? ⟨Z.heap.size, 0, none⟩ = some (.int .i64 (a : Int)) := hC1.bx.cell rfl
      have hwk0 := hC1.wk
      rw [hl2.out] at hwk0
      replace hC1 := Lib.hid hC1
      clear hown2 hbx2 hown1 hgrow hat hC9 hM9
      go_wp2_with (first | (go_at_call 39; refine (hused.out _ _ _ _ Z hntZ.out a haN w1 hC1.out.be (fun j => Z.heap.size ≤ j ∧ j < w1.heap.size) (fun j hj => hj)).mono ?_; rintro e Y ⟨rfl, hit, hb, hYs⟩; replace hYs := Lib.hid hYs))
      have hCY := CirM.up hb hC1.out
      have hMY := Marks.up hb hM1
      have hbY : Z.heap.size + 1 < Y.heap.size := hCY.mp.lt
      refine' wp_rangeT rfl (fun _ _ => by simp [go_sem]) hit (fun pre V => CirM Z.heap.size Z V a (W ++ [a]) (W ++ [a]) (.slice (some ⟨gg, 0, none⟩) (W.length + 1) cap1) ∧ MarksIn w.heap.size Y.heap.size ds V ∧ Y.heap.size ≤ V.heap.size ∧ ∀ u ∈ pre, ¬ Wt u) (fun c pre V => c = .exit 2 ∧ ∃ u, u ∈ us a ∧ Wt u ∧ CirM Z.heap.size Z V u (W ++ [a]) (W ++ [a]) (.slice (some ⟨gg, 0, none⟩) (W.length + 1) cap1) ∧ MarksIn w.heap.size Y.heap.size ds V ∧ Y.heap.size ≤ V.heap.size) ?hI ?hIx (fun s W h => h.2.2.1) (fun _ s W h => h.2.choose_spec.2.2.2.2) ⟨hCY, hMY.lt, Nat.le_refl _, by simp⟩ _ ?assign ?body ?done ?stop
      case hI =>
        rintro pre A B ⟨h1, h2, h3, h4⟩ hu
        exact ⟨h1.cellsUp hbY hu, h2.below hu.below, Nat.le_trans h3 hu.below.size, h4⟩
      case hIx =>
        rintro c pre A B ⟨h0, u, h1, h2, h3, h4, h5⟩ hu
        exact ⟨h0, u, h1, h2, h3.cellsUp hbY hu, h4.below hu.below, Nat.le_trans h5 hu.below.size⟩
      case assign =>
        intro l x W K hK
        simp only [List.setIfInBounds_toArray, List.set_cons_zero, List.set_cons_succ]
        gi_wp2
        exact hK
      case body =>
        rintro l pre x V ⟨h1, h2, h3, h4⟩ hpre hW2
        have hxm : x ∈ us a := hpre.subset (by simp)
        have hxN := hult.out a x hxm
        have v0 := up_of h1.be vZ.out
        have hxw : x < wait.length := by rw [hwl.out]; exact hxN
        obtain ⟨wb, wo, ew, hwb, wx⟩ := (up_of h1.be hswZ.out).int_at hxw
        subst ew
        have ewx : wait[x] = wait.getD x 0 := by rw [List.getD_eq_getElem?_getD, List.getElem?_eq_getElem hxw]; rfl
        rw [ewx] at wx
        have i1 : (0 : Int) ≤ (x : Int) := by omega
        have i2 : (x : Int) < (N : Int) := by omega
        obtain ⟨F, hF⟩ : ∃ F, wait.getD x 0 = F := ⟨_, rfl⟩
        rw [hF] at wx
        by_cases hp : 0 < F
        · have hset := h1.set x
          have hfr := h1.bx.frozen 0
          have hcb : V.cell? ⟨Z.heap.size, 0, none⟩ = some (.int .i64 (a : Int)) := h1.bx.cell rfl
          have hst := KeepsOthers.setCell V ⟨Z.heap.size, 0, none⟩ (.int .i64 (x : Int))
          have hMs := h2.others hst
          replace h1 := Lib.hid h1; replace h2 := Lib.hid h2; replace hset := Lib.hid hset; replace hst := Lib.hid hst; replace hMs := Lib.hid hMs; replace hF := Lib.hid hF; replace ewx := Lib.hid ewx; replace h4 := Lib.hid h4; replace hpre := Lib.hid hpre
          gi_wp2
          exact ⟨hst.out.from _, rfl, x, hxm, (hWt.out x).2 (by rw [hF.out]; exact hp), hset.out, hMs.out, by simpa [World.setCell] using h3⟩
        · replace h1 := Lib.hid h1; replace h2 := Lib.hid h2; replace hF := Lib.hid hF; replace ewx := Lib.hid ewx; replace h4 := Lib.hid h4; replace hpre := Lib.hid hpre
          gi_wp2
          refine ⟨(KeepsOthers.of_below (Below.refl _ _)).from _, KeepN.refl _, h1.out, h2.out, h3, fun u hu => ?_⟩
          rcases List.mem_append.1 hu with hu | hu
          · exact h4.out u hu
          · simp at hu; subst hu; rw [hWt.out, hF.out]; omega
      case stop =>
        rintro D c pre V hD hpre ⟨rfl, u, hu, hwu, h3, h4, h5⟩ hK
        have hMD := h4.push hD (by omega) hK
        have hsn := hnext.out u hu
        have hl3 : (W ++ [a]).length = W.length + 1 := hl2.out
        have huN := hult.out a u hu
        have hin2 : Wk us (W ++ [a] ++ [u]) ∧ (∀ x ∈ W ++ [a] ++ [u], x < N ∧ Wt x) ∧ (W ++ [a]).Nodup := ⟨hsn, fun x hx => by
          rcases List.mem_append.1 hx with hx | hx
          · exact hlt2.out x hx
          · simp at hx; subst hx; exact ⟨huN, hwu⟩, hnd2.out⟩
        rw [← hl3] at h3
        replace h3 := Lib.hid h3; replace hin2 := Lib.hid hin2; replace hMD := Lib.hid hMD; replace hsn := Lib.hid hsn; replace hl3 := Lib.hid hl3
        dsimp only
        go_wp2
        refine ⟨⟨by kernel_rfl, u, W ++ [a], some ⟨gg, 0, none⟩, cap1, congrArg (Value.slice _ · _) hl3.out.symm, h3.out, hin2, hMD.out⟩, ?_⟩
        show N - (W.length + 1) < N - W.length
        have := hl3.out
        omega
      case done =>
        rintro D V hD ⟨h1, h2, h3, h4⟩ hK
        obtain ⟨u, hu, h0⟩ := hnx.out a haN haw
        exact absurd h0 (h4 u hu)
end Go.Proofs.YtakbpjgnjfigcaaGreat
