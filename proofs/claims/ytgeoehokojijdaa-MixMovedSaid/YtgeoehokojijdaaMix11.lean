/- The good starts that come first: the program. -/
import Derived.Test.YtgeoehokojijdaaMix10
import Derived.Test.YtgeoehokojijdaaMix5
namespace Go.Proofs.Ytgeoehokojijdaa
open Go.RowKit

attribute [local go_sem] Oper.semAt_some

/-- Starts of n kernels for a period. -/
def Tup (p n : Nat) : Type := { x : List Int // x.length = n ∧ ∀ y ∈ x, 0 ≤ y ∧ y < (p : Int) }
def tupD (p n : Nat) (hp : 0 < p) (i : Nat) : Tup p n := ⟨digs p n i, digs_len p n i, digs_mem hp n i⟩
theorem allStarts_c (n p : Nat) (w : World) (hn : 1 ≤ n ∧ n ≤ 3) (hp : 1 ≤ p ∧ p ≤ 20) :
    Calls Try.prog 67 #[.int .i64 n, .int .i64 p] w fun e w' => (∃ lb, e = .returned (.func (.func 75) #[] lb) ∧
      SeqM Try.prog 75 lb (fun b => .slice (some ⟨b, 0, none⟩) n n) 3 (fun (x : Tup p n) => intsA x.1) ((List.range (p ^ n)).map (tupD p n (by omega))) w') ∧ Below w.heap.size w w' := by
  have H := fun w b1 b2 c1 c2 => allStarts1_seq (tupD p n (by omega)) (fun (x : Tup p n) => intsA x.1) n p (fun i => rfl) hn hp b1 b2 w c1 c2
  replace H := Lib.hid H
  go_enter Try.func67, Try.ntmps67
  go_wp2
  go_ret
  exact ⟨⟨_, rfl, H.out _ _ _ (by simp [go_sem]) (by simp [go_sem])⟩, ((Below.refl _ w).alloc (Nat.le_refl _) _).alloc (by simp) _⟩
theorem tup_prefix {p n : Nat} (hp : 0 < p) {pre : List (Tup p n)} {x : Tup p n} (h : pre ++ [x] <+: (List.range (p ^ n)).map (tupD p n hp)) :
    pre.length < p ^ n ∧ x.1 = digs p n pre.length ∧ ∀ j, j < pre.length → ∃ y ∈ pre, y.1 = digs p n j := by
  have hl := h.length_le
  simp only [List.length_append, List.length_cons, List.length_nil, List.length_map, List.length_range] at hl
  obtain ⟨t, ht⟩ := h
  have hat : ∀ j, j < pre.length + 1 → (pre ++ [x])[j]? = some (tupD p n hp j) := fun j hj => by
    have e : ((pre ++ [x]) ++ t)[j]? = (pre ++ [x])[j]? := List.getElem?_append_left (by simp; omega)
    rw [← e, ht, List.getElem?_map, List.getElem?_range (by omega)]
    rfl
  refine ⟨by omega, ?_, fun j hj => ?_⟩
  · have := hat pre.length (by omega)
    rw [List.getElem?_append_right (Nat.le_refl _)] at this
    simp at this
    rw [this]; rfl
  · have := hat j (by omega)
    rw [List.getElem?_append_left hj, List.getElem?_eq_getElem hj] at this
    exact ⟨pre[j], List.getElem_mem hj, by rw [Option.some.inj this]; rfl⟩
theorem info_int : (Try.prog.info? 3).map (fun i => (i.zero, i.size, i.bytes)) = some (some (.int .i64 0), 1, 8) := by kernel_rfl
set_option maxRecDepth 100000 in
set_option maxHeartbeats 400000 in
theorem int_clone (s : Option Addr) (cap : Nat) (l : List Int) (w : World) (hs : SlS intE w s l) (hc : s = none → cap = 0) (hl : l.length ≤ 1099511627776) :
    Calls Try.prog 68 #[.slice s l.length cap] w (RetS intE 3 l w) := by
  have hml : l.length ≤ maxLen := by unfold maxLen; omega
  have hin := hs
  cases s with
  | none =>
    obtain rfl := hs.none_nil
    obtain rfl := hc rfl
    clear hs hin hml hc
    have hq : ∀ w : World, (binOp .eql 28 (.slice none 0 0) (.slice none 0 0)).run Try.prog w = .ok (.bool true) w := fun w => Lib.run_eql_slice_nil w 28 3 _ _ _ _ _ Try.underlying28
    go_enter Try.func68, Try.ntmps68
    go_wp2
    go_ret
    exact ⟨none, 0, rfl, World.ownsRow_nil _ _ _ _, Below.refl _ _⟩
  | some a =>
    have hs2 := Lib.hid (up_of ((Below.refl w.heap.size w).alloc (Nat.le_refl _) (.cells #[] 3)) hs)
    replace hs := Lib.hid hs
    clear hin hc
    have hq : ∀ w : World, (binOp .eql 28 (.slice (some a) l.length cap) (.slice none 0 0)).run Try.prog w = .ok (.bool false) w := fun w => Lib.run_eql_slice_nil w 28 3 _ _ _ _ _ Try.underlying28
    go_enter Try.func68, Try.ntmps68
    obtain ⟨i0, hi, hz0, hz1, hz2⟩ := info_parts info_int
    go_wp2_with (first | (at_builtin; refine wpList_append_own _ rfl _ _ 28 rfl w.heap.size 3 i0 (.int .i64 0) 1 8 Try.underlying28 hi hz0 hz1 hz2 rfl (by decide) _ _ _ rfl (owns_built w 3 1) a l.length cap (Elt.all intE l) rfl (Elt.all_len _ _) (SlS.news hs2.out) (Elt.all_one _ _) (by unfold maxLen; omega) (by omega) (by simp) ?_; intro v1 w1 hown1 hgrow hnil))
    simp only [Nat.zero_add, List.nil_append] at hown1
    obtain ⟨s', c', rfl, _⟩ := owns_shape hown1
    go_wp2
    go_ret
    exact ⟨s', c', rfl, hown1, ((Below.refl _ w).alloc (Nat.le_refl _) _).grown hgrow (by simp) (fun k hk => by cases hk; exact Nat.le_refl _)⟩

theorem intE_all (l : List Int) : intE.all l = l.map (Value.int .i64) := by
  show l.flatMap _ = _
  induction l with
  | nil => rfl
  | cons x l ih => rw [List.flatMap_cons, ih]; rfl
theorem intsA_sl {W : World} {b : Nat} {l : List Int} (h : Row W b 3 (intsA l)) : SlS intE W (some ⟨b, 0, none⟩) l := by
  refine .inr ⟨b, 0, rfl, h.lt, fun j u hj => ?_⟩
  rw [Nat.zero_add]
  rw [intE_all] at hj
  exact h.cell (i := j) (by simpa [intsA] using hj)
/-- A new list of numbers and a yes or no, out of a call. -/
def IntsBool (L : List Int) (b : Bool) (w : World) (e : Ending) (w' : World) : Prop :=
  (∃ s cap, e = .returned (.tuple #[.slice s L.length cap, .bool b]) ∧ w'.ownsRow w.heap.size 3 1 (.slice s L.length cap) L.length (intE.all L)) ∧ Below w.heap.size w w'
theorem results_cell2 {fn : Func} {p u : Tmp} {tp tu : TypeId} {tmps : Array Value} {P : Program} {w : World} {a b : Addr} {va vb : Value} (h : fn.results = #[.cell p tp, .cell u tu])
    (hp : tmps.getD p undef = .pointer (some a)) (hu : tmps.getD u undef = .pointer (some b))
    (la : (loadVar tp a).run P w = .ok va w) (lb : (loadVar tu b).run P w = .ok vb w) : (results fn tmps).run P w = .ok (.tuple #[va, vb]) w := by
  simp only [results, h]
  simp only [Array.getD_eq_getD_getElem?] at hp hu
  simp [hp, hu, asAddr, la, lb]
theorem load_one {P : Program} {t : TypeId} {w : World} {b : Nat} {v : Value} (ht : ∀ w : World, (isAgg t).run P w = .ok false w) (h : Boxed w b t v) : (loadVar t ⟨b, 0, none⟩).run P w = .ok v w := by
  have hc := h.cell
  simp only [loadVar, Sem.run_bind, ht, Result.andThen]
  simp [load, Sem.run, hc]
theorem boxed_grown {A B : World} {row : Option Nat} {b t n : Nat} {v : Value} (h : Boxed A b t v) (hg : A.grownBy B row) (hr : ∀ r, row = some r → n ≤ r) (hb : b < n) : Boxed B b t v :=
  (hg.block _ h.lt (fun e => by have := hr _ e.symm; omega)).trans h
set_option maxRecDepth 100000 in
set_option maxHeartbeats 2000000 in
theorem starts_c (s : Option Addr) (cap : Nat) (k : List (List Clm)) (p : Nat) (w : World) (h : Ker w s cap k) (hv : vldB k = true) (hp : 1 ≤ p ∧ p ≤ 20) :
    Calls Try.prog 48 #[.slice s k.length cap, .int .i64 p] w (IntsBool (startsL k p) (firstG k p).isSome w) := by
  have hkl := h.len
  have hk3 := vldB_k hv
  have h0 := Lib.hid h
  have hgd : ∀ W (x : Tup p k.length) b, Ker W s cap k → Row W b 3 (intsA x.1) → Calls Try.prog 55 #[.slice s k.length cap, .int .i64 p, .slice (some ⟨b, 0, none⟩) k.length k.length] W fun e w' => e = .returned (.bool (goodB k p x.1)) ∧ Below W.heap.size W w' := fun W x b h hr => by
    have := good_c s cap k p (some ⟨b, 0, none⟩) k.length x.1 W h ⟨intsA_sl hr, by rw [x.2.1]; omega⟩ (fun l hl c hc => vldB_c hv hl hc) (by omega) x.2.1 x.2.2
    rwa [x.2.1] at this
  have hcl : ∀ W (x : Tup p k.length) b, SlS intE W (some ⟨b, 0, none⟩) x.1 → Calls Try.prog 68 #[.slice (some ⟨b, 0, none⟩) k.length k.length] W (RetS intE 3 x.1 W) := fun W x b hs => by
    have := int_clone (some ⟨b, 0, none⟩) k.length x.1 W hs (fun e => by cases e) (by rw [x.2.1]; omega)
    rwa [x.2.1] at this
  have hsm : ∀ i, i < p ^ k.length → goodB k p (digs p k.length i) = true → (∀ j, j < i → goodB k p (digs p k.length j) = false) → startsL k p = digs p k.length i ∧ (firstG k p).isSome = true := fun i hi h1 h2 => by
    have := firstG_some hi h1 h2
    simp [startsL, this]
  have hnn : (∀ j, j < p ^ k.length → goodB k p (digs p k.length j) = false) → startsL k p = [] ∧ (firstG k p).isSome = false := fun h2 => by
    have := firstG_none h2
    simp [startsL, this]
  obtain ⟨SL, hSL⟩ : ∃ SL, startsL k p = SL := ⟨_, rfl⟩
  obtain ⟨SB, hSB⟩ : ∃ SB, (firstG k p).isSome = SB := ⟨_, rfl⟩
  rw [hSL, hSB] at hsm hnn ⊢
  clear hSL hSB hv
  have ga1 : ∀ w : World, (isAgg 28).run Try.prog w = .ok false w := fun w => by kernel_rfl
  have ga2 : ∀ w : World, (isAgg 4).run Try.prog w = .ok false w := fun w => by kernel_rfl
  replace ga1 := Lib.hid ga1; replace ga2 := Lib.hid ga2; replace hgd := Lib.hid hgd; replace hcl := Lib.hid hcl; replace hsm := Lib.hid hsm; replace hnn := Lib.hid hnn
  refine calls_of_wp_marks Try.func48 rfl ?_
  simp only [Try.ntmps48, List.size_toArray, List.length_cons, List.length_nil, Nat.reduceAdd, Nat.reduceSub, Array.replicate_succ, Array.replicate_zero, List.push_toArray, List.append_toArray, List.nil_append, List.cons_append]
  go_upto_region 1 with (fail)
  refine wp_world fun W HW => ?_
  have hB : Below w.heap.size w W := by rw [HW.out]; (repeat (first | exact Below.refl _ _ | refine Below.alloc ?_ (by simp; try omega) _ | refine Below.setCell ?_ (by simp) _ | refine Below.drew ?_))
  have kB : W.heap[w.heap.size]? = some (.cells #[.slice s k.length cap] 22 (0, 0)) := by rw [HW.out]; (repeat (first | (refine blk_new ?_; simp; done) | refine blk_old ?_ _))
  have k0 : W.cell? ⟨w.heap.size, 0, none⟩ = some (.slice s k.length cap) := by rw [HW.out]; simp [go_sem]
  have kl : w.heap.size < W.heap.size := World.block_lt_of_cell? W _ k0
  have pB : W.heap[w.heap.size + 1]? = some (.cells #[.int .i64 p] 3 (0, 0)) := by rw [HW.out]; (repeat (first | (refine blk_new ?_; simp; done) | refine blk_old ?_ _))
  have p0 : W.cell? ⟨w.heap.size + 1, 0, none⟩ = some (.int .i64 p) := by rw [HW.out]; simp [go_sem]
  have pl : w.heap.size + 1 < W.heap.size := World.block_lt_of_cell? W _ p0
  have xB : W.heap[w.heap.size + 2]? = some (.cells #[.slice none 0 0] 28 (0, 0)) := by rw [HW.out]; (repeat (first | (refine blk_new ?_; simp; done) | refine blk_old ?_ _))
  have x0 : W.cell? ⟨w.heap.size + 2, 0, none⟩ = some (.slice none 0 0) := by rw [HW.out]; simp [go_sem]
  have xl : w.heap.size + 2 < W.heap.size := World.block_lt_of_cell? W _ x0
  have yB : W.heap[w.heap.size + 3]? = some (.cells #[.bool false] 4 (0, 0)) := by rw [HW.out]; (repeat (first | (refine blk_new ?_; simp; done) | refine blk_old ?_ _))
  have y0 : W.cell? ⟨w.heap.size + 3, 0, none⟩ = some (.bool false) := by rw [HW.out]; simp [go_sem]
  have yl : w.heap.size + 3 < W.heap.size := World.block_lt_of_cell? W _ y0
  go_wp2_with (go_at_call 67; refine (allStarts_c k.length p _ hk3 hp).mono ?_; rintro e V ⟨⟨lb, rfl, hseq⟩, hb⟩)
  have hBV : Below w.heap.size w V := hB.trans (hb.mono hB.size)
  have hVs := hb.size
  have kV : Boxed V w.heap.size 22 (.slice s k.length cap) := Up.block hb kB
  have pV : Boxed V (w.heap.size + 1) 3 (.int .i64 p) := Up.block hb pB
  have xV : Boxed V (w.heap.size + 2) 28 (.slice none 0 0) := Up.block hb xB
  have yV : Boxed V (w.heap.size + 3) 4 (.bool false) := Up.block hb yB
  have hlV := yV.lt
  clear kB pB xB yB k0 p0 x0 y0 kl pl xl yl
  refine' wp_rangeM rfl (fun _ _ => by simp [go_sem]) hseq
    (fun pre W => Hid (∀ x ∈ pre, goodB k p x.1 = false) ∧ Below w.heap.size w W ∧ Boxed W w.heap.size 22 (.slice s k.length cap) ∧ Boxed W (w.heap.size + 1) 3 (.int .i64 p) ∧ Boxed W (w.heap.size + 2) 28 (.slice none 0 0) ∧ Boxed W (w.heap.size + 3) 4 (.bool false))
    (fun c pre W => c = .ret ∧ (∃ pre' x, pre = pre' ++ [x] ∧ Hid (∀ x ∈ pre', goodB k p x.1 = false) ∧ Hid (goodB k p x.1 = true) ∧ ∃ s' c', Boxed W (w.heap.size + 2) 28 (.slice s' x.1.length c') ∧ W.ownsRow V.heap.size 3 1 (.slice s' x.1.length c') x.1.length (intE.all x.1)) ∧ Boxed W (w.heap.size + 3) 4 (.bool true) ∧ Below w.heap.size w W ∧ V.heap.size ≤ W.heap.size)
    ?hI ?hIx (fun _ _ _ h => h.2.2.2.2) ⟨fun x hx => (by cases hx), hBV, kV, pV, xV, yV⟩ _ ?assign ?body ?done ?stop
  case hI =>
    rintro pre A B row ⟨h1, h2, h3, h4, h5, h6⟩ hg hr
    exact ⟨h1, h2.grown hg (by have := h2.size; exact this) (fun k e => by have := hr k e; have := hBV.size; omega), boxed_grown h3 hg hr (by omega), boxed_grown h4 hg hr (by omega), boxed_grown h5 hg hr (by omega), boxed_grown h6 hg hr (by omega)⟩
  case hIx =>
    rintro c pre A B ⟨h1, ⟨pre', x, e, h2, h3, s', c', h4, h5⟩, h6, h7, h8⟩ hu
    exact ⟨h1, ⟨pre', x, e, h2, h3, s', c', hu.cells _ _ _ _ h4, hu.owns h5⟩, hu.cells _ _ _ _ h6, h7.trans (hu.below.mono (by have := hBV.size; omega)), Nat.le_trans h8 hu.below.size⟩
  case assign =>
    intro l b W K hK
    simp only [List.setIfInBounds_toArray, List.set_cons_zero, List.set_cons_succ]
    gi_wp2
    exact hK
  case body =>
    rintro l pre x b W ⟨hno, hB2, kW, pW, xW, yW⟩ hlen hbV hrow
    have hKW := up_of hB2 h0.out
    have hgW := Lib.hid (hgd.out W x b hKW hrow)
    have hbW := hrow.lt
    have hsl := intsA_sl hrow
    have kc := kW.cell
    have pc := pW.cell
    have xc := xW.cell
    have yc := yW.cell
    have xf := xW.frozen
    have yf := yW.frozen
    have hBs := hB2.size
    have hyl := yW.lt
    cases hg : goodB k p x.1
    · rw [hg] at hgW
      have hno2 : Hid (∀ y ∈ pre ++ [x], goodB k p y.1 = false) := fun y hy => by
        rcases List.mem_append.1 hy with hy | hy
        · exact hno.out y hy
        · simp at hy; subst hy; exact hg
      clear hsl hrow
      have kW2 := Lib.hid kW; have pW2 := Lib.hid pW; have xW2 := Lib.hid xW; have yW2 := Lib.hid yW
      clear kW pW xW yW hg hno
      gi_wp2_with (gi_at_call 55; refine (cir hgW.out).mono ?_; rintro e W1 ⟨rfl, hb1⟩)
      exact ⟨hb1, hno2, hB2.trans (hb1.mono hBs), Up.block hb1 kW2.out, Up.block hb1 pW2.out, Up.block hb1 xW2.out, Up.block hb1 yW2.out⟩
    · rw [hg] at hgW
      have hg2 := Lib.hid hg
      have kW2 := Lib.hid kW; have pW2 := Lib.hid pW; have xW2 := Lib.hid xW; have yW2 := Lib.hid yW
      clear kW pW xW yW hg hrow xc yc xf yf
      replace hsl := Lib.hid hsl
      gi_wp2_with (first | (gi_at_call 55; refine (cir hgW.out).mono ?_; rintro e W1 ⟨rfl, hb1⟩; replace hsl := Lib.hid (hcl.out W1 x b (up_of hb1 hsl).out)) | (gi_at_call 68; refine (cir hsl.out).mono ?_; rintro e W2 ⟨s', c', rfl, hown, hb2⟩; have hb3 := hb1.trans (hb2.mono hb1.size); have xB2 : Boxed W2 _ _ _ := Up.block hb3 xW2.out; have yB2 : Boxed W2 _ _ _ := Up.block hb3 yW2.out; have xc := xB2.cell; have yc := yB2.cell; have xf := xB2.frozen; have yf := yB2.frozen; replace xB2 := Lib.hid xB2; replace yB2 := Lib.hid yB2))
      have hs1 := hb1.size
      have hs2 := hb2.size
      refine ⟨(((KeepsOthers.of_below hb3).trans (KeepsOthers.setCell _ _ _)).trans (KeepsOthers.setCell _ _ _)).from _, rfl, ⟨pre, x, rfl, hno, hg2, s', c', (xB2.out.set (.slice s' x.1.length c')).other (B' := w.heap.size + 3) (by omega) (.bool true), ?_⟩, (yB2.out.other (B' := w.heap.size + 2) (by omega) (.slice s' x.1.length c')).set (.bool true), ?_, ?_⟩
      · refine owns_mono (own_chg (p := fun j => j = w.heap.size + 2 ∨ j = w.heap.size + 3) ?_ (fun j hj e => by omega) hown) (by omega)
        repeat (first | (with_reducible exact Chg.refl _ _) | (with_reducible refine Chg.setCell ?_ (by simp) _) | (with_reducible refine Chg.drew ?_) | (with_reducible refine Chg.alloc ?_ _))
      · have hBB := hB2.trans (hb3.mono hBs)
        repeat (first | (with_reducible exact hBB) | (with_reducible refine Below.drew ?_) | ((with_reducible refine Below.setC ?_ ?_); (focus (first | omega | (simp; done) | (simp; omega)))) | ((with_reducible refine Below.allo ?_ ?_); (focus (first | omega | (simp; done) | (simp; omega)))))
      · simp [World.setCell]; omega
  case done =>
    rintro D W hD ⟨hno, hB2, kW, pW, xW, yW⟩ hK
    have hnn2 := hnn.out fun j hj => by
      have hm : tupD p k.length (by omega) j ∈ (List.range (p ^ k.length)).map (tupD p k.length (by omega)) := List.mem_map.2 ⟨j, by simpa using hj, rfl⟩
      exact hno.out _ hm
    obtain ⟨rfl, rfl⟩ := hnn2
    have xc := xW.cell
    have yc := yW.cell
    have xf := xW.frozen
    have yf := yW.frozen
    have hyl := yW.lt
    have xW2 := Lib.hid xW; have yW2 := Lib.hid yW
    clear kW pW xW yW hno
    go_wp2
    have x5 : Boxed _ _ _ _ := (xW2.out.set (.slice none 0 0)).other (B' := w.heap.size + 3) (by omega) (.bool false)
    have y5 : Boxed _ _ _ _ := (yW2.out.other (B' := w.heap.size + 2) (by omega) (.slice none 0 0)).set (.bool false)
    have hB5 := (hB2.setCell (p := ⟨w.heap.size + 2, 0, none⟩) (by simp) (.slice none 0 0)).setCell (p := ⟨w.heap.size + 3, 0, none⟩) (by simp) (.bool false)
    have hK5 := (Below.heap_setCell (W.setCell ⟨w.heap.size + 2, 0, none⟩ (.slice none 0 0)) ⟨w.heap.size + 3, 0, none⟩ (.bool false) D (by simp; omega)).trans ((Below.heap_setCell W ⟨w.heap.size + 2, 0, none⟩ (.slice none 0 0) D (by simp; omega)).trans hK)
    have hu := marks_up (n := w.heap.size) hB5.size (by omega) hK5
    refine marks_ret hK5 (results_cell2 rfl rfl rfl (load_one ga1.out (hu.cells _ _ _ _ x5)) (load_one ga2.out (hu.cells _ _ _ _ y5))) ⟨⟨none, 0, rfl, World.ownsRow_nil _ _ _ _⟩, hB5.trans hu.below⟩
  case stop =>
    rintro D c pre W hD hpre ⟨rfl, ⟨pre', x, rfl, hno, hgx, s', c', hx, hox⟩, hy, hB2, hVW⟩ hK
    obtain ⟨h1, h2, h3⟩ := tup_prefix (by omega) hpre
    rw [h2] at hgx hx hox
    obtain ⟨hs1, rfl⟩ := hsm.out _ h1 hgx.out fun j hj => by
      obtain ⟨y, hy, e⟩ := h3 j hj
      rw [← e]; exact hno.out y hy
    rw [← hs1] at hx hox
    replace hs1 := Lib.hid hs1
    clear hgx hno h2 h3
    go_wp2
    have hu := marks_up (n := w.heap.size) hB2.size (by omega) hK
    refine marks_ret hK (results_cell2 rfl rfl rfl (load_one ga1.out (hu.cells _ _ _ _ hx)) (load_one ga2.out (hu.cells _ _ _ _ hy))) ⟨⟨s', c', rfl, owns_mono (hu.owns hox) (by have := hBV.size; omega)⟩, hB2.trans hu.below⟩
end Go.Proofs.Ytgeoehokojijdaa
