/- The best schedule: the program. -/
import Derived.Test.YtbpdgoedglkefaaSch40
import Derived.Test.YtbpdgoedglkefaaSch39
import Derived.Test.YtbpdgoedglkefaaSch30
import Derived.Test.YtbpdgoedglkefaaB5
import Derived.Test.YtbpdgoedglkefaaB7
namespace Go.Proofs.Ytbpdgoedglkefaa
open Go.RowKit

attribute [local go_sem] Oper.semAt_some

set_option maxRecDepth 100000 in
theorem forms_c (n m : Int) (hn : 1 ≤ n ∧ n ≤ 3) (hm : 0 ≤ m ∧ m ≤ 3) (T : Nat → Prop) (w : World) (hT : ∀ k, T k → k < w.heap.size) :
    Calls Try.prog 80 #[.int .i64 n, .int .i64 m] w fun e w' => e = .returned (.func (.func 120) #[] #[.pointer (some ⟨w.heap.size, 0, none⟩), .pointer (some ⟨w.heap.size + 1, 0, none⟩)]) ∧ SeqX Try.prog 120 #[.pointer (some ⟨w.heap.size, 0, none⟩), .pointer (some ⟨w.heap.size + 1, 0, none⟩)] encPt T (frm n m) w' ∧ Below w.heap.size w w' ∧ w'.heap.size = w.heap.size + 2 := by
  have hit := fun (W : World) c1 c2 (hs : w.heap.size + 2 = W.heap.size) => forms1_iter n m hn hm w.heap.size (w.heap.size + 1) T W c1 c2 (fun k hk => by have := hT k hk; omega)
  replace hit := Lib.hid hit
  clear hT hn hm
  go_enter Try.func80, Try.ntmps80
  go_wp2
  go_ret
  have hX : ∀ o1 o2, Below w.heap.size w ((w.alloc o1).alloc o2) := fun o1 o2 => ((Below.refl _ w).alloc (Nat.le_refl _) o1).alloc (by simp) o2
  exact ⟨rfl, hit.out _ (by simp [go_sem]) (by simp [go_sem]) (by simp), hX _ _, by simp⟩
/-- The best up to now, in its block, and its latency in another. -/
def BesR (K : List Vv) (P : List Pt) (V : World) (bb lb base : Nat) (bs : Option (Pt × List Int)) : Prop :=
  (bs = none ∧ Row V lb 3 #[.int .i64 0] ∧ Row V bb 32 #[.int .i64 0, .int .i64 0, .int .i64 0, .slice none 0 0]) ∨
  ∃ g u s c, bs = some (g, u) ∧ Row V lb 3 #[.int .i64 (latF P g u)] ∧ Row V bb 32 #[.int .i64 g.x, .int .i64 g.y, .int .i64 g.z, .slice s u.length c] ∧ V.ownsRow base 3 1 (.slice s u.length c) u.length (intE.all u)
section
variable {K : List Vv} {P : List Pt} {V V' : World} {bb lb base : Nat} {bs : Option (Pt × List Int)}
theorem BesR.up (hb : Below V.heap.size V V') (h : BesR K P V bb lb base bs) : BesR K P V' bb lb base bs := by
  rcases h with ⟨h1, h2, h3⟩ | ⟨g, u, s, c, h1, h2, h3, h4⟩
  · exact .inl ⟨h1, up_of hb h2, up_of hb h3⟩
  · exact .inr ⟨g, u, s, c, h1, up_of hb h2, up_of hb h3, up_of hb h4⟩
instance : UpF V V' (BesR K P V bb lb base bs) (BesR K P V' bb lb base bs) := ⟨fun h c => BesR.up h c⟩
theorem BesR.grown {row : Option Nat} (h : BesR K P V bb lb base bs) (hg : V.grownBy V' row) (hr : ∀ r, row = some r → r ≠ bb ∧ r ≠ lb ∧ r < base) : BesR K P V' bb lb base bs := by
  have hrow : ∀ {b t : Nat} {arr : Array Value}, Row V b t arr → (∀ r, row = some r → r ≠ b) → Row V' b t arr := fun {b t arr} h hne => (hg.block b h.lt (fun e => hne b e.symm rfl)).trans h
  rcases h with ⟨h1, h2, h3⟩ | ⟨g, u, s, c, h1, h2, h3, h4⟩
  · exact .inl ⟨h1, hrow h2 (fun r e => (hr r e).2.1), hrow h3 (fun r e => (hr r e).1)⟩
  · refine .inr ⟨g, u, s, c, h1, hrow h2 (fun r e => (hr r e).2.1), hrow h3 (fun r e => (hr r e).1), h4.kept hg ?_⟩
    by_cases hn : (Value.slice s u.length c).ownBlock = none
    · exact .inl hn
    · refine .inr fun e => ?_
      obtain ⟨r, hr2⟩ := Option.ne_none_iff_exists'.1 hn
      have := (h4.lt r hr2).1
      have := (hr r (e ▸ hr2)).2.2
      omega
end
/-- What the rounds of Best turn. -/
structure BesM (K : List Vv) (P : List Pt) (A V : World) (s3 : Option Addr) (c3 : Nat) (bs : Option (Pt × List Int)) : Prop where
  be : Below A.heap.size A V
  pt : Row V A.heap.size 86 #[.slice s3 P.length c3]
  bs : BesR K P V (A.heap.size + 1) (A.heap.size + 2) (A.heap.size + 8) bs
  sz : A.heap.size + 5 ≤ V.heap.size
section
variable {K : List Vv} {P : List Pt} {A V V' : World} {s3 : Option Addr} {c3 : Nat} {bs : Option (Pt × List Int)}
theorem BesM.up (hb : Below V.heap.size V V') (h : BesM K P A V s3 c3 bs) : BesM K P A V' s3 c3 bs :=
  ⟨h.be.trans (hb.mono h.be.size), up_of hb h.pt, up_of hb h.bs, Nat.le_trans h.sz hb.size⟩
instance : UpF V V' (BesM K P A V s3 c3 bs) (BesM K P A V' s3 c3 bs) := ⟨fun h c => BesM.up h c⟩
theorem BesM.grown {row : Option Nat} (h : BesM K P A V s3 c3 bs) (hg : V.grownBy V' row) (hr : ∀ r, row = some r → A.heap.size + 5 ≤ r ∧ r ≤ A.heap.size + 7) : BesM K P A V' s3 c3 bs :=
  ⟨h.be.grown hg h.be.size (fun r e => by have := hr r e; omega), (hg.block _ h.pt.lt (fun e => by have := hr _ e.symm; omega)).trans h.pt, h.bs.grown hg (fun r e => by have := hr r e; omega), Nat.le_trans h.sz hg.size⟩
theorem BesM.cellsUp (h : BesM K P A V s3 c3 bs) {n : Nat} (hn : A.heap.size ≤ n) (hu : CellsUp n V V') : BesM K P A V' s3 c3 bs := by
  refine ⟨h.be.trans (hu.below.mono hn), hu.cells _ _ _ _ h.pt, ?_, Nat.le_trans h.sz hu.below.size⟩
  rcases h.bs with ⟨h1, h2, h3⟩ | ⟨g, u, s, c, h1, h2, h3, h4⟩
  · exact .inl ⟨h1, hu.cells _ _ _ _ h2, hu.cells _ _ _ _ h3⟩
  · exact .inr ⟨g, u, s, c, h1, hu.cells _ _ _ _ h2, hu.cells _ _ _ _ h3, hu.owns h4⟩
end
/-- The best of all forms, if there are points. -/
def bstP (K : List Vv) (P L : List Pt) : Option (Pt × List Int) := if P = [] then none else bstL K P L
theorem bstP_keep {K : List Vv} {P pre : List Pt} {f : Pt} (h : P = [] ∨ bfR K f = none) : bstP K P (pre ++ [f]) = bstP K P pre := by
  unfold bstP
  by_cases hP : P = []
  · rw [if_pos hP, if_pos hP]
  · rw [if_neg hP, if_neg hP, bst_snoc]
    unfold bstS; rw [h.resolve_left hP]
theorem bstP_first {K : List Vv} {P pre : List Pt} {f : Pt} {o : List Int} (hP : P ≠ []) (hb : bfR K f = some o) (h : bstP K P pre = none) : bstP K P (pre ++ [f]) = some (f, o) := by
  unfold bstP at h ⊢
  rw [if_neg hP] at h ⊢
  rw [bst_snoc]; unfold bstS; rw [hb, h]
theorem bstP_more {K : List Vv} {P pre : List Pt} {f g : Pt} {o u : List Int} (hP : P ≠ []) (hb : bfR K f = some o) (h : bstP K P pre = some (g, u)) : bstP K P (pre ++ [f]) = if latF P f o < latF P g u then some (f, o) else some (g, u) := by
  unfold bstP at h ⊢
  rw [if_neg hP] at h ⊢
  rw [bst_snoc]; unfold bstS; rw [hb, h]
theorem bstP_in {K : List Vv} {P pre : List Pt} {g : Pt} {u : List Int} (h : bstP K P pre = some (g, u)) : g ∈ pre ∧ bfR K g = some u := by
  unfold bstP at h
  by_cases hP : P = []
  · rw [if_pos hP] at h; cases h
  · rw [if_neg hP] at h
    exact ⟨(bst_some h).1, (bst_some h).2.1⟩
set_option maxRecDepth 100000 in
set_option maxHeartbeats 8000000 in
theorem Best_c (n : Int) (s : Option Addr) (cap : Nat) (l : List Iq) (s2 : Option Addr) (cq : Nat) (K : List Vv) (m : Int) (w : World) (hr : RecM w s l s2 cq K) (h : recB n l K = true) (hm : 0 ≤ m ∧ m ≤ 3) (hn : 1 ≤ n ∧ n ≤ 3) :
    Calls Try.prog 35 #[.agg #[.int .i64 n, .slice s l.length cap, .slice s2 K.length cq], .int .i64 m] w (match bstP K (pts n l) (frm n m) with | none => SdRet ⟨0, 0, 0⟩ [] 5 w | some (g, u) => SdRet g u 0 w) := by
  have hv := fun V (h : RecM V s l s2 cq K) => h.valid n cap
  simp only [h] at hv
  have hvb : validB n l = true := by
    have h1 := h
    unfold recB at h1
    rw [Bool.and_eq_true] at h1
    exact h1.1
  have hp1000 : (pts n l).length ≤ 1000 := by
    have h1 := h
    unfold recB at h1
    rw [Bool.and_eq_true, Bool.and_eq_true] at h1
    exact of_decide_eq_true h1.2.1
  have hbt := fun V => (schBetween_c 0 m 3 V).mono (R' := fun e w' => e = .returned (.bool true) ∧ Below V.heap.size V w') (fun e w' ⟨he, hw⟩ => ⟨by rw [he, bw_iff.2 hm], by rw [← hw]; exact Below.refl _ _⟩)
  have hpt := fun V (h : Dom V s l) => Points_c n s cap l V h.iq h.len
  have hpl := hp1000
  have hL1 : ptsL n l = pts n l := by simp [ptsL, hvb]; omega
  have hE1 : ptsE n l = 0 := by simp [ptsE, hvb]; omega
  unfold PtsRet at hpt
  simp only [hL1, hE1] at hpt
  have hk4 := rec_vars h
  have hof := fun f (hf : f ∈ frm n m) V (hV : RecM V s l s2 cq K) => offsets_c n s cap l.length s2 cq K f V hV.vars hk4 (rec_args h) (rec_near h) (frm_abs hm hf)
  have hsm := fun f (hf : f ∈ frm n m) o (hb : bfR K f = some o) => bf_small (n := n) (l := l) h hn hm hf hb
  have hlp := fun (hP : pts n l ≠ []) f (hf : f ∈ frm n m) o (ho : o ≠ []) (hob : ∀ x ∈ o, 0 ≤ x ∧ x ≤ 1000) => lat_parts (n := n) (l := l) (frm_abs hm hf) hP ho hob
  obtain ⟨R, hR⟩ : ∃ R, (match bstP K (pts n l) (frm n m) with | none => SdRet ⟨0, 0, 0⟩ [] 5 w | some (g, u) => SdRet g u 0 w) = R := ⟨_, rfl⟩
  rw [hR]
  obtain ⟨P, hPe⟩ : ∃ P, pts n l = P := ⟨_, rfl⟩
  simp only [hPe] at hpt hpl hlp hR
  have hfc := fun V (T : Nat → Prop) hT => forms_c n m hn hm T V hT
  replace hv := Lib.hid hv; replace hbt := Lib.hid hbt; replace hpt := Lib.hid hpt; replace hof := Lib.hid hof; replace hsm := Lib.hid hsm; replace hlp := Lib.hid hlp; replace hR := Lib.hid hR; replace hPe := Lib.hid hPe; replace hfc := Lib.hid hfc
  clear h hvb hL1 hE1 hp1000
  refine calls_of_wp_marks Try.func35 rfl ?_
  simp only [Try.ntmps35, List.size_toArray, List.length_cons, List.length_nil, Nat.reduceAdd, Nat.reduceSub, Array.replicate_succ, Array.replicate_zero, List.push_toArray, List.append_toArray, List.nil_append, List.cons_append]
  go_upto_region 1 with (fail)
  refine wp_world fun W HW => ?_
  have hB : Below w.heap.size w W := by rw [HW.out]; (repeat (first | exact Below.refl _ _ | refine Below.alloc ?_ (by simp; try omega) _ | refine Below.setCell ?_ (by simp) _ | refine Below.drew ?_))
  have d0 : W.cell? ⟨w.heap.size, 0, none⟩ = some (.int .i64 n) := by rw [HW.out]; simp [go_sem]
  have d1 : W.cell? ⟨w.heap.size, 1, none⟩ = some (.slice s l.length cap) := by rw [HW.out]; simp [go_sem]
  have d2 : W.cell? ⟨w.heap.size, 2, none⟩ = some (.slice s2 K.length cq) := by rw [HW.out]; simp [go_sem]
  have dl : w.heap.size < W.heap.size := World.block_lt_of_cell? W _ d0
  have oB : Row W (w.heap.size + 1) 32 #[.int .i64 0, .int .i64 0, .int .i64 0, .slice none 0 0] := (by rw [HW.out]; (repeat (first | (refine blk_new ?_; simp; done) | refine blk_old ?_ _)) : W.heap[w.heap.size + 1]? = some (.cells #[.int .i64 0, .int .i64 0, .int .i64 0, .slice none 0 0] 32 (0, 0)))
  have o0 : W.cell? ⟨w.heap.size + 1, 0, none⟩ = some (.int .i64 0) := by rw [HW.out]; simp [go_sem]
  have o1 : W.cell? ⟨w.heap.size + 1, 1, none⟩ = some (.int .i64 0) := by rw [HW.out]; simp [go_sem]
  have o2 : W.cell? ⟨w.heap.size + 1, 2, none⟩ = some (.int .i64 0) := by rw [HW.out]; simp [go_sem]
  have o3 : W.cell? ⟨w.heap.size + 1, 3, none⟩ = some (.slice none 0 0) := by rw [HW.out]; simp [go_sem]
  have ol : w.heap.size + 1 < W.heap.size := World.block_lt_of_cell? W _ o0
  try replace hr := up_of hB hr
  go_upto_region 5 with (first | (go_at_call 71; refine (hv.out _ hr).mono ?_; rintro e W1 ⟨rfl, hb⟩; (try replace hr := up_of hb hr); (try replace hB := up_of hb hB); (try replace d0 := up_of hb d0); (try replace d1 := up_of hb d1); (try replace d2 := up_of hb d2); (try replace dl := up_of hb dl); (try replace oB := up_of hb oB); (try replace o0 := up_of hb o0); (try replace o1 := up_of hb o1); (try replace o2 := up_of hb o2); (try replace o3 := up_of hb o3); (try replace ol := up_of hb ol)) | (go_at_call 59; refine (hbt.out _).mono ?_; rintro e W1 ⟨rfl, hb⟩; (try replace hr := up_of hb hr); (try replace hB := up_of hb hB); (try replace d0 := up_of hb d0); (try replace d1 := up_of hb d1); (try replace d2 := up_of hb d2); (try replace dl := up_of hb dl); (try replace oB := up_of hb oB); (try replace o0 := up_of hb o0); (try replace o1 := up_of hb o1); (try replace o2 := up_of hb o2); (try replace o3 := up_of hb o3); (try replace ol := up_of hb ol)))
  go_upto_region 6 with (first | (go_at_call 64; refine (hpt.out _ hr.dom).mono ?_; rintro e A ⟨s3, c3, rfl, hown, hb⟩; (try replace hr := up_of hb hr); (try replace hB := up_of hb hB); (try replace d0 := up_of hb d0); (try replace d1 := up_of hb d1); (try replace d2 := up_of hb d2); (try replace dl := up_of hb dl); (try replace oB := up_of hb oB); (try replace o0 := up_of hb o0); (try replace o1 := up_of hb o1); (try replace o2 := up_of hb o2); (try replace o3 := up_of hb o3); (try replace ol := up_of hb ol); have hp1 := owns_pt hown; clear hown))
  go_upto_region 8 with (fail)
  refine wp_world fun X HX => ?_
  have hX : Below A.heap.size A X := by
    rw [HX.out]
    repeat (first | (with_reducible exact Below.refl _ _) | (with_reducible refine Below.drew ?_) | ((with_reducible refine Below.setC ?_ ?_); (focus (first | omega | (simp; done) | (simp; omega)))) | ((with_reducible refine Below.allo ?_ ?_); (focus (first | omega | (simp; done) | (simp; omega)))))
  have pB : Row X A.heap.size 86 #[.slice s3 P.length c3] := by
    rw [HX.out]
    refine Row.of ?_
    repeat (first | (with_reducible refine RowG.new ?_) | (with_reducible refine RowG.drew ?_) | (with_reducible refine RowG.set ?_) | ((with_reducible refine RowG.other ?_ ?_); (focus (first | omega | (simp; done) | (simp; omega)))) | ((with_reducible refine RowG.new' ?_ ?_); (focus (first | omega | (simp; done) | (simp; omega)))) | (with_reducible refine RowG.alloc ?_))
    rfl
  have bB : Row X (A.heap.size + 1) 32 #[.int .i64 0, .int .i64 0, .int .i64 0, .slice none 0 0] := by
    rw [HX.out]
    refine Row.of ?_
    repeat (first | (with_reducible refine RowG.new ?_) | (with_reducible refine RowG.drew ?_) | (with_reducible refine RowG.set ?_) | ((with_reducible refine RowG.other ?_ ?_); (focus (first | omega | (simp; done) | (simp; omega)))) | ((with_reducible refine RowG.new' ?_ ?_); (focus (first | omega | (simp; done) | (simp; omega)))) | (with_reducible refine RowG.alloc ?_))
    rfl
  have lB : Row X (A.heap.size + 2) 3 #[.int .i64 0] := by
    rw [HX.out]
    refine Row.of ?_
    repeat (first | (with_reducible refine RowG.new ?_) | (with_reducible refine RowG.drew ?_) | (with_reducible refine RowG.set ?_) | ((with_reducible refine RowG.other ?_ ?_); (focus (first | omega | (simp; done) | (simp; omega)))) | ((with_reducible refine RowG.new' ?_ ?_); (focus (first | omega | (simp; done) | (simp; omega)))) | (with_reducible refine RowG.alloc ?_))
    rfl
  have hXs : X.heap.size = A.heap.size + 3 := by rw [HX.out]; simp
  clear HX
  have hrA := Lib.hid hr; have hpA := Lib.hid hp1; have hBA0 := Lib.hid hB; have oBA := Lib.hid oB
  have dA := Lib.hid (And.intro d0 (And.intro d1 d2))
  have hAw := hB.size
  have hol := oB.lt
  replace d0 := up_of hX d0
  replace hXs := Lib.hid hXs
  clear hr hp1 hB oB d1 d2 dl o0 o1 o2 o3 ol
  go_wp2_with (first | (go_at_call 80; refine (hfc.out X (fun k => k = A.heap.size + 1 ∨ k = A.heap.size + 2) (fun k hk => by have := hXs.out; omega)).mono ?_; rintro e Y ⟨rfl, hit, hb, hYs⟩; replace hYs := Lib.hid hYs))
  have hYA : Y.heap.size = A.heap.size + 5 := by have := hXs.out; have := hYs.out; omega
  have hM0 : BesM K P A Y s3 c3 (bstP K P []) :=
    ⟨hX.trans (hb.mono hX.size), up_of hb pB, .inl ⟨by unfold bstP; split <;> rfl, up_of hb lB, up_of hb bB⟩, by omega⟩
  replace hYA := Lib.hid hYA; replace hM0 := Lib.hid hM0
  clear pB bB lB hX d0 hb
  refine' wp_rangeX rfl (fun _ _ => by simp [go_sem]) hit 29 (fun f => #[.int .i64 f.x, .int .i64 f.y, .int .i64 f.z]) (fun pre V => BesM K P A V s3 c3 (bstP K P pre)) (fun _ _ _ => False) ?hI (fun _ _ _ _ h _ => h) (fun _ _ _ h => h.elim) hM0.out _ ?assign ?body ?done (fun _ _ _ _ _ _ h _ => h.elim)
  case hI =>
    rintro pre V V' row hM hg hrow
    exact hM.grown hg (fun r e => by have := hrow r e; have := hYA.out; omega)
  case assign =>
    intro l x W b K' hWb hK
    simp only [encPt, List.setIfInBounds_toArray, List.set_cons_zero, List.set_cons_succ]
    gi_wp2
    exact hK
  case body =>
    rintro ly pre x b V hM hpre hb2 hbx
    have hxf : x ∈ frm n m := hpre.subset (by simp)
    have hBV := hM.be
    have hr := up_of hBV hrA.out
    have hps := up_of hBV hpA.out
    obtain ⟨d0, d1, d2⟩ := dA.out
    replace d0 := up_of hBV d0; replace d1 := up_of hBV d1; replace d2 := up_of hBV d2
    obtain ⟨f0, f1, f2⟩ := hbx.three
    have p0 : V.cell? ⟨A.heap.size, 0, none⟩ = some (.slice s3 P.length c3) := hM.pt.cell rfl
    have hVs := hbx.lt
    have hYA' := hYA.out
    have hoff := hof.out x hxf
    have hMs := hM.sz
    by_cases hkeep : P = [] ∨ bfR K x = none
    · have hst := bstP_keep (pre := pre) hkeep
      have hM2 := hM
      rw [← hst] at hM2
      replace hM2 := Lib.hid hM2
      have hcase : (bfR K x).isSome = false ∨ ((bfR K x).isSome = true ∧ ((P.length : Int) == 0) = true) := by
        rcases hkeep with h | h
        · cases hb : bfR K x
          · exact .inl rfl
          · exact .inr ⟨rfl, by rw [h]; rfl⟩
        · rw [h]; exact .inl rfl
      obtain ⟨ob, hob⟩ : ∃ b, (bfR K x).isSome = b := ⟨_, rfl⟩
      obtain ⟨oo, hoo⟩ : ∃ o, (bfR K x).getD [] = o := ⟨_, rfl⟩
      simp only [hob, hoo] at hoff
      rw [hob] at hcase
      obtain ⟨fx, fy, fz⟩ := x
      simp only at f0 f1 f2 hoff
      replace hoff := Lib.hid hoff; replace hst := Lib.hid hst; replace hob := Lib.hid hob; replace hoo := Lib.hid hoo; replace hM := Lib.hid hM; replace hpre := Lib.hid hpre; replace hxf := Lib.hid hxf
      clear hkeep
      gi_upto_region 11 with (first | (gi_at_call 79; refine (cir (hoff.out _ hr)).mono ?_; rintro e W1 ⟨⟨s4, c4, rfl, hown⟩, hb⟩; replace p0 := up_of hb p0))
      have hKO := Lib.hid (KeepsOthers.of_below hb)
      have hKX := Lib.hid (KeepX.of_below (T := fun k => k = A.heap.size + 1 ∨ k = A.heap.size + 2) hb)
      have hM3 := Lib.hid (BesM.up hb hM2.out)
      rcases hcase with rfl | ⟨rfl, hP0⟩
      · gi_wp2
        exact ⟨hKO.out.from _, hKX.out, hM3.out⟩
      · gi_wp2
        exact ⟨hKO.out.from _, hKX.out, hM3.out⟩
    · obtain ⟨hPn, hbn⟩ : P ≠ [] ∧ bfR K x ≠ none := ⟨fun h => hkeep (.inl h), fun h => hkeep (.inr h)⟩
      obtain ⟨o, hb⟩ := Option.ne_none_iff_exists'.1 hbn
      simp only [hb, Option.getD_some, Option.isSome_some] at hoff
      obtain ⟨hol, hob⟩ := hsm.out x hxf o hb
      have hone : o ≠ [] := by rintro rfl; simp at hol; omega
      obtain ⟨a, b', c, d, ea, eb, ec, ed, elat, hab, hcd⟩ := hlp.out hPn x hxf o hone hob
      have hP1 : 1 ≤ P.length := List.length_pos_iff.2 hPn
      have hP0 : ((P.length : Int) == 0) = false := beq_eq_false_iff_ne.2 (by omega)
      have hsp := fun V s4 c4 (h : PtS V s3 P) (h2 : SlS intE V s4 o) => span_c s3 c3 P ⟨x, o, s4, c4⟩ V h hP1 (by omega) ⟨h2, by show o.length ≤ _; omega⟩ (by show 1 ≤ o.length; omega)
      simp only [ea, eb, ec, ed] at hsp
      obtain ⟨LT, hLT⟩ : ∃ L, latF P x o = L := ⟨_, rfl⟩
      rw [hLT] at elat
      have u1 : IntKind.i64.wrap (a + c) = a + c := i64_small (by omega)
      have u2 : IntKind.i64.wrap (b' + d) = b' + d := i64_small (by omega)
      simp only [u1, u2] at hsp
      obtain ⟨lo, hlo⟩ : ∃ y, a + c = y := ⟨_, rfl⟩
      obtain ⟨hi, hhi⟩ : ∃ y, b' + d = y := ⟨_, rfl⟩
      simp only [hlo, hhi] at hsp
      have u3 : IntKind.i64.wrap (hi - lo) = hi - lo := i64_small (by omega)
      have u4 : IntKind.i64.wrap (hi - lo + 1) = LT := by rw [i64_small (by omega)]; omega
      have hL1 : 1 ≤ LT ∧ LT ≤ 3000 := by omega
      have hfirst := fun h => bstP_first (pre := pre) hPn hb h
      have hmore := fun g u h => bstP_more (pre := pre) (g := g) (u := u) hPn hb h
      simp only [hLT] at hmore
      have hin := fun g u h => bstP_in (K := K) (P := P) (pre := pre) (g := g) (u := u) h
      have hpf : ∀ g ∈ pre, g ∈ frm n m := fun g hg => hpre.subset (by simp [hg])
      obtain ⟨fx, fy, fz⟩ := x
      simp only at f0 f1 f2 hoff hsp
      replace hoff := Lib.hid hoff; replace hsp := Lib.hid hsp; replace hpre := Lib.hid hpre; replace hxf := Lib.hid hxf; replace hb := Lib.hid hb; replace hol := Lib.hid hol; replace hob := Lib.hid hob; replace elat := Lib.hid elat; replace hLT := Lib.hid hLT; replace ea := Lib.hid ea; replace eb := Lib.hid eb; replace ec := Lib.hid ec; replace ed := Lib.hid ed; replace hlo := Lib.hid hlo; replace hhi := Lib.hid hhi; replace hfirst := Lib.hid hfirst; replace hmore := Lib.hid hmore; replace hin := Lib.hid hin; replace hpf := Lib.hid hpf
      clear hkeep hbn u1 u2
      gi_upto_region 11 with (first | (gi_at_call 79; refine (cir (hoff.out _ hr)).mono ?_; rintro e W1 ⟨⟨s4, c4, rfl, hown⟩, hb1⟩; replace p0 := up_of hb1 p0; replace hps := up_of hb1 hps; replace f0 := up_of hb1 f0; replace f1 := up_of hb1 f1; replace f2 := up_of hb1 f2; replace hM := BesM.up hb1 hM))
      have hso := SlS.of_own (E := intE) hown
      have hW1s := hb1.size
      gi_upto_region 13 with (fail)
      refine wpIn_world fun X2 HX2 => ?_
      have hX2 : Below W1.heap.size W1 X2 := by rw [HX2.out]; (repeat (first | exact Below.refl _ _ | refine Below.alloc ?_ (by simp; try omega) _ | refine Below.setCell ?_ (by simp) _ | refine Below.drew ?_))
      have qB : X2.heap[W1.heap.size]? = some (.cells #[.int .i64 fx, .int .i64 fy, .int .i64 fz, .slice s4 o.length c4] 32 (0, 0)) := by rw [HX2.out]; (repeat (first | (refine blk_new ?_; simp; done) | refine blk_old ?_ _))
      have q0 : X2.cell? ⟨W1.heap.size, 0, none⟩ = some (.int .i64 fx) := by rw [HX2.out]; simp [go_sem]
      have q1 : X2.cell? ⟨W1.heap.size, 1, none⟩ = some (.int .i64 fy) := by rw [HX2.out]; simp [go_sem]
      have q2 : X2.cell? ⟨W1.heap.size, 2, none⟩ = some (.int .i64 fz) := by rw [HX2.out]; simp [go_sem]
      have q3 : X2.cell? ⟨W1.heap.size, 3, none⟩ = some (.slice s4 o.length c4) := by rw [HX2.out]; simp [go_sem]
      try replace p0 := up_of hX2 p0
      try replace hps := up_of hX2 hps
      try replace f0 := up_of hX2 f0
      try replace f1 := up_of hX2 f1
      try replace f2 := up_of hX2 f2
      try replace hM := up_of hX2 hM
      try replace hown := up_of hX2 hown
      try replace hso := up_of hX2 hso
      clear HX2
      gi_upto_region 14 with (first | (gi_at_call 65; refine (cir (hsp.out _ _ _ hps hso)).mono ?_; rintro e W3 ⟨rfl, hb3⟩))
      try replace p0 := up_of hb3 p0
      try replace hps := up_of hb3 hps
      try replace f0 := up_of hb3 f0
      try replace f1 := up_of hb3 f1
      try replace f2 := up_of hb3 f2
      try replace hM := up_of hb3 hM
      try replace hown := up_of hb3 hown
      try replace hso := up_of hb3 hso
      try replace q0 := up_of hb3 q0
      try replace q1 := up_of hb3 q1
      try replace q2 := up_of hb3 q2
      try replace q3 := up_of hb3 q3
      have hVW : Below V.heap.size V W3 := hb1.trans ((hX2.mono hb1.size).trans (hb3.mono (Nat.le_trans hb1.size hX2.size)))
      have hKO := KeepsOthers.of_below hVW
      have hKX := KeepX.of_below (T := fun k => k = A.heap.size + 1 ∨ k = A.heap.size + 2) hVW
      have hBA := hM.be
      have ptB := hM.pt
      have hszW := hM.sz
      replace hown := owns_mono (b' := A.heap.size + 8) hown (by omega)
      clear p0 hps f0 f1 f2 hso
      rcases hM.bs with ⟨h1, lB, bB⟩ | ⟨g, u, s5, c5, h1, lB, bB, bown⟩
      · have hst := Lib.hid (hfirst.out h1)
        replace h1 := Lib.hid h1
        have rl := fun i => Row.frozen lB i
        have rb := fun i => Row.frozen bB i
        obtain ⟨k0, k1, k2, k3⟩ := bB.four
        have ll0 := lB.one
        replace hM := Lib.hid hM; replace hBA := Lib.hid hBA; replace hown := Lib.hid hown; replace ptB := Lib.hid ptB; replace hKO := Lib.hid hKO; replace hKX := Lib.hid hKX
        gi_wp2
        have hM := hM.out; have hBA := hBA.out; have hown := hown.out; have ptB := ptB.out; have hKO := hKO.out; have hKX := hKX.out
        refine ⟨KeepsOthers.from (by repeat (first | (with_reducible exact hKO) | refine KeepsOthers.trans ?_ (KeepsOthers.setCell _ _ _))) _, by repeat (first | (with_reducible exact hKX) | refine KeepX.trans ?_ (KeepX.setCell _ _ (by simp))), ?_, ?_, ?_, ?_⟩
        · repeat (first | (with_reducible exact hBA) | (with_reducible refine Below.drew ?_) | ((with_reducible refine Below.setC ?_ ?_); (focus (first | omega | (simp; done) | (simp; omega)))) | ((with_reducible refine Below.allo ?_ ?_); (focus (first | omega | (simp; done) | (simp; omega)))))
        · refine Row.of ?_
          repeat (first | (with_reducible refine RowG.base ptB ?_) | (with_reducible refine RowG.drew ?_) | (with_reducible refine RowG.set ?_) | ((with_reducible refine RowG.other ?_ ?_); (focus (first | omega | (simp; done) | (simp; omega)))) | (with_reducible refine RowG.alloc ?_))
          rfl
        · refine .inr ⟨⟨fx, fy, fz⟩, o, s4, c4, hst.out, ?_, ?_, ?_⟩
          · rw [hLT.out]
            refine Row.of ?_
            repeat (first | (with_reducible refine RowG.base lB ?_) | (with_reducible refine RowG.drew ?_) | (with_reducible refine RowG.set ?_) | ((with_reducible refine RowG.other ?_ ?_); (focus (first | omega | (simp; done) | (simp; omega)))) | (with_reducible refine RowG.alloc ?_))
            rfl
          · refine Row.of ?_
            repeat (first | (with_reducible refine RowG.base bB ?_) | (with_reducible refine RowG.drew ?_) | (with_reducible refine RowG.set ?_) | ((with_reducible refine RowG.other ?_ ?_); (focus (first | omega | (simp; done) | (simp; omega)))) | (with_reducible refine RowG.alloc ?_))
            rfl
          · repeat (first | (with_reducible exact hown) | refine ownsRow_setCell_below ?_ (by simp; try omega) _)
        · simp [World.setCell]; omega
      · obtain ⟨hgp, hgu⟩ := hin.out g u h1
        have hgf := hpf.out g hgp
        obtain ⟨gol, gob⟩ := hsm.out g hgf u hgu
        have gone : u ≠ [] := by rintro rfl; simp at gol; omega
        obtain ⟨a2, b2, c2, d2, -, -, -, -, elat2, hab2, hcd2⟩ := hlp.out hPn g hgf u gone gob
        have hm1 := hmore.out g u h1
        have hbsG := hM.bs
        obtain ⟨G, hG⟩ : ∃ G, latF P g u = G := ⟨_, rfl⟩
        rw [hG] at elat2 lB hm1
        have hG1 : 1 ≤ G := by omega
        have hG0 : (G == 0) = false := beq_eq_false_iff_ne.2 (by omega)
        clear hgp hgu hgf gol gob gone elat2 hab2 hcd2
        replace hG := Lib.hid hG; replace hm1 := Lib.hid hm1; replace h1 := Lib.hid h1; replace bown := Lib.hid bown; replace hbsG := Lib.hid hbsG
        by_cases hlt : LT < G
        · have hst := hm1.out
          rw [if_pos hlt] at hst
          replace hst := Lib.hid hst
          have rl := fun i => Row.frozen lB i
          have rb := fun i => Row.frozen bB i
          obtain ⟨k0, k1, k2, k3⟩ := bB.four
          have ll0 := lB.one
          replace hM := Lib.hid hM; replace hBA := Lib.hid hBA; replace hown := Lib.hid hown; replace ptB := Lib.hid ptB; replace hKO := Lib.hid hKO; replace hKX := Lib.hid hKX
          gi_wp2
          have hM := hM.out; have hBA := hBA.out; have hown := hown.out; have ptB := ptB.out; have hKO := hKO.out; have hKX := hKX.out
          refine ⟨KeepsOthers.from (by repeat (first | (with_reducible exact hKO) | refine KeepsOthers.trans ?_ (KeepsOthers.setCell _ _ _))) _, by repeat (first | (with_reducible exact hKX) | refine KeepX.trans ?_ (KeepX.setCell _ _ (by simp))), ?_, ?_, ?_, ?_⟩
          · repeat (first | (with_reducible exact hBA) | (with_reducible refine Below.drew ?_) | ((with_reducible refine Below.setC ?_ ?_); (focus (first | omega | (simp; done) | (simp; omega)))) | ((with_reducible refine Below.allo ?_ ?_); (focus (first | omega | (simp; done) | (simp; omega)))))
          · refine Row.of ?_
            repeat (first | (with_reducible refine RowG.base ptB ?_) | (with_reducible refine RowG.drew ?_) | (with_reducible refine RowG.set ?_) | ((with_reducible refine RowG.other ?_ ?_); (focus (first | omega | (simp; done) | (simp; omega)))) | (with_reducible refine RowG.alloc ?_))
            rfl
          · refine .inr ⟨⟨fx, fy, fz⟩, o, s4, c4, hst.out, ?_, ?_, ?_⟩
            · rw [hLT.out]
              refine Row.of ?_
              repeat (first | (with_reducible refine RowG.base lB ?_) | (with_reducible refine RowG.drew ?_) | (with_reducible refine RowG.set ?_) | ((with_reducible refine RowG.other ?_ ?_); (focus (first | omega | (simp; done) | (simp; omega)))) | (with_reducible refine RowG.alloc ?_))
              rfl
            · refine Row.of ?_
              repeat (first | (with_reducible refine RowG.base bB ?_) | (with_reducible refine RowG.drew ?_) | (with_reducible refine RowG.set ?_) | ((with_reducible refine RowG.other ?_ ?_); (focus (first | omega | (simp; done) | (simp; omega)))) | (with_reducible refine RowG.alloc ?_))
              rfl
            · repeat (first | (with_reducible exact hown) | refine ownsRow_setCell_below ?_ (by simp; try omega) _)
          · simp [World.setCell]; omega
        · have hst := hm1.out
          rw [if_neg hlt, ← h1.out] at hst
          replace hst := Lib.hid hst
          have ll0 := lB.one
          replace hM := Lib.hid hM; replace hKO := Lib.hid hKO; replace hKX := Lib.hid hKX
          clear hBA hown ptB bB lB
          gi_wp2
          refine ⟨hKO.out.from _, hKX.out, ?_⟩
          show BesM K P A W3 s3 c3 (bstP K P (pre ++ [⟨fx, fy, fz⟩]))
          rw [hst.out]; exact hM.out
  case done =>
    rintro D W hD hM hK
    have hBA := hM.be
    have oB := up_of hBA oBA.out
    have hB := hBA0.out.trans (hBA.mono hAw)
    have hYA' := hYA.out
    have hM00 : MarksIn w.heap.size Y.heap.size [] W := ⟨[], rfl, List.nodup_nil, fun D h => absurd h (by simp)⟩
    have hMD := hM00.push hD (by omega) hK
    obtain ⟨o0, o1, o2, o3⟩ := oB.four
    have rf := fun i => Row.frozen oB i
    have hBs := hB.size
    rcases hM.bs with ⟨h1, lB, bB⟩ | ⟨g, u, s5, c5, h1, lB, bB, bown⟩
    · obtain rfl : SdRet ⟨0, 0, 0⟩ [] 5 w = R := by have := hR.out; rw [h1] at this; exact this
      have ll0 := lB.one
      replace h1 := Lib.hid h1; replace hM := Lib.hid hM; replace hB := Lib.hid hB; replace oB := Lib.hid oB; replace hMD := Lib.hid hMD
      clear hBA hR lB bB hK
      dsimp only
      go_wp2
      have oB := oB.out
      refine marks_retN (base := w.heap.size) (by repeat (first | (with_reducible exact hMD.out) | refine Marks.others (KeepsOthers.setCell _ _ _) ?_)) (by simp [World.setCell]; omega) fun W' hu => ?_
      refine ⟨_, results_cell_tmp' rfl rfl rfl (load_sd (cs := #[.int .i64 0, .int .i64 0, .int .i64 0, .slice none 0 0]) (hu.cells _ _ _ _ ?_) rfl), ⟨⟨none, 0, rfl, SlS.nil⟩, ?_⟩⟩
      · show Row _ _ _ _
        refine Row.of ?_
        repeat (first | (with_reducible refine RowG.base oB ?_) | (with_reducible refine RowG.drew ?_) | (with_reducible refine RowG.set ?_) | ((with_reducible refine RowG.other ?_ ?_); (focus (first | omega | (simp; done) | (simp; omega)))) | (with_reducible refine RowG.alloc ?_))
        rfl
      · refine Below.trans ?_ hu.below
        have hB := hB.out
        repeat (first | (with_reducible exact hB) | (with_reducible refine Below.drew ?_) | ((with_reducible refine Below.setC ?_ ?_); (focus (first | omega | (simp; done) | (simp; omega)))) | ((with_reducible refine Below.allo ?_ ?_); (focus (first | omega | (simp; done) | (simp; omega)))))
    · obtain rfl : SdRet g u 0 w = R := by have := hR.out; rw [h1] at this; exact this
      obtain ⟨hgp, hgu⟩ := bstP_in h1
      obtain ⟨gol, gob⟩ := hsm.out g hgp u hgu
      have gone : u ≠ [] := by rintro rfl; simp at gol; omega
      have hPn : P ≠ [] := fun h => by unfold bstP at h1; rw [if_pos h] at h1; cases h1
      obtain ⟨a2, b2, c2, d2, -, -, -, -, elat2, hab2, hcd2⟩ := hlp.out hPn g hgp u gone gob
      obtain ⟨G, hG⟩ : ∃ G, latF P g u = G := ⟨_, rfl⟩
      rw [hG] at elat2 lB
      have hG1 : 1 ≤ G := by omega
      have hG0 : (G == 0) = false := beq_eq_false_iff_ne.2 (by omega)
      have ll0 := lB.one
      obtain ⟨b0, b1, b2, b3⟩ := bB.four
      clear hgp hgu gol gob gone elat2 hab2 hcd2 hPn
      replace h1 := Lib.hid h1; replace hM := Lib.hid hM; replace hB := Lib.hid hB; replace oB := Lib.hid oB; replace hMD := Lib.hid hMD; replace hG := Lib.hid hG; replace bown := Lib.hid bown
      clear hBA hR lB bB hK
      dsimp only
      go_wp2
      have oB := oB.out
      refine marks_retN (base := w.heap.size) (by repeat (first | (with_reducible exact hMD.out) | refine Marks.others (KeepsOthers.setCell _ _ _) ?_)) (by simp [World.setCell]; omega) fun W' hu => ?_
      refine ⟨_, results_cell_tmp' rfl rfl rfl (load_sd (cs := #[.int .i64 g.x, .int .i64 g.y, .int .i64 g.z, .slice s5 u.length c5]) (hu.cells _ _ _ _ ?_) rfl), ⟨⟨s5, c5, rfl, ?_⟩, ?_⟩⟩
      · show Row _ _ _ _
        refine Row.of ?_
        repeat (first | (with_reducible refine RowG.base oB ?_) | (with_reducible refine RowG.drew ?_) | (with_reducible refine RowG.set ?_) | ((with_reducible refine RowG.other ?_ ?_); (focus (first | omega | (simp; done) | (simp; omega)))) | (with_reducible refine RowG.alloc ?_))
        rfl
      · refine SlS.of_own (E := intE) (base := A.heap.size + 8) (e := 3) (cap := c5) (hu.owns ?_)
        have bown := bown.out
        repeat (refine ownsRow_setCell_below ?_ (by simp; try omega) _)
        exact bown
      · refine Below.trans ?_ hu.below
        have hB := hB.out
        repeat (first | (with_reducible exact hB) | (with_reducible refine Below.drew ?_) | ((with_reducible refine Below.setC ?_ ?_); (focus (first | omega | (simp; done) | (simp; omega)))) | ((with_reducible refine Below.allo ?_ ?_); (focus (first | omega | (simp; done) | (simp; omega)))))
end Go.Proofs.Ytbpdgoedglkefaa
