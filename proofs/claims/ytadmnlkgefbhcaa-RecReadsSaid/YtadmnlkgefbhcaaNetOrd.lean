/- Counts, users and the order as they lie in memory while the order is found. -/
import Derived.Test.YtadmnlkgefbhcaaZeros
import Derived.Test.YtadmnlkgefbhcaaTblB
import Derived.Test.YtadmnlkgefbhcaaIterT
namespace Go.Proofs.Ytadmnlkgefbhcaa
open Go.RowKit

theorem intE_at (l : List Int) {i : Nat} (hi : i < l.length) : (intE.all l)[i]? = some (.int .i64 l[i]) := by
  have h := intE.all_at l i 0 hi (by decide)
  simpa [intE] using h
theorem intE_set (l : List Int) : ∀ (i : Nat) (x : Int), (intE.all l).set i (.int .i64 x) = intE.all (l.set i x) := by
  induction l with
  | nil => intro i x; rfl
  | cons a l ih =>
    intro i x
    cases i with
    | zero => rfl
    | succ i =>
      have h := ih i x
      show List.set (Value.int .i64 a :: intE.all l) (i + 1) (.int .i64 x) = Value.int .i64 a :: intE.all (l.set i x)
      rw [List.set_cons_succ, h]
theorem svE_set (ss : List Sv) : ∀ (i : Nat) (x : Sv), (svE.all ss).set i x.val = svE.all (ss.set i x) := by
  induction ss with
  | nil => intro i x; rfl
  | cons a l ih =>
    intro i x
    cases i with
    | zero => rfl
    | succ i =>
      have h := ih i x
      show List.set (a.val :: svE.all l) (i + 1) x.val = a.val :: svE.all (l.set i x)
      rw [List.set_cons_succ, h]
theorem own_set {V : World} {base e size n m : Nat} {v : Value} {xs : List Value} (h : V.ownsRow base e size v n xs) {b : Nat} (hb : v.ownBlock ≠ some b) (o : Nat) (x : Value) : (V.setCell ⟨b, o, none⟩ x).ownsRow base e size v n xs :=
  own_upto h fun j e => Below.heap_setCell _ _ _ _ (fun e2 => hb (by rw [e, e2]))
section
variable {α : Type} {E : Elt α} {T t : Nat} {V V' : World} {base : Nat} {n cap bv : Nat} {ss : List Sv} {R : List (List α)}
/-- A row of the table has been appended to, in place or anew, and its header put. -/
theorem Tbl.app (h : Tbl E T t V base (.slice (some ⟨bv, 0, none⟩) n cap) ss R) {i : Nat} (hi : i < ss.length) {x : Sv} {L : List α} (hg : V.grownBy V' ss[i].val.ownBlock)
    (hx : V'.ownsRow base t E.size x.val L.length (E.all L)) (hat : x.val.ownBlock = ss[i].val.ownBlock ∨ ∃ g, x.val.ownBlock = some g ∧ V.heap.size ≤ g) :
    Tbl E T t (V'.setCell ⟨bv, i, none⟩ x.val) base (.slice (some ⟨bv, 0, none⟩) n cap) (ss.set i x) (R.set i L) := by
  have hbv : bv < V.heap.size := (h.out.lt bv rfl).2
  have hn := owns_len h.out
  subst hn
  have ho1 : V'.ownsRow base T 1 (.slice (some ⟨bv, 0, none⟩) ss.length cap) ss.length (svE.all ss) := own_upto h.out fun b e => hg.block b (h.out.lt b e).2 fun e2 => h.off i hi b e2.symm e
  have hst := ho1.stored i x.val
  rw [svE_set] at hst
  have hl : (ss.set i x).length = ss.length := List.length_set
  have hxb : ∀ b, x.val.ownBlock = some b → b ≠ bv ∧ ∀ j (h' : j < ss.length), i ≠ j → ss[j].val.ownBlock ≠ some b := fun b e => by
    rcases hat with h1 | ⟨g, h1, h2⟩
    · rw [h1] at e
      refine ⟨fun e2 => h.off i hi b e (by rw [e2]; rfl), fun j h' hij => h.apart i j hi h' b hij e⟩
    · rw [h1] at e; cases e
      refine ⟨by omega, fun j h' _ e2 => ?_⟩
      have := (h.lt h' e2).2
      omega
  have hat' : ∀ j (h1 : j < (ss.set i x).length) (h2 : j < ss.length), i ≠ j → (ss.set i x)[j] = ss[j] := fun j h1 h2 hij => by simp [hij]
  have hai : ∀ (h1 : i < (ss.set i x).length), (ss.set i x)[i] = x := fun h1 => by simp
  refine ⟨by rw [hl]; exact hst.1, by rw [hl, List.length_set]; exact h.len, fun j h1 h2 => ?_, fun j h1 b e => ?_, fun j j' h1 h2 b hjj e => ?_⟩
  · have h3 : j < R.length := by rw [List.length_set] at h1; exact h1
    have h4 : j < ss.length := by rw [hl] at h2; exact h2
    by_cases hij : i = j
    · subst hij
      rw [hai h2, show (R.set i L)[i] = L by simp]
      exact own_upto hx fun b e => Below.heap_setCell _ _ _ _ (hxb b e).1
    · rw [hat' j h2 h4 hij, show (R.set i L)[j] = R[j] by simp [hij]]
      refine own_upto (own_upto (h.row j h3 h4) fun b e => hg.block b (h.lt h4 e).2 fun e2 => h.apart j i h4 hi b (fun e3 => hij e3.symm) e e2.symm) fun b e => Below.heap_setCell _ _ _ _ (fun e2 => h.off j h4 b e (by rw [show b = bv from e2]; rfl))
  · have h4 : j < ss.length := by rw [hl] at h1; exact h1
    by_cases hij : i = j
    · subst hij; rw [hai h1] at e
      intro e2
      exact (hxb b e).1 (by simpa [Value.ownBlock] using e2.symm)
    · rw [hat' j h1 h4 hij] at e; exact h.off j h4 b e
  · have h4 : j < ss.length := by rw [hl] at h1; exact h1
    have h5 : j' < ss.length := by rw [hl] at h2; exact h2
    by_cases hij : i = j
    · subst hij
      rw [hai h1] at e
      rw [hat' j' h2 h5 hjj]
      exact (hxb b e).2 j' h5 hjj
    · rw [hat' j h1 h4 hij] at e
      by_cases hij' : i = j'
      · subst hij'
        rw [hai h2]
        exact fun e2 => (hxb b e2).2 j h4 hij e
      · rw [hat' j' h2 h5 hij']
        exact h.apart j j' h4 h5 b hjj e
end
/-- What lies between the rounds. -/
structure OrdM (w : World) (bw bu N lo : Nat) (V : World) (wt : List Int) (ss : List Sv) (R : List (List Int)) (ov : Value) (out : List Int) : Prop where
  be : Below w.heap.size w V
  wb : w.heap.size ≤ bw ∧ bw + 1 < bu
  w0 : V.ownsRow bw 3 1 (.slice (some ⟨bw, 0, none⟩) N N) N (intE.all wt)
  w1 : Row V (bw + 1) 53 #[.slice (some ⟨bw, 0, none⟩) N N]
  tb : Tbl intE 53 3 V bu (.slice (some ⟨bu, 0, none⟩) N N) ss R
  u1 : Row V (bu + 1) 46 #[.slice (some ⟨bu, 0, none⟩) N N]
  ge : ∀ j (h : j < ss.length) g, ss[j].val.ownBlock = some g → bu + 2 ≤ g ∧ (g < lo ∨ lo + 7 ≤ g)
  ot : V.ownsRow (bu + 2) 3 1 ov out.length (intE.all out)
  ol : ∀ g, ov.ownBlock = some g → g < lo ∨ lo + 7 ≤ g
  ap : ∀ j (h : j < ss.length) g, ss[j].val.ownBlock = some g → ov.ownBlock ≠ some g
section
variable {w : World} {bw bu N lo : Nat} {V V' : World} {wt : List Int} {ss : List Sv} {R : List (List Int)} {ov : Value} {out : List Int}
theorem OrdM.cellsUp (h : OrdM w bw bu N lo V wt ss R ov out) {n : Nat} (hn : w.heap.size ≤ n) (hu : CellsUp n V V') : OrdM w bw bu N lo V' wt ss R ov out :=
  ⟨h.be.trans (hu.below.mono hn), h.wb, hu.owns h.w0, hu.cells _ _ _ _ h.w1, ⟨hu.owns h.tb.out, h.tb.len, fun i h1 h2 => hu.owns (h.tb.row i h1 h2), h.tb.off, h.tb.apart⟩, hu.cells _ _ _ _ h.u1, h.ge, hu.owns h.ot, h.ol, h.ap⟩
theorem OrdM.up (hb : Below V.heap.size V V') (h : OrdM w bw bu N lo V wt ss R ov out) : OrdM w bw bu N lo V' wt ss R ov out :=
  ⟨h.be.trans (hb.mono h.be.size), h.wb, up_of hb h.w0, up_of hb h.w1, h.tb.up hb, up_of hb h.u1, h.ge, up_of hb h.ot, h.ol, h.ap⟩
instance : UpF V V' (OrdM w bw bu N lo V wt ss R ov out) (OrdM w bw bu N lo V' wt ss R ov out) := ⟨fun h c => OrdM.up h c⟩
theorem OrdM.nextTo (h : OrdM w bw bu N lo V wt ss R ov out) {m : Nat} (hm : V.heap.size ≤ m) : OrdM w bw bu N m V wt ss R ov out :=
  ⟨h.be, h.wb, h.w0, h.w1, h.tb, h.u1, fun j hj g e => ⟨(h.ge j hj g e).1, .inl (Nat.lt_of_lt_of_le (h.tb.lt hj e).2 hm)⟩, h.ot, fun g e => .inl (Nat.lt_of_lt_of_le (h.ot.lt g e).2 hm), h.ap⟩
theorem OrdM.next (h : OrdM w bw bu N lo V wt ss R ov out) : OrdM w bw bu N V.heap.size V wt ss R ov out :=
  ⟨h.be, h.wb, h.w0, h.w1, h.tb, h.u1, fun j hj g e => ⟨(h.ge j hj g e).1, .inl (h.tb.lt hj e).2⟩, h.ot, fun g e => .inl (h.ot.lt g e).2, h.ap⟩
theorem OrdM.wlen (h : OrdM w bw bu N lo V wt ss R ov out) : wt.length = N := by
  have h1 := h.w0.1
  rw [Elt.all_len] at h1
  simpa [intE] using h1
theorem OrdM.wcell (h : OrdM w bw bu N lo V wt ss R ov out) {k : Nat} (hk : k < wt.length) : V.cell? ⟨bw, k, none⟩ = some (.int .i64 wt[k]) ∧ V.frozen? ⟨bw, k, none⟩ = false :=
  ⟨owns_cell h.w0 (intE_at wt hk), World.ownsRow.frozenAt h.w0 k⟩
/-- A count is put. -/
theorem OrdM.setw (h : OrdM w bw bu N lo V wt ss R ov out) (k : Nat) (x : Int) : OrdM w bw bu N lo (V.setCell ⟨bw, k, none⟩ (.int .i64 x)) (wt.set k x) ss R ov out := by
  have hst := h.w0.stored k (.int .i64 x)
  rw [intE_set] at hst
  have hwb := h.wb
  have hrow : ∀ j (hj : j < ss.length) g, ss[j].val.ownBlock = some g → g ≠ bw := fun j hj g e => by have := (h.ge j hj g e).1; omega
  have hot : ∀ g, ov.ownBlock = some g → g ≠ bw := fun g e => by have := (h.ot.lt g e).1; omega
  refine ⟨h.be.setCell (by exact hwb.1) _, hwb, hst.1, (Below.heap_setCell _ _ _ _ (by show bw + 1 ≠ bw; omega)).trans h.w1, ?_, (Below.heap_setCell _ _ _ _ (by show bu + 1 ≠ bw; omega)).trans h.u1, h.ge, own_upto h.ot fun b e => Below.heap_setCell _ _ _ _ (hot b e), h.ol, h.ap⟩
  exact ⟨own_upto h.tb.out fun b e => Below.heap_setCell _ _ _ _ (by simp [Value.ownBlock] at e; show b ≠ bw; omega), h.tb.len, fun i h1 h2 => own_upto (h.tb.row i h1 h2) fun b e => Below.heap_setCell _ _ _ _ (hrow i h2 b e), h.tb.off, h.tb.apart⟩
/-- A user is appended. -/
theorem OrdM.pushU (h : OrdM w bw bu N lo V wt ss R ov out) {i : Nat} (hi : i < ss.length) {x : Sv} {L : List Int} (hg : V.grownBy V' ss[i].val.ownBlock)
    (hx : V'.ownsRow bu 3 1 x.val L.length (intE.all L)) (hat : x.val.ownBlock = ss[i].val.ownBlock ∨ ∃ g, x.val.ownBlock = some g ∧ V.heap.size ≤ g) (hlo : lo + 7 ≤ V.heap.size) :
    OrdM w bw bu N lo (V'.setCell ⟨bu, i, none⟩ x.val) wt (ss.set i x) (R.set i L) ov out := by
  have hwb := h.wb
  have hge := h.ge i hi
  have hVs := h.be.size
  have hwl := (h.w0.lt bw rfl).2
  have hul := h.u1.lt
  have hw1l := h.w1.lt
  have hbul := (h.tb.out.lt bu rfl).2
  have hne : ∀ k, k < bu + 2 → k < V.heap.size → some k ≠ ss[i].val.ownBlock := fun k hk _ e => by have := (hge k e.symm).1; omega
  have hxge : ∀ g, x.val.ownBlock = some g → bu + 2 ≤ g ∧ (g < lo ∨ lo + 7 ≤ g) ∧ ov.ownBlock ≠ some g := fun g e => by
    rcases hat with h1 | ⟨g', h1, h2⟩
    · rw [h1] at e
      exact ⟨(hge g e).1, (hge g e).2, h.ap i hi g e⟩
    · rw [h1] at e; cases e
      refine ⟨by omega, by omega, fun e2 => ?_⟩
      have := (h.ot.lt _ e2).2; omega
  refine ⟨(h.be.grown hg hVs (fun j e => by have := (hge j e).1; omega)).setCell (by show w.heap.size ≤ bu; omega) _, hwb, ?_, ?_, Tbl.app h.tb hi hg hx hat, ?_, fun j hj g e => ?_, ?_, h.ol, fun j hj g e => ?_⟩
  · exact own_upto h.w0 fun b e => by
      simp [Value.ownBlock] at e; subst e
      exact (Below.heap_setCell _ _ _ _ (by show bw ≠ bu; omega)).trans (hg.block _ hwl (hne _ (by omega) hwl))
  · exact (Below.heap_setCell _ _ _ _ (by show bw + 1 ≠ bu; omega)).trans ((hg.block _ hw1l (hne _ (by omega) hw1l)).trans h.w1)
  · exact (Below.heap_setCell _ _ _ _ (by show bu + 1 ≠ bu; omega)).trans ((hg.block _ hul (hne _ (by omega) hul)).trans h.u1)
  · rw [List.getElem_set] at e
    by_cases hij : i = j
    · rw [if_pos hij] at e; exact ⟨(hxge g e).1, (hxge g e).2.1⟩
    · rw [if_neg hij] at e; exact h.ge j (by rw [List.length_set] at hj; exact hj) g e
  · exact own_upto h.ot fun b e => by
      have h1 := h.ot.lt b e
      exact (Below.heap_setCell _ _ _ _ (by show b ≠ bu; omega)).trans (hg.block _ h1.2 (fun e2 => h.ap i hi b e2.symm e))
  · rw [List.getElem_set] at e
    by_cases hij : i = j
    · rw [if_pos hij] at e; exact (hxge g e).2.2
    · rw [if_neg hij] at e; exact h.ap j (by rw [List.length_set] at hj; exact hj) g e
/-- The order is appended to. -/
theorem OrdM.pushO (h : OrdM w bw bu N lo V wt ss R ov out) {nv : Value} {out' : List Int} (hg : V.grownBy V' ov.ownBlock)
    (hx : V'.ownsRow (bu + 2) 3 1 nv out'.length (intE.all out')) (hat : nv.ownBlock = ov.ownBlock ∨ ∃ g, nv.ownBlock = some g ∧ V.heap.size ≤ g) (hlo : ∀ g, V.heap.size ≤ g → g < V'.heap.size → g < lo ∨ lo + 7 ≤ g) :
    OrdM w bw bu N lo V' wt ss R nv out' := by
  have hwb := h.wb
  have hVs := h.be.size
  have hne : ∀ k, (∀ e : some k = ov.ownBlock, False) → k < V.heap.size → V'.heap[k]? = V.heap[k]? := fun k hk hl => hg.block k hl (fun e => hk e)
  have hlow : ∀ k, k < bu + 2 → k < V.heap.size → V'.heap[k]? = V.heap[k]? := fun k hk hl => hne k (fun e => by have := (h.ot.lt k e.symm).1; omega) hl
  have hxge : ∀ g, nv.ownBlock = some g → (g < lo ∨ lo + 7 ≤ g) ∧ ∀ j (hj : j < ss.length), ss[j].val.ownBlock ≠ some g := fun g e => by
    rcases hat with h1 | ⟨g', h1, h2⟩
    · rw [h1] at e
      exact ⟨h.ol g e, fun j hj e2 => h.ap j hj g e2 e⟩
    · have hgl := (hx.lt g e).2
      rw [h1] at e; cases e
      refine ⟨hlo _ h2 hgl, fun j hj e2 => ?_⟩
      have := (h.tb.lt hj e2).2; omega
  refine ⟨h.be.grown hg hVs (fun j e => by have := (h.ot.lt j e).1; omega), hwb, ?_, (hlow _ (by omega) h.w1.lt).trans h.w1, ?_, (hlow _ (by omega) h.u1.lt).trans h.u1, h.ge, hx, fun g e => (hxge g e).1, fun j hj g e e2 => (hxge g e2).2 j hj e⟩
  · exact own_upto h.w0 fun b e => by simp [Value.ownBlock] at e; subst e; exact hlow _ (by omega) (h.w0.lt _ rfl).2
  · refine ⟨own_upto h.tb.out fun b e => ?_, h.tb.len, fun i h1 h2 => own_upto (h.tb.row i h1 h2) fun b e => hne b (fun e2 => h.ap i h2 b e e2.symm) (h.tb.lt h2 e).2, h.tb.off, h.tb.apart⟩
    simp [Value.ownBlock] at e; subst e
    exact hlow _ (by omega) (h.tb.out.lt _ rfl).2
end
end Go.Proofs.Ytadmnlkgefbhcaa
