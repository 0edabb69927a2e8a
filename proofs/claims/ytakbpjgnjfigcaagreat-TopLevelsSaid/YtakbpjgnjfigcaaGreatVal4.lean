/- The values of the elements: the reference. -/
import Derived.Test.YtakbpjgnjfigcaaGreatC4
import Derived.Test.YtakbpjgnjfigcaaGreatRLev
namespace Go.Proofs.YtakbpjgnjfigcaaGreat
open Go.RowKit Go.Maps

attribute [local go_sem] Oper.semAt_some

/-- The first i elements, by their levels. -/
def lvT (f : Nat → Nat) (i M : Nat) : List (List Int) := (List.range M).map fun q => toI ((List.range i).filter fun k => decide (f k = q))
theorem lvT_len (f : Nat → Nat) (i M : Nat) : (lvT f i M).length = M := by simp [lvT]
theorem lvT_at {f : Nat → Nat} {i M q : Nat} (h : q < (lvT f i M).length) : (lvT f i M)[q] = toI ((List.range i).filter fun k => decide (f k = q)) := by simp [lvT]
theorem lvT_zero (f : Nat → Nat) (M : Nat) : lvT f 0 M = List.replicate M [] := by
  refine List.ext_getElem (by simp [lvT]) fun q h1 h2 => ?_
  simp [lvT, toI]
theorem lvT_set {f : Nat → Nat} {i M : Nat} (h : f i < (lvT f i M).length) : (lvT f i M).set (f i) ((lvT f i M)[f i] ++ [(i : Int)]) = lvT f (i + 1) M := by
  refine List.ext_getElem (by simp [lvT]) fun q h1 h2 => ?_
  rw [List.getElem_set]
  by_cases e : f i = q
  · subst e
    rw [if_pos rfl, lvT_at, lvT_at, List.range_succ, List.filter_append]
    simp [toI]
  · rw [if_neg e, lvT_at, lvT_at, List.range_succ, List.filter_append]
    simp [e, toI]
theorem lvT_row {f : Nat → Nat} {i M q : Nat} (h : q < (lvT f i M).length) : (lvT f i M)[q].length ≤ i := by
  rw [lvT_at, toI_len]
  have := List.length_filter_le (fun k => decide (f k = q)) (List.range i)
  simpa using this
section
variable {w : World} {bl N : Nat} {V V' : World} {L : List Int}
theorem LsV.grown (h : LsV w bl N V L) {o : Option Nat} (hg : V.grownBy V' o) (ho : ∀ g, o = some g → g ≠ bl ∧ w.heap.size ≤ g) : LsV w bl N V' L :=
  ⟨h.be.grown hg h.be.size (fun j e => (ho j e).2), h.wb, own_upto h.l0 fun b e => hg.block b (h.l0.lt b e).2 fun e2 => by
    have h3 := (ho b e2.symm).1
    simp only [Value.ownBlock, Option.some.injEq] at e
    exact h3 e.symm⟩
theorem LsV.other (h : LsV w bl N V L) {b : Nat} (hb : b ≠ bl) (hw : w.heap.size ≤ b) (o : Nat) (x : Value) : LsV w bl N (V.setCell ⟨b, o, none⟩ x) L :=
  ⟨h.be.setCell (by exact hw) _, h.wb, own_set (m := 0) h.l0 (by intro e; simp only [Value.ownBlock, Option.some.injEq] at e; exact hb e.symm) _ _⟩
end
/-- The values and the table of the reference, side by side. -/
structure RvM (w : World) (bt N M : Nat) (ss : List Sv) (T : List (List Int)) (V : World) (L : List Int) : Prop where
  ls : LsV w w.heap.size N V L
  tb : Tbl intE 31 3 V bt (.slice (some ⟨bt, 0, none⟩) M M) ss T
  lt : w.heap.size < bt
section
variable {w : World} {bt N M : Nat} {ss : List Sv} {T : List (List Int)} {V V' : World} {L : List Int}
theorem RvM.up (hb : Below V.heap.size V V') (h : RvM w bt N M ss T V L) : RvM w bt N M ss T V' L := ⟨LsV.up hb h.ls, Tbl.up hb h.tb, h.lt⟩
instance : UpF V V' (RvM w bt N M ss T V L) (RvM w bt N M ss T V' L) := ⟨fun h c => RvM.up h c⟩
theorem RvM.set (h : RvM w bt N M ss T V L) (k : Nat) (x : Int) : RvM w bt N M ss T (V.setCell ⟨w.heap.size, k, none⟩ (.int .i64 x)) (L.set k x) :=
  ⟨h.ls.set k x, h.tb.upto fun b h1 _ => Below.heap_setCell _ _ _ _ (by have := h.lt; show b ≠ w.heap.size; omega), h.lt⟩
/-- A number in a row of the table. -/
theorem RvM.at (h : RvM w bt N M ss T V L) {q : Nat} (hq : q < T.length) : ∃ sa ca, V.cell? ⟨bt, q, none⟩ = some (.slice sa T[q].length ca) ∧ SlS intE V sa T[q] := by
  obtain ⟨b', e', hb', f0, hxs, x0, hv⟩ := h.tb.head hq
  cases e'
  have hrow := h.tb.row _ hq hxs
  rw [hv] at hrow
  exact ⟨_, _, x0, SlS.of_own (E := intE) hrow⟩
end
section
variable {g : Nat} {n : Int} {s : Option Addr} {cap : Nat} {l : List Iq} {s2 : Option Addr} {cq : Nat} {K : List Vv} {sp : Option Addr} {cp mb : Nat} {P : List Pt}
end
end Go.Proofs.YtakbpjgnjfigcaaGreat
