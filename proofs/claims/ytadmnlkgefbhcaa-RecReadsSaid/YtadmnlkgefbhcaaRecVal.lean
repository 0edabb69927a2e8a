/- Values and levels of a recurrence's elements: what they are. -/
import Derived.Test.YtadmnlkgefbhcaaRecFst
namespace Go.Proofs.Ytadmnlkgefbhcaa
open Go.RowKit

/-- What an operation makes of its arguments. -/
def applZ (op : Int) (l : List Int) : Int :=
  if op = 1 then l.getD 0 0 else if op = 2 then l.getD 0 0 + l.getD 1 0 else if op = 3 then l.getD 0 0 - l.getD 1 0 else if op = 4 then l.getD 0 0 * l.getD 1 0
  else if op = 5 then l.getD 0 0 + l.getD 1 0 * l.getD 2 0 else if op = 6 then max (l.getD 0 0) (l.getD 1 0) else min (l.getD 0 0) (l.getD 1 0)
def appl (op : Int) (l : List Int) : Int := applZ op l % 10007
theorem appl_bd (op : Int) (l : List Int) : 0 ≤ appl op l ∧ appl op l ≤ 10006 := by unfold appl; omega
def vat (K : List Vv) (v : Nat) : Vv := K.getD v ⟨⟨#[]⟩, 0, [], 0, 0, 0, 0⟩
/-- What an argument is worth. -/
def argV (K : List Vv) (P : List Pt) (g : Nat → Int) (p : Pt) (a : Ar) : Int := match argN P a p with
  | some u => g u
  | none => frst (vat K a.v.toNat) (ptP p a.p)
def vlR (K : List Vv) (P : List Pt) (k : Nat) (g : Nat → Int) : Int := appl (vOf K P k).op ((vOf K P k).args.map (argV K P g (pOf P k)))
theorem vlR_ext (K : List Vv) (P : List Pt) (k : Nat) (g g' : Nat → Int) (h : ∀ u ∈ useN K P k, g u = g' u) : vlR K P k g = vlR K P k g' := by
  unfold vlR
  congr 1
  refine List.map_congr_left fun a ha => ?_
  unfold argV
  cases e : argN P a (pOf P k) with
  | none => rfl
  | some u => exact h u (List.mem_filterMap.2 ⟨a, ha, e⟩)
/-- The values. -/
noncomputable def vlN (K : List Vv) (P : List Pt) : Nat → Int := rk (useN K P) 0 (vlR K P)
theorem vlN_eq {K : List Vv} {P : List Pt} {k : Nat} (h : Gd (useN K P) k) : vlN K P k = vlR K P k (vlN K P) := rk_eq (vlR_ext K P) h
theorem vlR_bd (K : List Vv) (P : List Pt) (k : Nat) (g : Nat → Int) : 0 ≤ vlR K P k g ∧ vlR K P k g ≤ 10006 := appl_bd _ _
noncomputable def lvN (K : List Vv) (P : List Pt) : Nat → Nat := lvl (useN K P)
/-- Whether all elements have levels. -/
def okN2 (K : List Vv) (P : List Pt) : Prop := ∀ k, k < K.length * P.length → Gd (useN K P) k
/-- A list for each variable. -/
def rowsN (m : Nat) (l : List Int) (v : Nat) : List (List Int) := (List.range v).map fun i => (l.drop (i * m)).take m
theorem rowsN_len (m : Nat) (l : List Int) (v : Nat) : (rowsN m l v).length = v := by simp [rowsN]
theorem rowsN_succ (m : Nat) (l : List Int) (v : Nat) : rowsN m l (v + 1) = rowsN m l v ++ [(l.drop (v * m)).take m] := by simp [rowsN, List.range_succ]
theorem rowsN_at {m : Nat} {l : List Int} {v i : Nat} (h : i < v) (h' : i < (rowsN m l v).length) : (rowsN m l v)[i] = (l.drop (i * m)).take m := by simp [rowsN]
noncomputable def lvsL (K : List Vv) (P : List Pt) : List Int := (List.range (K.length * P.length)).map fun k => ((lvN K P k : Nat) : Int)
noncomputable def vlsL (K : List Vv) (P : List Pt) : List Int := (List.range (K.length * P.length)).map (vlN K P)
theorem lvsL_len (K : List Vv) (P : List Pt) : (lvsL K P).length = K.length * P.length := by simp [lvsL]
theorem vlsL_len (K : List Vv) (P : List Pt) : (vlsL K P).length = K.length * P.length := by simp [vlsL]
/-- Lists that agree everywhere with what is computed. -/
theorem lvsL_of {K : List Vv} {P : List Pt} {L : List Int} (hl : L.length = K.length * P.length) (h : ∀ k, k < K.length * P.length → L.getD k 0 = ((lvN K P k : Nat) : Int)) : L = lvsL K P := by
  refine List.ext_getElem (by rw [hl, lvsL_len]) fun k h1 h2 => ?_
  have := h k (by omega)
  rw [List.getD_eq_getElem?_getD, List.getElem?_eq_getElem h1] at this
  simpa [lvsL] using this
theorem vlsL_of {K : List Vv} {P : List Pt} {L : List Int} (hl : L.length = K.length * P.length) (h : ∀ k, k < K.length * P.length → L.getD k 0 = vlN K P k) : L = vlsL K P := by
  refine List.ext_getElem (by rw [hl, vlsL_len]) fun k h1 h2 => ?_
  have := h k (by omega)
  rw [List.getD_eq_getElem?_getD, List.getElem?_eq_getElem h1] at this
  simpa [vlsL] using this
end Go.Proofs.Ytadmnlkgefbhcaa
