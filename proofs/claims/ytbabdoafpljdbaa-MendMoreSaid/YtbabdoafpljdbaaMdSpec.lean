/- What the functions of layer 7 compute: plain functions on lists and numbers. -/
import Derived.Test.YtbabdoafpljdbaaInn
import Derived.Test.YtbabdoafpljdbaaPolySpec
namespace Go.Proofs.Ytbabdoafpljdbaa
open Go.RowKit

/-! ### Cells and grids -/
structure Cel where
  x : Int
  y : Int
deriving DecidableEq, Inhabited
def Cel.cells (c : Cel) : List Value := [.int .i64 c.x, .int .i64 c.y]
def celE : Elt Cel := ⟨2, Cel.cells, by decide, fun _ => rfl, fun _ u h => by simp [Cel.cells] at h; rcases h with rfl | rfl <;> rfl⟩
theorem SlS.cel_at {w : World} {s : Option Addr} {l : List Cel} (c : SlS celE w s l) {i : Nat} (h : i < l.length) :
    ∃ b off, s = some ⟨b, off, none⟩ ∧ b < w.heap.size ∧ w.cell? ⟨b, off + i * 2, none⟩ = some (.int .i64 l[i].x) ∧ w.cell? ⟨b, off + i * 2 + 1, none⟩ = some (.int .i64 l[i].y) := by
  obtain ⟨b, off, e, hb, hc⟩ := c.at h
  have h0 := hc 0 _ rfl
  have h1 := hc 1 _ rfl
  simp only [celE, Nat.add_zero] at h0 h1
  exact ⟨b, off, e, hb, h0, h1⟩
def onB (W H : Int) (c : Cel) : Bool := bw 0 c.x (W - 1) && bw 0 c.y (H - 1)
/-- A grid is valid. -/
def gvB (W H : Int) (F : List Cel) : Bool := bw 1 W 12 && bw 1 H 8 && decide (F.length ≤ 96) && F.all (onB W H)
theorem gv_facts {W H : Int} {F : List Cel} (h : gvB W H F = true) : (1 ≤ W ∧ W ≤ 12) ∧ (1 ≤ H ∧ H ≤ 8) ∧ F.length ≤ 96 ∧ ∀ c ∈ F, (0 ≤ c.x ∧ c.x ≤ W - 1) ∧ 0 ≤ c.y ∧ c.y ≤ H - 1 := by
  simp only [gvB, Bool.and_eq_true, decide_eq_true_eq, List.all_eq_true, onB, bw_iff] at h
  obtain ⟨⟨⟨h1, h2⟩, h3⟩, h4⟩ := h
  exact ⟨h1, h2, h3, h4⟩
/-- Which cells live, row by row. -/
def fld (w h : Nat) (F : List Cel) : List (List Bool) := (List.range h).map fun (y : Nat) => (List.range w).map fun (x : Nat) => !decide ((⟨x, y⟩ : Cel) ∈ F)
theorem fld_len (w h : Nat) (F : List Cel) : (fld w h F).length = h := by simp [fld]
theorem fld_row {w h : Nat} {F : List Cel} {y : Nat} (hy : y < h) : (fld w h F)[y]'(by rw [fld_len]; exact hy) = (List.range w).map fun (x : Nat) => !decide ((⟨x, y⟩ : Cel) ∈ F) := by simp [fld]
theorem fld_nil (w h : Nat) : fld w h [] = List.replicate h (List.replicate w true) := by
  apply List.ext_getElem
  · simp [fld]
  · intro y h1 h2
    rw [fld_len] at h1
    rw [fld_row h1]
    apply List.ext_getElem <;> simp
theorem fld_snoc {w h : Nat} {F : List Cel} {x y : Nat} (hx : x < w) (hy : y < h) : fld w h (F ++ [⟨x, y⟩]) = (fld w h F).set y (((fld w h F)[y]'(by rw [fld_len]; exact hy)).set x false) := by
  apply List.ext_getElem
  · simp [fld]
  · intro j h1 h2
    rw [fld_len] at h1
    rw [fld_row h1, List.getElem_set]
    by_cases hj : y = j
    · subst hj
      rw [if_pos rfl, fld_row hy]
      apply List.ext_getElem
      · simp
      · intro i h3 h4
        simp only [List.getElem_map, List.getElem_range, List.getElem_set, List.mem_append, List.mem_singleton, Cel.mk.injEq]
        by_cases hi : x = i
        · subst hi; simp
        · rw [if_neg hi]
          have hne : ¬ (i : Int) = (x : Int) := by omega
          simp [hne]
    · rw [if_neg hj, fld_row h1]
      apply List.map_congr_left
      intro i _
      have : ¬ ((i : Int) = (x : Int) ∧ (j : Int) = (y : Int)) := by omega
      simp [this]

/-! ### Columns -/
def nearB (a b r : Int) : Bool := bw (-r) (a - b) r
def cellR (R : List (List Bool)) (y : Nat) (x : Int) : Bool := decide (0 ≤ x) && (R.getD y []).getD x.toNat false
/-- A list is a column. -/
def colAt (R : List (List Bool)) (r : Int) (c : List Int) (y : Nat) : Bool := cellR R y (c.getD y 0) && (decide (y = 0) || nearB (c.getD y 0) (c.getD (y - 1) 0) r)
def isColB (R : List (List Bool)) (r : Int) (c : List Int) : Bool := decide (c.length = R.length) && (List.range c.length).all (colAt R r c)
/-- Of the first n places from x - r on, one is open. -/
def okN (o : List Bool) (r x : Int) (n : Nat) : Bool := (List.range n).any fun (i : Nat) => decide (0 ≤ x - r + i) && o.getD (x - r + i).toNat false
theorem okN_succ (o : List Bool) (r x : Int) (n : Nat) : okN o r x (n + 1) = (okN o r x n || (decide (0 ≤ x - r + n) && o.getD (x - r + n).toNat false)) := by
  unfold okN; rw [List.range_succ, List.any_append]; simp
/-- The cells of a row from which a column can go on. -/
def endRow (r : Int) (row o : List Bool) : List Bool := (List.range row.length).map fun (x : Nat) => row.getD x false && okN o r x (2 * r + 1).toNat
/-- The cells from which a column can go on to the last row. -/
def endL (r : Int) : List (List Bool) → List (List Bool)
  | [] => []
  | [row] => [row]
  | row :: row2 :: rest => endRow r row ((endL r (row2 :: rest)).headD []) :: endL r (row2 :: rest)
theorem endL_len (r : Int) : ∀ R, (endL r R).length = R.length
  | [] => rfl
  | [_] => rfl
  | _ :: row2 :: rest => by
    have := endL_len r (row2 :: rest)
    simp only [endL, List.length_cons] at this ⊢
    omega
/-- The least place where two rows are both open. -/
def lowB (a b : List Bool) : Option Nat := (List.range a.length).find? fun (x : Nat) => a.getD x false && b.getD x false
def lowL : List (List Bool) → List (List Bool) → Option (List Int)
  | [], _ => some []
  | a :: A, B => match lowB a (B.headD []) with
    | none => none
    | some x => match lowL A B.tail with
      | none => none
      | some l => some ((x : Int) :: l)
def leftL (r : Int) (R : List (List Bool)) : Option (List Int) := lowL (endL r R) (endL r R.reverse).reverse
/-- What lies on a column, or to its left, is taken away. -/
def cutL : List (List Bool) → List Int → List (List Bool)
  | [], _ => []
  | row :: R, [] => row :: R
  | row :: R, x :: c => ((List.replicate (x + 1).toNat false ++ row.drop (x + 1).toNat).take row.length) :: cutL R c
/-- The columns from the left, n at most. -/
def colsN (r : Int) : Nat → List (List Bool) → List (List Int)
  | 0, _ => []
  | n + 1, R => match leftL r R with
    | none => []
    | some c => c :: colsN r n (cutL R c)
end Go.Proofs.Ytbabdoafpljdbaa
