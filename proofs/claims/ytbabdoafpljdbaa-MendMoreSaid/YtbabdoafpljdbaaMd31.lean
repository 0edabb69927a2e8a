/- From a cell on there are columns exactly if it is an end. -/
import Derived.Test.YtbabdoafpljdbaaMd30
import Derived.Test.YtbabdoafpljdbaaMd28
import Derived.Test.YtbabdoafpljdbaaMd24
namespace Go.Proofs.Ytbabdoafpljdbaa
open Go.RowKit

def posR (row : List Int) : List Bool := row.map fun z => decide (0 < z)
def posL (W : List (List Int)) : List (List Bool) := W.map posR
theorem nsum_pos {r : Int} {o : List Int} {x : Int} (ho : ∀ z ∈ o, 0 ≤ z) : ∀ n, 0 ≤ nsum r o x n ∧ (0 < nsum r o x n ↔ ∃ k, k < n ∧ nearB x k r = true ∧ 0 < o.getD k 0)
  | 0 => by simp [nsum]
  | n + 1 => by
    have ih := nsum_pos ho n (r := r) (x := x)
    have hg : 0 ≤ o.getD n 0 := by
      rw [List.getD_eq_getElem?_getD]
      by_cases hn : n < o.length
      · rw [List.getElem?_eq_getElem hn]; exact ho _ (List.getElem_mem hn)
      · rw [List.getElem?_eq_none (by omega)]; exact Int.le_refl _
    rw [nsum]
    cases hb : nearB x n r
    · simp only [Bool.false_eq_true, if_false, Int.add_zero]
      refine ⟨ih.1, ih.2.trans ⟨fun ⟨k, h1, h2, h3⟩ => ⟨k, by omega, h2, h3⟩, fun ⟨k, h1, h2, h3⟩ => ?_⟩⟩
      by_cases e : k = n
      · subst e; rw [hb] at h2; cases h2
      · exact ⟨k, by omega, h2, h3⟩
    · simp only [if_true]
      refine ⟨by omega, ⟨fun h => ?_, fun ⟨k, h1, h2, h3⟩ => ?_⟩⟩
      · by_cases hz : 0 < o.getD n 0
        · exact ⟨n, by omega, hb, hz⟩
        · obtain ⟨k, h1, h2, h3⟩ := ih.2.1 (by omega)
          exact ⟨k, by omega, h2, h3⟩
      · by_cases e : k = n
        · subst e; omega
        · have := ih.2.2 ⟨k, by omega, h2, h3⟩
          omega
theorem okN_iff {o : List Bool} {r : Nat} {x : Nat} : okN o r x (2 * (r : Int) + 1).toNat = true ↔ ∃ k : Nat, nearB x k r = true ∧ o.getD k false = true := by
  unfold okN
  simp only [List.any_eq_true, List.mem_range, Bool.and_eq_true, decide_eq_true_eq, nearB, bw_iff]
  constructor
  · rintro ⟨i, h1, h2, h3⟩
    exact ⟨((x : Int) - r + i).toNat, by omega, h3⟩
  · rintro ⟨k, h1, h2⟩
    exact ⟨((k : Int) - x + r).toNat, by omega, by omega, by
      have e : ((x : Int) - r + (((k : Int) - x + r).toNat : Nat)).toNat = k := by omega
      rw [e]; exact h2⟩
theorem posR_at (row : List Int) (k : Nat) : (posR row).getD k false = decide (0 < row.getD k 0) := by
  unfold posR
  rw [List.getD_eq_getElem?_getD, List.getD_eq_getElem?_getD, List.getElem?_map]
  cases h : row[k]? with
  | none => simp
  | some a => simp
theorem endL_cons (r : Int) (row row2 : List Bool) (rest : List (List Bool)) : endL r (row :: row2 :: rest) = endRow r row ((endL r (row2 :: rest)).headD []) :: endL r (row2 :: rest) := by simp only [endL]
theorem wayL_nn (r : Int) : ∀ {R : List (List Bool)}, ∀ row ∈ wayL r R, ∀ z ∈ row, 0 ≤ z
  | [], _, h, _, _ => by simp [wayL] at h
  | a :: R, row, h2, z, hz => by
    have ih := wayL_nn r (R := R)
    simp only [wayL, List.mem_cons] at h2
    rcases h2 with e | h2
    · subst e
      obtain ⟨x, hx, rfl⟩ := List.getElem_of_mem hz
      rw [wayRow_len] at hx
      rw [wayRow_at hx]
      split
      · split
        · omega
        · rename_i o T e
          exact (nsum_pos (r := r) (x := x) (ih o (by rw [e]; simp)) o.length).1
      · omega
    · exact ih row h2 z hz
theorem pos_way (r : Nat) : ∀ (R : List (List Bool)), posL (wayL r R) = endL r R
  | [] => rfl
  | [row] => by
    simp only [wayL, endL, posL, List.map_cons, List.map_nil]
    congr 1
    apply List.ext_getElem
    · simp [posR, wayRow]
    · intro x h1 h2
      simp only [posR, List.getElem_map]
      rw [wayRow_at h2]
      cases row[x] <;> simp
  | row :: row2 :: rest => by
    have ih := pos_way r (row2 :: rest)
    rw [endL_cons, ← ih, wayL]
    show posR _ :: posL (wayL r (row2 :: rest)) = _
    congr 1
    obtain ⟨o, T, e⟩ : ∃ o T, wayL (r : Int) (row2 :: rest) = o :: T := ⟨_, _, rfl⟩
    rw [e]
    have ho : ∀ z ∈ o, 0 ≤ z := fun z hz => wayL_nn (r : Int) (R := row2 :: rest) o (by rw [e]; simp) z hz
    show posR (wayRow r row (o :: T)) = endRow r row (posR o)
    apply List.ext_getElem
    · simp [posR, wayRow, endRow]
    · intro x h1 h2
      have hx : x < row.length := by simpa [endRow] using h2
      simp only [posR, List.getElem_map]
      rw [wayRow_at hx]
      have he : (endRow (r : Int) row (posR o))[x]'h2 = (row.getD x false && okN (posR o) r x (2 * (r : Int) + 1).toNat) := by simp [endRow]
      show decide _ = (endRow (r : Int) row (posR o))[x]'h2
      rw [he, List.getD_eq_getElem?_getD, List.getElem?_eq_getElem hx, Option.getD_some]
      cases row[x]
      · simp
      · simp only [if_true, Bool.true_and]
        rw [Bool.eq_iff_iff, decide_eq_true_iff, okN_iff, (nsum_pos (r := (r : Int)) (x := x) ho o.length).2]
        constructor
        · rintro ⟨k, h3, h4, h5⟩
          exact ⟨k, h4, by rw [posR_at]; simpa using h5⟩
        · rintro ⟨k, h4, h5⟩
          rw [posR_at] at h5
          have h6 : 0 < o.getD k 0 := by simpa using h5
          refine ⟨k, ?_, h4, h6⟩
          apply Classical.byContradiction
          intro hn
          rw [List.getD_eq_getElem?_getD, List.getElem?_eq_none (by omega)] at h6
          simp at h6
/-- The least place where both are open, of the first n; -1: there is none. -/
def lowU (a b : List Bool) (n : Nat) : Int := match (List.range n).find? (bothB a b) with | some k => (k : Int) | none => -1
theorem lowU_zero (a b : List Bool) : lowU a b 0 = -1 := rfl
theorem lowU_succ (a b : List Bool) (n : Nat) : lowU a b (n + 1) = if lowU a b n < 0 then (if bothB a b n then (n : Int) else -1) else lowU a b n := by
  unfold lowU
  rw [List.range_succ, List.find?_append]
  cases h : (List.range n).find? (bothB a b) with
  | some k =>
    have : ¬ (k : Int) < 0 := by omega
    simp [this]
  | none =>
    simp only [Option.none_or, List.find?_cons, List.find?_nil]
    cases bothB a b n <;> simp
theorem lowU_low (a b : List Bool) : lowU a b a.length = match lowB a b with | some k => (k : Int) | none => -1 := rfl
theorem lowU_lt (a b : List Bool) : ∀ n, -1 ≤ lowU a b n ∧ lowU a b n < n
  | 0 => by rw [lowU_zero]; omega
  | n + 1 => by
    have ih := lowU_lt a b n
    rw [lowU_succ]
    split
    · split <;> omega
    · omega
end Go.Proofs.Ytbabdoafpljdbaa
