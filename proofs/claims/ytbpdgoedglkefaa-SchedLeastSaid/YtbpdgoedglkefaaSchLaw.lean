/- The least and the greatest of numbers: what they are. -/
import Derived.Test.YtbpdgoedglkefaaB5
namespace Go.Proofs.Ytbpdgoedglkefaa

theorem loL_cons (a : Int) : ∀ l : List Int, (l.foldl min a = a ∨ l.foldl min a ∈ l) ∧ l.foldl min a ≤ a ∧ ∀ y ∈ l, l.foldl min a ≤ y
  | [] => by simp
  | b :: l => by
    have h := loL_cons (min a b) l
    simp only [List.foldl_cons, List.mem_cons]
    refine ⟨?_, by omega, fun y hy => ?_⟩
    · rcases h.1 with h1 | h1
      · rw [h1]; by_cases hab : a ≤ b
        · exact .inl (by omega)
        · exact .inr (.inl (by omega))
      · exact .inr (.inr h1)
    · rcases hy with rfl | hy
      · omega
      · exact h.2.2 y hy
theorem hiL_cons (a : Int) : ∀ l : List Int, (l.foldl max a = a ∨ l.foldl max a ∈ l) ∧ a ≤ l.foldl max a ∧ ∀ y ∈ l, y ≤ l.foldl max a
  | [] => by simp
  | b :: l => by
    have h := hiL_cons (max a b) l
    simp only [List.foldl_cons, List.mem_cons]
    refine ⟨?_, by omega, fun y hy => ?_⟩
    · rcases h.1 with h1 | h1
      · rw [h1]; by_cases hab : b ≤ a
        · exact .inl (by omega)
        · exact .inr (.inl (by omega))
      · exact .inr (.inr h1)
    · rcases hy with rfl | hy
      · omega
      · exact h.2.2 y hy
theorem loL_spec {l : List Int} (h : l ≠ []) : loL l ∈ l ∧ ∀ y ∈ l, loL l ≤ y := by
  cases l with
  | nil => exact absurd rfl h
  | cons a l =>
    have h1 := loL_cons a l
    simp only [loL, List.headD_cons, List.foldl_cons, Int.min_self, List.mem_cons]
    exact ⟨h1.1, fun y hy => by rcases hy with rfl | hy; exact h1.2.1; exact h1.2.2 y hy⟩
theorem hiL_spec {l : List Int} (h : l ≠ []) : hiL l ∈ l ∧ ∀ y ∈ l, y ≤ hiL l := by
  cases l with
  | nil => exact absurd rfl h
  | cons a l =>
    have h1 := hiL_cons a l
    simp only [hiL, List.headD_cons, List.foldl_cons, Int.max_self, List.mem_cons]
    exact ⟨h1.1, fun y hy => by rcases hy with rfl | hy; exact h1.2.1; exact h1.2.2 y hy⟩
end Go.Proofs.Ytbpdgoedglkefaa
