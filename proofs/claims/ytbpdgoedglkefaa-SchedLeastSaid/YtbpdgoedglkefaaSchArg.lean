/- Arguments of valid recurrences. -/
import Derived.Test.YtbpdgoedglkefaaB3
namespace Go.Proofs.Ytbpdgoedglkefaa
open Go.RowKit

theorem needs_le (op : Int) : needs op ≤ 3 := by unfold needs; (repeat' split) <;> omega
/-- What is known of a valid recurrence's arguments. -/
theorem rec_args {n : Int} {l : List Iq} {K : List Vv} (h : recB n l K = true) : ∀ v ∈ K, v.args.length ≤ 3 ∧ ∀ a ∈ v.args, bw 0 a.v (K.length - 1) = true := by
  intro v hv
  have h1 := h
  unfold recB at h1
  rw [Bool.and_eq_true, Bool.and_eq_true, Bool.and_eq_true, Bool.and_eq_true] at h1
  have h2 := List.all_eq_true.1 h1.2.2.2.1 v hv
  simp only [varB, Bool.and_eq_true, decide_eq_true_eq] at h2
  refine ⟨by have := needs_le v.op; omega, fun a ha => ?_⟩
  have h3 := List.all_eq_true.1 h2.2.2.2.2 a ha
  simp only [argC, Bool.and_eq_true] at h3
  exact h3.2
end Go.Proofs.Ytbpdgoedglkefaa
