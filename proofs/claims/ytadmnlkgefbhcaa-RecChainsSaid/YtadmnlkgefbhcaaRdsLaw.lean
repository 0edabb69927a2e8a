/- How often arguments are read: what it is. -/
import Derived.Test.YtadmnlkgefbhcaaB7
namespace Go.Proofs.Ytadmnlkgefbhcaa
open Go.RowKit

/-- At how many of the first m points an argument is an element. -/
def rdN (P : List Pt) (a : Ar) (m : Nat) : Nat := ((P.take m).filter fun p => (pix P (ptP p a.p)).isSome).length
theorem rdN_zero (P : List Pt) (a : Ar) : rdN P a 0 = 0 := by simp [rdN]
theorem rdN_succ {P : List Pt} {a : Ar} {m : Nat} (h : m < P.length) : rdN P a (m + 1) = rdN P a m + (if (pix P (ptP P[m] a.p)).isSome = true then 1 else 0) := by
  unfold rdN
  rw [List.take_succ_eq_append_getElem h, List.filter_append, List.length_append]
  congr 1
  simp only [List.filter_cons, List.filter_nil]
  split <;> rfl
theorem rdN_le (P : List Pt) (a : Ar) (m : Nat) : rdN P a m ≤ P.length := by
  unfold rdN
  refine Nat.le_trans (List.length_filter_le _ _) ?_
  rw [List.length_take]; omega
/-- The reads of all arguments. -/
def rdT (K : List Vv) (P : List Pt) : List (List Int) := K.map fun v => v.args.map fun a => ((rdN P a P.length : Nat) : Int)
theorem rdT_len (K : List Vv) (P : List Pt) : (rdT K P).length = K.length := by simp [rdT]
theorem rdT_row {K : List Vv} {P : List Pt} {k : Nat} (hk : k < K.length) (h : k < (rdT K P).length) : (rdT K P)[k] = K[k].args.map fun a => ((rdN P a P.length : Nat) : Int) := by simp [rdT]
theorem rdT_bd {K : List Vv} {P : List Pt} (hK : ∀ v ∈ K, v.args.length ≤ 3) : ∀ r ∈ rdT K P, r.length ≤ 9223372036854775807 := by
  intro r hr
  obtain ⟨v, hv, rfl⟩ := List.mem_map.1 hr
  have := hK v hv
  simp; omega
end Go.Proofs.Ytadmnlkgefbhcaa
