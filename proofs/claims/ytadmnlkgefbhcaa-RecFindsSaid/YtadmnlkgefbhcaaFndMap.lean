/- The map of the places in a walk. -/
import Derived.Test.YtadmnlkgefbhcaaFndLaw
import Derived.Test.YtadmnlkgefbhcaaB7
namespace Go.Proofs.Ytadmnlkgefbhcaa
open Go.RowKit Go.Maps

theorem key_intW : Keyed Try.prog 3 := int_keyed Try.underlying3
def natK (k : Nat) : Lit := .int .i64 (k : Int)
theorem key_of_nat {k : Nat} (h : k ≤ 100000) : keyOf Try.prog 3 (.int .i64 (k : Int)) = some (natK k) := keyOf_int_mk Try.underlying3 (wf_64 ⟨by omega, by omega⟩)
theorem natK_inj {a b : Nat} (h : natK a = natK b) : a = b := by
  unfold natK at h; injection h with _ h; omega
/-- Where a number stands, in a list that is written from its end. -/
def wkI : List Nat → Nat → Option Nat
  | [], _ => none
  | b :: R, a => if b = a then some R.length else wkI R a
theorem wkI_some {a f : Nat} : ∀ {R : List Nat}, wkI R a = some f → ∃ h : f < R.reverse.length, R.reverse[f] = a
  | [], h => by cases h
  | b :: R, h => by
    unfold wkI at h
    split at h
    · rename_i e
      obtain rfl := Option.some.inj h
      exact ⟨by simp, by simp [e]⟩
    · obtain ⟨h1, h2⟩ := wkI_some h
      rw [List.length_reverse] at h1
      refine ⟨by simp; omega, ?_⟩
      simp only [List.reverse_cons]
      rw [List.getElem_append_left (by simpa using h1)]
      exact h2
theorem wkI_none {a : Nat} : ∀ {R : List Nat}, wkI R a = none → a ∉ R
  | [], _ => by simp
  | b :: R, h => by
    unfold wkI at h
    split at h
    · cases h
    · rename_i e
      intro hm
      rcases List.mem_cons.1 hm with rfl | hm
      · exact e rfl
      · exact wkI_none h hm
def wkD : List Nat → DataW Unit
  | [] => .map []
  | a :: R => (wkD R).put (natK a) (.lit (.int .i64 (R.length : Int)))
theorem wkD_isMap : ∀ R, IsMap (wkD R)
  | [] => isMap_empty
  | _ :: R => (wkD_isMap R).put _ _
theorem wkD_at {a : Nat} : ∀ {R : List Nat}, (wkD R).atKey (natK a) (.lit (.int .i64 0)) = .lit (.int .i64 (((wkI R a).getD 0 : Nat) : Int)) ∧ has (wkD R) (natK a) = (wkI R a).isSome
  | [] => ⟨rfl, rfl⟩
  | b :: R => by
    have ih := wkD_at (a := a) (R := R)
    unfold wkD wkI
    by_cases h : b = a
    · subst h
      rw [atKey_put_same (wkD_isMap R) (k := natK b) trivial, has_put_same (wkD_isMap R) (k := natK b) trivial, if_pos rfl]
      exact ⟨rfl, rfl⟩
    · have hne : natK a ≠ natK b := fun e => h (natK_inj e).symm
      rw [atKey_put_other hne, has_put_other hne, if_neg h]
      exact ih
theorem wk_look {V : World} {mb c : Nat} {R : List Nat} (h : V.ownsMap Try.prog 3 (plainElem Try.prog 3) mb c (wkD R)) {a : Nat} (ha : a ≤ 100000) :
    (Instr.lookup 116 (.map (some mb)) (.int .i64 (a : Int)) true).run Try.prog V = .ok (.tuple #[.int .i64 (((wkI R a).getD 0 : Nat) : Int), .bool (wkI R a).isSome]) V := by
  have hat := wkD_at (a := a) (R := R)
  have hz : (zeroValue 3).run Try.prog V = .ok (.int .i64 0) V := by kernel_rfl
  have hzd := plainElem_int (H := Unit) (P := Try.prog) Try.underlying3 (show (Lit.int .i64 0).wf = true by decide)
  obtain ⟨v, ps, hrun, hv⟩ := h.look_ok key_intW Try.underlying116 hz hzd (key_of_nat ha)
  obtain ⟨c, rfl, hc, -⟩ := plainElem_int_inv Try.underlying3 hv
  rw [hat.1] at hc
  simp only [Prod.mk.injEq, DataW.lit.injEq, Lit.int.injEq, true_and] at hc
  rw [hat.2] at hrun
  rw [show c = _ from hc.1.symm] at hrun
  exact hrun
end Go.Proofs.Ytadmnlkgefbhcaa
