/- Recurrences: valid, one variable at a time; and the map of names. -/
import Derived.Test.YtbpdgoedglkefaaRecSpec
import Derived.Test.YtbpdgoedglkefaaMap
import Derived.StringKeys
namespace Go.Proofs.Ytbpdgoedglkefaa
open Go.RowKit Go.Maps

theorem onceB_pair : ∀ K : List Vv, onceB K = true ↔ K.Pairwise (fun v u => ¬ u.name = v.name)
  | [] => by simp [onceB]
  | v :: K => by simp [onceB, onceB_pair K, List.pairwise_cons, and_comm]
/-- Whether one of the first j bears this name. -/
def hasN (K : List Vv) (j : Nat) (s : ByteArray) : Bool := (K.take j).any fun u => decide (u.name = s)
/-- What is wrong with variable j. -/
def badV (n : Int) (K : List Vv) (j : Nat) : Bool :=
  match K[j]? with
  | some v => !varB K.length n v || hasN K j v.name
  | none => false
theorem badV_at {n : Int} {K : List Vv} {j : Nat} (h : j < K.length) : badV n K j = (!varB K.length n K[j] || hasN K j K[j].name) := by
  unfold badV; rw [List.getElem?_eq_getElem h]
def recS (n : Int) (K : List Vv) : Bool := K.all (varB K.length n) && onceB K
theorem mem_names {K : List Vv} {j : Nat} {s : ByteArray} : hasN K j s = true ↔ ∃ i, ∃ (h : i < K.length), i < j ∧ K[i].name = s := by
  unfold hasN
  rw [List.any_eq_true]
  constructor
  · rintro ⟨v, hv, h⟩
    obtain ⟨i, hi, rfl⟩ := List.getElem_of_mem hv
    have h1 : i < j ∧ i < K.length := by rw [List.length_take] at hi; omega
    exact ⟨i, h1.2, h1.1, by rw [List.getElem_take] at h; exact of_decide_eq_true h⟩
  · rintro ⟨i, h, hij, rfl⟩
    exact ⟨K[i], List.mem_take_iff_getElem.2 ⟨i, by omega, rfl⟩, decide_eq_true rfl⟩
theorem recS_false {n : Int} {K : List Vv} {j : Nat} (h : j < K.length) (hb : badV n K j = true) : recS n K = false := by
  rw [badV_at h, Bool.or_eq_true] at hb
  cases hr : recS n K
  · rfl
  · unfold recS at hr
    rw [Bool.and_eq_true, List.all_eq_true, onceB_pair] at hr
    rcases hb with hb | hb
    · have := hr.1 _ (List.getElem_mem h)
      rw [this] at hb; cases hb
    · obtain ⟨i, hi, hij, e⟩ := mem_names.1 hb
      exact absurd e.symm (List.pairwise_iff_getElem.1 hr.2 i j hi h hij)
theorem recS_true {n : Int} {K : List Vv} (hb : ∀ j, j < K.length → badV n K j = false) : recS n K = true := by
  unfold recS
  rw [Bool.and_eq_true, List.all_eq_true, onceB_pair]
  constructor
  · intro v hv
    obtain ⟨i, hi, rfl⟩ := List.getElem_of_mem hv
    have h1 := hb i hi
    rw [badV_at hi, Bool.or_eq_false_iff, Bool.not_eq_false'] at h1
    exact h1.1
  · rw [List.pairwise_iff_getElem]
    intro i j hi hj hij e
    have h1 := hb j hj
    rw [badV_at hj, Bool.or_eq_false_iff] at h1
    rw [mem_names.2 ⟨i, hi, hij, e.symm⟩] at h1; cases h1.2
theorem recB_eq (n : Int) (l : List Iq) (K : List Vv) : recB n l K = (validB n l && (decide ((pts n l).length ≤ 1000) && (bw 1 K.length 4 && recS n K))) := rfl

/-! ### The map of names -/
def seenN (K : List Vv) : Nat → DataW Unit
  | 0 => .map []
  | k + 1 => (seenN K k).put (.string (K.getD k ⟨⟨#[]⟩, 0, [], 0, 0, 0, 0⟩).name.data.toList) (.lit (.bool true))
theorem seenN_isMap (K : List Vv) : ∀ k, IsMap (seenN K k)
  | 0 => isMap_empty
  | k + 1 => (seenN_isMap K k).put _ _
theorem name_inj {a b : ByteArray} (h : Lit.string a.data.toList = Lit.string b.data.toList) : a = b := by
  injection h with h
  rcases a with ⟨⟨a⟩⟩; rcases b with ⟨⟨b⟩⟩
  simp at h; subst h; rfl
theorem hasN_succ {K : List Vv} {k : Nat} (hk : k < K.length) (s : ByteArray) : hasN K (k + 1) s = (hasN K k s || decide (K[k].name = s)) := by
  unfold hasN
  rw [List.take_succ_eq_append_getElem hk, List.any_append]; simp
theorem seenN_at {K : List Vv} (s : ByteArray) : ∀ {k : Nat}, k ≤ K.length →
    (seenN K k).atKey (.string s.data.toList) (.lit (.bool false)) = .lit (.bool (hasN K k s))
  | 0, _ => by simp [seenN, hasN]; rfl
  | k + 1, hk => by
    have ih := seenN_at (K := K) s (k := k) (by omega)
    have hk' : k < K.length := by omega
    have e : K.getD k ⟨⟨#[]⟩, 0, [], 0, 0, 0, 0⟩ = K[k] := by simp [List.getElem?_eq_getElem hk']
    rw [seenN, e, hasN_succ hk']
    by_cases h : K[k].name = s
    · subst h
      rw [atKey_put_same (seenN_isMap K k) (k := .string K[k].name.data.toList) trivial]; simp
    · rw [atKey_put_other (fun e => h (name_inj e).symm), ih]; simp [h]
theorem seenN_put {K : List Vv} {k : Nat} (hk : k < K.length) : seenN K (k + 1) = (seenN K k).put (.string K[k].name.data.toList) (.lit (.bool true)) := by
  simp [seenN, List.getElem?_eq_getElem hk]
end Go.Proofs.Ytbpdgoedglkefaa
