/- Timetables: the reference. -/
import Derived.Test.YtgeoehokojijdaaMix23
import Derived.Test.YtgeoehokojijdaaMix6
import Derived.Test.YtgeoehokojijdaaMix9
namespace Go.Proofs.Ytgeoehokojijdaa
open Go.RowKit

theorem flen_cons (f : Clm → Bool) (x : Clm) (l : List Clm) : ((x :: l).filter f).length = (l.filter f).length + (if f x then 1 else 0) := by cases h : f x <;> simp [h]
def cq (l : List Clm) (p S : Int) (q : Nat) (t : Int) : Nat := (l.filter fun c => decide ((0 ≤ t - S - c.time ∧ (t - S - c.time) % p = 0) ∧ t - S - c.time < q * p)).length
def atC (l : List Clm) (a t : Int) : Nat := (l.filter fun c => decide (a + c.time = t)).length
theorem cq_zero (l : List Clm) (p S t : Int) : cq l p S 0 t = 0 := by
  unfold cq
  rw [List.length_eq_zero_iff, List.filter_eq_nil_iff]
  intro c _ h
  rw [decide_eq_true_iff] at h
  simp at h; omega
theorem cq_succ (l : List Clm) (p S t : Int) (q : Nat) (hp : 1 ≤ p) : cq l p S (q + 1) t = cq l p S q t + atC l (S + q * p) t := by
  induction l with
  | nil => rfl
  | cons x l ih =>
    unfold cq atC at ih ⊢
    rw [flen_cons, flen_cons, flen_cons, ih]
    obtain ⟨D, hD⟩ : ∃ D, t - S - x.time = D := ⟨_, rfl⟩
    obtain ⟨Q, hQ⟩ : ∃ Q, (q : Int) * p = Q := ⟨_, rfl⟩
    have hQ1 : ((q + 1 : Nat) : Int) * p = Q + p := by rw [← hQ, Int.natCast_add, Int.add_mul]; simp
    have hQ0 : 0 ≤ Q := by rw [← hQ]; exact Int.mul_nonneg (by omega) (by omega)
    have hQm : Q % p = 0 := by rw [← hQ]; exact Int.mul_emod_left _ _
    have hin : D % p = 0 → Q ≤ D → D < Q + p → D = Q := fun h1 h2 h3 => by
      have h4 : (D - Q) % p = 0 := by rw [Int.sub_emod, h1, hQm]; simp
      rw [Int.emod_eq_of_lt (by omega) (by omega)] at h4
      omega
    rw [hQ1, hQ, hD]
    have key : (if decide ((0 ≤ D ∧ D % p = 0) ∧ D < Q + p) = true then (1 : Nat) else 0) = (if decide ((0 ≤ D ∧ D % p = 0) ∧ D < Q) = true then 1 else 0) + (if decide (S + Q + x.time = t) = true then 1 else 0) := by
      by_cases h2 : S + Q + x.time = t
      · have e : D = Q := by omega
        rw [decide_eq_true (show (0 ≤ D ∧ D % p = 0) ∧ D < Q + p from ⟨⟨by omega, by rw [e]; exact hQm⟩, by omega⟩), decide_eq_false (show ¬ ((0 ≤ D ∧ D % p = 0) ∧ D < Q) from fun h => by omega), decide_eq_true h2]; rfl
      · by_cases h3 : 0 ≤ D ∧ D % p = 0
        · have e : D < Q + p ↔ D < Q := ⟨fun h => by
            rcases Int.lt_or_le D Q with h5 | h5
            · exact h5
            · have := hin h3.2 h5 h; omega, fun h => by omega⟩
          simp [h2, h3, e]
        · simp [h2, h3]
    rw [key]; omega
theorem cq_full (l : List Clm) (p S t : Int) (q : Nat) (hl : ∀ c ∈ l, 0 ≤ c.time) (h : t < S + q * p) : cq l p S q t = cntT l p S t := by
  unfold cq cntT
  congr 1
  refine List.filter_congr fun c hc => ?_
  have h0 := hl c hc
  obtain ⟨Q, hQ⟩ : ∃ Q, (q : Int) * p = Q := ⟨_, rfl⟩
  rw [hQ] at h ⊢
  have e : t - S - c.time < Q := by omega
  unfold hitT
  simp [e]
theorem atC_take (l : List Clm) (a t : Int) {i : Nat} (hi : i < l.length) : atC (l.take (i + 1)) a t = atC (l.take i) a t + (if a + l[i].time = t then 1 else 0) := by
  unfold atC
  rw [List.take_succ_eq_append_getElem hi, List.filter_append, List.length_append]
  congr 1
  by_cases h : a + l[i].time = t <;> simp [h]
def herA (T : Nat) (f : Nat → Nat) : Array Value := arrA T fun t => .int .i64 (f t : Nat)
def fH (l : List Clm) (p S : Int) (q : Nat) (a : Int) (j : Nat) (t : Nat) : Nat := cq l p S q t + atC (l.take j) a t
def fC (l : List Clm) (p S : Int) (t : Nat) : Nat := cntT l p S t
theorem her_at {T : Nat} {f : Nat → Nat} {t : Nat} (h : t < T) : (herA T f)[t]? = some (.int .i64 (f t : Nat)) := arrA_at _ h
theorem her_congr {T : Nat} {f g : Nat → Nat} (h : ∀ i, i < T → f i = g i) : herA T f = herA T g := arrA_congr fun i hi => by rw [h i hi]
theorem her_zero (l : List Clm) (p S a : Int) (T : Nat) : intsA (List.replicate T 0) = herA T (fH l p S 0 a 0) := by
  apply Array.ext
  · simp [intsA, herA, arrA]
  · intro i h1 h2
    simp [intsA, herA, arrA, fH, cq_zero, atC]
theorem her_set {l : List Clm} (p S : Int) (q : Nat) (a : Int) (T : Nat) {j : Nat} (hj : j < l.length) {y : Nat} (hy : a + l[j].time = y) :
    (herA T (fH l p S q a j)).setIfInBounds y (.int .i64 ((fH l p S q a j y : Nat) + 1)) = herA T (fH l p S q a (j + 1)) := by
  unfold herA
  rw [arrA_set]
  refine arrA_congr fun i _ => ?_
  unfold fH
  rw [atC_take l a _ hj, hy]
  by_cases h : i = y
  · subst h; simp; omega
  · have h2 : ¬ (y : Int) = (i : Int) := by omega
    simp [h, h2]
theorem her_skip {l : List Clm} (p S : Int) (q : Nat) (a : Int) (T : Nat) {j : Nat} (hj : j < l.length) (hy : (T : Int) ≤ a + l[j].time) :
    herA T (fH l p S q a j) = herA T (fH l p S q a (j + 1)) := her_congr fun i hi => by
  unfold fH
  rw [atC_take l a _ hj, if_neg (by omega)]; rfl
theorem her_next (l : List Clm) (p S : Int) (q : Nat) (a b : Int) (T : Nat) (hp : 1 ≤ p) (ha : a = S + q * p) : herA T (fH l p S q a l.length) = herA T (fH l p S (q + 1) b 0) := her_congr fun i _ => by
  unfold fH
  rw [cq_succ l p S i q hp, List.take_length, ← ha]
  simp [atC]
theorem her_full (l : List Clm) (p S : Int) (q : Nat) (a : Int) (T : Nat) (hl : ∀ c ∈ l, 0 ≤ c.time) (ha : a = S + q * p) (hT : (T : Int) ≤ a) : herA T (fH l p S q a 0) = herA T (fC l p S) := her_congr fun i hi => by
  unfold fH fC
  rw [cq_full l p S i q hl (by rw [← ha]; omega)]
  simp [atC]
theorem midG_step0 (k : List (List Clm)) (p : Int) (st : List Int) (n t T : Nat) {c : Nat} (hc : cntT (k.getD n []) p (st.getD n 0) t = c) (h0 : c = 0) :
    (prA T (midG k p st n t)).setIfInBounds (t * 2) (.int .i64 (((sumG k p st t n).1 + c : Nat) : Int)) = prA T (midG k p st n (t + 1)) := by
  rw [prA_set0]
  refine prA_congr fun i _ => ?_
  by_cases h : i = t
  · subst h
    rw [List.getD_eq_getElem?_getD, List.getD_eq_getElem?_getD] at hc
    simp [midG, rowG, sumG, hc, h0]
  · have h2 : i < t + 1 ↔ i < t := by omega
    simp [midG, h, h2]
end Go.Proofs.Ytgeoehokojijdaa
