/- The walk of MixRepeats. -/
import Derived.Test.YtgeoehokojijdaaMix26
import Derived.Test.YtgeoehokojijdaaMix18
namespace Go.Proofs.Ytgeoehokojijdaa
open Go.RowKit

theorem sumTo_cong {f g : Nat → Nat} : ∀ n, (∀ i, i < n → f i = g i) → sumTo f n = sumTo g n
  | 0, _ => rfl
  | n + 1, h => by simp only [sumTo]; rw [sumTo_cong n (fun i hi => h i (by omega)), h n (by omega)]
theorem hit_late {p S t : Int} {c : Clm} (hp : 1 ≤ p ∧ p ≤ 20) (hS : 0 ≤ S ∧ S < p) (hc : 0 ≤ c.time ∧ c.time ≤ 50) (ht : 70 ≤ t) : hitT p S t c = decide ((t - S - c.time) % p = 0) := by
  unfold hitT
  have : 0 ≤ t - S - c.time := by omega
  simp [show c.time ≤ t - S by omega]
theorem hit_next {p S t : Int} {c : Clm} (hp : 1 ≤ p ∧ p ≤ 20) (hS : 0 ≤ S ∧ S < p) (hc : 0 ≤ c.time ∧ c.time ≤ 50) (ht : 70 ≤ t) : hitT p S (t + p) c = hitT p S t c := by
  rw [hit_late hp hS hc ht, hit_late hp hS hc (by omega), show t + p - S - c.time = (t - S - c.time) + p by omega, Int.add_emod_right]
theorem cntT_next {l : List Clm} {p S t : Int} (hp : 1 ≤ p ∧ p ≤ 20) (hS : 0 ≤ S ∧ S < p) (hc : ∀ c ∈ l, 0 ≤ c.time ∧ c.time ≤ 50) (ht : 70 ≤ t) : cntT l p S (t + p) = cntT l p S t := by
  unfold cntT
  rw [List.filter_congr fun c h => hit_next hp hS (hc c h) ht]
theorem hit_sum {p : Nat} {S : Int} {c : Clm} (hp : 1 ≤ p ∧ p ≤ 20) (hS : 0 ≤ S ∧ S < p) (hc : 0 ≤ c.time ∧ c.time ≤ 50) : sumTo (fun i => if hitT p S (70 + (i : Int)) c then 1 else 0) p = 1 := by
  obtain ⟨j, hj, hjp⟩ : ∃ j : Nat, (S + c.time - 70) % (p : Int) = j ∧ j < p := by
    have h1 := Int.emod_nonneg (S + c.time - 70) (b := (p : Int)) (by omega)
    have h2 := Int.emod_lt_of_pos (S + c.time - 70) (b := (p : Int)) (by omega)
    exact ⟨((S + c.time - 70) % (p : Int)).toNat, by omega, by omega⟩
  rw [sumTo_cong p (g := fun i => if j = i then 1 else 0) fun i hi => ?_, sumTo_one, if_pos hjp]
  rw [hit_late (by omega) hS hc (by omega)]
  have e : (70 + (i : Int) - S - c.time) % (p : Int) = 0 ↔ j = i := by
    rw [show 70 + (i : Int) - S - c.time = (i : Int) - (S + c.time - 70) by omega, ← Int.emod_eq_emod_iff_emod_sub_eq_zero, Int.emod_eq_of_lt (a := (i : Int)) (by omega) (by omega), hj]
    omega
  by_cases h : j = i
  · rw [if_pos h, if_pos (by rw [decide_eq_true_iff, e]; exact h)]
  · rw [if_neg h, if_neg (by rw [decide_eq_true_iff, e]; exact h)]
theorem cntT_sum {p : Nat} {S : Int} {l : List Clm} (hp : 1 ≤ p ∧ p ≤ 20) (hS : 0 ≤ S ∧ S < p) (hc : ∀ c ∈ l, 0 ≤ c.time ∧ c.time ≤ 50) : sumTo (fun i => cntT l p S (70 + (i : Int))) p = l.length := by
  induction l with
  | nil =>
    have : ∀ n, sumTo (fun i => cntT [] p S (70 + (i : Int))) n = 0 := fun n => by
      induction n with
      | zero => rfl
      | succ n ih => simp only [sumTo, ih]; rfl
    exact this p
  | cons x l ih =>
    have e : (fun i : Nat => cntT (x :: l) p S (70 + (i : Int))) = fun i : Nat => cntT l p S (70 + (i : Int)) + (if hitT p S (70 + (i : Int)) x then 1 else 0) := by
      funext i; unfold cntT; rw [flen_cons]
    rw [e, sumTo_add, ih fun c h => hc c (by simp [h]), hit_sum hp hS (hc x (by simp)), List.length_cons]
structure Tims (k : List (List Clm)) (p : Nat) (st : List Int) : Prop where
  hp : 1 ≤ p ∧ p ≤ 20
  len : st.length = k.length
  st : ∀ n ∈ st, 0 ≤ n ∧ n < (p : Int)
  cl : ∀ l ∈ k, ∀ c ∈ l, 0 ≤ c.time ∧ c.time ≤ 50
theorem Tims.S {k : List (List Clm)} {p : Nat} {st : List Int} (h : Tims k p st) {n : Nat} (hn : n < k.length) : 0 ≤ st.getD n 0 ∧ st.getD n 0 < (p : Int) := by
  rw [List.getD_eq_getElem?_getD, List.getElem?_eq_getElem (show n < st.length by rw [h.len]; exact hn)]
  exact h.st _ (List.getElem_mem _)
theorem Tims.C {k : List (List Clm)} {p : Nat} {st : List Int} (h : Tims k p st) {n : Nat} (hn : n < k.length) : ∀ c ∈ k.getD n [], 0 ≤ c.time ∧ c.time ≤ 50 := by
  rw [List.getD_eq_getElem?_getD, List.getElem?_eq_getElem hn]
  exact h.cl _ (List.getElem_mem _)
theorem sumG_next {k : List (List Clm)} {p : Nat} {st : List Int} (h : Tims k p st) {t : Int} (ht : 70 ≤ t) : ∀ n, n ≤ k.length → sumG k p st (t + p) n = sumG k p st t n
  | 0, _ => rfl
  | n + 1, hn => by
    have hp := h.hp
    simp only [sumG]
    rw [sumG_next h ht n (by omega), cntT_next (by omega) (h.S (by omega)) (h.C (by omega)) ht]
theorem sumG_two (k : List (List Clm)) (p : Int) (st : List Int) (t : Int) : ∀ n, (sumG k p st t n).2 ≤ (sumG k p st t n).1
  | 0 => Nat.le_refl _
  | n + 1 => by
    have := sumG_two k p st t n
    simp only [sumG]
    omega
theorem sumG_sum {k : List (List Clm)} {p : Nat} {st : List Int} (h : Tims k p st) : ∀ n, n ≤ k.length → sumTo (fun i => (sumG k p st (70 + (i : Int)) n).1) p = (k.take n).flatten.length
  | 0, _ => by
    have : ∀ m, sumTo (fun i => (sumG k p st (70 + (i : Int)) 0).1) m = 0 := fun m => by
      induction m with
      | zero => rfl
      | succ m ih => simp only [sumTo, ih]; rfl
    rw [this]; rfl
  | n + 1, hn => by
    have e : (fun i : Nat => (sumG k p st (70 + (i : Int)) (n + 1)).1) = fun i : Nat => (sumG k p st (70 + (i : Int)) n).1 + cntT (k.getD n []) p (st.getD n 0) (70 + (i : Int)) := rfl
    rw [e, sumTo_add, sumG_sum h n (by omega), cntT_sum h.hp (h.S (by omega)) (h.C (by omega)), flat_take (by omega), List.length_append, List.getD_eq_getElem?_getD, List.getElem?_eq_getElem (show n < k.length by omega)]
    rfl
end Go.Proofs.Ytgeoehokojijdaa
