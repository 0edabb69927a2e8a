/- MixPeriods: what its answers are. -/
import Derived.Test.YtgeoehokojijdaaMix41
import Derived.Test.YtgeoehokojijdaaMix13
import Derived.Test.YtgeoehokojijdaaMix30
import Derived.Test.YtgeoehokojijdaaMix34
namespace Go.Proofs.Ytgeoehokojijdaa
open Go.RowKit

theorem kern_ne {l : List Clm} (h : kernB l = true) {m n : Nat} (hmn : m < n) (hn : n < l.length) : l[m] ≠ l[n] := by
  unfold kernB at h
  rw [Bool.and_eq_true] at h
  have h1 := (kerS_ok h.1 hn).2
  intro e
  apply h1
  rw [← e, List.mem_take_iff_getElem]
  exact ⟨m, by omega, rfl⟩
theorem emod_sub {a b p : Int} : a % p = b % p ↔ (a - b) % p = 0 := Int.emod_eq_emod_iff_emod_sub_eq_zero
theorem alone_col {l : List Clm} (h : kernB l = true) {p : Int} : goodB [l] p [0] = true ↔ ∀ n ∈ colS l, n % p ≠ 0 := by
  rw [alone_iff]
  have hat : ∀ m (hm : m < l.length), l.getD m default = l[m] := fun m hm => by rw [List.getD_eq_getElem?_getD, List.getElem?_eq_getElem hm]; rfl
  constructor
  · intro H n hn h0
    obtain ⟨x, hx, y, hy, h1, h2, h3⟩ := (mem_colS h).1 hn
    obtain ⟨i, hi, rfl⟩ := List.getElem_of_mem hx
    obtain ⟨j, hj, rfl⟩ := List.getElem_of_mem hy
    have hij : i ≠ j := by rintro rfl; omega
    rcases Nat.lt_or_gt_of_ne hij with hl | hl
    · refine H i j hl hj ?_
      rw [hat i hi, hat j hj]
      refine ⟨h1, ?_⟩
      rw [emod_sub, show l[i].time + 0 - (l[j].time + 0) = n by omega]
      exact h0
    · refine H j i hl hi ?_
      rw [hat i hi, hat j hj]
      refine ⟨h1.symm, ?_⟩
      rw [eq_comm, emod_sub, show l[i].time + 0 - (l[j].time + 0) = n by omega]
      exact h0
  · intro H m n hmn hn hh
    rw [hat m (by omega), hat n hn] at hh
    obtain ⟨h1, h2⟩ := hh
    have hne := kern_ne h hmn hn
    have ht : l[m].time ≠ l[n].time := fun e => hne (by
      cases hx : l[m]; cases hy : l[n]
      rw [hx, hy] at h1 e
      simp at h1 e
      rw [h1, e])
    have hm := List.getElem_mem (l := l) (n := m) (by omega)
    have hn' := List.getElem_mem (l := l) (n := n) hn
    rcases Int.lt_or_gt_of_ne ht with hl | hl
    · refine H _ ((mem_colS h).2 ⟨_, hn', _, hm, h1.symm, by omega, rfl⟩) ?_
      rw [← emod_sub]
      simpa using h2.symm
    · refine H _ ((mem_colS h).2 ⟨_, hm, _, hn', h1, by omega, rfl⟩) ?_
      rw [← emod_sub]
      simpa using h2
theorem leastP_is {k : List (List Clm)} {P : Nat} (h : leastP k = some P) : (1 ≤ P ∧ P ≤ 20) ∧ (firstG k P).isSome = true ∧ ∀ q, 1 ≤ q → q < P → (firstG k q).isSome = false := by
  unfold leastP at h
  rw [List.find?_range'_eq_some] at h
  obtain ⟨h1, h2, h3⟩ := h
  rw [List.mem_range'_1] at h2
  exact ⟨by omega, h1, fun q a b => by simpa using h3 q a b⟩
theorem leastP_no {k : List (List Clm)} (h : leastP k = none) (q : Nat) (hq : 1 ≤ q ∧ q ≤ 20) : (firstG k q).isSome = false := by
  unfold leastP at h
  rw [List.find?_eq_none] at h
  simpa using h q (by rw [List.mem_range'_1]; omega)
theorem per_cases {k : List (List Clm)} (hv : vldB k = true) {p : Nat} (hp : 1 ≤ p ∧ p ≤ 20) :
    (lstE k = 5 ∧ lstV k = 0 ∧ startsE k p = 5) ∨
    (∃ P : Nat, (1 ≤ P ∧ P ≤ 20) ∧ lstE k = 0 ∧ lstV k = P ∧ bndV k ≤ P ∧ askE k P (lstL k) = 0 ∧ rgB k P (lstL k) = true ∧ (startsE k p = 5 ∨ startsE k p = 0 ∧ P ≤ p)) := by
  have hpb : bw 1 (p : Int) 20 = true := by rw [bw_iff]; omega
  have hse : startsE k p = if (firstG k p).isSome then 0 else 5 := by simp [startsE, hv, hpb]
  cases hl : leastP k with
  | none =>
    left
    rw [hse, leastP_no hl p hp]
    simp [lstE, lstV, hv, hl]
  | some P =>
    right
    obtain ⟨hP, hf, hno⟩ := leastP_is hl
    obtain ⟨i, hi⟩ := Option.isSome_iff_exists.1 hf
    obtain ⟨h1, h2⟩ := firstG_mem hi
    have hL : lstL k = digs P k.length i := by simp [lstL, hv, hl, startsL, hi]
    have hPb : bw 1 (P : Int) 20 = true := by rw [bw_iff]; omega
    have hask : askE k P (lstL k) = 0 := by
      have ht : timB k (P : Int) (lstL k) = true := by
        simp only [timB, Bool.and_eq_true, decide_eq_true_iff, List.all_eq_true]
        exact ⟨by rw [hL, digs_len], fun n hn => by rw [bw_iff]; rw [hL] at hn; have := digs_mem (show 0 < P by omega) _ _ n hn; omega⟩
      simp [askE, hv, hPb, ht]
    refine ⟨P, hP, by simp [lstE, hv, hl], by simp [lstV, hv, hl], ?_, hask, ?_, ?_⟩
    · have := firstG_bnd (show 0 < P by omega) hi
      simp only [bndV, hv, if_true]; omega
    · rw [rgB, hask, hL, h2]; rfl
    · rw [hse]
      cases hp2 : (firstG k p).isSome
      · left; rfl
      · right
        refine ⟨rfl, ?_⟩
        rcases Nat.lt_or_ge p P with h3 | h3
        · have := hno p (by omega) h3; rw [hp2] at this; cases this
        · exact h3
/-- Whether a number of a list is divided. -/
def anyD (l : List Int) (p : Int) : Bool := l.any fun n => decide (n % p = 0)
theorem anyD_zero (l : List Int) (p : Int) : anyD (l.take 0) p = false := rfl
theorem anyD_succ {l : List Int} (p : Int) {u : Nat} (hu : u < l.length) : anyD (l.take (u + 1)) p = (anyD (l.take u) p || decide (l[u] % p = 0)) := by
  unfold anyD; rw [List.take_succ_eq_append_getElem hu, List.any_append]; simp
theorem alone_any {l : List Clm} (h : kernB l = true) (p : Int) : goodB [l] p [0] = !anyD (colS l) p := by
  rw [Bool.eq_iff_iff, alone_col h, Bool.not_eq_true', ← Bool.not_eq_true]
  unfold anyD
  simp
theorem vld_ker {k : List (List Clm)} (h : vldB k = true) {l : List Clm} (hl : l ∈ k) : kernB l = true := by
  simp only [vldB, Bool.and_eq_true, List.all_eq_true] at h
  exact h.2 l hl
theorem col_pos (l : List Clm) : ∀ n ∈ colS l, 0 < n ∧ n ≤ 50 := fun n hn => by
  cases h : kernB l
  · simp [colS, h] at hn
  · obtain ⟨x, hx, y, hy, h1, h2, h3⟩ := (mem_colS h).1 hn
    obtain ⟨_, hc⟩ := kern_facts h
    have := hc x hx; have := hc y hy
    omega
theorem lstL_len (k : List (List Clm)) {m : Nat} (hk : k.length ≤ m) : (lstL k).length ≤ m := by
  unfold lstL
  split
  · split
    · unfold startsL
      split
      · rw [digs_len]; exact hk
      · simp
    · simp
  · simp
end Go.Proofs.Ytgeoehokojijdaa
