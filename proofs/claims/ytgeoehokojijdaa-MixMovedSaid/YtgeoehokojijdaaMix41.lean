/- The two answers of Collide are one; when a kernel is alone. -/
import Derived.Test.YtgeoehokojijdaaMix40
namespace Go.Proofs.Ytgeoehokojijdaa
open Go.RowKit

theorem mem_compactUpTo (d : Array Int) (n : Int) : ∀ m, n ∈ Lib.compactUpTo d m ↔ ∃ j, j < m ∧ d[j]! = n
  | 0 => by simp [Lib.compactUpTo]
  | m + 1 => by
    rw [Lib.compactUpTo_succ, List.mem_append, mem_compactUpTo d n m]
    cases hk : Lib.keeps d m
    · simp only [Bool.false_eq_true, if_false, List.not_mem_nil, or_false]
      have hm : m ≠ 0 ∧ d[m]! = d[m - 1]! := by
        unfold Lib.keeps at hk
        rw [decide_eq_false_iff_not] at hk
        exact ⟨fun h => hk (.inl h), Decidable.byContradiction fun h => hk (.inr h)⟩
      constructor
      · rintro ⟨j, hj, e⟩; exact ⟨j, by omega, e⟩
      · rintro ⟨j, hj, e⟩
        by_cases h : j = m
        · subst h; exact ⟨j - 1, by omega, hm.2 ▸ e⟩
        · exact ⟨j, by omega, e⟩
    · simp only [if_true, List.mem_singleton]
      constructor
      · rintro (⟨j, hj, e⟩ | e)
        · exact ⟨j, by omega, e⟩
        · exact ⟨m, by omega, e.symm⟩
      · rintro ⟨j, hj, e⟩
        by_cases h : j = m
        · subst h; exact .inr e.symm
        · exact .inl ⟨j, by omega, e⟩
theorem mem_compact (zs : List Int) (n : Int) : n ∈ Lib.compact zs ↔ n ∈ zs := by
  unfold Lib.compact
  rw [mem_compactUpTo]
  constructor
  · rintro ⟨j, hj, e⟩
    have h1 : zs[j] = n := by rw [← e]; simp [hj]
    exact h1 ▸ List.getElem_mem hj
  · intro h
    obtain ⟨j, hj, e⟩ := List.getElem_of_mem h
    exact ⟨j, hj, by rw [← e]; simp [hj]⟩
theorem compact_asc (zs : List Int) (h : zs.Pairwise (· ≤ ·)) : (Lib.compact zs).Pairwise (· < ·) := by
  unfold Lib.compact
  have hle : ∀ i k, i ≤ k → k < zs.length → zs.toArray[i]! ≤ zs.toArray[k]! := by
    intro i k hik hkl
    rw [getElem!_pos zs.toArray i (by simp; omega), getElem!_pos zs.toArray k (by simpa using hkl)]
    rcases Nat.lt_or_ge i k with h1 | h1
    · have := List.pairwise_iff_getElem.1 h i k (by omega) hkl h1; simpa using this
    · have : i = k := by omega
      subst this; exact Int.le_refl _
  have H : ∀ m, m ≤ zs.length → (Lib.compactUpTo zs.toArray m).Pairwise (· < ·) := by
    intro m
    induction m with
    | zero => intro _; simp [Lib.compactUpTo]
    | succ m ih =>
      intro hm
      rw [Lib.compactUpTo_succ]
      cases hk : Lib.keeps zs.toArray m
      · simpa using ih (by omega)
      · simp only [if_true]
        rw [List.pairwise_append]
        refine ⟨ih (by omega), by simp, ?_⟩
        intro a ha b hb
        obtain rfl := List.mem_singleton.1 hb
        obtain ⟨j, hj, rfl⟩ := (mem_compactUpTo _ _ _).1 ha
        have hne : zs.toArray[m]! ≠ zs.toArray[m - 1]! := by
          unfold Lib.keeps at hk
          rw [decide_eq_true_iff] at hk
          exact hk.resolve_left (by omega)
        have h1 := hle j (m - 1) (by omega) (by omega)
        have h2 := hle (m - 1) m (by omega) (by omega)
        omega
  exact H _ (Nat.le_refl _)
theorem asc_ext : ∀ (a b : List Int), a.Pairwise (· < ·) → b.Pairwise (· < ·) → (∀ n, n ∈ a ↔ n ∈ b) → a = b
  | [], [], _, _, _ => rfl
  | [], y :: b, _, _, h => absurd ((h y).2 (by simp)) (by simp)
  | x :: a, [], _, _, h => absurd ((h x).1 (by simp)) (by simp)
  | x :: a, y :: b, ha, hb, h => by
    rw [List.pairwise_cons] at ha hb
    have e : x = y := by
      have h1 := (h x).1 (by simp)
      have h2 := (h y).2 (by simp)
      rw [List.mem_cons] at h1 h2
      rcases h1 with e | h1
      · exact e
      · rcases h2 with e | h2
        · exact e.symm
        · have := ha.1 y h2; have := hb.1 x h1; omega
    subst e
    rw [asc_ext a b ha.2 hb.2 (fun n => ?_)]
    have h3 := h n
    rw [List.mem_cons, List.mem_cons] at h3
    constructor
    · intro hn
      rcases h3.1 (.inr hn) with e | h4
      · subst e; exact absurd (ha.1 n hn) (by omega)
      · exact h4
    · intro hn
      rcases h3.2 (.inr hn) with e | h4
      · subst e; exact absurd (hb.1 n hn) (by omega)
      · exact h4
theorem mem_posA {A B : List Clm} {n : Int} : n ∈ posA A B ↔ ∃ x ∈ A, ∃ y ∈ B, x.cell = y.cell ∧ 0 < x.time - y.time ∧ x.time - y.time = n := by
  unfold posA rowP
  simp only [List.mem_flatMap, List.mem_map, List.mem_filter, decide_eq_true_iff]
  exact ⟨fun ⟨x, hx, y, ⟨hy, hc, hp⟩, h⟩ => ⟨x, hx, y, hy, hc, hp, h⟩, fun ⟨x, hx, y, hy, hc, hp, h⟩ => ⟨x, hx, y, ⟨hy, hc, hp⟩, h⟩⟩
theorem mem_colD {A B : List Clm} {n : Int} : n ∈ colD A B ↔ ∃ x ∈ A, ∃ y ∈ B, x.cell = y.cell ∧ y.time - x.time = n := by
  unfold colD rowC
  simp only [List.mem_flatMap, List.mem_map, List.mem_filter, decide_eq_true_iff]
  exact ⟨fun ⟨x, hx, y, ⟨hy, hc⟩, h⟩ => ⟨x, hx, y, hy, hc, h⟩, fun ⟨x, hx, y, hy, hc, h⟩ => ⟨x, hx, y, ⟨hy, hc⟩, h⟩⟩
theorem mem_colS {l : List Clm} (h : kernB l = true) {n : Int} : n ∈ colS l ↔ ∃ x ∈ l, ∃ y ∈ l, x.cell = y.cell ∧ 0 < x.time - y.time ∧ x.time - y.time = n := by
  unfold colS
  rw [if_pos h, mem_compact, List.mem_mergeSort, mem_posA]
theorem colTo_asc (D : List Int) (n : Nat) : (colTo D n).Pairwise (· < ·) := by
  induction n with
  | zero => simp [colTo]
  | succ n ih =>
    rw [colTo_succ, List.pairwise_append]
    refine ⟨ih, by by_cases h : (n : Int) + 1 ∈ D <;> simp [h], ?_⟩
    intro a ha b hb
    have hbn : b = (n : Int) + 1 := by
      by_cases h : (n : Int) + 1 ∈ D
      · rw [if_pos h] at hb; exact List.mem_singleton.1 hb
      · rw [if_neg h] at hb; simp at hb
    unfold colTo at ha
    simp only [List.mem_map, List.mem_filter, List.mem_range] at ha
    obtain ⟨m, ⟨hm, _⟩, rfl⟩ := ha
    omega
theorem mem_colTo {D : List Int} {n : Nat} {v : Int} : v ∈ colTo D n ↔ (1 ≤ v ∧ v ≤ n) ∧ v ∈ D := by
  unfold colTo
  simp only [List.mem_map, List.mem_filter, List.mem_range, decide_eq_true_iff]
  constructor
  · rintro ⟨m, ⟨hm, hD⟩, rfl⟩; exact ⟨by omega, hD⟩
  · rintro ⟨⟨h1, h2⟩, hD⟩
    exact ⟨(v - 1).toNat, ⟨by omega, by rw [show ((v - 1).toNat : Int) + 1 = v by omega]; exact hD⟩, by omega⟩
theorem colS_asc (l : List Clm) : (colS l).Pairwise (· < ·) := by
  unfold colS
  cases kernB l
  · simp
  · rw [if_pos rfl]
    refine compact_asc _ ?_
    have h1 := List.pairwise_mergeSort (le := fun x y : Int => decide (x ≤ y)) (fun a b c h1 h2 => by simp only [decide_eq_true_iff] at *; omega) (fun a b => by simp only [Bool.or_eq_true, decide_eq_true_iff]; omega) (posA l l)
    exact h1.imp fun h => by simpa using h
theorem colS_colL (l : List Clm) : colS l = colL l := by
  cases h : kernB l
  · simp [colS, colL, h]
  · obtain ⟨_, hc⟩ := kern_facts h
    have e : colL l = colTo (colD l l) 50 := by simp [colL, h]
    rw [e]
    refine asc_ext _ _ (colS_asc l) (colTo_asc _ _) fun n => ?_
    rw [mem_colS h, mem_colTo, mem_colD]
    constructor
    · rintro ⟨x, hx, y, hy, h1, h2, h3⟩
      have := hc x hx; have := hc y hy
      exact ⟨by omega, y, hy, x, hx, h1.symm, h3⟩
    · rintro ⟨h0, x, hx, y, hy, h1, h3⟩
      exact ⟨y, hy, x, hx, h1.symm, by omega, h3⟩
theorem colS_len (l : List Clm) : (colS l).length ≤ 50 := by rw [colS_colL]; unfold colL; split; exact colTo_len _ _; simp
end Go.Proofs.Ytgeoehokojijdaa
