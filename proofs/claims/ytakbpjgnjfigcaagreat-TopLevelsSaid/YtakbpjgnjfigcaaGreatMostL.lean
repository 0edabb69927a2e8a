/- The greatest number of a table: the law. -/
import Derived.Test.YtakbpjgnjfigcaaGreatB7
namespace Go.Proofs.YtakbpjgnjfigcaaGreat
open Go.RowKit Go.Maps

def mxL (n : Int) (l : List Int) : Int := l.foldl max n
def mostL (T : List (List Int)) : Int := T.foldl mxL 0
theorem mxL_snoc (n : Int) (l : List Int) (x : Int) : mxL n (l ++ [x]) = max (mxL n l) x := by simp [mxL]
theorem mxL_le {l : List Int} : ∀ {n M : Int}, mxL n l ≤ M ↔ n ≤ M ∧ ∀ x ∈ l, x ≤ M := by
  induction l with
  | nil => intro n M; simp [mxL]
  | cons x l ih =>
    intro n M
    have : mxL n (x :: l) = mxL (max n x) l := rfl
    rw [this, ih]
    simp only [List.mem_cons, forall_eq_or_imp]
    constructor
    · rintro ⟨h1, h2⟩; exact ⟨by omega, by omega, h2⟩
    · rintro ⟨h1, h2, h3⟩; exact ⟨by omega, h3⟩
theorem most_le {T : List (List Int)} {M : Int} (hM : 0 ≤ M) : mostL T ≤ M ↔ ∀ r ∈ T, ∀ x ∈ r, x ≤ M := by
  have : ∀ (T : List (List Int)) (n : Int), T.foldl mxL n ≤ M ↔ n ≤ M ∧ ∀ r ∈ T, ∀ x ∈ r, x ≤ M := by
    intro T
    induction T with
    | nil => intro n; simp
    | cons r T ih =>
      intro n
      rw [List.foldl_cons, ih, mxL_le]
      simp only [List.mem_cons, forall_eq_or_imp]
      constructor
      · rintro ⟨⟨h1, h2⟩, h3⟩; exact ⟨h1, h2, h3⟩
      · rintro ⟨h1, h2, h3⟩; exact ⟨⟨h1, h2⟩, h3⟩
  have h := this T 0
  unfold mostL
  rw [h]
  exact ⟨fun h => h.2, fun h => ⟨hM, h⟩⟩
theorem rowsN_part {m n : Nat} {L : List Int} (hL : L.length = n * m) {v : Nat} (hv : v < n) (h : v < (rowsN m L n).length) : (rowsN m L n)[v].length = m ∧ ∀ i (hi : i < m) (h2 : i < (rowsN m L n)[v].length), (rowsN m L n)[v][i] = L.getD (v * m + i) 0 := by
  have hmul : (v + 1) * m ≤ n * m := Nat.mul_le_mul_right m (by omega)
  rw [Nat.succ_mul] at hmul
  have e := rowsN_at (m := m) (l := L) hv h
  have hl : (rowsN m L n)[v].length = m := by rw [e, List.length_take, List.length_drop]; omega
  refine ⟨hl, fun i hi h2 => ?_⟩
  simp only [e, List.getElem_take, List.getElem_drop]
  rw [List.getD_eq_getElem?_getD, List.getElem?_eq_getElem (by omega)]; rfl
theorem lvsL_at {K : List Vv} {P : List Pt} {k : Nat} (hk : k < K.length * P.length) : (lvsL K P).getD k 0 = ((lvl (useN K P) k : Nat) : Int) := by
  rw [List.getD_eq_getElem?_getD, List.getElem?_eq_getElem (by rw [lvsL_len]; exact hk)]; simp [lvsL, lvN]
/-! ### The greatest level -/
theorem rowsN_mem {m n : Nat} {L : List Int} (hL : L.length = n * m) {r : List Int} (hr : r ∈ rowsN m L n) {x : Int} (hx : x ∈ r) : x ∈ L := by
  obtain ⟨v, hv, rfl⟩ := List.getElem_of_mem hr
  rw [rowsN_len] at hv
  rw [rowsN_at (m := m) (l := L) hv (by rw [rowsN_len]; exact hv)] at hx
  exact List.mem_of_mem_drop (List.mem_of_mem_take hx)
theorem rowsN_has {m n : Nat} {L : List Int} (hL : L.length = n * m) {k : Nat} (hk : k < n * m) : ∃ r ∈ rowsN m L n, L.getD k 0 ∈ r := by
  obtain ⟨h1, h2, h3⟩ := num_div hk
  have hv : k / m < (rowsN m L n).length := by rw [rowsN_len]; exact h1
  obtain ⟨h4, h5⟩ := rowsN_part hL h1 hv
  refine ⟨_, List.getElem_mem hv, ?_⟩
  have h6 := h5 (k % m) h2 (by rw [h4]; exact h2)
  rw [h3] at h6
  rw [← h6]
  exact List.getElem_mem _
theorem mostL_nonneg (T : List (List Int)) : 0 ≤ mostL T := by
  have : ∀ (T : List (List Int)) (n : Int), n ≤ T.foldl mxL n := by
    intro T
    induction T with
    | nil => intro n; exact Int.le_refl _
    | cons r T ih =>
      intro n
      exact Int.le_trans (mxL_le.1 (Int.le_refl (mxL n r))).1 (ih _)
  exact this T 0
theorem most_rows {m n : Nat} {L : List Int} (hL : L.length = n * m) {k : Nat} (hk : k < n * m) (h0 : 0 ≤ L.getD k 0) (hmx : ∀ j, j < n * m → L.getD j 0 ≤ L.getD k 0) : mostL (rowsN m L n) = L.getD k 0 := by
  obtain ⟨r, hr, hx⟩ := rowsN_has hL hk
  apply Int.le_antisymm
  · refine (most_le h0).2 fun r hr x hx => ?_
    obtain ⟨j, hj, rfl⟩ := List.getElem_of_mem (rowsN_mem hL hr hx)
    have := hmx j (by omega)
    rwa [List.getD_eq_getElem?_getD, List.getElem?_eq_getElem hj] at this
  · have hm0 : 0 ≤ mostL (rowsN m L n) := mostL_nonneg _
    exact (most_le hm0).1 (Int.le_refl _) r hr _ hx
theorem most_none {m n : Nat} {L : List Int} (hL : L.length = n * m) (h : n * m = 0) : mostL (rowsN m L n) = 0 := by
  apply Int.le_antisymm
  · refine (most_le (Int.le_refl _)).2 fun r hr x hx => ?_
    have := rowsN_mem hL hr hx
    rw [h] at hL
    rw [List.length_eq_zero_iff.1 hL] at this
    simp at this
  · exact mostL_nonneg _
end Go.Proofs.YtakbpjgnjfigcaaGreat
