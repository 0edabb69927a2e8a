/- What the ends are; there is a first column exactly if there are columns. -/
import Derived.Test.YtbabdoafpljdbaaMd33
namespace Go.Proofs.Ytbabdoafpljdbaa
open Go.RowKit

/-- A place of a table is open. -/
def opn (D : List (List Bool)) (m : Nat) (x : Nat) : Bool := (D.getD m []).getD x false
theorem opn_at {D : List (List Bool)} {m : Nat} (h : m < D.length) (x : Nat) : opn D m x = D[m].getD x false := by
  unfold opn; rw [List.getD_eq_getElem?_getD (l := D), List.getElem?_eq_getElem h]; rfl
theorem opn_lt {D : List (List Bool)} {wd m x : Nat} (hw : ∀ row ∈ D, row.length = wd) (h : opn D m x = true) : m < D.length ∧ x < wd := by
  have hm : m < D.length := by
    apply Classical.byContradiction
    intro hn
    unfold opn at h
    rw [List.getD_eq_getElem?_getD (l := D), List.getElem?_eq_none (by omega)] at h
    simp at h
  refine ⟨hm, ?_⟩
  rw [opn_at hm] at h
  apply Classical.byContradiction
  intro hn
  rw [List.getD_eq_getElem?_getD, List.getElem?_eq_none (by rw [hw _ (List.getElem_mem hm)]; omega)] at h
  simp at h
theorem end_last (r : Int) : ∀ {R : List (List Bool)} {m : Nat} (_ : m + 1 = R.length) (x : Nat), opn (endL r R) m x = opn R m x
  | [], m, h, _ => by simp at h
  | [a], 0, _, _ => rfl
  | [a], m + 1, h, _ => by simp at h
  | a :: b :: R, 0, h, _ => by simp at h
  | a :: b :: R, m + 1, h, x => by
    have ih := end_last r (R := b :: R) (m := m) (by simpa using h) x
    rw [endL_cons]
    exact ih
theorem end_next (r : Int) : ∀ {R : List (List Bool)} {m : Nat} (_ : m + 1 < R.length), (endL r R).getD m [] = endRow r (R.getD m []) ((endL r R).getD (m + 1) [])
  | [], m, h => by simp at h
  | [a], m, h => by simp at h
  | a :: b :: R, 0, _ => by
    rw [endL_cons]
    simp only [List.getD_cons_zero, List.getD_cons_succ]
    cases h : endL r (b :: R) with
    | nil => have := endL_len r (b :: R); rw [h] at this; simp at this
    | cons c l => rfl
  | a :: b :: R, m + 1, h => by
    have ih := end_next r (R := b :: R) (m := m) (by simpa using h)
    rw [endL_cons]
    simp only [List.getD_cons_succ]
    exact ih
/-- From a place of a row, which is not the last one, a column can go on exactly if it is open and one near it in the next row can. -/
theorem end_iff {r : Nat} {R : List (List Bool)} {m x : Nat} (hm : m + 1 < R.length) : opn (endL r R) m x = true ↔ opn R m x = true ∧ ∃ k : Nat, nearB x k r = true ∧ opn (endL r R) (m + 1) k = true := by
  unfold opn
  rw [end_next (r : Int) hm]
  unfold endRow
  rw [List.getD_eq_getElem?_getD, List.getElem?_map]
  by_cases hx : x < (R.getD m []).length
  · rw [List.getElem?_range hx]
    simp only [Option.map_some, Option.getD_some, Bool.and_eq_true]
    rw [okN_iff]
  · rw [List.getElem?_eq_none (by simpa using hx)]
    simp only [Option.map_none, Option.getD_none, Bool.false_eq_true, false_iff, not_and]
    intro h
    rw [List.getD_eq_getElem?_getD, List.getElem?_eq_none (by omega)] at h
    simp at h
theorem end_sub {r : Nat} {R : List (List Bool)} {m x : Nat} (h : opn (endL r R) m x = true) : opn R m x = true := by
  by_cases hm : m < R.length
  · by_cases hm2 : m + 1 < R.length
    · exact ((end_iff hm2).1 h).1
    · rw [← end_last r (by omega)]; exact h
  · unfold opn at h
    rw [List.getD_eq_getElem?_getD (l := endL r R), List.getElem?_eq_none (by rw [endL_len]; omega)] at h
    simp at h
theorem lowB_none {a b : List Bool} (h : lowB a b = none) : ∀ x, x < a.length → a.getD x false = true → b.getD x false = false := fun x hx ha => by
  unfold lowB at h
  rw [List.find?_eq_none] at h
  have := h x (List.mem_range.2 hx)
  rw [ha] at this
  simpa using this
theorem lowB_some {a b : List Bool} {k : Nat} (h : lowB a b = some k) : k < a.length ∧ a.getD k false = true ∧ b.getD k false = true ∧ ∀ x, x < k → a.getD x false = true → b.getD x false = false := by
  unfold lowB at h
  rw [List.find?_eq_some_iff_getElem] at h
  obtain ⟨h1, i, hi, e, h2⟩ := h
  rw [List.getElem_range] at e
  subst e
  rw [List.length_range] at hi
  rw [Bool.and_eq_true] at h1
  refine ⟨hi, h1.1, h1.2, fun x hx ha => ?_⟩
  have := h2 x hx
  rw [List.getElem_range, ha] at this
  simpa using this
/-- The first column, as far as it goes: each number is the least that is an end and near the one before. -/
theorem firP_facts {r : Nat} {D : List (List Bool)} : ∀ {n : Nat} {l : List Int}, n ≤ D.length → firP r D n = some l → l.length = n ∧ ∀ j, j < n → ∃ k : Nat, l.getD j 0 = k ∧ opn D j k = true ∧ (j ≠ 0 → nearB k (l.getD (j - 1) 0) r = true) ∧ ∀ x : Nat, x < k → opn D j x = true → j ≠ 0 ∧ nearB x (l.getD (j - 1) 0) r = false
  | 0, l, _, h => by
    simp only [firP, Option.some.injEq] at h; subst h
    exact ⟨rfl, fun j h => absurd h (by omega)⟩
  | n + 1, l, hn, h => by
    rw [firP] at h
    cases h1 : firP (r : Int) D n with
    | none => rw [h1] at h; cases h
    | some l1 =>
      rw [h1] at h
      simp only at h
      have ih := firP_facts (by omega) h1
      have hnD : n < D.length := by omega
      have eD : D.getD n [] = D[n] := by rw [List.getD_eq_getElem?_getD, List.getElem?_eq_getElem hnD]; rfl
      rw [eD] at h
      cases h2 : lowB D[n] (nrow (r : Int) l1 n D[n].length) with
      | none => rw [h2] at h; cases h
      | some k =>
        rw [h2] at h
        simp only [Option.some.injEq] at h
        subst h
        have hk := lowB_some h2
        have hg : ∀ j, j < n → (l1 ++ [(k : Int)]).getD j 0 = l1.getD j 0 := fun j hj => by
          rw [List.getD_eq_getElem?_getD, List.getD_eq_getElem?_getD, List.getElem?_append_left (by omega)]
        have hgn : (l1 ++ [(k : Int)]).getD n 0 = k := by
          rw [List.getD_eq_getElem?_getD, List.getElem?_append_right (by omega), ih.1, Nat.sub_self]; rfl
        refine ⟨by rw [List.length_append, ih.1]; rfl, fun j hj => ?_⟩
        by_cases hjn : j < n
        · obtain ⟨k', h3, h4, h5, h6⟩ := ih.2 j hjn
          refine ⟨k', by rw [hg j hjn, h3], h4, fun h0 => ?_, fun x hx ho => ?_⟩
          · rw [hg (j - 1) (by omega)]; exact h5 h0
          · rw [hg (j - 1) (by omega)]; exact h6 x hx ho
        · obtain rfl : j = n := by omega
          refine ⟨k, hgn, by rw [opn_at hnD]; exact hk.2.1, fun h0 => ?_, fun x hx ho => ?_⟩
          · rw [hg (j - 1) (by omega)]
            have := hk.2.2.1
            rw [nrow_at hk.1] at this
            simpa [h0] using this
          · have hx2 : x < D[j].length := by omega
            rw [opn_at hnD] at ho
            have := hk.2.2.2 x hx ho
            rw [nrow_at hx2] at this
            simp only [Bool.or_eq_false_iff, decide_eq_false_iff_not] at this
            refine ⟨this.1, ?_⟩
            rw [hg (j - 1) (by omega)]; exact this.2
theorem fir_some {r wd : Nat} {R : List (List Bool)} (hw : ∀ row ∈ R, row.length = wd) {x0 : Nat} (h0 : opn (endL r R) 0 x0 = true) : ∀ n, n ≤ (endL (r : Int) R).length → ∃ l, firP (r : Int) (endL r R) n = some l
  | 0, _ => ⟨[], rfl⟩
  | n + 1, hn => by
    obtain ⟨l, hl⟩ := fir_some hw h0 n (by omega)
    obtain ⟨hl1, hl2⟩ := firP_facts (by omega) hl
    have hD := endL_rows (r : Int) hw
    have hnD : n < (endL (r : Int) R).length := by omega
    have hnR : n < R.length := by rw [endL_len] at hnD; exact hnD
    cases h2 : lowB (endL (r : Int) R)[n] (nrow (r : Int) l n (endL (r : Int) R)[n].length) with
    | some k => exact ⟨_, firP_good hnD hl h2⟩
    | none =>
      exfalso
      have hlo := lowB_none h2
      obtain ⟨x, hx, hnear⟩ : ∃ x, opn (endL (r : Int) R) n x = true ∧ (n = 0 ∨ nearB x (l.getD (n - 1) 0) r = true) := by
        by_cases hn0 : n = 0
        · subst hn0; exact ⟨x0, h0, .inl rfl⟩
        · obtain ⟨k, h3, h4, -⟩ := hl2 (n - 1) (by omega)
          obtain ⟨-, k2, h5, h6⟩ := (end_iff (by omega)).1 h4
          rw [show n - 1 + 1 = n by omega] at h6
          refine ⟨k2, h6, .inr ?_⟩
          rw [h3]
          unfold nearB at h5 ⊢
          rw [bw_iff] at h5 ⊢; omega
      have hlt := (opn_lt hD hx).2
      rw [opn_at hnD] at hx
      have hxl : x < (endL (r : Int) R)[n].length := by rw [hD _ (List.getElem_mem hnD)]; exact hlt
      have := hlo x hxl hx
      rw [nrow_at hxl] at this
      simp only [Bool.or_eq_false_iff, decide_eq_false_iff_not] at this
      rcases hnear with h | h
      · exact this.1 h
      · rw [h] at this; exact absurd this.2 (by decide)
theorem sumN_pos {q : List Int} (h : ∀ z ∈ q, 0 ≤ z) : ∀ n, n ≤ q.length → 0 ≤ sumN q n ∧ (sumN q n = 0 ↔ ∀ j, j < n → q.getD j 0 = 0)
  | 0, _ => by simp [sumN]
  | n + 1, hn => by
    have ih := sumN_pos h n (by omega)
    have hg : 0 ≤ q.getD n 0 := by
      rw [List.getD_eq_getElem?_getD, List.getElem?_eq_getElem (by omega)]; exact h _ (List.getElem_mem _)
    rw [sumN]
    refine ⟨by omega, ⟨fun e j hj => ?_, fun e => ?_⟩⟩
    · by_cases hj2 : j < n
      · exact ih.2.1 (by omega) j hj2
      · obtain rfl : j = n := by omega
        omega
    · have h1 := ih.2.2 fun j hj => e j (by omega)
      have h2 := e n (by omega)
      omega
theorem headD_atI {l : List (List Int)} (h : 0 < l.length) : l.headD [] = l[0] := by cases l with
  | nil => simp at h
  | cons a l => rfl
/-- There is a first column exactly if there are columns. -/
theorem fir_cnt {r wd : Nat} {R : List (List Bool)} (hw : ∀ row ∈ R, row.length = wd) (hR : 1 ≤ R.length) : (firL (r : Int) R).isNone = (cntR (r : Int) R == 0) := by
  have hW0 : 0 < (wayL (r : Int) R).length := by rw [wayL_len]; omega
  have hD0 : 0 < (endL (r : Int) R).length := by rw [endL_len]; omega
  have hq : (wayL (r : Int) R).headD [] = (wayL (r : Int) R)[0] := headD_atI hW0
  have hnn := wayL_nn (r : Int) (R := R) _ (List.getElem_mem hW0)
  have hpos : (endL (r : Int) R)[0] = posR (wayL (r : Int) R)[0] := by simp only [← pos_way, posL, List.getElem_map]
  have hcz := (sumN_pos hnn _ (Nat.le_refl _)).2
  have hop : ∀ x, opn (endL (r : Int) R) 0 x = decide (0 < (wayL (r : Int) R)[0].getD x 0) := fun x => by rw [opn_at hD0, hpos, posR_at]; rfl
  rw [Bool.eq_iff_iff, Option.isNone_iff_eq_none, beq_iff_eq]
  unfold cntR
  rw [hq, hcz]
  constructor
  · intro hn j hj
    apply Classical.byContradiction
    intro hne
    have hge := hnn _ (List.getElem_mem hj)
    have hgj : (wayL (r : Int) R)[0].getD j 0 = (wayL (r : Int) R)[0][j] := by rw [List.getD_eq_getElem?_getD, List.getElem?_eq_getElem hj]; rfl
    obtain ⟨l, hl⟩ := fir_some hw (x0 := j) (by rw [hop, decide_eq_true_iff]; omega) (endL (r : Int) R).length (Nat.le_refl _)
    unfold firL at hn
    rw [hn] at hl; cases hl
  · intro hz
    unfold firL
    have h1 : firP (r : Int) (endL r R) 1 = none := by
      refine firP_bad hD0 rfl ?_
      unfold lowB
      rw [List.find?_eq_none]
      intro x hx
      have ho := hop x
      rw [opn_at hD0] at ho
      rw [ho]
      have : (wayL (r : Int) R)[0].getD x 0 = 0 := by
        by_cases hj : x < (wayL (r : Int) R)[0].length
        · exact hz x hj
        · rw [List.getD_eq_getElem?_getD, List.getElem?_eq_none (by omega)]; rfl
      rw [this]; simp
    exact firP_none h1 _ (by omega)
end Go.Proofs.Ytbabdoafpljdbaa
