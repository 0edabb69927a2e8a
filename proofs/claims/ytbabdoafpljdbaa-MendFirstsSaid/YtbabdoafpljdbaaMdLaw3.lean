/- The first column: laws. -/
import Derived.Test.YtbabdoafpljdbaaMdLaw2
import Derived.Test.YtbabdoafpljdbaaMd32
namespace Go.Proofs.Ytbabdoafpljdbaa
open Go.RowKit

theorem fir_col {R : List (List Bool)} {r : Nat} {l : List Int} (h : firL (r : Int) R = some l) : isColB R r l = true := by
  obtain ⟨h1, h2⟩ := firP_facts (Nat.le_refl _) h
  rw [endL_len] at h1 h2
  refine isCol_iff.2 ⟨h1, fun j => (l.getD j 0).toNat, fun j hj => ?_, fun j hj => ?_⟩
  · obtain ⟨k, h3, -⟩ := h2 j hj
    dsimp only; rw [h3]; rfl
  · obtain ⟨k, h3, h4, h5, -⟩ := h2 j hj
    dsimp only
    rw [h3, Int.toNat_natCast]
    refine ⟨end_sub h4, fun h0 => ?_⟩
    obtain ⟨k', h6, -⟩ := h2 (j - 1) (by omega)
    have := h5 h0
    rw [h6] at this ⊢
    exact this
theorem fir_min {R : List (List Bool)} {r : Nat} {l c : List Int} (h : firL (r : Int) R = some l) (hc : isColB R r c = true) {y : Nat} (hy : y < R.length) (he : ∀ j, j < y → l.getD j 0 = c.getD j 0) (hne : l.getD y 0 ≠ c.getD y 0) : l.getD y 0 < c.getD y 0 := by
  obtain ⟨h1, h2⟩ := firP_facts (Nat.le_refl _) h
  rw [endL_len] at h1 h2
  obtain ⟨hc1, f, hc2, hf⟩ := isCol_iff.1 hc
  obtain ⟨k, h3, h4, h5, h6⟩ := h2 y hy
  have hcy := hc2 y hy
  rw [h3, hcy] at hne ⊢
  have hle : ¬ f y < k := fun hlt => by
    obtain ⟨h7, h8⟩ := h6 (f y) hlt (hf.end hy)
    have h9 := (hf y hy).2 h7
    rw [he (y - 1) (by omega), hc2 (y - 1) (by omega), h9] at h8
    cases h8
  omega
theorem fir_none {R : List (List Bool)} {r wd : Nat} (hw : ∀ row ∈ R, row.length = wd) (hR : 1 ≤ R.length) (h : firL (r : Int) R = none) : cntR (r : Int) R = 0 ∧ (colsM r 13 R).length = 0 ∧ ∀ c, isColB R r c = false := by
  have hno := no_cols hw hR h
  refine ⟨?_, ?_, fun c => ?_⟩
  · have := fir_cnt (r := r) hw hR
    rw [h] at this
    simpa using this.symm
  · obtain ⟨fs, h1, -⟩ := greedy_std (r := r) 13 hw hR
    by_cases h0 : (colsM (r : Int) 13 R).length = 0
    · exact h0
    · exact absurd (h1.col 0 (by omega)) (hno _)
  · rw [Bool.eq_false_iff]; intro hc
    obtain ⟨-, f, -, hf⟩ := isCol_iff.1 hc
    exact hno f hf
def posX (q : List Int) (x : Nat) : Bool := decide ((0 : Int) < q.getD x 0)
theorem cnt_ge {q : List Int} (h : ∀ z ∈ q, 0 ≤ z) : ∀ n, n ≤ q.length → (((List.range n).filter (posX q)).length : Int) ≤ sumN q n
  | 0, _ => by simp [sumN]
  | n + 1, hn => by
    have ih := cnt_ge h n (by omega)
    have hg : 0 ≤ q.getD n 0 := by
      rw [List.getD_eq_getElem?_getD, List.getElem?_eq_getElem (by omega)]; exact h _ (List.getElem_mem _)
    rw [List.range_succ, List.filter_append, List.length_append, sumN]
    by_cases h0 : 0 < q.getD n 0
    · have e : ([n].filter (posX q)).length = 1 := by rw [List.filter_cons_of_pos (by simpa [posX] using h0)]; rfl
      rw [e]; omega
    · have e : ([n].filter (posX q)).length = 0 := by rw [List.filter_cons_of_neg (by simpa [posX] using h0)]; rfl
      rw [e]; omega
theorem fir_ok {R : List (List Bool)} {r wd : Nat} (hw : ∀ row ∈ R, row.length = wd) (hR : 1 ≤ R.length) (hwd : wd ≤ 12) {l : List Int} (h : firL (r : Int) R = some l) : 1 ≤ (colsM r 13 R).length ∧ ((colsM r 13 R).length : Int) ≤ cntR (r : Int) R := by
  obtain ⟨-, f, -, hf⟩ := isCol_iff.1 (fir_col h)
  have h1 : 1 ≤ (colsM r 13 R).length := greedy_max 13 hw hR (liv13 hw hR hwd) (n := 1) (fs := fun _ => f) ⟨fun i _ => hf, fun i hi => absurd hi (by omega)⟩
  refine ⟨h1, ?_⟩
  obtain ⟨fs, hs, -⟩ := greedy_std (r := r) 13 hw hR
  have hW0 : 0 < (wayL (r : Int) R).length := by rw [wayL_len]; omega
  have hD0 : 0 < (endL (r : Int) R).length := by rw [endL_len]; omega
  have hnn := wayL_nn (r : Int) (R := R) _ (List.getElem_mem hW0)
  have hpos : (endL (r : Int) R)[0] = posR (wayL (r : Int) R)[0] := by simp only [← pos_way, posL, List.getElem_map]
  have hWw := wayL_rows (r : Int) hw _ (List.getElem_mem hW0)
  unfold cntR
  rw [headD_atI hW0]
  refine Int.le_trans ?_ (cnt_ge hnn _ (Nat.le_refl _))
  have := inj_len (fun i x => x = fs i 0) (colsM (r : Int) 13 R).length ((List.range (wayL (r : Int) R)[0].length).filter (posX (wayL (r : Int) R)[0])) (fun i hi => ⟨fs i 0, by
    have h2 := (hs.col i hi).end (j := 0) (by omega)
    have h3 := (opn_lt (endL_rows (r : Int) hw) h2).2
    rw [opn_at hD0, hpos, posR_at] at h2
    rw [List.mem_filter, List.mem_range]
    exact ⟨by rw [hWw]; exact h3, by unfold posX; exact h2⟩, rfl⟩) (fun i i' x hi hi' e e' => hs.inj (j := 0) (by omega) hi hi' (by rw [← e, ← e']))
  omega
/-- What is told of the first column, of columns, of how many there are and how many can stand. -/
theorem first_none {wd ht r : Int} {F : List Cel} (h : opE wd ht F r = 0) (h5 : frE wd ht F r ≠ 0) (c : List Int) : frE wd ht F r = 5 ∧ ctN wd ht F r = 0 ∧ (clR wd ht F r).length = 0 ∧ icB wd ht F r c = false := by
  obtain ⟨hv, hr⟩ := opE_ok h
  obtain ⟨f1, f2, f3⟩ := fld_facts hv
  obtain ⟨r, rfl⟩ : ∃ n : Nat, r = n := ⟨r.toNat, by omega⟩
  unfold frE at h5 ⊢
  rw [if_pos h] at h5 ⊢
  cases h6 : firL (r : Int) (fld wd.toNat ht.toNat F) with
  | some l => rw [h6] at h5; exact absurd rfl h5
  | none =>
    obtain ⟨h7, h8, h9⟩ := fir_none f2 f1.1 h6
    unfold ctN clR icB
    rw [if_pos h, if_pos h, if_pos h]
    exact ⟨rfl, h7, h8, h9 c⟩
theorem first_ok {wd ht r : Int} {F : List Cel} (h : opE wd ht F r = 0) (h5 : frE wd ht F r = 0) : (frL wd ht F r).length = ht.toNat ∧ icB wd ht F r (frL wd ht F r) = true ∧ 1 ≤ (clR wd ht F r).length ∧ ((clR wd ht F r).length : Int) ≤ ctN wd ht F r ∧ (∀ n ∈ frL wd ht F r, 0 ≤ n ∧ n ≤ 12) ∧
    ∀ c, icB wd ht F r c = true → c.length = (frL wd ht F r).length ∧ ∀ y, y < c.length → (∀ j, j < y → (frL wd ht F r).getD j 0 = c.getD j 0) → (frL wd ht F r).getD y 0 ≠ c.getD y 0 → (frL wd ht F r).getD y 0 < c.getD y 0 := by
  obtain ⟨hv, hr⟩ := opE_ok h
  obtain ⟨f1, f2, f3⟩ := fld_facts hv
  obtain ⟨r, rfl⟩ : ∃ n : Nat, r = n := ⟨r.toNat, by omega⟩
  unfold frE at h5
  rw [if_pos h] at h5
  cases h6 : firL (r : Int) (fld wd.toNat ht.toNat F) with
  | none => rw [h6] at h5; exact absurd h5 (by decide)
  | some l =>
    have e : frL wd ht F r = l := by unfold frL; rw [if_pos h, h6]; rfl
    have hcol := fir_col h6
    have hl := (isCol_facts hcol).1
    obtain ⟨h7, h8⟩ := fir_ok f2 f1.1 f3 h6
    rw [e]
    unfold ctN clR icB
    rw [if_pos h, if_pos h, if_pos h]
    refine ⟨by rw [hl, fld_len], hcol, h7, h8, fun n hn => ?_, fun c hc => ?_⟩
    · obtain ⟨j, hj, rfl⟩ := List.getElem_of_mem hn
      have := isCol_rng f2 hcol hj
      omega
    · rw [if_pos h] at hc
      have hcl := (isCol_facts hc).1
      exact ⟨by rw [hcl, hl], fun y hy he hne => fir_min h6 hc (by omega) he hne⟩
end Go.Proofs.Ytbabdoafpljdbaa
