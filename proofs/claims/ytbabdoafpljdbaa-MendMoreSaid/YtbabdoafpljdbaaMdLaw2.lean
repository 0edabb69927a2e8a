/- Columns that stand, cuts and living cells: bounds. -/
import Derived.Test.YtbabdoafpljdbaaMdLaw
import Derived.Test.YtbabdoafpljdbaaMd41
import Derived.Test.YtbabdoafpljdbaaMd24
namespace Go.Proofs.Ytbabdoafpljdbaa
open Go.RowKit

theorem colAt_opn {R : List (List Bool)} {r : Int} {c : List Int} {j : Nat} : colAt R r c j = true ↔ (0 ≤ c.getD j 0 ∧ opn R j (c.getD j 0).toNat = true) ∧ (j ≠ 0 → nearB (c.getD j 0) (c.getD (j - 1) 0) r = true) := by
  unfold colAt cellR opn
  rw [Bool.and_eq_true, Bool.and_eq_true, decide_eq_true_iff, Bool.or_eq_true, decide_eq_true_iff]
  constructor
  · rintro ⟨h1, h2⟩
    exact ⟨h1, fun h0 => h2.resolve_left h0⟩
  · rintro ⟨h1, h2⟩
    refine ⟨h1, ?_⟩
    by_cases h0 : j = 0
    · exact .inl h0
    · exact .inr (h2 h0)
theorem isCol_iff {R : List (List Bool)} {r : Nat} {c : List Int} : isColB R r c = true ↔ c.length = R.length ∧ ∃ f, (∀ j, j < R.length → c.getD j 0 = (f j : Nat)) ∧ IsC R r f := by
  constructor
  · intro h
    obtain ⟨h1, h2⟩ := isCol_facts h
    refine ⟨h1, fun j => (c.getD j 0).toNat, fun j hj => ?_, fun j hj => ?_⟩
    · have := (colAt_opn.1 (h2 j (by omega))).1.1
      dsimp only
      omega
    · dsimp only
      have h3 := colAt_opn.1 (h2 j (by omega))
      refine ⟨h3.1.2, fun h0 => ?_⟩
      have h4 := (colAt_opn.1 (h2 (j - 1) (by omega))).1.1
      have h5 := h3.2 h0
      rw [near_iff] at h5 ⊢
      have := h3.1.1
      omega
  · rintro ⟨h1, f, h2, h3⟩
    simp only [isColB, Bool.and_eq_true, decide_eq_true_eq, List.all_eq_true, List.mem_range]
    refine ⟨h1, fun j hj => colAt_opn.2 ?_⟩
    obtain ⟨h4, h5⟩ := h3 j (by omega)
    rw [h2 j (by omega)]
    refine ⟨⟨by omega, by rw [Int.toNat_natCast]; exact h4⟩, fun h0 => ?_⟩
    rw [h2 (j - 1) (by omega)]
    exact h5 h0
theorem stand_std {R : List (List Bool)} {r : Nat} {k : List (List Int)} (h : standB R r k = true) : ∃ fs, Std R r k.length fs := by
  have hk := stand_iff.1 h
  refine ⟨fun i j => ((colN k i).getD j 0).toNat, fun i hi => ?_, fun i hi j hj => ?_⟩
  · obtain ⟨h1, f, h2, h3⟩ := isCol_iff.1 (hk i hi).1
    intro j hj
    have := h3 j hj
    dsimp only
    rw [h2 j hj, Int.toNat_natCast]
    refine ⟨this.1, fun h0 => ?_⟩
    rw [h2 (j - 1) (by omega), Int.toNat_natCast]
    exact this.2 h0
  · obtain ⟨h1, f, h2, h3⟩ := isCol_iff.1 (hk i (by omega)).1
    obtain ⟨h4, f', h5, h6⟩ := isCol_iff.1 (hk (i + 1) hi).1
    have := gtB_iff.1 (hk (i + 1) hi).2
    rcases this with e | h7
    · omega
    · have h8 := h7 j (by omega)
      simp only [Nat.add_sub_cancel] at h8
      rw [h2 j hj, h5 j hj] at h8
      show ((colN k i).getD j 0).toNat < ((colN k (i + 1)).getD j 0).toNat
      rw [h2 j hj, h5 j hj]; omega
theorem std_stand {R : List (List Bool)} {r : Nat} {k : List (List Int)} {fs : Nat → Nat → Nat} (h : Std R r k.length fs) (hk : ∀ i, i < k.length → (k.getD i []).length = R.length ∧ ∀ j, j < R.length → (k.getD i []).getD j 0 = (fs i j : Nat)) : standB R r k = true := by
  refine stand_iff.2 fun i hi => ⟨isCol_iff.2 ⟨(hk i hi).1, fs i, (hk i hi).2, h.col i hi⟩, gtB_iff.2 ?_⟩
  by_cases h0 : i = 0
  · exact .inl h0
  · refine .inr fun y hy => ?_
    have hy2 : y < R.length := by have := (hk i hi).1; unfold colN at hy; omega
    have h1 := (hk i hi).2 y hy2
    have h2 := (hk (i - 1) (by omega)).2 y hy2
    have h3 := h.lt (i - 1) (by omega) y hy2
    rw [show i - 1 + 1 = i by omega] at h3
    unfold colN
    rw [h1, h2]; omega
theorem liv13 {R : List (List Bool)} {wd : Nat} (hw : ∀ row ∈ R, row.length = wd) (hR : 1 ≤ R.length) (hwd : wd ≤ 12) : liveN R < 13 := by
  unfold liveN
  rw [headD_at (by omega)]
  have h1 := List.length_filter_le id R[0]
  have h2 := hw _ (List.getElem_mem (show 0 < R.length by omega))
  omega
theorem stand_bound {R : List (List Bool)} {r wd : Nat} (hw : ∀ row ∈ R, row.length = wd) (hR : 1 ≤ R.length) (hwd : wd ≤ 12) {k : List (List Int)} (h : standB R r k = true) : k.length ≤ (colsM r 13 R).length := by
  obtain ⟨fs, hs⟩ := stand_std h
  exact greedy_max 13 hw hR (liv13 hw hR hwd) hs
theorem cols_stand {R : List (List Bool)} {r wd : Nat} (hw : ∀ row ∈ R, row.length = wd) (hR : 1 ≤ R.length) : standB R r (colsM r 13 R) = true := by
  obtain ⟨fs, h1, h2⟩ := greedy_std (r := r) 13 hw hR
  exact std_stand h1 h2
/-- Things that hit different elements are no more than the elements. -/
theorem inj_len {α : Type} [DecidableEq α] (P : Nat → α → Prop) : ∀ (n : Nat) (K : List α), (∀ i, i < n → ∃ x ∈ K, P i x) → (∀ i i' x, i < n → i' < n → P i x → P i' x → i = i') → n ≤ K.length
  | 0, _, _, _ => by omega
  | n + 1, K, h, hi => by
    obtain ⟨x, hx, hp⟩ := h n (by omega)
    have := inj_len P n (K.erase x) (fun i hin => by
      obtain ⟨y, hy, hq⟩ := h i (by omega)
      refine ⟨y, (List.mem_erase_of_ne (fun e => ?_)).2 hy, hq⟩
      subst e
      have := hi i n y (by omega) (by omega) hq hp
      omega) (fun i i' x h1 h2 => hi i i' x (by omega) (by omega))
    rw [List.length_erase_of_mem hx] at this
    have := List.length_pos_of_mem hx
    omega
theorem fld_opn {w h : Nat} {F : List Cel} {j x : Nat} : opn (fld w h F) j x = true ↔ j < h ∧ x < w ∧ (⟨x, j⟩ : Cel) ∉ F := by
  by_cases hj : j < h
  · rw [opn_at (by rw [fld_len]; exact hj), fld_row hj, List.getD_eq_getElem?_getD, List.getElem?_map]
    by_cases hx : x < w
    · rw [List.getElem?_range hx]; simp [hj, hx]
    · rw [List.getElem?_eq_none (by simpa using hx)]; simp [hx]
  · constructor
    · intro hh
      unfold opn at hh
      rw [List.getD_eq_getElem?_getD (l := fld w h F), List.getElem?_eq_none (by rw [fld_len]; omega)] at hh
      simp at hh
    · intro hh; exact absurd hh.1 hj
theorem no_cols {R : List (List Bool)} {r wd : Nat} (hw : ∀ row ∈ R, row.length = wd) (hR : 1 ≤ R.length) (h : firL (r : Int) R = none) : ∀ f, ¬ IsC R r f := fun f hf => by
  obtain ⟨l, hl⟩ := fir_some hw (hf.end (by omega)) (endL (r : Int) R).length (Nat.le_refl _)
  unfold firL at h
  rw [h] at hl; cases hl
/-- Columns that stand are no more than a cut has cells. -/
theorem cut_bound {wd ht r : Nat} {F K : List Cel} (hH : 1 ≤ ht) {n : Nat} {fs : Nat → Nat → Nat} (hs : Std (fld wd ht F) r n fs) (hc : cutB wd ht F r K = true) : n ≤ K.length := by
  unfold cutB at hc
  rw [Bool.and_eq_true, Option.isNone_iff_eq_none] at hc
  have hw2 : ∀ row ∈ fld wd ht (F ++ K), row.length = wd := fun row hr => by
    obtain ⟨y, hy, rfl⟩ := List.getElem_of_mem hr
    rw [fld_len] at hy
    rw [fld_row hy]; simp
  have hno := no_cols hw2 (by rw [fld_len]; exact hH) hc.2
  refine inj_len (fun i x => ∃ j : Nat, j < ht ∧ x = (⟨fs i j, j⟩ : Cel)) n K (fun i hi => ?_) (fun i i' x hi hi' ⟨j, hj, e⟩ ⟨j', hj', e'⟩ => ?_)
  · have h1 := hs.col i hi
    have h2 := hno (fs i)
    apply Classical.byContradiction
    intro hn
    apply h2
    intro j hj
    rw [fld_len] at hj
    obtain ⟨h3, h4⟩ := h1 j (by rw [fld_len]; exact hj)
    obtain ⟨_, h5, h6⟩ := fld_opn.1 h3
    refine ⟨fld_opn.2 ⟨hj, h5, fun h7 => ?_⟩, h4⟩
    rcases List.mem_append.1 h7 with h7 | h7
    · exact h6 h7
    · exact hn ⟨_, h7, j, hj, rfl⟩
  · rw [e] at e'
    simp only [Cel.mk.injEq] at e'
    obtain rfl : j = j' := by omega
    exact hs.inj (j := j) (by rw [fld_len]; exact hj) hi hi' (by omega)
theorem live_range (row : List Bool) : (row.filter id).length = ((List.range row.length).filter fun x => row.getD x false).length := by
  have e : row = (List.range row.length).map fun x => row.getD x false := by
    apply List.ext_getElem
    · simp
    · intro i h1 h2; simp [List.getElem?_eq_getElem h1]
  conv => lhs; rw [e, List.filter_map, List.length_map]
  rfl
/-- Columns that stand are no more than cells live in a row. -/
theorem live_bound {R : List (List Bool)} {r n wd : Nat} (hw : ∀ row ∈ R, row.length = wd) {fs : Nat → Nat → Nat} (hs : Std R r n fs) {y : Nat} (hy : y < R.length) : (n : Int) ≤ livN R[y] := by
  unfold livN
  rw [live_range]
  have := inj_len (fun i x => x = fs i y) n ((List.range R[y].length).filter fun x => R[y].getD x false) (fun i hi => ⟨fs i y, by
    have h1 := (hs.col i hi y hy).1
    have h2 := (opn_lt hw h1).2
    rw [List.mem_filter, List.mem_range]
    rw [opn_at hy] at h1
    exact ⟨by rw [hw _ (List.getElem_mem hy)]; exact h2, h1⟩, rfl⟩) (fun i i' x hi hi' e e' => hs.inj hy hi hi' (by rw [← e, ← e']))
  omega
theorem bnd_stand {wd ht r : Int} {F : List Cel} {k : List (List Int)} (h : stB wd ht F r k = true) : k.length ≤ (clR wd ht F r).length := by
  unfold stB at h
  by_cases h1 : opE wd ht F r = 0
  · rw [if_pos h1] at h
    obtain ⟨hv, hr⟩ := opE_ok h1
    obtain ⟨f1, f2, f3⟩ := fld_facts hv
    obtain ⟨r, rfl⟩ : ∃ n : Nat, r = n := ⟨r.toNat, by omega⟩
    unfold clR; rw [if_pos h1]
    exact stand_bound f2 f1.1 f3 h
  · rw [if_neg h1] at h; cases h
theorem bnd_cut {wd ht r : Int} {F K : List Cel} (h : icutB wd ht F r K = true) : (clR wd ht F r).length ≤ K.length := by
  unfold icutB at h
  by_cases h1 : opE wd ht F r = 0
  · rw [if_pos h1] at h
    obtain ⟨hv, hr⟩ := opE_ok h1
    obtain ⟨f1, f2, f3⟩ := fld_facts hv
    obtain ⟨r, rfl⟩ : ∃ n : Nat, r = n := ⟨r.toNat, by omega⟩
    unfold clR; rw [if_pos h1]
    obtain ⟨fs, h2, -⟩ := greedy_std (r := r) 13 f2 f1.1
    exact cut_bound (by rw [fld_len] at f1; exact f1.1) h2 h
  · rw [if_neg h1] at h; cases h
theorem bnd_live {wd ht r : Int} {F : List Cel} (h : opE wd ht F r = 0) : ∀ v ∈ livR wd ht F, ((clR wd ht F r).length : Int) ≤ v := fun v hv => by
  obtain ⟨hg, hr⟩ := opE_ok h
  obtain ⟨f1, f2, f3⟩ := fld_facts hg
  obtain ⟨r, rfl⟩ : ∃ n : Nat, r = n := ⟨r.toNat, by omega⟩
  unfold livR at hv
  rw [if_pos hg] at hv
  unfold livL at hv
  obtain ⟨row, hrow, rfl⟩ := List.mem_map.1 hv
  obtain ⟨y, hy, rfl⟩ := List.getElem_of_mem hrow
  unfold clR; rw [if_pos h]
  obtain ⟨fs, h2, -⟩ := greedy_std (r := r) 13 f2 f1.1
  exact live_bound f2 h2 hy
end Go.Proofs.Ytbabdoafpljdbaa
