/- A chain has at most as many elements as the greatest level: the law. -/
import Derived.Test.YtakbpjgnjfigcaaGreatFndLaw
namespace Go.Proofs.YtakbpjgnjfigcaaGreat
open Go.RowKit Go.Maps

theorem chn_le {n : Int} {K : List Vv} {P : List Pt} {L : List Ar} (ok : NetOk n K P) (hg : okN2 K P) (h : chB K P L = true) : (L.length : Int) ≤ mostL (rowsN P.length (lvsL K P) K.length) := by
  have hstep : ∀ i, i < L.length → stepB K P L i = true := fun i hi => List.all_eq_true.1 h i (List.mem_range.2 hi)
  have hel := chB_el h
  have hlt : ∀ i (hi : i < L.length), elNum P L[i] < K.length * P.length := fun i hi => by
    have := hel _ (List.getElem_mem hi)
    rw [isEl_in, Bool.and_eq_true] at this
    exact (elOf_num ok this.2 this.1).2
  have hlv : ∀ i (hi : i < L.length), i + 1 ≤ lvl (useN K P) (elNum P L[i]) := by
    intro i
    induction i with
    | zero => intro hi; exact lvl_pos (hg _ (hlt 0 hi))
    | succ i ih =>
      intro hi
      have h1 := hstep (i + 1) hi
      unfold stepB at h1
      rw [getD_el hi, Bool.and_eq_true, Bool.or_eq_true] at h1
      rcases h1.2 with h2 | h2
      · exact absurd h2 (by simp)
      · have e : L.getD (i + 1 - 1) default = L[i] := getD_el (by omega)
        rw [e] at h2
        have h3 := lvl_use (hg _ (hlt (i + 1) hi)) (List.contains_iff_mem.1 h2)
        have := ih (by omega)
        omega
  by_cases h0 : L.length = 0
  · rw [h0]; exact mostL_nonneg _
  · have hi : L.length - 1 < L.length := by omega
    have h1 := hlv _ hi
    have hk := hlt _ hi
    obtain ⟨r, hr, hx⟩ := rowsN_has (lvsL_len K P) hk
    have h2 := (most_le (mostL_nonneg _)).1 (Int.le_refl _) r hr _ hx
    rw [lvsL_at hk] at h2
    omega
end Go.Proofs.YtakbpjgnjfigcaaGreat
