/- Walks among elements: the law for Circle and Chain. -/
import Derived.Test.YtakbpjgnjfigcaaGreatCircD
import Derived.Test.YtakbpjgnjfigcaaGreatMostL
namespace Go.Proofs.YtakbpjgnjfigcaaGreat
open Go.RowKit Go.Maps

/-- Each number is followed by one that it uses. -/
def Wk (us : Uses) (W : List Nat) : Prop := ∀ i (h : i + 1 < W.length), W[i + 1] ∈ us W[i]
theorem Wk.one (us : Uses) (a : Nat) : Wk us [a] := fun i h => absurd h (by simp)
theorem Wk.snoc {us : Uses} {W : List Nat} {a u : Nat} (h : Wk us (W ++ [a])) (hu : u ∈ us a) : Wk us (W ++ [a] ++ [u]) := by
  intro i hi
  simp only [List.length_append, List.length_cons, List.length_nil] at hi
  by_cases hlt : i + 1 < (W ++ [a]).length
  · have := h i hlt
    rw [List.getElem_append_left hlt, List.getElem_append_left (by omega)]
    exact this
  · have hie : i = W.length := by simp at hlt; omega
    subst hie
    simp [hu]
theorem Wk.rev {us : Uses} {W : List Nat} (h : Wk us W) : ∀ i (hi : i + 1 < W.reverse.length), W.reverse[i] ∈ us W.reverse[i + 1] := by
  intro i hi
  rw [List.getElem_reverse, List.getElem_reverse]
  rw [List.length_reverse] at hi
  have := h (W.length - 1 - (i + 1)) (by omega)
  have e : W.length - 1 - (i + 1) + 1 = W.length - 1 - i := by omega
  simp only [e] at this
  exact this
theorem Wk.drop {us : Uses} {W : List Nat} (h : Wk us W) (n : Nat) : Wk us (W.drop n) := by
  intro i hi
  rw [List.length_drop] at hi
  rw [List.getElem_drop, List.getElem_drop]
  exact h (n + i) (by omega)
theorem Wk.left {us : Uses} {W V : List Nat} (h : Wk us (W ++ V)) : Wk us W := by
  intro i hi
  have := h i (by simp; omega)
  rw [List.getElem_append_left hi, List.getElem_append_left (by omega)] at this
  exact this
section
variable {n : Int} {K : List Vv} {P : List Pt}
theorem elOf_el (ok : NetOk n K P) {k : Nat} (hk : k < K.length * P.length) : isEl K P (elOf P k).v (elOf P k).p = true := by
  obtain ⟨h1, h2, -⟩ := num_div hk
  unfold isEl elOf
  rw [Bool.and_eq_true]
  refine ⟨?_, bw_iff.2 ⟨Int.natCast_nonneg _, ?_⟩⟩
  rotate_left
  · show ((k / P.length : Nat) : Int) ≤ _
    obtain ⟨v, hv⟩ : ∃ v, k / P.length = v := ⟨_, rfl⟩
    rw [hv] at h1 ⊢; omega
  rw [pOf_at h2, pix_at ok.nd h2]; rfl
theorem elOf_i64 (ok : NetOk n K P) {k : Nat} (hk : k < K.length * P.length) : (elOf P k).I64 := by
  obtain ⟨h1, h2, -⟩ := num_div hk
  have := ok.vars
  have hv : -9223372036854775808 ≤ ((k / P.length : Nat) : Int) ∧ ((k / P.length : Nat) : Int) ≤ 9223372036854775807 := by
    obtain ⟨v, hv⟩ : ∃ v, k / P.length = v := ⟨_, rfl⟩
    rw [hv] at h1 ⊢; omega
  refine ⟨hv, ?_⟩
  show (pOf P k).I64
  rw [pOf_at h2]
  exact small_i64 (ok.pts _ (List.getElem_mem h2)) (by omega)
theorem chB_wk (ok : NetOk n K P) {R : List Nat} (hlt : ∀ k ∈ R, k < K.length * P.length) (h : ∀ i (hi : i + 1 < R.length), R[i] ∈ useN K P R[i + 1]) : chB K P (R.map (elOf P)) = true := by
  refine chB_yes fun i hi => ?_
  have hiR : i < R.length := by simpa using hi
  have e0 : (R.map (elOf P)).getD i default = elOf P R[i] := by rw [getD_el hi]; simp
  have hk := hlt _ (List.getElem_mem hiR)
  unfold stepB
  rw [e0, elOf_el ok hk, elNum_of ok hk, Bool.true_and]
  cases i with
  | zero => rfl
  | succ i =>
    have e1 : (R.map (elOf P)).getD (i + 1 - 1) default = elOf P R[i] := by rw [getD_el (by simp; omega)]; simp
    have hk1 := hlt R[i] (List.getElem_mem (by omega))
    rw [e1, elNum_of ok hk1, Bool.or_eq_true]
    exact .inr (List.contains_iff_mem.2 (h i hiR))
theorem elOf_nd (ok : NetOk n K P) {R : List Nat} (hlt : ∀ k ∈ R, k < K.length * P.length) (hn : R.Nodup) : (R.map (elOf P)).Nodup := by
  rw [List.nodup_iff_pairwise_ne] at hn ⊢
  rw [List.pairwise_map]
  refine hn.imp_of_mem fun ha hb hne e => hne ?_
  rw [← elNum_of ok (hlt _ ha), ← elNum_of ok (hlt _ hb), e]
/-- A walk that has come back is a circle. -/
theorem ic_walk (ok : NetOk n K P) {W : List Nat} {a f : Nat} (hwk : Wk (useN K P) (W ++ [a])) (hlt : ∀ k ∈ W, k < K.length * P.length) (hnd : W.Nodup) (hf : f < W.length) (he : W[f] = a) : icB K P ((W.drop f).reverse.map (elOf P)) = true := by
  have hltd : ∀ k ∈ (W.drop f).reverse, k < K.length * P.length := fun k hk => hlt k (List.mem_of_mem_drop (List.mem_reverse.1 hk))
  have hl : (W.drop f).length = W.length - f := List.length_drop
  have hpos : 0 < (W.drop f).reverse.length := by rw [List.length_reverse]; omega
  have hlst := hwk (W.length - 1) (by simp; omega)
  have e1 : (W ++ [a])[W.length - 1 + 1]'(by simp; omega) = a := by
    have : W.length - 1 + 1 = W.length := by omega
    simp [this]
  rw [e1, List.getElem_append_left (by omega)] at hlst
  unfold icB
  rw [chB_wk ok hltd (hwk.left.drop f).rev, Bool.true_and, Bool.and_eq_true, Bool.and_eq_true]
  refine ⟨by simp; omega, ?_, decide_eq_true (elOf_nd ok hltd ?_)⟩
  · unfold endB
    have e2 : ((W.drop f).reverse.map (elOf P)).getD 0 default = elOf P W[W.length - 1] := by
      rw [getD_el (by simpa using hpos), List.getElem_map, List.getElem_reverse, List.getElem_drop]
      congr 2 <;> omega
    have e3 : ((W.drop f).reverse.map (elOf P)).getD (((W.drop f).reverse.map (elOf P)).length - 1) default = elOf P a := by
      rw [getD_el (by simp; omega), List.getElem_map, List.getElem_reverse, List.getElem_drop]
      rw [← he]
      congr 2 <;> simp <;> omega
    have h1 := hlt _ (List.getElem_mem (by omega : W.length - 1 < W.length))
    have h2 : a < K.length * P.length := by rw [← he]; exact hlt _ (List.getElem_mem hf)
    rw [e2, e3, elNum_of ok h1, elNum_of ok h2]
    exact List.contains_iff_mem.2 hlst
  · rw [List.nodup_iff_pairwise_ne, List.pairwise_reverse]
    exact (List.nodup_iff_pairwise_ne.1 (hnd.sublist (List.drop_sublist _ _))).imp fun h => h.symm
theorem nd_small {N : Nat} {W : List Nat} (hlt : ∀ k ∈ W, k < N) (hnd : W.Nodup) : W.length ≤ N := nodup_len N W hnd hlt
/-- Who waits uses one that waits. -/
theorem Ordd.next {us : Uses} {N : Nat} {out : List Nat} {wait : List Int} (h : Ordd us N out wait) (hus : ∀ k, k < N → ∀ u ∈ us k, u < N) {k : Nat} (hk : k < N) (hw : 0 < wait.getD k 0) : ∃ u ∈ us k, 0 < wait.getD u 0 := by
  have hnz : lftN us out k ≠ 0 := by have := h.wt k hk; omega
  have : ¬ ∀ u ∈ us k, u ∈ out := fun hall => hnz (left_zero.2 hall)
  obtain ⟨u, hu, hno⟩ : ∃ u, u ∈ us k ∧ u ∉ out := by
    refine Classical.byContradiction fun hc => this fun u hu => Classical.byContradiction fun hn => hc ⟨u, hu, hn⟩
  have huN := hus k hk u hu
  have h1 := h.wt u huN
  have h2 := (h.mem u huN).2
  refine ⟨u, hu, ?_⟩
  by_cases h0 : wait.getD u 0 = 0
  · exact absurd (h2 h0) hno
  · omega
theorem Ordd.some_waits {us : Uses} {N : Nat} {out : List Nat} {wait : List Int} (h : Ordd us N out wait) (hlt : out.length < N) : ∃ k, k < N ∧ 0 < wait.getD k 0 := by
  have : ¬ ∀ k, k < N → k ∈ out := fun hall => by have := range_len hall; omega
  obtain ⟨k, hk, hno⟩ : ∃ k, k < N ∧ k ∉ out := by
    refine Classical.byContradiction fun hc => this fun u hu => Classical.byContradiction fun hn => hc ⟨u, hu, hn⟩
  have h1 := h.wt k hk
  refine ⟨k, hk, ?_⟩
  by_cases h0 : wait.getD k 0 = 0
  · exact absurd ((h.mem k hk).2 h0) hno
  · omega
theorem Ordd.none_waits {us : Uses} {N : Nat} {out : List Nat} {wait : List Int} (h : Ordd us N out wait) (hl : out.length = N) : ∀ k, k < N → ¬ 0 < wait.getD k 0 := fun k hk h0 => by
  have := (h.mem k hk).1 (h.full hl k hk)
  omega
end
end Go.Proofs.YtakbpjgnjfigcaaGreat
