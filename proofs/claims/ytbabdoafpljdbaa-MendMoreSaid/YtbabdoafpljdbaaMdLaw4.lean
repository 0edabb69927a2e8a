/- A greater reach, and one more fault: laws. -/
import Derived.Test.YtbabdoafpljdbaaMdLaw2
import Derived.Test.YtbabdoafpljdbaaMd25
namespace Go.Proofs.Ytbabdoafpljdbaa
open Go.RowKit

theorem Std.reach {R : List (List Bool)} {r r' n : Nat} {fs : Nat → Nat → Nat} (h : Std R r n fs) (hr : r ≤ r') : Std R r' n fs :=
  ⟨fun i hi j hj => ⟨(h.col i hi j hj).1, fun h0 => by have := (h.col i hi j hj).2 h0; rw [near_iff] at this ⊢; omega⟩, h.lt⟩
theorem more_reach {wd ht : Int} {F : List Cel} (hv : gvB wd ht F = true) {r r' : Nat} (hr : r ≤ r') (hr' : r' ≤ 3) : (clR wd ht F r).length ≤ (clR wd ht F r').length := by
  obtain ⟨f1, f2, f3⟩ := fld_facts hv
  have e1 : opE wd ht F r = 0 := by unfold opE; rw [if_pos hv, if_pos (bw_iff.2 (by omega))]
  have e2 : opE wd ht F r' = 0 := by unfold opE; rw [if_pos hv, if_pos (bw_iff.2 (by omega))]
  unfold clR
  rw [if_pos e1, if_pos e2]
  obtain ⟨fs, h1, -⟩ := greedy_std (r := r) 13 f2 f1.1
  exact greedy_max 13 f2 f1.1 (liv13 f2 f1.1 f3) (h1.reach hr)
/-- No fault lies in a column of cells. -/
def noF (F : List Cel) (x : Nat) : Bool := F.all fun c => !(c.x == (x : Int))
def wholeN (wd : Nat) (F : List Cel) : Nat := ((List.range wd).filter (noF F)).length
theorem noF_iff {F : List Cel} {x : Nat} : noF F x = true ↔ ∀ c ∈ F, c.x ≠ x := by
  unfold noF; simp
theorem whole_eq {wd ht : Int} {F : List Cel} (hv : gvB wd ht F = true) : (clR wd ht F 0).length = wholeN wd.toNat F := by
  obtain ⟨f1, f2, f3⟩ := fld_facts hv
  obtain ⟨-, -, -, hon⟩ := gv_facts hv
  obtain ⟨g1, g2, -, -, g5, g6⟩ := gv_nat hv
  have e1 : opE wd ht F 0 = 0 := by unfold opE; rw [if_pos hv, if_pos (bw_iff.2 (by omega))]
  unfold clR
  rw [if_pos e1]
  have hl := fld_len wd.toNat ht.toNat F
  apply Nat.le_antisymm
  · obtain ⟨fs, h1, -⟩ := greedy_std (r := 0) 13 f2 f1.1
    have hcon : ∀ i, i < (colsM (0 : Nat) 13 (fld wd.toNat ht.toNat F)).length → ∀ j, j < ht.toNat → fs i j = fs i 0 := fun i hi j => by
      induction j with
      | zero => intro _; rfl
      | succ j ih =>
        intro hj
        have := (h1.col i hi (j + 1) (by omega)).2 (by omega)
        rw [near_iff] at this
        have := ih (by omega)
        simp only [Nat.add_sub_cancel] at *
        omega
    refine inj_len (fun i x => x = fs i 0) _ ((List.range wd.toNat).filter (noF F)) (fun i hi => ⟨fs i 0, ?_, rfl⟩) (fun i i' x hi hi' e e' => h1.inj (j := 0) (by omega) hi hi' (by rw [← e, ← e']))
    rw [List.mem_filter, List.mem_range, noF_iff]
    obtain ⟨-, h2, -⟩ := fld_opn.1 (h1.col i hi 0 (by omega)).1
    refine ⟨h2, fun c hc hx => ?_⟩
    obtain ⟨hcx, hcy⟩ := hon c hc
    have h3 := fld_opn.1 (h1.col i hi c.y.toNat (by omega)).1
    rw [hcon i hi c.y.toNat (by omega)] at h3
    apply h3.2.2
    have : (⟨(fs i 0 : Nat), (c.y.toNat : Nat)⟩ : Cel) = c := by
      rcases c with ⟨a, b⟩
      simp only at hx hcy ⊢
      rw [Cel.mk.injEq]; omega
    rw [this]; exact hc
  · unfold wholeN
    obtain ⟨xs, hxs⟩ : ∃ x, (List.range wd.toNat).filter (noF F) = x := ⟨_, rfl⟩
    rw [hxs]
    have hmem : ∀ x ∈ xs, x < wd.toNat ∧ ∀ c ∈ F, c.x ≠ x := fun x hx => by
      rw [← hxs, List.mem_filter, List.mem_range, noF_iff] at hx
      exact hx
    have hsort : xs.Pairwise (· < ·) := by rw [← hxs]; exact List.pairwise_lt_range.filter _
    have hat : ∀ i (hi : i < xs.length), xs.getD i 0 = xs[i] := fun i hi => by rw [List.getD_eq_getElem?_getD, List.getElem?_eq_getElem hi]; rfl
    refine greedy_max (r := 0) 13 f2 f1.1 (liv13 f2 f1.1 f3) (fs := fun i _ => xs.getD i 0) ⟨fun i hi j hj => ?_, fun i hi j hj => ?_⟩
    · rw [hat i hi]
      obtain ⟨h1, h2⟩ := hmem _ (List.getElem_mem hi)
      refine ⟨fld_opn.2 ⟨by omega, h1, fun hm => h2 _ hm rfl⟩, fun _ => ?_⟩
      rw [near_iff]; omega
    · rw [hat i (by omega), hat (i + 1) hi]
      exact List.pairwise_iff_getElem.1 hsort i (i + 1) (by omega) hi (by omega)
theorem worse_law {wd ht : Int} {F : List Cel} {c : Cel} (h : wsE wd ht F c = 0) {r : Nat} (hr : r ≤ 3) : gvB wd ht (F ++ [c]) = true ∧ (clR wd ht (F ++ [c]) r).length ≤ (clR wd ht F r).length ∧ (clR wd ht F r).length ≤ (clR wd ht (F ++ [c]) r).length + 1 := by
  unfold wsE at h
  have hv : gvB wd ht F = true := by
    cases hg : gvB wd ht F
    · rw [hg, if_neg (by decide)] at h; exact absurd h (by decide)
    · rfl
  rw [if_pos hv] at h
  have hoc : onB wd ht c = true ∧ F.length ≠ 96 := by
    by_cases hh : onB wd ht c = true ∧ F.length ≠ 96
    · exact hh
    · rw [if_neg] at h
      · exact absurd h (by decide)
      · intro h2
        rw [Bool.and_eq_true, Bool.not_eq_true', decide_eq_false_iff_not] at h2
        exact hh h2
  have hv2 : gvB wd ht (F ++ [c]) = true := by
    have h3 := hv
    simp only [gvB, Bool.and_eq_true, decide_eq_true_eq, List.all_eq_true] at h3 ⊢
    obtain ⟨⟨⟨a1, a2⟩, a3⟩, a4⟩ := h3
    refine ⟨⟨⟨a1, a2⟩, by rw [List.length_append]; simp; omega⟩, fun d hd => ?_⟩
    rcases List.mem_append.1 hd with hd | hd
    · exact a4 d hd
    · obtain rfl := List.mem_singleton.1 hd; exact hoc.1
  refine ⟨hv2, ?_⟩
  obtain ⟨f1, f2, f3⟩ := fld_facts hv
  obtain ⟨q1, q2, q3⟩ := fld_facts hv2
  have e1 : opE wd ht F r = 0 := by unfold opE; rw [if_pos hv, if_pos (bw_iff.2 (by omega))]
  have e2 : opE wd ht (F ++ [c]) r = 0 := by unfold opE; rw [if_pos hv2, if_pos (bw_iff.2 (by omega))]
  have hl := fld_len wd.toNat ht.toNat F
  have hl2 := fld_len wd.toNat ht.toNat (F ++ [c])
  unfold clR
  rw [if_pos e1, if_pos e2]
  constructor
  · obtain ⟨fs, h1, -⟩ := greedy_std (r := r) 13 q2 q1.1
    refine greedy_max 13 f2 f1.1 (liv13 f2 f1.1 f3) (fs := fs) ⟨fun i hi j hj => ?_, fun i hi j hj => h1.lt i hi j (by omega)⟩
    obtain ⟨h2, h3⟩ := h1.col i hi j (by omega)
    obtain ⟨h4, h5, h6⟩ := fld_opn.1 h2
    exact ⟨fld_opn.2 ⟨h4, h5, fun hm => h6 (List.mem_append.2 (.inl hm))⟩, h3⟩
  · obtain ⟨fs, h1, -⟩ := greedy_std (r := r) 13 f2 f1.1
    obtain ⟨n, hn⟩ : ∃ n, (colsM (r : Int) 13 (fld wd.toNat ht.toNat F)).length = n := ⟨_, rfl⟩
    rw [hn] at h1 ⊢
    have hstep : ∀ i, i < n → (∀ j, j < ht.toNat → (⟨(fs i j : Nat), (j : Nat)⟩ : Cel) ≠ c) → IsC (fld wd.toNat ht.toNat (F ++ [c])) r (fs i) := fun i hi hne j hj => by
      obtain ⟨h2, h3⟩ := h1.col i hi j (by omega)
      obtain ⟨h4, h5, h6⟩ := fld_opn.1 h2
      refine ⟨fld_opn.2 ⟨h4, h5, fun hm => ?_⟩, h3⟩
      rcases List.mem_append.1 hm with hm | hm
      · exact h6 hm
      · exact hne j h4 (List.mem_singleton.1 hm)
    by_cases hex : ∃ i0, i0 < n ∧ ∃ j0, j0 < ht.toNat ∧ (⟨(fs i0 j0 : Nat), (j0 : Nat)⟩ : Cel) = c
    · obtain ⟨i0, hi0, j0, hj0, e0⟩ := hex
      have hoth : ∀ i, i < n → i ≠ i0 → IsC (fld wd.toNat ht.toNat (F ++ [c])) r (fs i) := fun i hi hne => hstep i hi fun j hj e => by
        rw [← e0, Cel.mk.injEq] at e
        obtain rfl : j = j0 := by omega
        exact hne (h1.inj (j := j) (by omega) hi hi0 (by omega))
      have := greedy_max (r := r) 13 q2 q1.1 (liv13 q2 q1.1 q3) (n := n - 1) (fs := fun i => if i < i0 then fs i else fs (i + 1)) ⟨fun i hi => by
        by_cases hlt : i < i0
        · rw [if_pos hlt]; exact hoth i (by omega) (by omega)
        · rw [if_neg hlt]; exact hoth (i + 1) (by omega) (by omega), fun i hi j hj => by
        have hj2 : j < (fld wd.toNat ht.toNat F).length := by omega
        by_cases hlt : i + 1 < i0
        · rw [if_pos (show i < i0 by omega), if_pos hlt]; exact h1.lt i (by omega) j hj2
        · by_cases hlt2 : i < i0
          · rw [if_pos hlt2, if_neg hlt]
            exact Nat.lt_trans (h1.lt i (by omega) j hj2) (h1.lt (i + 1) (by omega) j hj2)
          · rw [if_neg hlt2, if_neg hlt]; exact h1.lt (i + 1) (by omega) j hj2⟩
      omega
    · have := greedy_max (r := r) 13 q2 q1.1 (liv13 q2 q1.1 q3) (n := n) (fs := fs) ⟨fun i hi => hstep i hi fun j hj e => hex ⟨i, hi, j, hj, e⟩, fun i hi j hj => h1.lt i hi j (by omega)⟩
      omega
end Go.Proofs.Ytbabdoafpljdbaa
