/- Columns, those that stand, and the leftmost ones: laws on lists, with no program in sight. -/
import Derived.Test.YtbabdoafpljdbaaMdFir
import Derived.Test.YtbabdoafpljdbaaMd38
namespace Go.Proofs.Ytbabdoafpljdbaa
open Go.RowKit

theorem near_iff {a b r : Int} : nearB a b r = true ↔ a - b ≤ r ∧ b - a ≤ r := by unfold nearB; rw [bw_iff]; omega
theorem near_comm (a b r : Int) : nearB a b r = nearB b a r := by
  rw [Bool.eq_iff_iff, near_iff, near_iff]; omega
/-- A column: its place in each row. -/
def IsC (R : List (List Bool)) (r : Nat) (f : Nat → Nat) : Prop := ∀ j, j < R.length → opn R j (f j) = true ∧ (j ≠ 0 → nearB (f j) (f (j - 1)) r = true)
def IsDn (R : List (List Bool)) (r m : Nat) (f : Nat → Nat) : Prop := ∀ j, m ≤ j → j < R.length → opn R j (f j) = true ∧ (j ≠ m → nearB (f j) (f (j - 1)) r = true)
def IsUp (R : List (List Bool)) (r m : Nat) (f : Nat → Nat) : Prop := ∀ j, j ≤ m → opn R j (f j) = true ∧ (j ≠ 0 → nearB (f j) (f (j - 1)) r = true)
theorem end_path {R : List (List Bool)} {r : Nat} : ∀ (n m : Nat), m + n + 1 = R.length → ∀ x, opn (endL r R) m x = true → ∃ f, f m = x ∧ IsDn R r m f
  | 0, m, hm, x, h => ⟨fun _ => x, rfl, fun j h1 h2 => by
    obtain rfl : j = m := by omega
    exact ⟨end_sub h, fun h => absurd rfl h⟩⟩
  | n + 1, m, hm, x, h => by
    obtain ⟨h1, k, h2, h3⟩ := (end_iff (by omega)).1 h
    obtain ⟨f, hf, hd⟩ := end_path n (m + 1) (by omega) k h3
    refine ⟨fun j => if j = m then x else f j, by simp, fun j h4 h5 => ?_⟩
    by_cases e : j = m
    · subst e; simp only [if_true]; exact ⟨h1, fun h => absurd rfl h⟩
    · simp only [if_neg e]
      obtain ⟨h6, h7⟩ := hd j (by omega) h5
      refine ⟨h6, fun _ => ?_⟩
      by_cases e2 : j = m + 1
      · subst e2
        simp only [Nat.add_sub_cancel, if_true]
        rw [hf, near_comm]; exact h2
      · rw [if_neg (by omega)]; exact h7 e2
theorem path_end {R : List (List Bool)} {r m : Nat} {f : Nat → Nat} (h : IsDn R r m f) : ∀ (n j : Nat), j + n + 1 = R.length → m ≤ j → opn (endL r R) j (f j) = true
  | 0, j, hj, hm => by rw [end_last r (by omega)]; exact (h j hm (by omega)).1
  | n + 1, j, hj, hm => by
    have ih := path_end h n (j + 1) (by omega) (by omega)
    refine (end_iff (by omega)).2 ⟨(h j hm (by omega)).1, f (j + 1), ?_, ih⟩
    rw [near_comm]
    have := (h (j + 1) (by omega) (by omega)).2 (by omega)
    simpa using this
theorem opn_rev {R : List (List Bool)} {j : Nat} (hj : j < R.length) (x : Nat) : opn R.reverse j x = opn R (R.length - 1 - j) x := by
  rw [opn_at (by simpa using hj), opn_at (by omega), List.getElem_reverse]
/-- What can be reached from the first row. -/
def upL (r : Nat) (R : List (List Bool)) : List (List Bool) := (endL r R.reverse).reverse
theorem upL_len (r : Nat) (R : List (List Bool)) : (upL r R).length = R.length := by unfold upL; rw [List.length_reverse, endL_len, List.length_reverse]
theorem upL_opn {r : Nat} {R : List (List Bool)} {j : Nat} (hj : j < R.length) (x : Nat) : opn (upL r R) j x = opn (endL r R.reverse) (R.length - 1 - j) x := by
  unfold upL
  have hl : (endL (r : Int) R.reverse).length = R.length := by rw [endL_len, List.length_reverse]
  rw [opn_rev (by omega), hl]
theorem up_path {R : List (List Bool)} {r m x : Nat} (hm : m < R.length) (h : opn (upL r R) m x = true) : ∃ f, f m = x ∧ IsUp R r m f := by
  rw [upL_opn hm] at h
  obtain ⟨f, hf, hd⟩ := end_path m (R.length - 1 - m) (by simp; omega) x h
  refine ⟨fun j => f (R.length - 1 - j), hf, fun j hj => ?_⟩
  obtain ⟨h1, -⟩ := hd (R.length - 1 - j) (by omega) (by simp; omega)
  rw [opn_rev (by omega), show R.length - 1 - (R.length - 1 - j) = j by omega] at h1
  refine ⟨h1, fun h0 => ?_⟩
  obtain ⟨-, h3⟩ := hd (R.length - 1 - (j - 1)) (by omega) (by simp; omega)
  have := h3 (by omega)
  rw [show R.length - 1 - (j - 1) - 1 = R.length - 1 - j by omega] at this
  rw [near_comm]; exact this
theorem path_up {R : List (List Bool)} {r m : Nat} {f : Nat → Nat} (hm : m < R.length) (h : IsUp R r m f) : opn (upL r R) m (f m) = true := by
  rw [upL_opn hm]
  have hd : IsDn R.reverse r (R.length - 1 - m) (fun j => f (R.length - 1 - j)) := fun j h1 h2 => by
    simp only [List.length_reverse] at h2
    rw [opn_rev h2]
    refine ⟨(h (R.length - 1 - j) (by omega)).1, fun h0 => ?_⟩
    have := (h (R.length - 1 - (j - 1)) (by omega)).2 (by omega)
    rw [show R.length - 1 - (j - 1) - 1 = R.length - 1 - j by omega] at this
    rw [near_comm]; exact this
  have := path_end hd m (R.length - 1 - m) (by simp; omega) (Nat.le_refl _)
  rwa [show R.length - 1 - (R.length - 1 - m) = m by omega] at this
theorem IsC.dn {R : List (List Bool)} {r : Nat} {f : Nat → Nat} (h : IsC R r f) : IsDn R r 0 f := fun j _ hj => h j hj
theorem IsC.end {R : List (List Bool)} {r : Nat} {f : Nat → Nat} (h : IsC R r f) {j : Nat} (hj : j < R.length) : opn (endL r R) j (f j) = true := path_end h.dn (R.length - 1 - j) j (by omega) (by omega)
theorem IsC.up {R : List (List Bool)} {r : Nat} {f : Nat → Nat} (h : IsC R r f) {j : Nat} (hj : j < R.length) : opn (upL r R) j (f j) = true := path_up hj fun i hi => h i (by omega)
/-- A column through a cell that can be reached both ways. -/
theorem col_through {R : List (List Bool)} {r j x : Nat} (hj : j < R.length) (h1 : opn (endL r R) j x = true) (h2 : opn (upL r R) j x = true) : ∃ f, IsC R r f ∧ f j = x := by
  obtain ⟨a, ha, hda⟩ := end_path (R.length - 1 - j) j (by omega) x h1
  obtain ⟨b, hb, hub⟩ := up_path hj h2
  refine ⟨fun i => if i ≤ j then b i else a i, fun i hi => ?_, by simp [hb]⟩
  dsimp only
  by_cases h : i ≤ j
  · rw [if_pos h, if_pos (show i - 1 ≤ j by omega)]; exact hub i h
  · rw [if_neg h]
    obtain ⟨h3, h4⟩ := hda i (by omega) hi
    refine ⟨h3, fun _ => ?_⟩
    by_cases e : i = j + 1
    · subst e
      have := h4 (by omega)
      simp only [Nat.add_sub_cancel, Nat.le_refl, if_true] at this ⊢
      rw [hb, ← ha]; exact this
    · rw [if_neg (show ¬ i - 1 ≤ j by omega)]; exact h4 (by omega)

/-! ### The leftmost column -/
theorem lowL_facts : ∀ {A B : List (List Bool)}, A.length = B.length → (∀ c, lowL A B = some c → c.length = A.length ∧ ∀ j, j < A.length → ∃ k : Nat, c.getD j 0 = k ∧ lowB (A.getD j []) (B.getD j []) = some k) ∧ (lowL A B = none → ∃ j, j < A.length ∧ lowB (A.getD j []) (B.getD j []) = none)
  | [], [], _ => ⟨fun c h => by simp only [lowL, Option.some.injEq] at h; subst h; exact ⟨rfl, fun j hj => absurd hj (by simp)⟩, fun h => by simp [lowL] at h⟩
  | [], _ :: _, h => by simp at h
  | _ :: _, [], h => by simp at h
  | a :: A, b :: B, h => by
    have ih := lowL_facts (A := A) (B := B) (by simpa using h)
    simp only [lowL, List.headD_cons, List.tail_cons]
    cases h1 : lowB a b with
    | none => exact ⟨(fun c hc => by cases hc), fun _ => ⟨0, by simp, by simpa using h1⟩⟩
    | some x =>
      cases h2 : lowL A B with
      | none =>
        refine ⟨(fun c hc => by cases hc), fun _ => ?_⟩
        obtain ⟨j, hj, hn⟩ := ih.2 h2
        exact ⟨j + 1, by simpa using hj, by simpa using hn⟩
      | some l =>
        refine ⟨fun c hc => ?_, (fun hc => by cases hc)⟩
        simp only [Option.some.injEq] at hc
        subst hc
        obtain ⟨h3, h4⟩ := ih.1 l h2
        refine ⟨by simp [h3], fun j hj => ?_⟩
        cases j with
        | zero => exact ⟨x, by simp, by simpa using h1⟩
        | succ j =>
          obtain ⟨k, h5, h6⟩ := h4 j (by simpa using hj)
          exact ⟨k, by simpa using h5, by simpa using h6⟩
theorem left_some {R : List (List Bool)} {r wd : Nat} (hw : ∀ row ∈ R, row.length = wd) {c : List Int} (h : leftL r R = some c) : c.length = R.length ∧ ∃ g, (∀ j, j < R.length → c.getD j 0 = (g j : Nat)) ∧ IsC R r g ∧ ∀ f, IsC R r f → ∀ j, j < R.length → g j ≤ f j := by
  have hl : (endL (r : Int) R).length = (upL r R).length := by rw [endL_len, upL_len]
  obtain ⟨h1, h2⟩ := (lowL_facts hl).1 c h
  rw [endL_len] at h1 h2
  refine ⟨h1, fun j => (c.getD j 0).toNat, ?_⟩
  have hg : ∀ j, j < R.length → c.getD j 0 = ((c.getD j 0).toNat : Nat) ∧ (∃ f, IsC R r f ∧ f j = (c.getD j 0).toNat) ∧ ∀ f, IsC R r f → (c.getD j 0).toNat ≤ f j := fun j hj => by
    obtain ⟨k, h3, h4⟩ := h2 j hj
    obtain ⟨h5, h6, h7, h8⟩ := lowB_some h4
    rw [h3, Int.toNat_natCast]
    refine ⟨rfl, col_through hj h6 h7, fun f hf => ?_⟩
    apply Classical.byContradiction
    intro hn
    have h9 := hf.up hj
    unfold opn at h9
    rw [h8 (f j) (by omega) (hf.end hj)] at h9
    cases h9
  refine ⟨fun j hj => (hg j hj).1, fun j hj => ?_, fun f hf j hj => (hg j hj).2.2 f hf⟩
  dsimp only
  obtain ⟨A, hA, ea⟩ := (hg j hj).2.1
  refine ⟨by rw [← ea]; exact (hA j hj).1, fun h0 => ?_⟩
  obtain ⟨B, hB, eb⟩ := (hg (j - 1) (by omega)).2.1
  have h3 := (hA j hj).2 h0
  have h4 := (hB j hj).2 h0
  have h5 := (hg j hj).2.2 B hB
  have h6 := (hg (j - 1) (by omega)).2.2 A hA
  rw [near_iff] at h3 h4 ⊢
  omega
theorem left_none {R : List (List Bool)} {r wd : Nat} (hw : ∀ row ∈ R, row.length = wd) (h : leftL r R = none) : ∀ f, ¬ IsC R r f := fun f hf => by
  have hl : (endL (r : Int) R).length = (upL r R).length := by rw [endL_len, upL_len]
  obtain ⟨j, hj, hn⟩ := (lowL_facts hl).2 h
  rw [endL_len] at hj
  have h1 := hf.end hj
  have h2 := hf.up hj
  have h3 := (opn_lt (endL_rows (r : Int) hw) h1).2
  unfold opn at h1 h2
  rw [lowB_none hn (f j) (by
    rw [List.getD_eq_getElem?_getD, List.getElem?_eq_getElem (by rw [endL_len]; exact hj), Option.getD_some, endL_rows (r : Int) hw _ (List.getElem_mem _)]; exact h3) h1] at h2
  cases h2

/-! ### Columns that stand -/
structure Std (R : List (List Bool)) (r n : Nat) (fs : Nat → Nat → Nat) : Prop where
  col : ∀ i, i < n → IsC R r (fs i)
  lt : ∀ i, i + 1 < n → ∀ j, j < R.length → fs i j < fs (i + 1) j
theorem Std.mono {R : List (List Bool)} {r n : Nat} {fs : Nat → Nat → Nat} (h : Std R r n fs) {j : Nat} (hj : j < R.length) : ∀ (d i : Nat), i + d + 1 < n → fs i j < fs (i + d + 1) j
  | 0, i, hi => h.lt i hi j hj
  | d + 1, i, hi => Nat.lt_trans (h.mono hj d i (by omega)) (h.lt (i + d + 1) (by omega) j hj)
theorem Std.inj {R : List (List Bool)} {r n : Nat} {fs : Nat → Nat → Nat} (h : Std R r n fs) {i i' j : Nat} (hj : j < R.length) (hi : i < n) (hi' : i' < n) (e : fs i j = fs i' j) : i = i' := by
  rcases Nat.lt_trichotomy i i' with h1 | h1 | h1
  · have := h.mono hj (i' - i - 1) i (by omega)
    rw [show i + (i' - i - 1) + 1 = i' by omega] at this; omega
  · exact h1
  · have := h.mono hj (i - i' - 1) i' (by omega)
    rw [show i' + (i - i' - 1) + 1 = i by omega] at this; omega
theorem cutP_opn {P : List (List Bool)} {c : List Int} {j x : Nat} (hj : j < P.length) : opn (cutP P c) j x = (opn P j x && decide (c.getD j (-1) < x)) := by
  have hl : j < (cutP P c).length := by unfold cutP; rw [cutTo_len]; exact hj
  rw [opn_at hl, opn_at hj]
  have e : (cutP P c)[j] = cutRow P[j] (c.getD j (-1)) := by
    have e2 : (cutP P c)[j]? = some (cutRow P[j] (c.getD j (-1))) := by
      unfold cutP cutTo
      rw [List.getElem?_mapIdx, List.getElem?_eq_getElem hj, Option.map_some, if_pos hj]
    exact (List.getElem?_eq_some_iff.1 e2).2
  rw [e]
  unfold cutRow
  rw [List.getD_eq_getElem?_getD, List.getElem?_mapIdx, List.getD_eq_getElem?_getD (l := P[j])]
  cases P[j][x]? with
  | none => simp
  | some b => simp
theorem cutP_len (P : List (List Bool)) (c : List Int) : (cutP P c).length = P.length := by unfold cutP; rw [cutTo_len]
theorem getD_def {c : List Int} {j : Nat} (h : j < c.length) (a b : Int) : c.getD j a = c.getD j b := by
  rw [List.getD_eq_getElem?_getD, List.getD_eq_getElem?_getD, List.getElem?_eq_getElem h]; rfl
/-- No columns that stand are more than those taken from the left. -/
theorem greedy_max {r wd : Nat} : ∀ (N : Nat) {R : List (List Bool)} (_ : ∀ row ∈ R, row.length = wd) (_ : 1 ≤ R.length) (_ : liveN R < N) {n : Nat} {fs : Nat → Nat → Nat}, Std R r n fs → n ≤ (colsM r N R).length
  | 0, R, _, _, h, _, _, _ => absurd h (by omega)
  | N + 1, R, hw, hR, hN, n, fs, h => by
    by_cases hn : n = 0
    · omega
    cases hl : leftL (r : Int) R with
    | none => exact absurd (h.col 0 (by omega)) (left_none hw hl _)
    | some c =>
      rw [colsM_succ hl, List.length_cons]
      obtain ⟨hc1, g, hc2, hg, hmin⟩ := left_some hw hl
      have hless := live_less hw hR hl
      have h2 : Std (cutP R c) r (n - 1) (fun i => fs (i + 1)) := by
        refine ⟨fun i hi j hj => ?_, fun i hi j hj => ?_⟩
        · rw [cutP_len] at hj
          obtain ⟨h3, h4⟩ := h.col (i + 1) (by omega) j hj
          refine ⟨?_, h4⟩
          rw [cutP_opn hj, h3, Bool.true_and, decide_eq_true_iff, getD_def (by omega) (-1) 0, hc2 j hj]
          have h5 := hmin _ (h.col 0 (by omega)) j hj
          have h6 := h.mono hj i 0 (by omega)
          simp only [Nat.zero_add] at h6
          omega
        · rw [cutP_len] at hj
          exact h.lt (i + 1) (by omega) j hj
      have := greedy_max N (R := cutP R c) (cutP_rows hw) (by rw [cutP_len]; exact hR) (by omega) h2
      omega
/-- Those taken from the left stand. -/
theorem greedy_std {r wd : Nat} : ∀ (N : Nat) {R : List (List Bool)} (_ : ∀ row ∈ R, row.length = wd) (_ : 1 ≤ R.length), ∃ fs, Std R r (colsM r N R).length fs ∧ ∀ i, i < (colsM r N R).length → ((colsM r N R).getD i []).length = R.length ∧ ∀ j, j < R.length → ((colsM r N R).getD i []).getD j 0 = (fs i j : Nat)
  | 0, R, _, _ => ⟨fun _ _ => 0, ⟨fun i hi => absurd hi (by simp [colsM]), fun i hi => absurd hi (by simp [colsM])⟩, fun i hi => absurd hi (by simp [colsM])⟩
  | N + 1, R, hw, hR => by
    cases hl : leftL (r : Int) R with
    | none =>
      rw [colsM_none hl]
      exact ⟨fun _ _ => 0, ⟨fun i hi => absurd hi (by simp), fun i hi => absurd hi (by simp)⟩, fun i hi => absurd hi (by simp)⟩
    | some c =>
      rw [colsM_succ hl]
      obtain ⟨hc1, g, hc2, hg, hmin⟩ := left_some hw hl
      obtain ⟨fs, h1, h2⟩ := greedy_std N (R := cutP R c) (cutP_rows hw) (by rw [cutP_len]; exact hR)
      rw [cutP_len] at h2
      have hop : ∀ i, i < (colsM r N (cutP R c)).length → ∀ j, j < R.length → opn R j (fs i j) = true ∧ g j < fs i j := fun i hi j hj => by
        have h3 := (h1.col i hi j (by rw [cutP_len]; exact hj)).1
        rw [cutP_opn hj, Bool.and_eq_true, decide_eq_true_iff, getD_def (by omega) (-1) 0, hc2 j hj] at h3
        exact ⟨h3.1, by omega⟩
      refine ⟨fun i => match i with | 0 => g | i + 1 => fs i, ⟨fun i hi => ?_, fun i hi j hj => ?_⟩, fun i hi => ?_⟩
      · cases i with
        | zero => exact hg
        | succ i =>
          simp only [List.length_cons] at hi
          intro j hj
          exact ⟨(hop i (by omega) j hj).1, (h1.col i (by omega) j (by rw [cutP_len]; exact hj)).2⟩
      · simp only [List.length_cons] at hi
        cases i with
        | zero => exact (hop 0 (by omega) j hj).2
        | succ i => exact h1.lt i (by omega) j (by rw [cutP_len]; exact hj)
      · simp only [List.length_cons] at hi
        cases i with
        | zero => exact ⟨by simpa using hc1, fun j hj => by simpa using hc2 j hj⟩
        | succ i =>
          have := h2 i (by omega)
          simpa using this
end Go.Proofs.Ytbabdoafpljdbaa
