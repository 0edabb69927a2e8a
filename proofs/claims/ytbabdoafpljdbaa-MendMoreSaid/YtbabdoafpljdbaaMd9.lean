/- Columns from the left: what is taken away, and how many there are. -/
import Derived.Test.YtbabdoafpljdbaaMd8
namespace Go.Proofs.Ytbabdoafpljdbaa
open Go.RowKit

/-- The cells of a row behind a place. -/
def cutRow (row : List Bool) (k : Int) : List Bool := row.mapIdx fun (x : Nat) b => b && decide (k < (x : Int))
theorem cutRow_len (row : List Bool) (k : Int) : (cutRow row k).length = row.length := by simp [cutRow]
/-- What lies on a column, or to its left, is taken away, in the first y rows. -/
def cutTo (P : List (List Bool)) (c : List Int) (n : Nat) : List (List Bool) := P.mapIdx fun (y : Nat) row => if y < n then cutRow row (c.getD y (-1)) else row
theorem cutTo_len (P : List (List Bool)) (c : List Int) (n : Nat) : (cutTo P c n).length = P.length := by simp [cutTo]
theorem cutTo_zero (P : List (List Bool)) (c : List Int) : cutTo P c 0 = P := by
  apply List.ext_getElem
  · rw [cutTo_len]
  · intro y h1 h2; simp [cutTo]
theorem cutTo_row {P : List (List Bool)} {c : List Int} {y n : Nat} (hy : y < P.length) (hn : n ≤ y) : (cutTo P c n)[y]'(by rw [cutTo_len]; exact hy) = P[y] := by
  simp only [cutTo, List.getElem_mapIdx]
  rw [if_neg (by omega)]
theorem cutTo_set {P : List (List Bool)} {c : List Int} {y : Nat} (hy : y < P.length) (hc : y < c.length) : (cutTo P c y).set y (cutRow P[y] c[y]) = cutTo P c (y + 1) := by
  apply List.ext_getElem
  · simp [cutTo_len]
  · intro j h1 h2
    rw [cutTo_len] at h2
    rw [List.getElem_set]
    simp only [cutTo, List.getElem_mapIdx]
    by_cases e : y = j
    · subst e
      rw [if_pos rfl, if_pos (by omega), List.getD_eq_getElem?_getD, List.getElem?_eq_getElem hc]; rfl
    · rw [if_neg e]
      by_cases h : j < y
      · rw [if_pos h, if_pos (by omega)]
      · rw [if_neg h, if_neg (by omega)]
def cutP (P : List (List Bool)) (c : List Int) : List (List Bool) := cutTo P c P.length
theorem cutP_rows {P : List (List Bool)} {c : List Int} {n wd : Nat} (h : ∀ row ∈ P, row.length = wd) : ∀ row ∈ cutTo P c n, row.length = wd := fun row hr => by
  obtain ⟨y, hy, rfl⟩ := List.getElem_of_mem hr
  rw [cutTo_len] at hy
  simp only [cutTo, List.getElem_mapIdx]
  split
  · rw [cutRow_len]; exact h _ (List.getElem_mem hy)
  · exact h _ (List.getElem_mem hy)
/-- The columns from the left, n at most. -/
def colsM (r : Int) : Nat → List (List Bool) → List (List Int)
  | 0, _ => []
  | n + 1, P => match leftL r P with
    | none => []
    | some c => c :: colsM r n (cutP P c)
/-- How many cells of the first row live. -/
def liveN (P : List (List Bool)) : Nat := ((P.headD []).filter id).length
theorem endL_sub (r : Int) : ∀ {R : List (List Bool)} {y x : Nat} (hy : y < R.length), ((endL r R)[y]'(by rw [endL_len]; exact hy)).getD x false = true → R[y].getD x false = true
  | [], _, _, hy, _ => absurd hy (by simp)
  | [a], 0, _, _, h => h
  | [a], _ + 1, _, hy, _ => absurd hy (by simp)
  | a :: b :: R, 0, x, _, h => by
    simp only [endL, List.getElem_cons_zero, endRow, List.getD_eq_getElem?_getD, List.getElem?_map] at h
    by_cases hx : x < a.length
    · rw [List.getElem?_range hx] at h
      simp only [Option.map_some, Option.getD_some, Bool.and_eq_true] at h
      simp only [List.getElem_cons_zero, List.getD_eq_getElem?_getD]
      exact h.1
    · rw [List.getElem?_eq_none (by simpa using hx)] at h
      simp at h
  | a :: b :: R, y + 1, x, hy, h => by
    simp only [endL, List.getElem_cons_succ] at h ⊢
    exact endL_sub r (R := b :: R) (by simpa using hy) h
theorem lowB_is {a b : List Bool} {k : Nat} (h : lowB a b = some k) : k < a.length ∧ a.getD k false = true ∧ b.getD k false = true := by
  unfold lowB at h
  have h1 := List.mem_of_find?_eq_some h
  have h2 := List.find?_some h
  rw [Bool.and_eq_true] at h2
  exact ⟨List.mem_range.1 h1, h2⟩
theorem lowL_is : ∀ {A B : List (List Bool)} {l : List Int}, A.length = B.length → lowL A B = some l → l.length = A.length ∧ ∀ y (h : y < A.length) (h' : y < l.length), ∃ k : Nat, k < A[y].length ∧ A[y].getD k false = true ∧ l[y] = k
  | [], _, l, _, h => by simp [lowL] at h; subst h; exact ⟨rfl, fun y h => absurd h (by simp)⟩
  | a :: A, [], _, h, _ => by simp at h
  | a :: A, b :: B, l, hl, h => by
    simp only [lowL, List.headD_cons, List.tail_cons] at h
    cases h1 : lowB a b with
    | none => rw [h1] at h; cases h
    | some k =>
      rw [h1] at h
      cases h2 : lowL A B with
      | none => rw [h2] at h; cases h
      | some l' =>
        rw [h2] at h
        simp only [Option.some.injEq] at h
        subst h
        obtain ⟨i1, i2⟩ := lowL_is (by simpa using hl) h2
        refine ⟨by simp [i1], fun y hy hy' => ?_⟩
        cases y with
        | zero =>
          obtain ⟨k1, k2, _⟩ := lowB_is h1
          exact ⟨k, k1, k2, rfl⟩
        | succ y =>
          obtain ⟨k', j1, j2, j3⟩ := i2 y (by simpa using hy) (by simpa using hy')
          exact ⟨k', by simpa using j1, by simpa using j2, by simpa using j3⟩
theorem leftL_is {r : Int} {R : List (List Bool)} {c : List Int} {wd : Nat} (hw : ∀ row ∈ R, row.length = wd) (h : leftL r R = some c) : c.length = R.length ∧ ∀ y (hy : y < R.length) (h' : y < c.length), ∃ k : Nat, k < wd ∧ R[y].getD k false = true ∧ c[y] = k := by
  unfold leftL at h
  obtain ⟨h1, h2⟩ := lowL_is (by rw [endL_len, List.length_reverse, endL_len, List.length_reverse]) h
  rw [endL_len] at h1
  refine ⟨h1, fun y hy h' => ?_⟩
  obtain ⟨k, j1, j2, j3⟩ := h2 y (by rw [endL_len]; exact hy) h'
  rw [endL_rows r hw _ (List.getElem_mem (by rw [endL_len]; exact hy))] at j1
  exact ⟨k, j1, endL_sub r hy j2, j3⟩
theorem filter_mapIdx_lt : ∀ (row : List Bool) (k : Nat) (o : Nat), row.getD k false = true → ((row.mapIdx fun (x : Nat) b => b && decide (((o + k : Nat) : Int) < ((o + x : Nat) : Int))).filter id).length < (row.filter id).length
  | [], k, _, h => by simp at h
  | b :: row, 0, o, h => by
    simp only [List.getD_eq_getElem?_getD, List.getElem?_cons_zero, Option.getD_some] at h
    subst h
    simp only [List.mapIdx_cons]
    rw [List.filter_cons, List.filter_cons]
    simp only [Nat.add_zero, Int.lt_irrefl, decide_false, Bool.and_false, id_eq, Bool.false_eq_true, if_false, if_true, List.length_cons]
    refine Nat.lt_succ_of_le ?_
    have : ∀ (l : List Bool) (f : Nat → Bool), ((l.mapIdx fun x b => b && f x).filter id).length ≤ (l.filter id).length := fun l => by
      induction l with
      | nil => intro f; simp
      | cons a l ih =>
        intro f
        rw [List.mapIdx_cons, List.filter_cons, List.filter_cons]
        have := ih (fun x => f (x + 1))
        cases a
        · simpa using this
        · cases f 0
          · simp; omega
          · simp; omega
    exact this row _
  | b :: row, k + 1, o, h => by
    have ih := filter_mapIdx_lt row k (o + 1) (by simpa [List.getD_eq_getElem?_getD] using h)
    rw [List.mapIdx_cons, List.filter_cons, List.filter_cons]
    have e : (fun (x : Nat) (b : Bool) => b && decide (((o + (k + 1) : Nat) : Int) < ((o + (x + 1) : Nat) : Int))) = fun (x : Nat) (b : Bool) => b && decide (((o + 1 + k : Nat) : Int) < ((o + 1 + x : Nat) : Int)) := by
      funext x b
      congr 2
      apply propext; omega
    rw [e]
    have h0 : decide (((o + (k + 1) : Nat) : Int) < ((o + 0 : Nat) : Int)) = false := by rw [decide_eq_false_iff_not]; omega
    rw [h0, Bool.and_false]
    cases b
    · simp only [id_eq, Bool.false_eq_true, if_false]; exact ih
    · simp only [id_eq, Bool.false_eq_true, if_false, if_true, List.length_cons]; omega
theorem live_less {r : Int} {P : List (List Bool)} {c : List Int} {wd : Nat} (hw : ∀ row ∈ P, row.length = wd) (hP : 1 ≤ P.length) (h : leftL r P = some c) : liveN (cutP P c) < liveN P := by
  obtain ⟨h1, h2⟩ := leftL_is hw h
  obtain ⟨k, k1, k2, k3⟩ := h2 0 (by omega) (by omega)
  unfold liveN
  have e1 : P.headD [] = P[0] := headD_at (by omega)
  have e2 : (cutP P c).headD [] = cutRow P[0] k := by
    rw [headD_at (by unfold cutP; rw [cutTo_len]; omega)]
    unfold cutP
    simp only [cutTo, List.getElem_mapIdx]
    rw [if_pos (by omega), List.getD_eq_getElem?_getD, List.getElem?_eq_getElem (by omega), Option.getD_some, k3]
  rw [e1, e2]
  have := filter_mapIdx_lt P[0] k 0 k2
  simpa [cutRow] using this
theorem colsM_succ {r : Int} {n : Nat} {P : List (List Bool)} {c : List Int} (h : leftL r P = some c) : colsM r (n + 1) P = c :: colsM r n (cutP P c) := by rw [colsM, h]
theorem colsM_none {r : Int} {n : Nat} {P : List (List Bool)} (h : leftL r P = none) : colsM r n P = [] := by
  cases n with
  | zero => rfl
  | succ n => rw [colsM, h]
/-- Cells that are laid over a row. -/
def layV : List Value → Nat → List Value → List Value
  | xs, _, [] => xs
  | xs, o, v :: vs => layV (xs.set o v) (o + 1) vs
theorem own_setCells {base e size n cap g : Nat} : ∀ (vs : List Value) (o : Nat) (xs : List Value) (w : World), w.ownsRow base e size (.slice (some ⟨g, 0, none⟩) n cap) n xs →
    (w.setCells g o vs).ownsRow base e size (.slice (some ⟨g, 0, none⟩) n cap) n (layV xs o vs) ∧ w.grownBy (w.setCells g o vs) (some g)
  | [], _, _, w, h => ⟨h, ⟨rfl, rfl, rfl, Nat.le_refl _, fun _ _ _ => rfl⟩⟩
  | v :: vs, o, xs, w, h => by
    have h1 := h.stored o v
    have h2 := own_setCells vs (o + 1) (xs.set o v) _ h1.1
    exact ⟨h2.1, ⟨h2.2.os.trans h1.2.os, h2.2.tape.trans h1.2.tape, h2.2.output.trans h1.2.output, Nat.le_trans h1.2.size h2.2.size, fun k hk hne => (h2.2.block k (Nat.lt_of_lt_of_le hk h1.2.size) hne).trans (h1.2.block k hk hne)⟩⟩
theorem layV_len : ∀ (vs : List Value) (o : Nat) (xs : List Value), (layV xs o vs).length = xs.length
  | [], _, _ => rfl
  | _ :: vs, o, xs => by rw [layV, layV_len vs, List.length_set]
theorem layV_at : ∀ (vs : List Value) (o : Nat) (xs : List Value) (j : Nat), j < xs.length → (layV xs o vs)[j]? = if o ≤ j ∧ j < o + vs.length then vs[j - o]? else xs[j]?
  | [], o, xs, j, _ => by simp [layV]; omega
  | v :: vs, o, xs, j, hj => by
    rw [layV, layV_at vs (o + 1) _ j (by rw [List.length_set]; exact hj)]
    by_cases h1 : j = o
    · subst h1
      rw [if_neg (by omega), if_pos (by simp), Nat.sub_self, List.getElem?_set_self hj]; rfl
    · rw [List.getElem?_set_ne (fun e => h1 e.symm)]
      by_cases h2 : o + 1 ≤ j ∧ j < o + 1 + vs.length
      · rw [if_pos h2, if_pos (by simp; omega), show j - o = (j - (o + 1)) + 1 by omega, List.getElem?_cons_succ]
      · rw [if_neg h2, if_neg (by simp; omega)]
theorem layV_cut (row : List Bool) {k : Nat} (hk : k < row.length) : layV (boolE.all row) 0 (List.replicate (k + 1) (.bool false)) = boolE.all (cutRow row k) := by
  have hl : ∀ l : List Bool, (boolE.all l).length = l.length := fun l => by rw [Elt.all_len]; simp [boolE]
  apply List.ext_getElem?
  intro j
  by_cases hj : j < row.length
  · rw [layV_at _ _ _ _ (by rw [hl]; exact hj), boolE_at row hj, boolE_at _ (by rw [cutRow_len]; exact hj)]
    simp only [cutRow, List.getElem_mapIdx]
    by_cases h : j < k + 1
    · rw [if_pos (by simp; omega), Nat.sub_zero, List.getElem?_replicate, if_pos h, decide_eq_false (by omega), Bool.and_false]
    · rw [if_neg (by simp; omega), decide_eq_true (by omega), Bool.and_true]
  · rw [List.getElem?_eq_none (by rw [layV_len, hl]; omega), List.getElem?_eq_none (by rw [hl, cutRow_len]; omega)]
end Go.Proofs.Ytbabdoafpljdbaa
