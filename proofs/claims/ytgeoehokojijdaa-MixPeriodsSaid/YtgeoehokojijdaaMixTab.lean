/- Tables of pairs, and what a timetable holds. -/
import Derived.Test.YtgeoehokojijdaaMix20
namespace Go.Proofs.Ytgeoehokojijdaa
open Go.RowKit

def prF (g : Nat → Clm) (i : Nat) : Value := .int .i64 (if i % 2 = 0 then (g (i / 2)).cell else (g (i / 2)).time)
def prA (T : Nat) (g : Nat → Clm) : Array Value := arrA (2 * T) (prF g)
theorem prA_at0 {T : Nat} {g : Nat → Clm} {t : Nat} (h : t < T) : (prA T g)[t * 2]? = some (.int .i64 (g t).cell) := by
  unfold prA; rw [arrA_at _ (by omega)]; unfold prF
  rw [if_pos (by omega), show t * 2 / 2 = t by omega]
theorem prA_at1 {T : Nat} {g : Nat → Clm} {t : Nat} (h : t < T) : (prA T g)[t * 2 + 1]? = some (.int .i64 (g t).time) := by
  unfold prA; rw [arrA_at _ (by omega)]; unfold prF
  rw [if_neg (by omega), show (t * 2 + 1) / 2 = t by omega]
theorem prA_set0 (T : Nat) (g : Nat → Clm) (t : Nat) (v : Int) : (prA T g).setIfInBounds (t * 2) (.int .i64 v) = prA T (fun i => if i = t then ⟨v, (g t).time⟩ else g i) := by
  unfold prA; rw [arrA_set]; refine arrA_congr fun i _ => ?_
  unfold prF
  by_cases h : i = t * 2
  · subst h
    rw [if_pos rfl, if_pos (by omega), show t * 2 / 2 = t by omega]; simp
  · rw [if_neg h]
    by_cases h2 : i / 2 = t
    · have h3 : ¬ i % 2 = 0 := by omega
      rw [if_neg h3, if_neg h3, h2]; simp
    · simp [h2]
theorem prA_set1 (T : Nat) (g : Nat → Clm) (t : Nat) (v : Int) : (prA T g).setIfInBounds (t * 2 + 1) (.int .i64 v) = prA T (fun i => if i = t then ⟨(g t).cell, v⟩ else g i) := by
  unfold prA; rw [arrA_set]; refine arrA_congr fun i _ => ?_
  unfold prF
  by_cases h : i = t * 2 + 1
  · subst h
    rw [if_pos rfl, if_neg (by omega), show (t * 2 + 1) / 2 = t by omega]; simp
  · rw [if_neg h]
    by_cases h2 : i / 2 = t
    · have h3 : i % 2 = 0 := by omega
      rw [if_pos h3, if_pos h3, h2]; simp
    · simp [h2]
theorem prA_congr {T : Nat} {f g : Nat → Clm} (h : ∀ i, i < T → f i = g i) : prA T f = prA T g := by
  unfold prA; refine arrA_congr fun i hi => ?_
  unfold prF; rw [h _ (by omega)]
theorem prA_list (g : Nat → Clm) : ∀ T, (List.range (2 * T)).map (prF g) = clmE.all ((List.range T).map g)
  | 0 => rfl
  | T + 1 => by
    have e0 : prF g (2 * T) = .int .i64 (g T).cell := by unfold prF; rw [if_pos (by omega), show 2 * T / 2 = T by omega]
    have e1 : prF g (2 * T + 1) = .int .i64 (g T).time := by unfold prF; rw [if_neg (by omega), show (2 * T + 1) / 2 = T by omega]
    have h1 : List.range (2 * (T + 1)) = List.range (2 * T) ++ [2 * T] ++ [2 * T + 1] := by
      rw [show 2 * (T + 1) = 2 * T + 1 + 1 by omega, List.range_succ, List.range_succ]
    rw [h1, List.range_succ (n := T)]
    simp only [List.map_append, List.map_cons, List.map_nil, Elt.all_append, Elt.all_single, e0, e1, prA_list g T, List.append_assoc]
    rfl
theorem own_pairs {W : World} {b base t T : Nat} {g : Nat → Clm} (h : Row W b t (prA T g)) (hb : base ≤ b) (hl : T ≤ 1000000) :
    W.ownsRow base t 2 (.slice (some ⟨b, 0, none⟩) T T) T (clmE.all ((List.range T).map g)) := by
  refine ⟨by rw [clmE.all_len, List.length_map, List.length_range]; rfl, .inr ⟨b, T, prA T g, rfl, hb, h, Nat.le_refl _, by unfold maxLen; omega, by simp [prA, arrA]; omega, ?_⟩⟩
  rw [← prA_list, Nat.mul_comm T 2]
  simp only [prA, arrA]
  exact List.take_of_length_le (by simp)
theorem info_pair : (Try.prog.info? 45).map (fun i => (i.zero, i.size, i.bytes)) = some (some (.agg #[.int .i64 0, .int .i64 0]), 2, 16) := by kernel_rfl
theorem run_make_pairs (n : Nat) (hn : n ≤ 1000000) (w : World) : (Instr.makeSlice 42 (.int .i64 n) (.int .i64 n)).run Try.prog w = .ok (.slice (some ⟨w.heap.size, 0, none⟩) n n) (w.alloc (.cells (prA n fun _ => ⟨0, 0⟩) 45)) := by
  obtain ⟨i, hi, hz, hs, hb⟩ := info_parts info_pair
  have h := run_makeSlice (P := Try.prog) (w := w) 42 45 i _ Try.underlying42 hi hz .i64 .i64 n n (by omega) (by omega) (by rw [hs]; omega) (by rw [hb]; omega) (by omega)
  rw [h, hs]
  have e : madeCells (Value.cells (.agg #[.int .i64 0, .int .i64 0])) ((n : Int).toNat * 2) = prA n fun _ => ⟨0, 0⟩ := by
    apply Array.ext
    · simp [size_madeCells, prA, arrA]; omega
    · intro j h1 h2
      have : j % 2 = 0 ∨ j % 2 = 1 := by omega
      rcases this with e | e <;> simp [madeCells, prA, arrA, prF, Value.cells, e]
  rw [e]
  simp
def hitT (p st t : Int) (c : Clm) : Bool := decide (0 ≤ t - st - c.time ∧ (t - st - c.time) % p = 0)
def cntT (l : List Clm) (p st t : Int) : Nat := (l.filter (hitT p st t)).length
theorem cntT_le (l : List Clm) (p st t : Int) : cntT l p st t ≤ l.length := List.length_filter_le _ _
theorem cntT_take (l : List Clm) (p st t : Int) {i : Nat} (hi : i < l.length) : cntT (l.take (i + 1)) p st t = cntT (l.take i) p st t + (if hitT p st t l[i] then 1 else 0) := by
  unfold cntT
  rw [List.take_succ_eq_append_getElem hi, List.filter_append, List.length_append]
  congr 1
  cases h : hitT p st t l[i] <;> simp [h]
def sumG (k : List (List Clm)) (p : Int) (st : List Int) (t : Int) : Nat → Nat × Nat
  | 0 => (0, 0)
  | n + 1 => ((sumG k p st t n).1 + cntT (k.getD n []) p (st.getD n 0) t, (sumG k p st t n).2 + min 1 (cntT (k.getD n []) p (st.getD n 0) t))
def rowG (k : List (List Clm)) (p : Int) (st : List Int) (n : Nat) (t : Nat) : Clm := ⟨(sumG k p st t n).1, (sumG k p st t n).2⟩
theorem sumG_le {k : List (List Clm)} (hl : ∀ l ∈ k, l.length ≤ 20) (p : Int) (st : List Int) (t : Int) : ∀ n, n ≤ k.length → (sumG k p st t n).1 ≤ 20 * n ∧ (sumG k p st t n).2 ≤ n
  | 0, _ => ⟨Nat.le_refl _, Nat.le_refl _⟩
  | n + 1, h => by
    have ih := sumG_le hl p st t n (by omega)
    have h1 := cntT_le (k.getD n []) p (st.getD n 0) t
    have h2 : (k.getD n []).length ≤ 20 := by
      rw [List.getD_eq_getElem?_getD, List.getElem?_eq_getElem (show n < k.length by omega)]
      exact hl _ (List.getElem_mem _)
    simp only [sumG]
    omega
/-- The table when the kernels below n are in, and kernel n for the ticks below t. -/
def midG (k : List (List Clm)) (p : Int) (st : List Int) (n t : Nat) (i : Nat) : Clm := if i < t then rowG k p st (n + 1) i else rowG k p st n i
theorem midG_zero (k : List (List Clm)) (p : Int) (st : List Int) (n T : Nat) : prA T (rowG k p st n) = prA T (midG k p st n 0) := prA_congr fun i _ => by simp [midG]
theorem midG_end (k : List (List Clm)) (p : Int) (st : List Int) (n T : Nat) : prA T (midG k p st n T) = prA T (rowG k p st (n + 1)) := prA_congr fun i hi => by simp [midG, hi]
theorem midG_at (k : List (List Clm)) (p : Int) (st : List Int) (n t : Nat) : midG k p st n t t = rowG k p st n t := by simp [midG]
theorem midG_step (k : List (List Clm)) (p : Int) (st : List Int) (n t T : Nat) {c : Nat} (hc : cntT (k.getD n []) p (st.getD n 0) t = c) :
    ((prA T (midG k p st n t)).setIfInBounds (t * 2) (.int .i64 (((sumG k p st t n).1 + c : Nat) : Int))).setIfInBounds (t * 2 + 1) (.int .i64 (((sumG k p st t n).2 + min 1 c : Nat) : Int)) = prA T (midG k p st n (t + 1)) := by
  rw [prA_set0, prA_set1]
  refine prA_congr fun i _ => ?_
  by_cases h : i = t
  · subst h
    rw [List.getD_eq_getElem?_getD, List.getD_eq_getElem?_getD] at hc
    simp [midG, rowG, sumG, hc]
  · have h2 : i < t + 1 ↔ i < t := by omega
    simp [midG, h, h2]
def tabE (k : List (List Clm)) (p : Int) (st : List Int) (T : Int) : Int := if askE k p st = 0 then (if bw 0 T 500 then (if goodB k p st then 0 else 5) else 2) else askE k p st
def tabL (k : List (List Clm)) (p : Int) (st : List Int) (T : Int) : List Clm := if tabE k p st T = 0 then (List.range T.toNat).map (rowG k p st k.length) else []
theorem tabL_nil {k : List (List Clm)} {p : Int} {st : List Int} {T : Int} (h : tabE k p st T ≠ 0) : tabL k p st T = [] := by simp [tabL, h]
theorem tabL_len (k : List (List Clm)) (p : Int) (st : List Int) (T : Int) : (tabL k p st T).length ≤ 9223372036854775807 := by
  unfold tabL
  split
  · rename_i h
    have hT : bw 0 T 500 = true := by
      unfold tabE at h
      (repeat' split at h) <;> simp_all
    have := bw_iff.1 hT
    simp; omega
  · simp
end Go.Proofs.Ytgeoehokojijdaa
