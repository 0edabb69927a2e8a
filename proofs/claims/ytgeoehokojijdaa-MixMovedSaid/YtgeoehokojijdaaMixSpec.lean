/- What the functions of layer 9 compute: plain functions on lists and numbers, and what holds of them. -/
import Derived.Test.YtgeoehokojijdaaSlices
import Derived.Test.YtgeoehokojijdaaPolySpec
namespace Go.Proofs.Ytgeoehokojijdaa
open Go.RowKit

/-! ### Kernels -/
structure Clm where
  cell : Int
  time : Int
deriving DecidableEq, Inhabited
def Clm.cells (c : Clm) : List Value := [.int .i64 c.cell, .int .i64 c.time]
def clmE : Elt Clm := ⟨2, Clm.cells, by decide, fun _ => rfl, fun _ u h => by simp [Clm.cells] at h; rcases h with rfl | rfl <;> rfl⟩
theorem SlS.clm_at {w : World} {s : Option Addr} {l : List Clm} (c : SlS clmE w s l) {i : Nat} (h : i < l.length) :
    ∃ b off, s = some ⟨b, off, none⟩ ∧ b < w.heap.size ∧ w.cell? ⟨b, off + i * 2, none⟩ = some (.int .i64 l[i].cell) ∧ w.cell? ⟨b, off + i * 2 + 1, none⟩ = some (.int .i64 l[i].time) := by
  obtain ⟨b, off, e, hb, hc⟩ := c.at h
  have h0 := hc 0 _ rfl
  have h1 := hc 1 _ rfl
  simp only [clmE, Nat.add_zero] at h0 h1
  exact ⟨b, off, e, hb, h0, h1⟩
def clmOk (c : Clm) : Bool := bw 0 c.cell 15 && bw 0 c.time 50
/-- The i-th claim is out of range, or one that came before. -/
def badC (l : List Clm) (i : Nat) : Bool := match l[i]? with
  | some c => !clmOk c || decide (c ∈ l.take i)
  | none => false
def kerS (l : List Clm) : Bool := (List.range l.length).all fun i => !badC l i
def kernB (l : List Clm) : Bool := kerS l && bw 1 l.length 20
def vldB (k : List (List Clm)) : Bool := bw 1 k.length 3 && k.all kernB
theorem kerS_false {l : List Clm} {i : Nat} (hi : i < l.length) (h : badC l i = true) : kerS l = false := by
  unfold kerS; rw [List.all_eq_false]; exact ⟨i, by simpa using hi, by simp [h]⟩
theorem kerS_true {l : List Clm} (h : ∀ i, i < l.length → badC l i = false) : kerS l = true := by
  unfold kerS; rw [List.all_eq_true]; intro i hi; simp [h i (by simpa using hi)]
theorem badC_at {l : List Clm} {i : Nat} (hi : i < l.length) : badC l i = (!clmOk l[i] || decide (l[i] ∈ l.take i)) := by simp [badC, List.getElem?_eq_getElem hi]
theorem kerS_ok {l : List Clm} (h : kerS l = true) {i : Nat} (hi : i < l.length) : clmOk l[i] = true ∧ l[i] ∉ l.take i := by
  unfold kerS at h; rw [List.all_eq_true] at h
  have := h i (by simpa using hi)
  rw [badC_at hi] at this
  simpa using this
theorem vldB_k {k : List (List Clm)} (h : vldB k = true) : 1 ≤ k.length ∧ k.length ≤ 3 := by
  simp only [vldB, Bool.and_eq_true, bw_iff] at h; omega
theorem vldB_l {k : List (List Clm)} (h : vldB k = true) {l : List Clm} (hl : l ∈ k) : kerS l = true ∧ 1 ≤ l.length ∧ l.length ≤ 20 := by
  simp only [vldB, Bool.and_eq_true, List.all_eq_true] at h
  have := h.2 l hl
  simp only [kernB, Bool.and_eq_true, bw_iff] at this
  exact ⟨this.1, by omega, by omega⟩
theorem vldB_c {k : List (List Clm)} (h : vldB k = true) {l : List Clm} (hl : l ∈ k) {c : Clm} (hc : c ∈ l) : (0 ≤ c.cell ∧ c.cell ≤ 15) ∧ 0 ≤ c.time ∧ c.time ≤ 50 := by
  obtain ⟨i, hi, rfl⟩ := List.getElem_of_mem hc
  have := (kerS_ok (vldB_l h hl).1 hi).1
  simp only [clmOk, Bool.and_eq_true, bw_iff] at this
  exact this

/-! ### Slots -/
def slotOf (st p : Int) (c : Clm) : Int × Int := (c.cell, (st + c.time) % p)
def slots : List (List Clm) → List Int → Int → List (Int × Int)
  | l :: k, s :: ss, p => l.map (slotOf s p) ++ slots k ss p
  | _, _, _ => []
def goodB (k : List (List Clm)) (p : Int) (s : List Int) : Bool := decide (slots k s p).Nodup
theorem slots_drop {k : List (List Clm)} {s : List Int} {p : Int} {n : Nat} (hn : n < k.length) (hs : n < s.length) :
    slots (k.drop n) (s.drop n) p = k[n].map (slotOf s[n] p) ++ slots (k.drop (n + 1)) (s.drop (n + 1)) p := by
  rw [List.drop_eq_getElem_cons hn, List.drop_eq_getElem_cons hs]; rfl
theorem slots_end {k : List (List Clm)} {s : List Int} {p : Int} {n : Nat} (hn : k.length ≤ n) : slots (k.drop n) (s.drop n) p = [] := by
  rw [List.drop_eq_nil_of_le hn]; simp [slots]

/-! ### Arrays as functions of the index -/
def arrA (n : Nat) (f : Nat → Value) : Array Value := ((List.range n).map f).toArray
theorem arrA_at {n : Nat} (f : Nat → Value) {i : Nat} (hi : i < n) : (arrA n f)[i]? = some (f i) := by simp [arrA, hi]
theorem arrA_set {n : Nat} (f : Nat → Value) (i : Nat) (v : Value) : (arrA n f).setIfInBounds i v = arrA n (fun j => if j = i then v else f j) := by
  apply Array.ext
  · simp [arrA]
  · intro j h1 h2
    simp only [arrA, Array.size_setIfInBounds, List.size_toArray, List.length_map, List.length_range] at h1 h2
    rw [Array.getElem_setIfInBounds (by simpa [arrA] using h1)]
    by_cases hj : i = j
    · subst hj; simp [arrA]
    · have hj2 : ¬ j = i := fun e => hj e.symm
      simp [arrA, hj, hj2]
theorem arrA_congr {n : Nat} {f g : Nat → Value} (h : ∀ i, i < n → f i = g i) : arrA n f = arrA n g := by
  unfold arrA; congr 1; exact List.map_congr_left fun i hi => h i (by simpa using hi)

theorem snoc_ind {α : Type} {P : List α → Prop} (h0 : P []) (h1 : ∀ l x, P l → P (l ++ [x])) (l : List α) : P l := by
  rw [← List.reverse_reverse l]
  induction l.reverse with
  | nil => exact h0
  | cons x l ih => rw [List.reverse_cons]; exact h1 _ _ ih

/-! ### Masks -/
def mask (L : List (Int × Int)) (c : Int) : Nat := L.foldl (fun m x => if x.1 = c then m ||| 2 ^ x.2.toNat else m) 0
theorem mask_nil (c : Int) : mask [] c = 0 := rfl
theorem mask_snoc (L : List (Int × Int)) (x : Int × Int) (c : Int) : mask (L ++ [x]) c = if x.1 = c then mask L c ||| 2 ^ x.2.toNat else mask L c := by simp [mask]
theorem mask_test (L : List (Int × Int)) (c : Int) (t : Nat) (h : ∀ x ∈ L, 0 ≤ x.2) : (mask L c).testBit t = decide ((c, (t : Int)) ∈ L) := by
  induction L using snoc_ind with
  | h0 => simp [mask]
  | h1 L x ih =>
    have h1 := ih fun y hy => h y (by simp [hy])
    have h2 := h x (by simp)
    obtain ⟨a, b⟩ := x
    rw [mask_snoc]
    simp only at h2 ⊢
    by_cases hc : a = c
    · subst hc
      rw [if_pos rfl, Nat.testBit_or, h1, Nat.testBit_two_pow, Bool.eq_iff_iff]
      simp
      constructor
      · rintro (h | h)
        · exact .inl h
        · exact .inr (by omega)
      · rintro (h | h)
        · exact .inl h
        · exact .inr (by omega)
    · rw [if_neg hc, h1]
      rw [Bool.eq_iff_iff]; simp; intro e; exact absurd e.symm hc
theorem mask_lt (L : List (Int × Int)) (c : Int) (m : Nat) (h : ∀ x ∈ L, x.2.toNat < m) : mask L c < 2 ^ m := by
  induction L using snoc_ind with
  | h0 => simp [mask]; exact Nat.pow_pos (by decide)
  | h1 L x ih =>
    have h1 := ih fun y hy => h y (by simp [hy])
    rw [mask_snoc]
    split
    · exact Nat.or_lt_two_pow h1 (Nat.pow_lt_pow_right (by decide) (h x (by simp)))
    · exact h1

/-! ### Starts -/
def digs (p : Nat) : Nat → Nat → List Int
  | 0, _ => []
  | n + 1, i => digs p n (i / p) ++ [((i % p : Nat) : Int)]
theorem digs_len (p : Nat) : ∀ n i, (digs p n i).length = n
  | 0, _ => rfl
  | n + 1, i => by simp [digs, digs_len p n]
theorem digs_mem {p : Nat} (hp : 0 < p) : ∀ n i, ∀ x ∈ digs p n i, 0 ≤ x ∧ x < p
  | 0, _, x, h => by simp [digs] at h
  | n + 1, i, x, h => by
    simp only [digs, List.mem_append, List.mem_singleton] at h
    rcases h with h | rfl
    · exact digs_mem hp n _ x h
    · have := Nat.mod_lt i hp; omega
theorem digs_zero (p : Nat) : ∀ n, digs p n 0 = List.replicate n 0
  | 0 => rfl
  | n + 1 => by simp [digs, digs_zero p n, List.replicate_succ']
def firstG (k : List (List Clm)) (p : Nat) : Option Nat := (List.range (p ^ k.length)).find? fun i => goodB k p (digs p k.length i)
theorem firstG_some {k : List (List Clm)} {p i : Nat} (hi : i < p ^ k.length) (hg : goodB k p (digs p k.length i) = true) (hno : ∀ j, j < i → goodB k p (digs p k.length j) = false) : firstG k p = some i := by
  unfold firstG
  rw [List.find?_range_eq_some]
  exact ⟨hg, by simpa using hi, fun j hj => by simp [hno j hj]⟩
theorem firstG_none {k : List (List Clm)} {p : Nat} (hno : ∀ j, j < p ^ k.length → goodB k p (digs p k.length j) = false) : firstG k p = none := by
  unfold firstG
  rw [List.find?_eq_none]
  intro i hi
  simp [hno i (by simpa using hi)]
def startsL (k : List (List Clm)) (p : Nat) : List Int := match firstG k p with
  | some i => digs p k.length i
  | none => []

/-! ### Loads -/
def cntC (l : List Clm) (c : Int) : Nat := (l.filter fun x => decide (x.cell = c)).length
theorem cntC_snoc (l : List Clm) (x : Clm) (c : Int) : cntC (l ++ [x]) c = if x.cell = c then cntC l c + 1 else cntC l c := by
  by_cases h : x.cell = c <;> simp [cntC, h]
theorem cntC_append (l m : List Clm) (c : Int) : cntC (l ++ m) c = cntC l c + cntC m c := by simp [cntC]
theorem cntC_le (l : List Clm) (c : Int) : cntC l c ≤ l.length := List.length_filter_le _ _
def maxTo (f : Nat → Nat) : Nat → Nat
  | 0 => 0
  | n + 1 => max (maxTo f n) (f n)
def bndN (k : List (List Clm)) : Nat := maxTo (fun c => cntC k.flatten c) 16
theorem maxTo_le {f : Nat → Nat} {n : Nat} : ∀ {i}, i < n → f i ≤ maxTo f n := by
  induction n with
  | zero => intro i h; omega
  | succ n ih =>
    intro i h
    simp only [maxTo]
    by_cases e : i = n
    · subst e; omega
    · have := ih (i := i) (by omega); omega
theorem maxTo_of {f : Nat → Nat} {m : Nat} : ∀ {n}, (∀ i, i < n → f i ≤ m) → maxTo f n ≤ m
  | 0, _ => Nat.zero_le _
  | n + 1, h => by
    have h1 := maxTo_of (n := n) fun i hi => h i (by omega)
    have h2 := h n (by omega)
    simp only [maxTo]; omega
def leastP (k : List (List Clm)) : Option Nat := (List.range' 1 20).find? fun p => (firstG k p).isSome
end Go.Proofs.Ytgeoehokojijdaa
