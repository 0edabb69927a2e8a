/- Claims that meet: by their indexes, and as equal slots. Plain Lean. -/
import Derived.Test.YtgeoehokojijdaaMixSpec
namespace Go.Proofs.Ytgeoehokojijdaa
open Go.RowKit

def kAt (k : List (List Clm)) (i m : Nat) : Clm := (k.getD i []).getD m default
def kLen (k : List (List Clm)) (i : Nat) : Nat := (k.getD i []).length
/-- Two claims want one cell at one time modulo p. -/
def meetP (a : Clm) (sa : Int) (b : Clm) (sb p : Int) : Prop := a.cell = b.cell ∧ (a.time + sa) % p = (b.time + sb) % p
instance (a : Clm) (sa : Int) (b : Clm) (sb p : Int) : Decidable (meetP a sa b sb p) := inferInstanceAs (Decidable (_ ∧ _))
/-- The claim (i, m) meets the later claim (j, n). -/
def hitAt (k : List (List Clm)) (s : List Int) (p : Int) (i m j n : Nat) : Prop :=
  (i < k.length ∧ m < kLen k i ∧ j < k.length ∧ n < kLen k j) ∧ (i < j ∨ (i = j ∧ m < n)) ∧ meetP (kAt k i m) (s.getD i 0) (kAt k j n) (s.getD j 0) p
def lexlt (i' m' j' n' i m j n : Nat) : Prop := i' < i ∨ (i' = i ∧ (m' < m ∨ (m' = m ∧ (j' < j ∨ (j' = j ∧ n' < n)))))
/-- No two claims meet ahead of (i, m, j, n). -/
def NB (k : List (List Clm)) (s : List Int) (p : Int) (i m j n : Nat) : Prop := ∀ i' m' j' n', lexlt i' m' j' n' i m j n → ¬ hitAt k s p i' m' j' n'
def noHit (k : List (List Clm)) (s : List Int) (p : Int) : Prop := ∀ i m j n, ¬ hitAt k s p i m j n

theorem NB.start {k : List (List Clm)} {s : List Int} {p : Int} : NB k s p 0 0 0 0 := fun i' m' j' n' h => by unfold lexlt at h; omega
theorem NB.next {k : List (List Clm)} {s : List Int} {p : Int} {i m j n : Nat} (h : NB k s p i m j n) (hn : ¬ hitAt k s p i m j n) : NB k s p i m j (n + 1) := fun i' m' j' n' hl hh => by
  by_cases e : i' = i ∧ m' = m ∧ j' = j ∧ n' = n
  · obtain ⟨rfl, rfl, rfl, rfl⟩ := e; exact hn hh
  · exact h i' m' j' n' (by unfold lexlt at hl ⊢; omega) hh
theorem NB.endN {k : List (List Clm)} {s : List Int} {p : Int} {i m j n : Nat} (h : NB k s p i m j n) (hn : kLen k j ≤ n) : NB k s p i m (j + 1) 0 := fun i' m' j' n' hl hh => by
  refine h i' m' j' n' ?_ hh
  have h1 := hh.1.2.2.2
  unfold lexlt at hl ⊢
  by_cases e : j' = j
  · subst e; omega
  · omega
theorem NB.endJ {k : List (List Clm)} {s : List Int} {p : Int} {i m j : Nat} (h : NB k s p i m j 0) (hn : k.length ≤ j) : NB k s p i (m + 1) 0 0 := fun i' m' j' n' hl hh => by
  refine h i' m' j' n' ?_ hh
  have h1 := hh.1.2.2.1
  unfold lexlt at hl ⊢; omega
theorem NB.endM {k : List (List Clm)} {s : List Int} {p : Int} {i m : Nat} (h : NB k s p i m 0 0) (hn : kLen k i ≤ m) : NB k s p (i + 1) 0 0 0 := fun i' m' j' n' hl hh => by
  refine h i' m' j' n' ?_ hh
  have h1 := hh.1.2.1
  unfold lexlt at hl ⊢
  by_cases e : i' = i
  · subst e; omega
  · omega
theorem NB.endI {k : List (List Clm)} {s : List Int} {p : Int} {i : Nat} (h : NB k s p i 0 0 0) (hn : k.length ≤ i) : noHit k s p := fun i' m' j' n' hh => by
  refine h i' m' j' n' ?_ hh
  have h1 := hh.1.1
  unfold lexlt; omega
theorem NB.fromI {k : List (List Clm)} {s : List Int} {p : Int} {i m : Nat} (h : NB k s p i m 0 0) : NB k s p i m i 0 := fun i' m' j' n' hl hh => by
  refine h i' m' j' n' ?_ hh
  have h1 := hh.2.1
  unfold lexlt at hl ⊢; omega
/-- The first claims that meet, if any do. -/
theorem first_unique {k : List (List Clm)} {s : List Int} {p : Int} {i m j n i' m' j' n' : Nat} (h : NB k s p i m j n) (hh : hitAt k s p i m j n) (h' : NB k s p i' m' j' n') (hh' : hitAt k s p i' m' j' n') :
    i = i' ∧ m = m' ∧ j = j' ∧ n = n' := by
  have a : ¬ lexlt i' m' j' n' i m j n := fun hl => h i' m' j' n' hl hh'
  have b : ¬ lexlt i m j n i' m' j' n' := fun hl => h' i m j n hl hh
  unfold lexlt at a b
  omega

theorem kAt_succ (l : List Clm) (k : List (List Clm)) (i m : Nat) : kAt (l :: k) (i + 1) m = kAt k i m := rfl
theorem kLen_succ (l : List Clm) (k : List (List Clm)) (i : Nat) : kLen (l :: k) (i + 1) = kLen k i := rfl
theorem mem_slots {k : List (List Clm)} {p : Int} : ∀ {s : List Int}, s.length = k.length → ∀ {x : Int × Int}, (x ∈ slots k s p ↔ ∃ i m, i < k.length ∧ m < kLen k i ∧ x = slotOf (s.getD i 0) p (kAt k i m)) := by
  induction k with
  | nil => intro s hs x; simp [slots]
  | cons l k ih =>
    intro s hs x
    cases s with
    | nil => simp at hs
    | cons a s =>
      simp only [slots, List.mem_append, List.mem_map, ih (s := s) (by simpa using hs)]
      constructor
      · rintro (⟨c, hc, rfl⟩ | ⟨i, m, hi, hm, rfl⟩)
        · obtain ⟨m, hm, rfl⟩ := List.getElem_of_mem hc
          refine ⟨0, m, by simp, hm, ?_⟩
          simp [kAt, List.getElem?_eq_getElem hm]
        · exact ⟨i + 1, m, by simpa using hi, hm, by simp [kAt_succ]⟩
      · rintro ⟨i, m, hi, hm, rfl⟩
        cases i with
        | zero =>
          have hm' : m < l.length := hm
          exact .inl ⟨l[m], List.getElem_mem hm', by simp [kAt, List.getElem?_eq_getElem hm']⟩
        | succ i => exact .inr ⟨i, m, by simpa using hi, hm, by simp [kAt_succ]⟩
theorem slot_eq {a b : Clm} {sa sb p : Int} : slotOf sa p a = slotOf sb p b ↔ meetP a sa b sb p := by
  simp only [slotOf, Prod.mk.injEq, meetP, Int.add_comm]
theorem nodup_iff {k : List (List Clm)} {p : Int} : ∀ {s : List Int}, s.length = k.length → ((slots k s p).Nodup ↔ noHit k s p) := by
  induction k with
  | nil => intro s hs; simp [slots, noHit, hitAt]
  | cons l k ih =>
    intro s hs
    cases s with
    | nil => simp at hs
    | cons a s =>
      have hs' : s.length = k.length := by simpa using hs
      simp only [slots]
      rw [List.nodup_append, ih hs']
      have h1 : (l.map (slotOf a p)).Nodup ↔ ∀ m n, m < l.length → n < l.length → m < n → ¬ meetP (kAt (l :: k) 0 m) a (kAt (l :: k) 0 n) a p := by
        unfold List.Nodup
        rw [List.pairwise_iff_getElem]
        constructor
        · intro h m n hm hn hmn hh
          refine h m n (by simpa using hm) (by simpa using hn) hmn ?_
          rw [List.getElem_map, List.getElem_map, slot_eq]
          simpa [kAt, List.getElem?_eq_getElem hm, List.getElem?_eq_getElem hn] using hh
        · intro h m n hm hn hmn e
          simp only [List.length_map] at hm hn
          refine h m n hm hn hmn ?_
          rw [List.getElem_map, List.getElem_map, slot_eq] at e
          simpa [kAt, List.getElem?_eq_getElem hm, List.getElem?_eq_getElem hn] using e
      rw [h1]
      constructor
      · rintro ⟨g1, g2, g3⟩ i m j n ⟨⟨hi, hm, hj, hn⟩, ho, hh⟩
        cases i with
        | zero =>
          cases j with
          | zero => exact g1 m n hm hn (by omega) (by simpa using hh)
          | succ j =>
            have hm' : m < l.length := hm
            refine g3 (slotOf a p l[m]) (List.mem_map_of_mem (List.getElem_mem hm')) (slotOf (s.getD j 0) p (kAt k j n)) ((mem_slots hs').2 ⟨j, n, by simpa using hj, hn, rfl⟩) ?_
            rw [slot_eq]
            simpa [kAt, List.getElem?_eq_getElem hm'] using hh
        | succ i =>
          cases j with
          | zero => omega
          | succ j => exact g2 i m j n ⟨⟨by simpa using hi, hm, by simpa using hj, hn⟩, by omega, by simpa [kAt_succ] using hh⟩
      · intro h
        refine ⟨fun m n hm hn hmn hh => h 0 m 0 n ⟨⟨by simp, hm, by simp, hn⟩, .inr ⟨rfl, hmn⟩, by simpa using hh⟩, fun i m j n hh => h (i + 1) m (j + 1) n ⟨⟨by simpa using hh.1.1, hh.1.2.1, by simpa using hh.1.2.2.1, hh.1.2.2.2⟩, by have := hh.2.1; omega, by simpa [kAt_succ] using hh.2.2⟩, ?_⟩
        rintro x hx y hy rfl
        obtain ⟨c, hc, rfl⟩ := List.mem_map.1 hx
        obtain ⟨m, hm, rfl⟩ := List.getElem_of_mem hc
        obtain ⟨j, n, hj, hn, e⟩ := (mem_slots hs').1 hy
        rw [slot_eq] at e
        exact h 0 m (j + 1) n ⟨⟨by simp, hm, by simpa using hj, hn⟩, .inl (by omega), by simpa [kAt, List.getElem?_eq_getElem hm] using e⟩
theorem good_iff {k : List (List Clm)} {p : Int} {s : List Int} (hs : s.length = k.length) : goodB k p s = true ↔ noHit k s p := by
  unfold goodB; rw [decide_eq_true_iff]; exact nodup_iff hs
/-- A good period is no less than any cell's claims. -/
theorem cnt_slots {p : Int} (c : Int) : ∀ (k : List (List Clm)) (s : List Int), s.length = k.length → ((slots k s p).filter fun x => decide (x.1 = c)).length = cntC k.flatten c
  | [], s, _ => by simp [slots, cntC]
  | l :: k, [], h => by simp at h
  | l :: k, a :: s, h => by
    rw [List.flatten_cons, cntC_append, ← cnt_slots c k s (by simpa using h)]
    simp only [slots, List.filter_append, List.length_append]
    congr 1
    simp [cntC, List.filter_map, Function.comp_def, slotOf]
    rfl
theorem slots_rng {p : Int} (hp : 0 < p) : ∀ (k : List (List Clm)) (s : List Int), ∀ x ∈ slots k s p, 0 ≤ x.2 ∧ x.2 < p
  | [], s, x, h => by simp [slots] at h
  | l :: k, [], x, h => by simp [slots] at h
  | l :: k, a :: s, x, h => by
    simp only [slots, List.mem_append, List.mem_map] at h
    rcases h with ⟨c, _, rfl⟩ | h
    · exact ⟨Int.emod_nonneg _ (by omega), Int.emod_lt_of_pos _ hp⟩
    · exact slots_rng hp k s x h
theorem nodup_len {α : Type} [DecidableEq α] : ∀ (l m : List α), l.Nodup → (∀ x ∈ l, x ∈ m) → l.length ≤ m.length
  | [], _, _, _ => by simp
  | x :: l, m, hn, hs => by
    have hx := hs x (by simp)
    rw [List.nodup_cons] at hn
    have := nodup_len l (m.erase x) hn.2 (fun y hy => (List.mem_erase_of_ne (by rintro rfl; exact hn.1 hy)).2 (hs y (by simp [hy])))
    rw [List.length_erase_of_mem hx] at this
    have := List.length_pos_of_mem hx
    simp only [List.length_cons]; omega
theorem good_cnt {k : List (List Clm)} {p : Nat} {s : List Int} (hp : 0 < p) (hs : s.length = k.length) (h : goodB k p s = true) (c : Int) : cntC k.flatten c ≤ p := by
  unfold goodB at h
  rw [decide_eq_true_iff] at h
  rw [← cnt_slots c k s hs]
  have := nodup_len ((slots k s p).filter fun x => decide (x.1 = c)) ((List.range p).map fun (t : Nat) => (c, (t : Int))) (h.filter _) fun x hx => by
    simp only [List.mem_filter, decide_eq_true_eq] at hx
    obtain ⟨h1, h2⟩ := hx
    have := slots_rng (by omega) k s x h1
    rw [List.mem_map]
    refine ⟨x.2.toNat, by rw [List.mem_range]; omega, ?_⟩
    obtain ⟨a, b⟩ := x
    simp only at h2 this ⊢
    subst h2
    simp; omega
  simpa using this
theorem good_bnd {k : List (List Clm)} {p : Nat} {s : List Int} (hp : 0 < p) (hs : s.length = k.length) (h : goodB k p s = true) : bndN k ≤ p :=
  maxTo_of fun c _ => good_cnt hp hs h c
theorem firstG_mem {k : List (List Clm)} {p i : Nat} (h : firstG k p = some i) : i < p ^ k.length ∧ goodB k p (digs p k.length i) = true := by
  unfold firstG at h
  rw [List.find?_range_eq_some] at h
  exact ⟨by simpa using h.2.1, h.1⟩
theorem firstG_bnd {k : List (List Clm)} {p i : Nat} (hp : 0 < p) (h : firstG k p = some i) : bndN k ≤ p := good_bnd hp (digs_len _ _ _) (firstG_mem h).2
end Go.Proofs.Ytgeoehokojijdaa
