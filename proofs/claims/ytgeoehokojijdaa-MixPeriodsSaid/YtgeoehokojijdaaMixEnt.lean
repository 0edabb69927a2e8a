/- The entries of mix.clash: who lies on which slot, in order. -/
import Derived.Test.YtgeoehokojijdaaMixGrq
import Derived.Test.YtgeoehokojijdaaMixHit
namespace Go.Proofs.Ytgeoehokojijdaa
open Go.RowKit

def slC (S p : Int) (c : Clm) : Clm := ⟨c.cell, (S + c.time) % p⟩
def rowE (k : List (List Clm)) (st : List Int) (p : Int) (n i : Nat) : List (Clm × Clm) := (List.range i).map fun (j : Nat) => (slC (st.getD n 0) p (kAt k n j), (⟨(n : Int), (j : Int)⟩ : Clm))
def allE (k : List (List Clm)) (st : List Int) (p : Int) (n : Nat) : List (Clm × Clm) := (List.range n).flatMap fun m => rowE k st p m (kLen k m)
theorem rowE_succ (k : List (List Clm)) (st : List Int) (p : Int) (n i : Nat) : rowE k st p n (i + 1) = rowE k st p n i ++ [(slC (st.getD n 0) p (kAt k n i), ⟨(n : Int), (i : Int)⟩)] := by
  unfold rowE; rw [List.range_succ, List.map_append]; rfl
theorem allE_succ (k : List (List Clm)) (st : List Int) (p : Int) (n : Nat) : allE k st p (n + 1) = allE k st p n ++ rowE k st p n (kLen k n) := by
  unfold allE; rw [List.range_succ, List.flatMap_append]; simp
theorem mem_allE {k : List (List Clm)} {st : List Int} {p : Int} {N : Nat} {s q : Clm} : (s, q) ∈ allE k st p N ↔ ∃ n i : Nat, n < N ∧ i < kLen k n ∧ q = ⟨(n : Int), (i : Int)⟩ ∧ s = slC (st.getD n 0) p (kAt k n i) := by
  unfold allE rowE
  simp only [List.mem_flatMap, List.mem_range, List.mem_map, Prod.mk.injEq]
  exact ⟨fun ⟨n, h1, i, h2, h3, h4⟩ => ⟨n, i, h1, h2, h4.symm, h3.symm⟩, fun ⟨n, i, h1, h2, h3, h4⟩ => ⟨n, h1, i, h2, h4.symm, h3.symm⟩⟩
def lx (a b : Clm) : Prop := a.cell < b.cell ∨ (a.cell = b.cell ∧ a.time < b.time)
theorem lx_irr {a : Clm} (h : lx a a) : False := by unfold lx at h; omega
theorem allE_sorted (k : List (List Clm)) (st : List Int) (p : Int) : ∀ N, (allE k st p N).Pairwise fun a b => lx a.2 b.2
  | 0 => List.Pairwise.nil
  | N + 1 => by
    rw [allE_succ, List.pairwise_append]
    refine ⟨allE_sorted k st p N, ?_, ?_⟩
    · unfold rowE
      rw [List.pairwise_map]
      refine List.Pairwise.imp ?_ List.pairwise_lt_range
      intro a b h
      right; exact ⟨rfl, by simp; omega⟩
    · intro a ha b hb
      obtain ⟨s, q⟩ := a
      obtain ⟨n, i, h1, h2, rfl, -⟩ := mem_allE.1 ha
      unfold rowE at hb
      obtain ⟨j, hj, rfl⟩ := List.mem_map.1 hb
      left; simp; omega
/-- The places on a slot. -/
def grp (k : List (List Clm)) (st : List Int) (p : Int) (s : Clm) : List Clm := grpL (allE k st p k.length) s
theorem grp_sorted (k : List (List Clm)) (st : List Int) (p : Int) (s : Clm) : (grp k st p s).Pairwise lx := by
  unfold grp grpL
  rw [List.pairwise_map]
  exact (allE_sorted k st p k.length).filter _
theorem mem_grp {k : List (List Clm)} {st : List Int} {p : Int} {s q : Clm} : q ∈ grp k st p s ↔ ∃ n i : Nat, n < k.length ∧ i < kLen k n ∧ q = ⟨(n : Int), (i : Int)⟩ ∧ s = slC (st.getD n 0) p (kAt k n i) := by
  unfold grp grpL
  rw [← mem_allE]
  simp only [List.mem_map, List.mem_filter, decide_eq_true_iff, Prod.exists]
  exact ⟨fun ⟨a, b, ⟨h1, h2⟩, h3⟩ => by subst h2 h3; exact h1, fun h => ⟨s, q, ⟨h, rfl⟩, rfl⟩⟩
def sAt (k : List (List Clm)) (st : List Int) (p : Int) (n i : Nat) : Clm := slC (st.getD n 0) p (kAt k n i)
theorem slot_meet {k : List (List Clm)} {st : List Int} {p : Int} {i m j n : Nat} : sAt k st p i m = sAt k st p j n ↔ meetP (kAt k i m) (st.getD i 0) (kAt k j n) (st.getD j 0) p := by
  unfold sAt slC meetP
  rw [Clm.mk.injEq, Int.add_comm (st.getD i 0), Int.add_comm (st.getD j 0)]
/-- No place ahead of (n, i) shares its slot. -/
def oneTo (k : List (List Clm)) (st : List Int) (p : Int) (n i : Nat) : Prop := ∀ n' i' : Nat, n' < k.length → i' < kLen k n' → (n' < n ∨ (n' = n ∧ i' < i)) → (grp k st p (sAt k st p n' i')).length ≤ 1
theorem two_mem {α : Type} {l : List α} {a b : α} (ha : a ∈ l) (hb : b ∈ l) (h : a ≠ b) : 1 < l.length := by
  match l, ha, hb with
  | [x], ha, hb => simp at ha hb; subst ha hb; exact absurd rfl h
  | x :: y :: r, _, _ => simp
theorem hit_two {k : List (List Clm)} {st : List Int} {p : Int} {i m j n : Nat} (h : hitAt k st p i m j n) : (i < k.length ∧ m < kLen k i) ∧ (⟨(j : Int), (n : Int)⟩ : Clm) ∈ grp k st p (sAt k st p i m) ∧ 1 < (grp k st p (sAt k st p i m)).length ∧ lx ⟨(i : Int), (m : Int)⟩ ⟨(j : Int), (n : Int)⟩ := by
  obtain ⟨⟨h1, h2, h3, h4⟩, h5, h6⟩ := h
  have e := slot_meet.2 h6
  have m1 : (⟨(i : Int), (m : Int)⟩ : Clm) ∈ grp k st p (sAt k st p i m) := mem_grp.2 ⟨i, m, h1, h2, rfl, rfl⟩
  have m2 : (⟨(j : Int), (n : Int)⟩ : Clm) ∈ grp k st p (sAt k st p i m) := mem_grp.2 ⟨j, n, h3, h4, rfl, e⟩
  refine ⟨⟨h1, h2⟩, m2, two_mem m1 m2 fun e2 => ?_, ?_⟩
  · simp only [Clm.mk.injEq] at e2; omega
  · unfold lx; simp only; omega
theorem clash_none {k : List (List Clm)} {st : List Int} {p : Int} (h : oneTo k st p k.length 0) : noHit k st p := fun i m j n hh => by
  obtain ⟨⟨h1, h2⟩, -, h3, -⟩ := hit_two hh
  have := h i m h1 h2 (.inl h1)
  omega
theorem clash_some {k : List (List Clm)} {st : List Int} {p : Int} {n i : Nat} (hn : n < k.length) (hi : i < kLen k n) (ho : oneTo k st p n i) (hl : 1 < (grp k st p (sAt k st p n i)).length) :
    ∃ j m : Nat, (∃ r, grp k st p (sAt k st p n i) = ⟨(n : Int), (i : Int)⟩ :: ⟨(j : Int), (m : Int)⟩ :: r) ∧ NB k st p n i j m ∧ hitAt k st p n i j m := by
  have hs := grp_sorted k st p (sAt k st p n i)
  have hm : (⟨(n : Int), (i : Int)⟩ : Clm) ∈ grp k st p (sAt k st p n i) := mem_grp.2 ⟨n, i, hn, hi, rfl, rfl⟩
  obtain ⟨t, ht⟩ : ∃ t, grp k st p (sAt k st p n i) = t := ⟨_, rfl⟩
  rw [ht] at hs hm hl ⊢
  match t, hl with
  | a :: b :: r, _ =>
    have ha : a ∈ grp k st p (sAt k st p n i) := by rw [ht]; simp
    have hb : b ∈ grp k st p (sAt k st p n i) := by rw [ht]; simp
    obtain ⟨n1, i1, h1, h2, rfl, e1⟩ := mem_grp.1 ha
    obtain ⟨j, m, h3, h4, rfl, e2⟩ := mem_grp.1 hb
    have e1' : sAt k st p n1 i1 = sAt k st p n i := e1.symm
    have e2' : sAt k st p j m = sAt k st p n i := e2.symm
    have hab := (List.pairwise_cons.1 hs).1
    have hba := (List.pairwise_cons.1 (List.pairwise_cons.1 hs).2).1
    have hfst : n1 = n ∧ i1 = i := by
      rcases List.mem_cons.1 hm with e | hin
      · simp only [Clm.mk.injEq] at e; omega
      · have h5 := hab _ hin
        have h6 := ho n1 i1 h1 h2 (by unfold lx at h5; simp only at h5; omega)
        rw [e1', ht] at h6
        simp at h6
    obtain ⟨rfl, rfl⟩ := hfst
    have h7 := hab ⟨(j : Int), (m : Int)⟩ (by simp)
    have hhit : hitAt k st p n1 i1 j m := ⟨⟨h1, h2, h3, h4⟩, by unfold lx at h7; simp only at h7; omega, slot_meet.1 e2'.symm⟩
    refine ⟨j, m, ⟨r, rfl⟩, ?_, hhit⟩
    intro i' m' j' n' hlex hh
    obtain ⟨⟨g1, g2⟩, g3, g4, g5⟩ := hit_two hh
    have hnot : ¬ (i' < n1 ∨ (i' = n1 ∧ m' < i1)) := fun hc => by
      have := ho i' m' g1 g2 hc
      omega
    unfold lexlt at hlex
    have heq : i' = n1 ∧ m' = i1 := by omega
    obtain ⟨rfl, rfl⟩ := heq
    rw [ht] at g3
    rcases List.mem_cons.1 g3 with e | hin
    · rw [e] at g5; exact lx_irr g5
    · rcases List.mem_cons.1 hin with e | hin2
      · simp only [Clm.mk.injEq] at e; omega
      · have h8 := hba _ hin2
        unfold lx at h8; simp only at h8; omega
theorem oneTo_next {k : List (List Clm)} {st : List Int} {p : Int} {n i : Nat} (h : oneTo k st p n i) (hl : (grp k st p (sAt k st p n i)).length ≤ 1) : oneTo k st p n (i + 1) := fun n' i' h1 h2 h3 => by
  by_cases e : n' = n ∧ i' = i
  · obtain ⟨rfl, rfl⟩ := e; exact hl
  · exact h n' i' h1 h2 (by omega)
theorem oneTo_row {k : List (List Clm)} {st : List Int} {p : Int} {n : Nat} (h : oneTo k st p n (kLen k n)) : oneTo k st p (n + 1) 0 := fun n' i' h1 h2 h3 => by
  by_cases e : n' = n
  · subst e; exact h n' i' h1 h2 (.inr ⟨rfl, h2⟩)
  · exact h n' i' h1 h2 (by omega)
theorem oneTo_zero {k : List (List Clm)} {st : List Int} {p : Int} : oneTo k st p 0 0 := fun n' i' _ _ h => by omega
end Go.Proofs.Ytgeoehokojijdaa
