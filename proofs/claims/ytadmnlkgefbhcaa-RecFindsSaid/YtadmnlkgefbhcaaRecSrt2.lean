/- slices.Sort and slices.Compact at a slice of numbers of one's own; what their lengths say. -/
import Derived.Test.YtadmnlkgefbhcaaRecSrt
import Derived.Test.YtadmnlkgefbhcaaB3
import Derived.Shelf.Slices.In.SortNone
import Derived.Lib.RowBridge
namespace Go.Proofs.Ytadmnlkgefbhcaa
open Go.RowKit Go.Shelf Go.Sort

theorem intE_all (l : List Int) : intE.all l = l.map (Value.int .i64) := by
  show l.flatMap _ = _
  induction l with
  | nil => rfl
  | cons x l ih => rw [List.flatMap_cons, ih]; rfl
theorem sortI_c (base cap : Nat) (s : Option Addr) (zs : List Int) (w : World) (hown : w.ownsRow base 3 1 (.slice s zs.length cap) zs.length (intE.all zs)) (hbase : base ≤ w.heap.size) (hsm : zs.length ≤ 1000000) :
    Calls Try.prog 90 #[.slice s zs.length cap] w fun e w' => e = .returned (.tuple #[]) ∧ w'.ownsRow base 3 1 (.slice s zs.length cap) zs.length (intE.all (zs.mergeSort fun x y => decide (x ≤ y))) ∧ Below base w w' := by
  rcases hown.2 with ⟨hv, h0⟩ | ⟨g, cap', cur, hv, hb, hg, hn, hc, hsz, ht⟩
  · obtain rfl : zs = [] := List.length_eq_zero_iff.1 h0
    cases hv
    have h := Any.slices_Sort_int_none laysSort none 0 w
    refine Calls.mono h ?_
    rintro e w' ⟨rfl, rfl⟩
    exact ⟨rfl, by rw [List.mergeSort_nil]; exact hown, Below.refl _ _⟩
  · cases hv
    have hlt : g < w.heap.size := (Array.getElem?_eq_some_iff.1 hg).1
    rw [intE_all, Nat.mul_one] at ht
    have h := Any.slices_Sort_int laysSort g 0 cap zs w (holds_of_blockI hg ht) hlt (by omega)
    refine Calls.mono h ?_
    rintro e w' ⟨rfl, n, os, rfl⟩
    refine ⟨rfl, ?_, (Below.refl base w).grown (grownBy_sortedI _) hbase (fun j hj => by cases hj; exact hb)⟩
    rw [intE_all]
    exact ownsRow_sortedI (List.length_mergeSort _) hb hg hn hc hsz
theorem compactI_c (base cap : Nat) (s : Option Addr) (zs : List Int) (w : World) (hown : w.ownsRow base 3 1 (.slice s zs.length cap) zs.length (intE.all zs)) (hbase : base ≤ w.heap.size) (hsm : zs.length ≤ 1000000) :
    Calls Try.prog 91 #[.slice s zs.length cap] w fun e w' => e = .returned (.slice s (Lib.compact zs).length cap) ∧ w'.ownsRow base 3 1 (.slice s (Lib.compact zs).length cap) (Lib.compact zs).length (intE.all (Lib.compact zs)) ∧ Below base w w' := by
  rcases hown.2 with ⟨hv, h0⟩ | ⟨g, cap', cur, hv, hb, hg, hn, hc, hsz, ht⟩
  · obtain rfl : zs = [] := List.length_eq_zero_iff.1 h0
    cases hv
    have h := Any.slices_Compact_int_empty laysCompact none 0 w
    refine Calls.mono h ?_
    rintro e w' ⟨rfl, rfl⟩
    exact ⟨rfl, hown, Below.refl _ _⟩
  · cases hv
    have hlt : g < w.heap.size := (Array.getElem?_eq_some_iff.1 hg).1
    rw [intE_all, Nat.mul_one] at ht
    have h := Any.slices_Compact_int laysCompact g 0 cap zs w (holds_of_blockI hg ht) (by omega) hn
    have hcl := Lib.compact_length_le zs
    refine Calls.mono h ?_
    rintro e w' ⟨rfl, q, rfl⟩
    have hg2 := grownBy_sortedI (w := w) (g := g) (n := q) (os := #[]) (Lib.compact zs ++ List.replicate (zs.length - (Lib.compact zs).length) 0).toArray
    have ho := ownsRow_sortedI (w := w) (n := q) (os := #[]) (ss := zs) (ts := Lib.compact zs ++ List.replicate (zs.length - (Lib.compact zs).length) 0) (by simp; omega) hb hg hn hc hsz
    have e0 : ∀ W : World, grow W #[] = W := fun W => by simp [grow]
    rw [e0] at hg2 ho
    refine ⟨rfl, ?_, (Below.refl base w).grown hg2 hbase (fun j hj => by cases hj; exact hb)⟩
    rcases ho.2 with ⟨hv2, _⟩ | ⟨g2, cap2, cur2, hv2, hb2, hg3, hn2, hc2, hsz2, ht2⟩
    · cases hv2
    · cases hv2
      refine ⟨by rw [intE_all]; simp, .inr ⟨g, cap, cur2, rfl, hb, hg3, by omega, hc2, hsz2, ?_⟩⟩
      rw [intE_all, Nat.mul_one]
      rw [Nat.mul_one] at ht2
      have h5 := congrArg (List.take (Lib.compact zs).length) ht2
      rw [List.take_take, Nat.min_eq_left hcl, List.map_append, List.take_append_of_le_length (by simp)] at h5
      rw [h5]
      exact List.take_of_length_le (by simp)
theorem mem_compactUpTo (d : Array Int) (n : Int) : ∀ m, n ∈ Lib.compactUpTo d m ↔ ∃ j, j < m ∧ d[j]! = n
  | 0 => by simp [Lib.compactUpTo]
  | m + 1 => by
    rw [Lib.compactUpTo_succ, List.mem_append, mem_compactUpTo d n m]
    cases hk : Lib.keeps d m
    · simp only [Bool.false_eq_true, if_false, List.not_mem_nil, or_false]
      have hm : m ≠ 0 ∧ d[m]! = d[m - 1]! := by
        unfold Lib.keeps at hk
        rw [decide_eq_false_iff_not] at hk
        exact ⟨fun h => hk (.inl h), Decidable.byContradiction fun h => hk (.inr h)⟩
      constructor
      · rintro ⟨j, hj, e⟩; exact ⟨j, by omega, e⟩
      · rintro ⟨j, hj, e⟩
        by_cases h : j = m
        · subst h; exact ⟨j - 1, by omega, hm.2 ▸ e⟩
        · exact ⟨j, by omega, e⟩
    · simp only [if_true, List.mem_singleton]
      constructor
      · rintro (⟨j, hj, e⟩ | e)
        · exact ⟨j, by omega, e⟩
        · exact ⟨m, by omega, e.symm⟩
      · rintro ⟨j, hj, e⟩
        by_cases h : j = m
        · subst h; exact .inr e.symm
        · exact .inl ⟨j, by omega, e⟩
theorem mem_compact (zs : List Int) (n : Int) : n ∈ Lib.compact zs ↔ n ∈ zs := by
  unfold Lib.compact
  rw [mem_compactUpTo]
  constructor
  · rintro ⟨j, hj, e⟩
    have h1 : zs[j] = n := by rw [← e]; simp [hj]
    exact h1 ▸ List.getElem_mem hj
  · intro h
    obtain ⟨j, hj, e⟩ := List.getElem_of_mem h
    exact ⟨j, hj, by rw [← e]; simp [hj]⟩
theorem compact_asc (zs : List Int) (h : zs.Pairwise (· ≤ ·)) : (Lib.compact zs).Pairwise (· < ·) := by
  unfold Lib.compact
  have hle : ∀ i k, i ≤ k → k < zs.length → zs.toArray[i]! ≤ zs.toArray[k]! := by
    intro i k hik hkl
    rw [getElem!_pos zs.toArray i (by simp; omega), getElem!_pos zs.toArray k (by simpa using hkl)]
    rcases Nat.lt_or_ge i k with h1 | h1
    · have := List.pairwise_iff_getElem.1 h i k (by omega) hkl h1; simpa using this
    · have : i = k := by omega
      subst this; exact Int.le_refl _
  have H : ∀ m, m ≤ zs.length → (Lib.compactUpTo zs.toArray m).Pairwise (· < ·) := by
    intro m
    induction m with
    | zero => intro _; simp [Lib.compactUpTo]
    | succ m ih =>
      intro hm
      rw [Lib.compactUpTo_succ]
      cases hk : Lib.keeps zs.toArray m
      · simpa using ih (by omega)
      · simp only [if_true]
        rw [List.pairwise_append]
        refine ⟨ih (by omega), by simp, ?_⟩
        intro a ha b hb
        obtain rfl := List.mem_singleton.1 hb
        obtain ⟨j, hj, rfl⟩ := (mem_compactUpTo _ _ _).1 ha
        have hne : zs.toArray[m]! ≠ zs.toArray[m - 1]! := by
          unfold Lib.keeps at hk
          rw [decide_eq_true_iff] at hk
          exact hk.resolve_left (by omega)
        have h1 := hle j (m - 1) (by omega) (by omega)
        have h2 := hle (m - 1) m (by omega) (by omega)
        omega
  exact H _ (Nat.le_refl _)
theorem nd_len {α : Type} [DecidableEq α] : ∀ (c l : List α), c.Nodup → (∀ x ∈ c, x ∈ l) → c.length ≤ l.length
  | [], l, _, _ => by simp
  | x :: c, l, h1, h2 => by
    have hx := h2 x List.mem_cons_self
    have hn := List.nodup_cons.1 h1
    have := nd_len c (l.erase x) hn.2 (fun y hy => (List.mem_erase_of_ne (fun e => hn.1 (by rw [← e]; exact hy))).2 (h2 y (List.mem_cons_of_mem _ hy)))
    rw [List.length_erase_of_mem hx] at this
    have hp := List.length_pos_of_mem hx
    simp only [List.length_cons]; omega
theorem nd_full {α : Type} [DecidableEq α] : ∀ (c l : List α), c.Nodup → (∀ x ∈ c, x ∈ l) → l.length ≤ c.length → l.Nodup
  | [], l, _, _, h3 => by
    have : l = [] := List.length_eq_zero_iff.1 (by simpa using h3)
    rw [this]; exact List.nodup_nil
  | x :: c, l, h1, h2, h3 => by
    have hx := h2 x List.mem_cons_self
    have hn := List.nodup_cons.1 h1
    have hsub : ∀ y ∈ c, y ∈ l.erase x := fun y hy => (List.mem_erase_of_ne (fun e => hn.1 (by rw [← e]; exact hy))).2 (h2 y (List.mem_cons_of_mem _ hy))
    have hp := List.length_pos_of_mem hx
    have hle : (l.erase x).length ≤ c.length := by
      rw [List.length_erase_of_mem hx]
      simp only [List.length_cons] at h3; omega
    have ih := nd_full c (l.erase x) hn.2 hsub hle
    have hxe : x ∉ l.erase x := fun hm => by
      have := nd_len (x :: c) (l.erase x) h1 (fun y hy => by
        rcases List.mem_cons.1 hy with e | hy
        · rw [e]; exact hm
        · exact hsub y hy)
      simp only [List.length_cons] at this; omega
    have hperm := List.perm_cons_erase hx
    exact hperm.nodup_iff.2 (List.nodup_cons.2 ⟨hxe, ih⟩)
/-- As long as the list, sorted and without repetitions: it has none. -/
theorem compact_sort (zs : List Int) : (Lib.compact (zs.mergeSort fun x y => decide (x ≤ y))).length = zs.length ↔ zs.Nodup := by
  have hs : (zs.mergeSort fun x y => decide (x ≤ y)).Pairwise (· ≤ ·) := by
    have := List.pairwise_mergeSort (le := fun x y : Int => decide (x ≤ y)) (fun a b c h1 h2 => by simp only [decide_eq_true_eq] at *; omega) (fun a b => by simp only [Bool.or_eq_true, decide_eq_true_eq]; omega) zs
    exact this.imp fun h => by simpa using h
  have hasc := compact_asc _ hs
  have hnd : (Lib.compact (zs.mergeSort fun x y => decide (x ≤ y))).Nodup := by
    rw [List.nodup_iff_pairwise_ne]; exact hasc.imp fun h => by omega
  have hmem : ∀ x, x ∈ Lib.compact (zs.mergeSort fun x y => decide (x ≤ y)) ↔ x ∈ zs := fun x => by rw [mem_compact]; exact (List.mergeSort_perm zs _).mem_iff
  constructor
  · intro h
    exact nd_full _ zs hnd (fun x hx => (hmem x).1 hx) (by omega)
  · intro h
    have h1 := nd_len _ zs hnd (fun x hx => (hmem x).1 hx)
    have h2 := nd_len zs _ h (fun x hx => (hmem x).2 hx)
    omega
end Go.Proofs.Ytadmnlkgefbhcaa
