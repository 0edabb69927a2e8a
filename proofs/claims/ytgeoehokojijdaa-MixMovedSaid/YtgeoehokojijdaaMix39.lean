/- slices.Sort and slices.Compact at a slice of numbers of one's own. -/
import Derived.Test.YtgeoehokojijdaaMix38
import Derived.Shelf.Slices.In.SortNone
import Derived.Lib.RowBridge
namespace Go.Proofs.Ytgeoehokojijdaa
open Go.RowKit Go.Shelf Go.Sort

theorem sortI_c (base cap : Nat) (s : Option Addr) (zs : List Int) (w : World) (hown : w.ownsRow base 3 1 (.slice s zs.length cap) zs.length (intE.all zs)) (hbase : base ≤ w.heap.size) (hsm : zs.length ≤ 1000000) :
    Calls Try.prog 64 #[.slice s zs.length cap] w fun e w' => e = .returned (.tuple #[]) ∧ w'.ownsRow base 3 1 (.slice s zs.length cap) zs.length (intE.all (zs.mergeSort fun x y => decide (x ≤ y))) ∧ Below base w w' := by
  rcases hown.2 with ⟨hv, h0⟩ | ⟨g, cap', cur, hv, hb, hg, hn, hc, hsz, ht⟩
  · obtain rfl : zs = [] := List.length_eq_zero_iff.1 h0
    cases hv
    have h := Any.slices_Sort_int_none laysSort none 0 w
    refine Calls.mono h ?_
    rintro e w' ⟨rfl, rfl⟩
    exact ⟨rfl, by rw [List.mergeSort_nil]; exact hown, Below.refl _ _⟩
  · cases hv
    have hlt : g < w.heap.size := (Array.getElem?_eq_some_iff.1 hg).1
    rw [intE_all, Nat.mul_one] at ht
    have h := Any.slices_Sort_int laysSort g 0 cap zs w (holds_of_blockI hg ht) hlt (by omega)
    refine Calls.mono h ?_
    rintro e w' ⟨rfl, n, os, rfl⟩
    refine ⟨rfl, ?_, (Below.refl base w).grown (grownBy_sortedI _) hbase (fun j hj => by cases hj; exact hb)⟩
    rw [intE_all]
    exact ownsRow_sortedI (List.length_mergeSort _) hb hg hn hc hsz
theorem compactI_c (base cap : Nat) (s : Option Addr) (zs : List Int) (w : World) (hown : w.ownsRow base 3 1 (.slice s zs.length cap) zs.length (intE.all zs)) (hbase : base ≤ w.heap.size) (hsm : zs.length ≤ 1000000) :
    Calls Try.prog 65 #[.slice s zs.length cap] w fun e w' => e = .returned (.slice s (Lib.compact zs).length cap) ∧ w'.ownsRow base 3 1 (.slice s (Lib.compact zs).length cap) (Lib.compact zs).length (intE.all (Lib.compact zs)) ∧ Below base w w' := by
  rcases hown.2 with ⟨hv, h0⟩ | ⟨g, cap', cur, hv, hb, hg, hn, hc, hsz, ht⟩
  · obtain rfl : zs = [] := List.length_eq_zero_iff.1 h0
    cases hv
    have h := Any.slices_Compact_int_empty laysCompact none 0 w
    refine Calls.mono h ?_
    rintro e w' ⟨rfl, rfl⟩
    exact ⟨rfl, hown, Below.refl _ _⟩
  · cases hv
    have hlt : g < w.heap.size := (Array.getElem?_eq_some_iff.1 hg).1
    rw [intE_all, Nat.mul_one] at ht
    have h := Any.slices_Compact_int laysCompact g 0 cap zs w (holds_of_blockI hg ht) (by omega) hn
    have hcl := Lib.compact_length_le zs
    refine Calls.mono h ?_
    rintro e w' ⟨rfl, q, rfl⟩
    have hg2 := grownBy_sortedI (w := w) (g := g) (n := q) (os := #[]) (Lib.compact zs ++ List.replicate (zs.length - (Lib.compact zs).length) 0).toArray
    have ho := ownsRow_sortedI (w := w) (n := q) (os := #[]) (ss := zs) (ts := Lib.compact zs ++ List.replicate (zs.length - (Lib.compact zs).length) 0) (by simp; omega) hb hg hn hc hsz
    have e0 : ∀ W : World, grow W #[] = W := fun W => by simp [grow]
    rw [e0] at hg2 ho
    refine ⟨rfl, ?_, (Below.refl base w).grown hg2 hbase (fun j hj => by cases hj; exact hb)⟩
    rcases ho.2 with ⟨hv2, _⟩ | ⟨g2, cap2, cur2, hv2, hb2, hg3, hn2, hc2, hsz2, ht2⟩
    · cases hv2
    · cases hv2
      refine ⟨by rw [intE_all]; simp, .inr ⟨g, cap, cur2, rfl, hb, hg3, by omega, hc2, hsz2, ?_⟩⟩
      rw [intE_all, Nat.mul_one]
      rw [Nat.mul_one] at ht2
      have h5 := congrArg (List.take (Lib.compact zs).length) ht2
      rw [List.take_take, Nat.min_eq_left hcl, List.map_append, List.take_append_of_le_length (by simp)] at h5
      rw [h5]
      exact List.take_of_length_le (by simp)
end Go.Proofs.Ytgeoehokojijdaa
