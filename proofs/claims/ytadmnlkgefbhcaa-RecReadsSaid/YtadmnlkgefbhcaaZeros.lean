/- Lists of zeros that are made. -/
import Derived.Test.YtadmnlkgefbhcaaOutT
import Derived.Laws.MakeOwn
namespace Go.Proofs.Ytadmnlkgefbhcaa
open Go.RowKit

def zs (n : Nat) : List Value := List.replicate n (.int .i64 0)
theorem zeros_all (n : Nat) : zs n = intE.all (List.replicate n 0) := by
  unfold zs
  induction n with
  | zero => rfl
  | succ n ih => rw [List.replicate_succ, List.replicate_succ, ih]; rfl
theorem run_make_ints (n : Nat) (hn : n ≤ 1000000) (w : World) : (Instr.makeSlice 53 (.int .i64 n) (.int .i64 n)).run Try.prog w = .ok (.slice (some ⟨w.heap.size, 0, none⟩) n n) (w.alloc (.cells (zs n).toArray 3)) := by
  obtain ⟨i, hi, hz, hs, hb⟩ := info_parts info_int
  have h := run_makeSlice (P := Try.prog) (w := w) 53 3 i _ Try.underlying53 hi hz .i64 .i64 n n (by omega) (by omega) (by rw [hs]; omega) (by rw [hb]; omega) (by omega)
  rw [h, hs]
  have e : madeCells (Value.cells (.int .i64 0)) ((n : Int).toNat * 1) = (zs n).toArray := by
    apply Array.ext
    · simp [size_madeCells, zs]
    · intro j h1 h2
      simp [madeCells, Value.cells, Nat.mod_one, zs]
  rw [e]
  simp
theorem own_zeros (V : World) (n : Nat) (hn : n ≤ 1000000) : (V.alloc (.cells (zs n).toArray 3)).ownsRow V.heap.size 3 1 (.slice (some ⟨V.heap.size, 0, none⟩) n n) n (intE.all (List.replicate n 0)) := by
  have hl : (intE.all (List.replicate n 0)).length = n := by rw [Elt.all_len]; simp [intE]
  rw [zeros_all]
  exact ⟨by rw [hl, Nat.mul_one], .inr ⟨V.heap.size, n, _, rfl, Nat.le_refl _, heap_alloc_new V _, Nat.le_refl _, by unfold maxLen; omega, by simp [hl], List.take_of_length_le (by simp [hl])⟩⟩
end Go.Proofs.Ytadmnlkgefbhcaa
