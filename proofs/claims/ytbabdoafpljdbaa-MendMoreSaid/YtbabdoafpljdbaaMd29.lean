/- Tables of numbers; how many columns there are from each cell on: the reference. -/
import Derived.Test.YtbabdoafpljdbaaMd13
import Derived.Test.YtbabdoafpljdbaaMd14
namespace Go.Proofs.Ytbabdoafpljdbaa
open Go.RowKit

/-! ### Tables of numbers -/
section
variable {T t : Nat} {V V' : World} {base : Nat} {s : Option Addr} {n cap : Nat} {ss : List Sv}
theorem intE_at (l : List Int) {i : Nat} (hi : i < l.length) : (intE.all l)[i]? = some (.int .i64 l[i]) := by
  have h := intE.all_at l i 0 hi (by decide)
  simpa [intE] using h
theorem intE_set (l : List Int) : ∀ (i : Nat) (x : Int), (intE.all l).set i (.int .i64 x) = intE.all (l.set i x) := by
  induction l with
  | nil => intro i x; rfl
  | cons a l ih =>
    intro i x
    cases i with
    | zero => rfl
    | succ i =>
      have h := ih i x
      show List.set (Value.int .i64 a :: intE.all l) (i + 1) (.int .i64 x) = Value.int .i64 a :: intE.all (l.set i x)
      rw [List.set_cons_succ, h]
/-- A cell of a row of numbers: what it holds, and that it may be written. -/
theorem Tbl.cellI {R : List (List Int)} (h : Tbl intE T t V base (.slice s n cap) ss R) {i j : Nat} (hi : i < R.length) (hj : j < R[i].length) :
    ∃ b gi ci, s = some ⟨b, 0, none⟩ ∧ (base ≤ b ∧ b < V.heap.size) ∧ (base ≤ gi ∧ gi < V.heap.size) ∧ V.cell? ⟨b, i, none⟩ = some (.slice (some ⟨gi, 0, none⟩) R[i].length ci) ∧ V.cell? ⟨gi, j, none⟩ = some (.int .i64 R[i][j]) ∧ V.frozen? ⟨gi, j, none⟩ = false ∧
      (∀ x, Tbl intE T t (V.setCell ⟨gi, j, none⟩ (.int .i64 x)) base (.slice s n cap) ss (R.set i (R[i].set j x))) ∧ b ≠ gi := by
  obtain ⟨b, hs1, hb, _, hs, hc, hv⟩ := h.head hi
  have hrow := h.row i hi hs
  rw [hv] at hrow
  obtain ⟨gi, e, h1, h2⟩ := own_ex hrow (by omega)
  rw [e] at hc hrow hv
  refine ⟨b, gi, _, hs1, hb, ⟨h1, h2⟩, hc, owns_cell hrow (intE_at _ hj), World.ownsRow.frozenAt hrow j, fun x => ?_, fun eb => ?_⟩
  · have hst := hrow.stored j (.int .i64 x)
    rw [intE_set] at hst
    refine h.set hs (L := R[i].set j x) (V' := V.setCell ⟨gi, j, none⟩ (.int .i64 x)) ?_ ?_
    · rw [hv]; exact hst.2
    · rw [hv, List.length_set]; exact hst.1
  · have h3 := h.off i hs gi (by rw [hv]; rfl)
    apply h3
    rw [hs1]
    show some b = some gi
    rw [eb]
end
def zs (n : Nat) : List Value := List.replicate n (.int .i64 0)
theorem zeros_all (n : Nat) : zs n = intE.all (List.replicate n 0) := by
  unfold zs
  induction n with
  | zero => rfl
  | succ n ih => rw [List.replicate_succ, List.replicate_succ, ih]; rfl
theorem run_make_ints (n : Nat) (hn : n ≤ 1000000) (w : World) : (Instr.makeSlice 36 (.int .i64 n) (.int .i64 n)).run Try.prog w = .ok (.slice (some ⟨w.heap.size, 0, none⟩) n n) (w.alloc (.cells (zs n).toArray 3)) := by
  obtain ⟨i, hi, hz, hs, hb⟩ := info_parts info_int
  have h := run_makeSlice (P := Try.prog) (w := w) 36 3 i _ Try.underlying36 hi hz .i64 .i64 n n (by omega) (by omega) (by rw [hs]; omega) (by rw [hb]; omega) (by omega)
  rw [h, hs]
  have e : madeCells (Value.cells (.int .i64 0)) ((n : Int).toNat * 1) = (zs n).toArray := by
    apply Array.ext
    · simp [size_madeCells, zs]
    · intro j h1 h2
      simp [madeCells, Value.cells, Nat.mod_one, zs]
  rw [e]
  simp
theorem own_zeros (V : World) (n : Nat) (hn : n ≤ 1000000) : (V.alloc (.cells (zs n).toArray 3)).ownsRow V.heap.size 3 1 (.slice (some ⟨V.heap.size, 0, none⟩) n n) n (intE.all (List.replicate n 0)) := by
  have hl : (intE.all (List.replicate n 0)).length = n := by rw [Elt.all_len]; simp [intE]
  rw [zeros_all]
  exact ⟨by rw [hl, Nat.mul_one], .inr ⟨V.heap.size, n, _, rfl, Nat.le_refl _, heap_alloc_new V _, Nat.le_refl _, by unfold maxLen; omega, by simp [hl], List.take_of_length_le (by simp [hl])⟩⟩
theorem info_ints' : (Try.prog.info? 36).map (fun i => (i.zero, i.size, i.bytes)) = some (some (.slice none 0 0), 1, 24) := by kernel_rfl
theorem run_make_tabs (n : Nat) (hn : n ≤ 1000000) (w : World) : (Instr.makeSlice 40 (.int .i64 n) (.int .i64 n)).run Try.prog w = .ok (.slice (some ⟨w.heap.size, 0, none⟩) n n) (w.alloc (.cells (List.replicate n (Value.slice none 0 0)).toArray 36)) := by
  obtain ⟨i, hi, hz, hs, hb⟩ := info_parts info_ints'
  have h := run_makeSlice (P := Try.prog) (w := w) 40 36 i _ Try.underlying40 hi hz .i64 .i64 n n (by omega) (by omega) (by rw [hs]; omega) (by rw [hb]; omega) (by omega)
  rw [h, hs]
  have e : madeCells (Value.cells (.slice none 0 0)) ((n : Int).toNat * 1) = (List.replicate n (Value.slice none 0 0)).toArray := by
    apply Array.ext
    · simp [size_madeCells]
    · intro j h1 h2
      simp [madeCells, Value.cells, Nat.mod_one]
  rw [e]
  simp

/-! ### How many columns go on from a cell -/
/-- The sum of the numbers near a place, of the first n. -/
def nsum (r : Int) (o : List Int) (x : Int) : Nat → Int
  | 0 => 0
  | k + 1 => nsum r o x k + (if nearB x k r then o.getD k 0 else 0)
def wayRow (r : Int) (row : List Bool) (T : List (List Int)) : List Int := (List.range row.length).map fun (x : Nat) => if row.getD x false then (match T with | [] => 1 | o :: _ => nsum r o x o.length) else 0
def wayL (r : Int) : List (List Bool) → List (List Int)
  | [] => []
  | row :: rest => wayRow r row (wayL r rest) :: wayL r rest
theorem wayRow_len (r : Int) (row : List Bool) (T : List (List Int)) : (wayRow r row T).length = row.length := by simp [wayRow]
theorem wayL_len (r : Int) : ∀ R, (wayL r R).length = R.length
  | [] => rfl
  | _ :: R => by simp [wayL, wayL_len r R]
theorem wayL_rows (r : Int) {wd : Nat} : ∀ {R : List (List Bool)}, (∀ row ∈ R, row.length = wd) → ∀ row ∈ wayL r R, row.length = wd
  | [], _, _, h2 => by simp [wayL] at h2
  | a :: R, h, row, h2 => by
    simp only [wayL, List.mem_cons] at h2
    rcases h2 with e | h2
    · rw [e, wayRow_len]; exact h a (by simp)
    · exact wayL_rows r (R := R) (fun x hx => h x (by simp [hx])) row h2
theorem wayL_last (r : Int) : ∀ {R : List (List Bool)} {m : Nat} (hm : m < R.length), m + 1 = R.length → (wayL r R)[m]'(by rw [wayL_len]; exact hm) = wayRow r R[m] []
  | [], m, hm, _ => absurd hm (by simp)
  | [a], 0, _, _ => rfl
  | a :: b :: R, 0, _, h => by simp at h
  | a :: R, m + 1, hm, h => by
    simp only [wayL, List.getElem_cons_succ]
    exact wayL_last r (by simpa using hm) (by simpa using h)
theorem wayL_next (r : Int) : ∀ {R : List (List Bool)} {m : Nat} (hm : m + 1 < R.length), ∃ T, (wayL r R)[m]'(by rw [wayL_len]; omega) = wayRow r (R[m]'(by omega)) ((wayL r R)[m + 1]'(by rw [wayL_len]; exact hm) :: T)
  | [], m, hm => absurd hm (by simp)
  | [a], m, hm => by simp at hm
  | a :: b :: R, 0, _ => ⟨wayL r R, rfl⟩
  | a :: b :: R, m + 1, hm => by
    obtain ⟨T, h⟩ := wayL_next r (R := b :: R) (m := m) (by simpa using hm)
    refine ⟨T, ?_⟩
    simpa only [wayL, List.getElem_cons_succ] using h
theorem wayRow_at {r : Int} {row : List Bool} {T : List (List Int)} {x : Nat} (h : x < row.length) : (wayRow r row T)[x]'(by rw [wayRow_len]; exact h) = if row[x] then (match T with | [] => 1 | o :: _ => nsum r o x o.length) else 0 := by
  simp [wayRow, List.getElem?_eq_getElem h]
theorem nsum_bnd {r : Int} {o : List Int} {B : Int} (hB : 0 ≤ B) (h : ∀ z ∈ o, 0 ≤ z ∧ z ≤ B) (x : Int) : ∀ n, 0 ≤ nsum r o x n ∧ nsum r o x n ≤ n * B
  | 0 => by simp [nsum]
  | n + 1 => by
    have ih := nsum_bnd hB h x n (r := r)
    have hg : 0 ≤ o.getD n 0 ∧ o.getD n 0 ≤ B := by
      rw [List.getD_eq_getElem?_getD]
      by_cases hn : n < o.length
      · rw [List.getElem?_eq_getElem hn]; exact h _ (List.getElem_mem hn)
      · rw [List.getElem?_eq_none (by omega)]; exact ⟨Int.le_refl _, hB⟩
    have e : ((n + 1 : Nat) : Int) * B = n * B + B := by rw [Int.natCast_add, Int.add_mul]; simp
    rw [nsum, e]
    split <;> omega
theorem pow_le {a b : Nat} (h : a ≤ b) : ((12 ^ a : Nat) : Int) ≤ ((12 ^ b : Nat) : Int) := by exact_mod_cast Nat.pow_le_pow_right (by decide) h
theorem wayL_bnd (r : Int) : ∀ {R : List (List Bool)}, (∀ row ∈ R, row.length ≤ 12) → ∀ row ∈ wayL r R, ∀ z ∈ row, 0 ≤ z ∧ z ≤ ((12 ^ R.length : Nat) : Int)
  | [], _, _, h, _, _ => by simp [wayL] at h
  | a :: R, h, row, h2, z, hz => by
    have ih := wayL_bnd r (R := R) (fun x hx => h x (by simp [hx]))
    have hp : ((12 ^ R.length : Nat) : Int) ≤ ((12 ^ (a :: R).length : Nat) : Int) := pow_le (by simp)
    simp only [wayL, List.mem_cons] at h2
    rcases h2 with e | h2
    · subst e
      obtain ⟨x, hx, rfl⟩ := List.getElem_of_mem hz
      rw [wayRow_len] at hx
      rw [wayRow_at hx]
      have h0 : (0 : Int) ≤ ((12 ^ (a :: R).length : Nat) : Int) := Int.natCast_nonneg _
      have h1 : (1 : Int) ≤ ((12 ^ (a :: R).length : Nat) : Int) := by have := Nat.pow_pos (n := (a :: R).length) (show 0 < 12 by decide); exact_mod_cast this
      split
      · split
        · omega
        · rename_i o T e
          have ho : ∀ z ∈ o, 0 ≤ z ∧ z ≤ ((12 ^ R.length : Nat) : Int) := ih o (by rw [e]; simp)
          have hol : o.length ≤ 12 := by
            have := wayL_rows2 r (R := R) (fun x hx => h x (by simp [hx])) o (by rw [e]; simp)
            exact this
          have hb := nsum_bnd (r := r) (Int.natCast_nonneg _) ho x o.length
          have e2 : ((12 ^ (a :: R).length : Nat) : Int) = 12 * ((12 ^ R.length : Nat) : Int) := by rw [List.length_cons, Nat.pow_succ]; push_cast; omega
          have h3 : (o.length : Int) * ((12 ^ R.length : Nat) : Int) ≤ 12 * ((12 ^ R.length : Nat) : Int) := Int.mul_le_mul_of_nonneg_right (by omega) (Int.natCast_nonneg _)
          omega
      · omega
    · have := ih row h2 z hz
      omega
where
  wayL_rows2 (r : Int) : ∀ {R : List (List Bool)}, (∀ row ∈ R, row.length ≤ 12) → ∀ row ∈ wayL r R, row.length ≤ 12
  | [], _, _, h2 => by simp [wayL] at h2
  | a :: R, h, row, h2 => by
    simp only [wayL, List.mem_cons] at h2
    rcases h2 with e | h2
    · rw [e, wayRow_len]; exact h a (by simp)
    · exact wayL_rows2 r (R := R) (fun x hx => h x (by simp [hx])) row h2
end Go.Proofs.Ytbabdoafpljdbaa
