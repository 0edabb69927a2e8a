/- The cells from which a column can go on: what the table is like between the rounds. -/
import Derived.Test.YtbabdoafpljdbaaMd5
namespace Go.Proofs.Ytbabdoafpljdbaa
open Go.RowKit

/-- The table when so many rows are done, from the last one on. -/
def endSt (r : Int) (R : List (List Bool)) (k : Nat) : List (List Bool) := List.replicate (R.length - k) [] ++ endL r (R.drop (R.length - k))
theorem endSt_len (r : Int) (R : List (List Bool)) {k : Nat} (_hk : k ≤ R.length) : (endSt r R k).length = R.length := by
  simp [endSt, endL_len] <;> omega
theorem endSt_zero (r : Int) (R : List (List Bool)) : endSt r R 0 = List.replicate R.length [] := by simp [endSt, endL]
theorem endSt_all (r : Int) (R : List (List Bool)) : endSt r R R.length = endL r R := by simp [endSt]
/-- The row that is under way: its first x cells are done. -/
def mixE (r : Int) (row o : List Bool) (x : Nat) : List Bool := (endRow r row o).take x ++ row.drop x
theorem endRow_len (r : Int) (row o : List Bool) : (endRow r row o).length = row.length := by simp [endRow]
theorem mixE_len (r : Int) (row o : List Bool) {x : Nat} (hx : x ≤ row.length) : (mixE r row o x).length = row.length := by
  simp [mixE, endRow_len]; omega
theorem mixE_zero (r : Int) (row o : List Bool) : mixE r row o 0 = row := by simp [mixE]
theorem mixE_all (r : Int) (row o : List Bool) : mixE r row o row.length = endRow r row o := by
  unfold mixE; rw [List.drop_length, List.append_nil, List.take_of_length_le (by rw [endRow_len]; exact Nat.le_refl _)]
theorem mixE_at (r : Int) (row o : List Bool) {x : Nat} (hx : x < row.length) : (mixE r row o x)[x]'(by rw [mixE_len r row o (by omega)]; exact hx) = row[x] := by
  have hl : ((endRow r row o).take x).length = x := by rw [List.length_take, endRow_len]; omega
  unfold mixE
  rw [List.getElem_append_right (by omega)]
  simp only [hl, Nat.sub_self, List.getElem_drop, Nat.add_zero]
theorem mixE_set (r : Int) (row o : List Bool) {x : Nat} (hx : x < row.length) : (mixE r row o x).set x (row[x] && okN o r x (2 * r + 1).toNat) = mixE r row o (x + 1) := by
  have hl : ((endRow r row o).take x).length = x := by rw [List.length_take, endRow_len]; omega
  have he : (endRow r row o)[x]'(by rw [endRow_len]; exact hx) = (row[x] && okN o r x (2 * r + 1).toNat) := by
    simp [endRow, List.getElem?_eq_getElem hx]
  unfold mixE
  rw [List.set_append_right _ _ (by omega), hl, Nat.sub_self, List.take_succ_eq_append_getElem (by rw [endRow_len]; exact hx), he, List.drop_eq_getElem_cons hx, List.set_cons_zero]
  simp
/-- The table while row m is under way. -/
def endPX (r : Int) (R : List (List Bool)) (m x : Nat) : List (List Bool) := List.replicate m [] ++ mixE r (R.getD m []) ((endL r (R.drop (m + 1))).headD []) x :: endL r (R.drop (m + 1))
theorem endPX_len (r : Int) (R : List (List Bool)) {m : Nat} (x : Nat) (hm : m < R.length) : (endPX r R m x).length = R.length := by
  simp [endPX, endL_len]; omega
theorem endPX_put (r : Int) (R : List (List Bool)) {m : Nat} (hm : m < R.length) : (endSt r R (R.length - (m + 1))).set m R[m] = endPX r R m 0 := by
  unfold endSt endPX
  rw [show R.length - (R.length - (m + 1)) = m + 1 by omega, List.set_append_left _ _ (by simp), mixE_zero, List.getD_eq_getElem?_getD, List.getElem?_eq_getElem hm, List.replicate_succ', List.set_append_right _ _ (by simp)]
  simp
theorem endPX_row (r : Int) (R : List (List Bool)) {m : Nat} (x : Nat) (hm : m < R.length) : (endPX r R m x)[m]'(by rw [endPX_len r R x hm]; exact hm) = mixE r R[m] ((endL r (R.drop (m + 1))).headD []) x := by
  unfold endPX
  rw [List.getElem_append_right (by simp)]
  simp [List.getElem?_eq_getElem hm]
theorem headD_at {l : List (List Bool)} (h : 0 < l.length) : l.headD [] = l[0] := by cases l with
  | nil => simp at h
  | cons a l => rfl
theorem endPX_next (r : Int) (R : List (List Bool)) {m : Nat} (x : Nat) (hm : m + 1 < R.length) : (endPX r R m x)[m + 1]'(by rw [endPX_len r R x (by omega)]; exact hm) = (endL r (R.drop (m + 1))).headD [] := by
  have h0 : 0 < (endL r (R.drop (m + 1))).length := by rw [endL_len, List.length_drop]; omega
  have h1 : (endPX r R m x)[m + 1]? = some ((endL r (R.drop (m + 1))).headD []) := by
    unfold endPX
    rw [List.getElem?_append_right (by simp), List.length_replicate, show m + 1 - m = 1 by omega, List.getElem?_cons_succ, headD_at h0, List.getElem?_eq_getElem h0]
  exact (List.getElem?_eq_some_iff.1 h1).2
theorem endPX_set (r : Int) (R : List (List Bool)) {m x : Nat} (hm : m < R.length) (hx : x < R[m].length) :
    (endPX r R m x).set m ((mixE r R[m] ((endL r (R.drop (m + 1))).headD []) x).set x (R[m][x] && okN ((endL r (R.drop (m + 1))).headD []) r x (2 * r + 1).toNat)) = endPX r R m (x + 1) := by
  rw [mixE_set _ _ _ hx]
  unfold endPX
  rw [List.set_append_right _ _ (by simp), List.length_replicate, Nat.sub_self, List.set_cons_zero]
  congr 2
  rw [List.getD_eq_getElem?_getD, List.getElem?_eq_getElem hm]; rfl
theorem endSt_succ (r : Int) (R : List (List Bool)) {m : Nat} (hm : m < R.length) : endSt r R (R.length - m) = List.replicate m [] ++ endL r (R[m] :: R.drop (m + 1)) := by
  unfold endSt
  rw [show R.length - (R.length - m) = m by omega, List.drop_eq_getElem_cons hm]
theorem endSt_last (r : Int) (R : List (List Bool)) {m : Nat} (hm : m + 1 = R.length) : endPX r R m 0 = endSt r R (R.length - m) := by
  have h1 : R.drop (m + 1) = [] := List.drop_of_length_le (by omega)
  rw [endSt_succ r R (by omega)]
  unfold endPX
  rw [h1, mixE_zero, List.getD_eq_getElem?_getD, List.getElem?_eq_getElem (by omega)]
  rfl
theorem endSt_more (r : Int) (R : List (List Bool)) {m : Nat} (hm : m + 1 < R.length) : endPX r R m (R[m]'(by omega)).length = endSt r R (R.length - m) := by
  have hm' : m < R.length := by omega
  rw [endSt_succ r R hm']
  unfold endPX
  rw [List.getD_eq_getElem?_getD, List.getElem?_eq_getElem hm']
  simp only [Option.getD_some]
  rw [mixE_all]
  obtain ⟨row2, rest, e⟩ : ∃ a l, R.drop (m + 1) = a :: l := by
    cases h : R.drop (m + 1) with
    | nil => have := congrArg List.length h; simp at this; omega
    | cons a l => exact ⟨a, l, rfl⟩
  rw [e]; rfl
theorem endL_rows (r : Int) {wd : Nat} : ∀ {R : List (List Bool)}, (∀ row ∈ R, row.length = wd) → ∀ row ∈ endL r R, row.length = wd
  | [], _, _, h2 => by simp [endL] at h2
  | [a], h, row, h2 => h row h2
  | a :: b :: R, h, row, h2 => by
    simp only [endL, List.mem_cons] at h2
    rcases h2 with e | h2
    · rw [e, endRow_len]; exact h a (by simp)
    · exact endL_rows r (R := b :: R) (fun x hx => h x (by simp [hx])) row h2
theorem endNext_len (r : Int) {wd : Nat} {R : List (List Bool)} (h : ∀ row ∈ R, row.length = wd) {m : Nat} (hm : m + 1 < R.length) : ((endL r (R.drop (m + 1))).headD []).length = wd := by
  have h0 : 0 < (endL r (R.drop (m + 1))).length := by rw [endL_len, List.length_drop]; omega
  rw [headD_at h0]
  exact endL_rows r (fun row hr => h row (List.mem_of_mem_drop hr)) _ (List.getElem_mem h0)

/-- What holds between the rounds: the table, the boxes. -/
structure EndI (w : World) (s : Option Addr) (cap H : Nat) (r : Int) (V : World) (ss : List Sv) (P : List (List Bool)) : Prop where
  tb : Tbl boolE 75 4 V (w.heap.size + 2) (.slice (some ⟨w.heap.size + 2, 0, none⟩) H H) ss P
  ge : ∀ j (hj : j < ss.length) g, ss[j].val.ownBlock = some g → w.heap.size + 5 ≤ g
  be : Below w.heap.size w V
  b0 : Row V w.heap.size 63 #[.slice s H cap]
  b1 : Row V (w.heap.size + 1) 3 #[.int .i64 r]
  b3 : Row V (w.heap.size + 3) 63 #[.slice (some ⟨w.heap.size + 2, 0, none⟩) H H]
  sz : w.heap.size + 5 ≤ V.heap.size
section
variable {w : World} {s : Option Addr} {cap H : Nat} {r : Int} {V V' : World} {ss : List Sv} {P : List (List Bool)}
theorem EndI.cellsUp (h : EndI w s cap H r V ss P) (hu : CellsUp (w.heap.size + 5) V V') : EndI w s cap H r V' ss P :=
  ⟨⟨hu.owns h.tb.out, h.tb.len, fun i h1 h2 => hu.owns (h.tb.row i h1 h2), h.tb.off, h.tb.apart⟩, h.ge, h.be.trans (hu.below.mono (by omega)), hu.cells _ _ _ _ h.b0, hu.cells _ _ _ _ h.b1, hu.cells _ _ _ _ h.b3, Nat.le_trans h.sz hu.below.size⟩
theorem EndI.up (hb : Below V.heap.size V V') (h : EndI w s cap H r V ss P) : EndI w s cap H r V' ss P := by
  have hs := h.sz
  exact ⟨h.tb.up hb, h.ge, h.be.trans (hb.mono (by omega)), Up.block hb h.b0, Up.block hb h.b1, Up.block hb h.b3, Nat.le_trans hs hb.size⟩
instance : UpF V V' (EndI w s cap H r V ss P) (EndI w s cap H r V' ss P) := ⟨fun h c => EndI.up h c⟩
theorem row_setCell {b t g : Nat} {arr : Array Value} (h : Row V b t arr) (hne : b ≠ g) (o : Nat) (v : Value) : Row (V.setCell ⟨g, o, none⟩ v) b t arr := (Below.heap_setCell V ⟨g, o, none⟩ v b hne).trans h
/-- A cell of a row of the table. -/
theorem EndI.cell (h : EndI w s cap H r V ss P) {i j : Nat} (hi : i < P.length) (hj : j < P[i].length) :
    ∃ gi ci, w.heap.size + 5 ≤ gi ∧ V.cell? ⟨w.heap.size + 2, i, none⟩ = some (.slice (some ⟨gi, 0, none⟩) P[i].length ci) ∧ V.cell? ⟨gi, j, none⟩ = some (.bool P[i][j]) ∧ V.frozen? ⟨gi, j, none⟩ = false ∧
      (∀ x, EndI w s cap H r (V.setCell ⟨gi, j, none⟩ (.bool x)) ss (P.set i (P[i].set j x))) := by
  obtain ⟨b, gi, ci, e, hb, hg, h1, h2, h3, h4, hne⟩ := h.tb.cell hi hj
  cases e
  have hs : i < ss.length := by rw [h.tb.len]; exact hi
  have hge : w.heap.size + 5 ≤ gi := by
    obtain ⟨b', e', _, _, hs', hc', hv'⟩ := h.tb.head (i := i) hi
    cases e'
    rw [h1] at hc'
    simp only [Option.some.injEq, Value.slice.injEq] at hc'
    exact h.ge i hs gi (by rw [hv', ← hc'.1]; rfl)
  refine ⟨gi, ci, hge, h1, h2, h3, fun x => ⟨h4 x, h.ge, h.be.setCell (by show _ ≤ gi; omega) _, row_setCell h.b0 (by omega) _ _, row_setCell h.b1 (by omega) _ _, row_setCell h.b3 (by omega) _ _, by simpa [World.setCell] using h.sz⟩⟩
/-- A new row is put in. -/
theorem EndI.put (h : EndI w s cap H r V ss P) {N : Nat} {i : Nat} (hi : i < P.length) {sx : Option Addr} {cx : Nat} {L : List Bool}
    (hx : V.ownsRow N 4 1 (.slice sx L.length cx) L.length (boolE.all L)) (hN : w.heap.size + 5 ≤ N) (hsN : ∀ j (hj : j < ss.length) g, ss[j].val.ownBlock = some g → g < N) :
    EndI w s cap H r (V.setCell ⟨w.heap.size + 2, i, none⟩ (.slice sx L.length cx)) (ss.set i ⟨sx, L.length, cx⟩) (P.set i L) := by
  refine ⟨Tbl.puts h.tb hi hx (by omega) hsN (by omega), fun j hj g e => ?_, h.be.setCell (by show _ ≤ w.heap.size + 2; omega) _, row_setCell h.b0 (by omega) _ _, row_setCell h.b1 (by omega) _ _, row_setCell h.b3 (by omega) _ _, by simpa [World.setCell] using h.sz⟩
  have hj2 : j < ss.length := by rw [List.length_set] at hj; exact hj
  rw [List.getElem_set] at e
  by_cases hij : i = j
  · rw [if_pos hij] at e
    exact Nat.le_trans hN (hx.lt g e).1
  · rw [if_neg hij] at e
    exact h.ge j hj2 g e
end
end Go.Proofs.Ytbabdoafpljdbaa
