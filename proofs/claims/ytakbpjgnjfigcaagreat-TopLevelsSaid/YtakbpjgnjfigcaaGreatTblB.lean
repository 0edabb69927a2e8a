/- Rows of booleans within a row of one's own: a cell, a new table, a header that is put. Over any program. -/
import Derived.Test.YtakbpjgnjfigcaaGreatB1
namespace Go.Proofs.YtakbpjgnjfigcaaGreat
open Go.RowKit

section
variable {T t : Nat} {V V' : World} {base : Nat} {s : Option Addr} {n cap : Nat} {ss : List Sv} {R : List (List Bool)}
theorem Tbl.mono {α : Type} {E : Elt α} {v : Value} {R : List (List α)} (h : Tbl E T t V base v ss R) {b' : Nat} (hb : b' ≤ base) : Tbl E T t V b' v ss R :=
  ⟨owns_mono h.out hb, h.len, fun i h1 h2 => owns_mono (h.row i h1 h2) hb, h.off, h.apart⟩
theorem svE_at (ss : List Sv) {i : Nat} (hi : i < ss.length) : (svE.all ss)[i]? = some ss[i].val := by
  have h := svE.all_at ss i 0 hi (by decide)
  simpa [svE, Sv.val] using h
theorem boolE_at (l : List Bool) {i : Nat} (hi : i < l.length) : (boolE.all l)[i]? = some (.bool l[i]) := by
  have h := boolE.all_at l i 0 hi (by decide)
  simpa [boolE] using h
theorem boolE_set (l : List Bool) : ∀ (i : Nat) (x : Bool), (boolE.all l).set i (.bool x) = boolE.all (l.set i x) := by
  induction l with
  | nil => intro i x; rfl
  | cons a l ih =>
    intro i x
    cases i with
    | zero => rfl
    | succ i =>
      have h := ih i x
      show List.set (Value.bool a :: boolE.all l) (i + 1) (.bool x) = Value.bool a :: boolE.all (l.set i x)
      rw [List.set_cons_succ, h]
theorem Tbl.nlen {v : Value} (h : Tbl boolE T t V base (.slice s n cap) ss R) : n = R.length := by
  have h1 := owns_len h.out
  rw [h1, h.len]
/-- The header of a row. -/
theorem Tbl.head {α : Type} {E : Elt α} {R : List (List α)} (h : Tbl E T t V base (.slice s n cap) ss R) {i : Nat} (hi : i < R.length) :
    ∃ b, s = some ⟨b, 0, none⟩ ∧ (base ≤ b ∧ b < V.heap.size) ∧ V.frozen? ⟨b, i, none⟩ = false ∧ ∃ (hs : i < ss.length), V.cell? ⟨b, i, none⟩ = some (.slice ss[i].addr R[i].length ss[i].cap) ∧ ss[i].val = .slice ss[i].addr R[i].length ss[i].cap := by
  have hs : i < ss.length := by rw [h.len]; exact hi
  have hn := owns_len h.out
  subst hn
  obtain ⟨b, rfl, h1, h2⟩ := own_ex h.out (by omega)
  have hrow := h.row i hi hs
  obtain ⟨s', c', e, _⟩ := owns_shape hrow
  have e' := e
  simp only [Sv.val, Value.slice.injEq] at e
  obtain ⟨e1, e2, e3⟩ := e
  have hv : ss[i].val = .slice ss[i].addr R[i].length ss[i].cap := by rw [Sv.val, e2]
  refine ⟨b, rfl, ⟨h1, h2⟩, World.ownsRow.frozenAt h.out i, hs, ?_, hv⟩
  have := owns_cell h.out (svE_at ss hs)
  rw [hv] at this
  exact this
/-- A cell of a row: what it holds, and that it may be written. -/
theorem Tbl.cell (h : Tbl boolE T t V base (.slice s n cap) ss R) {i j : Nat} (hi : i < R.length) (hj : j < R[i].length) :
    ∃ b gi ci, s = some ⟨b, 0, none⟩ ∧ (base ≤ b ∧ b < V.heap.size) ∧ (base ≤ gi ∧ gi < V.heap.size) ∧ V.cell? ⟨b, i, none⟩ = some (.slice (some ⟨gi, 0, none⟩) R[i].length ci) ∧ V.cell? ⟨gi, j, none⟩ = some (.bool R[i][j]) ∧ V.frozen? ⟨gi, j, none⟩ = false ∧
      (∀ x, Tbl boolE T t (V.setCell ⟨gi, j, none⟩ (.bool x)) base (.slice s n cap) ss (R.set i (R[i].set j x))) ∧ b ≠ gi := by
  obtain ⟨b, hs1, hb, _, hs, hc, hv⟩ := h.head hi
  have hrow := h.row i hi hs
  have hrow2 := hrow
  rw [hv] at hrow
  obtain ⟨gi, e, h1, h2⟩ := own_ex hrow (by omega)
  rw [e] at hc hrow hv
  refine ⟨b, gi, _, hs1, hb, ⟨h1, h2⟩, hc, owns_cell hrow (boolE_at _ hj), World.ownsRow.frozenAt hrow j, fun x => ?_, fun eb => ?_⟩
  · have hst := hrow.stored j (.bool x)
    rw [boolE_set] at hst
    refine h.set hs (L := R[i].set j x) (V' := V.setCell ⟨gi, j, none⟩ (.bool x)) ?_ ?_
    · rw [hv]; exact hst.2
    · rw [hv, List.length_set]; exact hst.1
  · have h3 := h.off i hs gi (by rw [hv]; rfl)
    apply h3
    rw [hs1]
    show some b = some gi
    rw [eb]
theorem rep_all (k : Nat) : svE.all (List.replicate k ⟨none, 0, 0⟩) = List.replicate k (.slice none 0 0) := by
  induction k with
  | zero => rfl
  | succ k ih => rw [List.replicate_succ, List.replicate_succ, ← ih]; rfl
/-- A new table, whose rows are nil. -/
theorem Tbl.made {α : Type} {E : Elt α} {g k : Nat} (hg : V.heap[g]? = some (.cells (List.replicate k (Value.slice none 0 0)).toArray T (0, 0))) (hb : base ≤ g) (hk : k ≤ 100000) : Tbl E T t V base (.slice (some ⟨g, 0, none⟩) k k) (List.replicate k ⟨none, 0, 0⟩) (List.replicate k []) := by
  have hat : ∀ i (h : i < (List.replicate k (⟨none, 0, 0⟩ : Sv)).length), (List.replicate k (⟨none, 0, 0⟩ : Sv))[i] = ⟨none, 0, 0⟩ := fun i h => by simp
  refine ⟨⟨?_, .inr ⟨g, k, _, by simp, hb, hg, by simp, by unfold maxLen; omega, by simp, ?_⟩⟩, by simp, fun i h1 h2 => ?_, fun i h b e => ?_, fun i j h h' b _ e => ?_⟩
  · rw [rep_all]; simp
  · rw [rep_all]; simp
  · rw [hat i h2]
    have : (List.replicate k ([] : List α))[i] = [] := by simp
    rw [this]
    exact World.ownsRow_nil _ _ _ _
  · rw [hat i h] at e; simp [Sv.val, Value.ownBlock] at e
  · rw [hat i h] at e; simp [Sv.val, Value.ownBlock] at e
/-- A new slice is put in a place of the outer row. -/
theorem Tbl.puts {α : Type} {E : Elt α} {R : List (List α)} {b N : Nat} (h : Tbl E T t V base (.slice (some ⟨b, 0, none⟩) n cap) ss R) {i : Nat} (hi : i < R.length) {sx : Option Addr} {cx : Nat} {L : List α}
    (hx : V.ownsRow N t E.size (.slice sx L.length cx) L.length (E.all L)) (hbN : b < N) (hsN : ∀ i (h : i < ss.length) g, ss[i].val.ownBlock = some g → g < N) (hN : base ≤ N) :
    Tbl E T t (V.setCell ⟨b, i, none⟩ (.slice sx L.length cx)) base (.slice (some ⟨b, 0, none⟩) n cap) (ss.set i ⟨sx, L.length, cx⟩) (R.set i L) := by
  have hs : i < ss.length := by rw [h.len]; exact hi
  have hn := owns_len h.out
  subst hn
  have hst := h.out.stored i (.slice sx L.length cx)
  refine h.put hs (x := ⟨sx, L.length, cx⟩) (L := L) hst.2 hst.1 (owns_mono hx hN) (fun g e => ?_) (fun g e j hj e2 => ?_)
  · have := (hx.lt g e).1
    intro e2
    simp only [Value.ownBlock, Option.some.injEq] at e2
    omega
  · have := (hx.lt g e).1
    have := hsN j hj g e2
    omega
end
end Go.Proofs.YtakbpjgnjfigcaaGreat
