/- Rows within a row of one's own. Over any program. -/
import Derived.Test.YtbpdgoedglkefaaSlices
import Derived.Laws.OwnMore
namespace Go.Proofs.Ytbpdgoedglkefaa
open Go.RowKit

theorem grown_below {W W' : World} {n : Nat} {row : Option Nat} (hg : W.grownBy W' row) (hn : n ≤ W.heap.size) (hr : ∀ k, row = some k → n ≤ k) : Below n W W' := (Below.refl n W).grown hg hn hr
theorem own_upto {base e size n : Nat} {v : Value} {xs : List Value} {W W' : World} (h : W.ownsRow base e size v n xs) (hb : ∀ b, v.ownBlock = some b → W'.heap[b]? = W.heap[b]?) : W'.ownsRow base e size v n xs := by
  refine ⟨h.1, ?_⟩
  rcases h.2 with hn | ⟨g, cap, cur, rfl, hb0, hg, r⟩
  · exact .inl hn
  · exact .inr ⟨g, cap, cur, rfl, hb0, (hb g rfl).trans hg, r⟩
section
variable {α : Type} {E : Elt α} {T t : Nat}
def Sv.val (s : Sv) : Value := .slice s.addr s.len s.cap
/-- v is a slice of one's own whose elements are slices of one's own that hold the lists R, each in a block of its own. -/
structure Tbl (E : Elt α) (T t : Nat) (V : World) (base : Nat) (v : Value) (ss : List Sv) (R : List (List α)) : Prop where
  out : V.ownsRow base T 1 v ss.length (svE.all ss)
  len : ss.length = R.length
  row : ∀ i (h : i < R.length) (h' : i < ss.length), V.ownsRow base t E.size ss[i].val R[i].length (E.all R[i])
  off : ∀ i (h : i < ss.length) b, ss[i].val.ownBlock = some b → v.ownBlock ≠ some b
  apart : ∀ i j (h : i < ss.length) (h' : j < ss.length) b, i ≠ j → ss[i].val.ownBlock = some b → ss[j].val.ownBlock ≠ some b
variable {V V' : World} {base : Nat} {v : Value} {ss : List Sv} {R : List (List α)}
theorem Tbl.nil : Tbl E T t V base (.slice none 0 0) [] [] := ⟨World.ownsRow_nil _ _ _ _, rfl, fun i h => absurd h (by simp), fun i h => absurd h (by simp), fun i j h => absurd h (by simp)⟩
theorem Tbl.lt (h : Tbl E T t V base v ss R) {i : Nat} (hi : i < ss.length) {b : Nat} (e : ss[i].val.ownBlock = some b) : base ≤ b ∧ b < V.heap.size := (h.row i (by rw [← h.len]; exact hi) hi).lt b e
theorem Tbl.upto (h : Tbl E T t V base v ss R) (hb : ∀ b, base ≤ b → b < V.heap.size → V'.heap[b]? = V.heap[b]?) : Tbl E T t V' base v ss R :=
  ⟨own_upto h.out fun b e => hb b (h.out.lt b e).1 (h.out.lt b e).2, h.len, fun i h1 h2 => own_upto (h.row i h1 h2) fun b e => hb b (h.lt h2 e).1 (h.lt h2 e).2, h.off, h.apart⟩
theorem Tbl.up (hb : Below V.heap.size V V') (h : Tbl E T t V base v ss R) : Tbl E T t V' base v ss R := h.upto fun b _ h2 => hb.block b h2
instance : UpF V V' (Tbl E T t V base v ss R) (Tbl E T t V' base v ss R) := ⟨fun h c => Tbl.up h c⟩
theorem Tbl.alloc (h : Tbl E T t V base v ss R) (o : Obj) : Tbl E T t (V.alloc o) base v ss R := h.upto fun b _ h2 => heap_alloc_old V o h2
/-- Row i has become L. -/
theorem Tbl.set (h : Tbl E T t V base v ss R) {i : Nat} (hi : i < ss.length) {L : List α} (hg : V.grownBy V' ss[i].val.ownBlock) (ho : V'.ownsRow base t E.size ss[i].val L.length (E.all L)) : Tbl E T t V' base v ss (R.set i L) := by
  refine ⟨own_upto h.out fun b e => hg.block b (h.out.lt b e).2 fun e2 => h.off i hi b e2.symm e, by rw [List.length_set]; exact h.len, fun j h1 h2 => ?_, h.off, h.apart⟩
  by_cases hij : i = j
  · subst hij
    rw [show (R.set i L)[i] = L by simp]
    exact ho
  · have h3 : j < R.length := by rw [List.length_set] at h1; exact h1
    rw [show (R.set i L)[j] = R[j] by simp [hij]]
    exact own_upto (h.row j h3 h2) fun b e => hg.block b (h.lt h2 e).2 fun e2 => h.apart j i h2 hi b (fun e3 => hij e3.symm) e e2.symm
/-- Place i of the outer row has become another slice. -/
theorem Tbl.put (h : Tbl E T t V base v ss R) {i : Nat} (hi : i < ss.length) {x : Sv} {L : List α} (hg : V.grownBy V' v.ownBlock) (ho : V'.ownsRow base T 1 v ss.length ((svE.all ss).set i x.val))
    (hx : V.ownsRow base t E.size x.val L.length (E.all L)) (hv : ∀ b, x.val.ownBlock = some b → v.ownBlock ≠ some b) (ha : ∀ b, x.val.ownBlock = some b → ∀ j (h' : j < ss.length), ss[j].val.ownBlock ≠ some b) : Tbl E T t V' base v (ss.set i x) (R.set i L) := by
  have hl : (ss.set i x).length = ss.length := List.length_set
  have hat : ∀ j (h1 : j < (ss.set i x).length) (h2 : j < ss.length), i ≠ j → (ss.set i x)[j] = ss[j] := fun j h1 h2 hij => by simp [hij]
  have hai : ∀ (h1 : i < (ss.set i x).length), (ss.set i x)[i] = x := fun h1 => by simp
  have hval : ∀ (l : List Sv) i, (svE.all l).set i x.val = svE.all (l.set i x) := fun l => by
    induction l with
    | nil => intro i; rfl
    | cons a l ih =>
      intro i
      cases i with
      | zero => rfl
      | succ i =>
        have h3 := ih i
        show List.set (a.val :: svE.all l) (i + 1) x.val = a.val :: svE.all (l.set i x)
        rw [List.set_cons_succ, h3]
  refine ⟨by rw [hl, ← hval]; exact ho, by rw [hl, List.length_set]; exact h.len, fun j h1 h2 => ?_, fun j h1 b e => ?_, fun j j' h1 h2 b hjj e => ?_⟩
  · have h3 : j < R.length := by rw [List.length_set] at h1; exact h1
    have h4 : j < ss.length := by rw [hl] at h2; exact h2
    by_cases hij : i = j
    · subst hij
      rw [hai h2, show (R.set i L)[i] = L by simp]
      exact own_upto hx fun b e => hg.block b (hx.lt b e).2 fun e2 => hv b e e2.symm
    · rw [hat j h2 h4 hij, show (R.set i L)[j] = R[j] by simp [hij]]
      exact own_upto (h.row j h3 h4) fun b e => hg.block b (h.lt h4 e).2 fun e2 => h.off j h4 b e e2.symm
  · have h4 : j < ss.length := by rw [hl] at h1; exact h1
    by_cases hij : i = j
    · subst hij; rw [hai h1] at e; exact hv b e
    · rw [hat j h1 h4 hij] at e; exact h.off j h4 b e
  · have h4 : j < ss.length := by rw [hl] at h1; exact h1
    have h5 : j' < ss.length := by rw [hl] at h2; exact h2
    by_cases hij : i = j
    · subst hij
      rw [hai h1] at e
      rw [hat j' h2 h5 hjj]
      exact ha b e j' h5
    · rw [hat j h1 h4 hij] at e
      by_cases hij' : i = j'
      · subst hij'
        rw [hai h2]
        exact fun e2 => ha b e2 j h4 e
      · rw [hat j' h2 h5 hij']
        exact h.apart j j' h4 h5 b hjj e
/-- A reader's view. -/
theorem Tbl.view {s : Option Addr} {cap : Nat} (h : Tbl E T t V base (.slice s ss.length cap) ss R) : SlSS E V s R := by
  refine ⟨ss, SlS.of_own (E := svE) h.out, h.len, fun i h1 h2 => ?_⟩
  have h3 := h.row i h1 h2
  obtain ⟨s', c', e, _⟩ := owns_shape h3
  simp only [Sv.val, Value.slice.injEq] at e
  obtain ⟨e1, e2, e3⟩ := e
  have h4 : V.ownsRow base t E.size (.slice ss[i].addr R[i].length ss[i].cap) R[i].length (E.all R[i]) := by
    rw [← e2]; rw [← e2] at h3; exact h3
  refine ⟨e2, SlS.of_own h4, owns_cap h4, ?_⟩
  rcases h4.2 with ⟨h5, h6⟩ | ⟨g, c, cur, h5, _, _, h6, _⟩
  · omega
  · simp only [Value.slice.injEq] at h5
    rw [h5.2.2]; exact h6
end
end Go.Proofs.Ytbpdgoedglkefaa
