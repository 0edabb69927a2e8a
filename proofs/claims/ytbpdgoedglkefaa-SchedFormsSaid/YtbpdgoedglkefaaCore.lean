/- Small lemmas on worlds, rows of cells and drawn regions, over any program. They are used by all walks of this seat. -/
import Derived.Test.YtbpdgoedglkefaaRows
import Derived.WalkKit
import Derived.WalkSpells
import Derived.WalkLawsBesides
import Derived.BigQuiet
import Derived.Lib.Hide
namespace Go.Proofs.Ytbpdgoedglkefaa
open Go.RowKit

/-! ### Worlds that grow -/
theorem Up.cell {W W' : World} (h : Below W.heap.size W W') {a : Addr} {v : Value} (c : W.cell? a = some v) : W'.cell? a = some v :=
  (h.cell (World.block_lt_of_cell? W _ c)).trans c
theorem Up.block {W W' : World} (h : Below W.heap.size W W') {b : Nat} {o : Obj} (c : W.heap[b]? = some o) : W'.heap[b]? = some o :=
  (h.block b (Array.getElem?_eq_some_iff.1 c).1).trans c
theorem Up.lt {W W' : World} (h : Below W.heap.size W W') {b : Nat} (c : b < W.heap.size) : b < W'.heap.size := Nat.lt_of_lt_of_le c h.size
theorem Up.owns {W W' : World} (h : Below W.heap.size W W') {base e size n : Nat} {v : Value} {xs : List Value} (c : W.ownsRow base e size v n xs) : W'.ownsRow base e size v n xs := by
  refine ⟨c.1, ?_⟩
  rcases c.2 with hn | ⟨g, cap, cur, rfl, hb, hg, r⟩
  · exact .inl hn
  · exact .inr ⟨g, cap, cur, rfl, hb, Up.block h hg, r⟩
theorem Up.trans {A B C : World} (h : Below A.heap.size A B) (k : Below B.heap.size B C) : Below A.heap.size A C := h.trans (k.mono h.size)
theorem Up.to {n : Nat} {A B C : World} (h : Below n A B) (k : Below B.heap.size B C) (hn : n ≤ B.heap.size) : Below n A C := h.trans (k.mono hn)
theorem cellB {n : Nat} {W W' : World} (h : Below n W W') : ∀ b o, b < n → W'.cell? ⟨b, o, none⟩ = W.cell? ⟨b, o, none⟩ := fun b o k => h.cell (p := ⟨b, o, none⟩) k
theorem owns_mono {w : World} {b b' e size n : Nat} {v : Value} {xs : List Value} (h : w.ownsRow b e size v n xs) (hb : b' ≤ b) : w.ownsRow b' e size v n xs := by
  refine ⟨h.1, ?_⟩
  rcases h.2 with hn | ⟨g, cap, cur, rfl, hg, r⟩
  · exact .inl hn
  · exact .inr ⟨g, cap, cur, rfl, by omega, r⟩

theorem blk_new {w : World} {o : Obj} {k : Nat} (h : k = w.heap.size) : (w.alloc o).heap[k]? = some o := by rw [h]; exact heap_alloc_new w o
theorem blk_old {w : World} {k : Nat} {ob : Obj} (h : w.heap[k]? = some ob) (o : Obj) : (w.alloc o).heap[k]? = some ob := (Below.heap_alloc w o k (Array.getElem?_eq_some_iff.1 h).1).trans h
/-! ### The world under a name -/
theorem wp_world {P : Program} {c : Code} {Q : Exit → Act → World → Prop} {a : Act} {w : World} (h : ∀ W, Hid (W = w) → c.wp P Q a W) : c.wp P Q a w := h w rfl

/-! ### Drawn regions: one walk in the order of the text -/
section
variable {P : Program} {ops : Array Oper} {C : World → Prop} {Q : Act → Prop} {a : Act} {o : Oper} {rest : List Oper}
theorem q_det (hw : Region.wanted o (yielded ops a.tmps) = true)
    (h : ∃ v, (∀ W', C W' → (execOp a.eval o).run P W' = .ok (.value v) W') ∧ wpQuiet P ops C Q rest (a.put o.dst v)) : wpQuiet P ops C Q (o :: rest) a :=
  wpQuiet_step fun K hK => by
    obtain ⟨v, h, hk⟩ := h
    rw [if_pos hw]
    exact ⟨v, fun W hW => by unfold Oper.quietAt; rw [h W hW]; exact ⟨rfl, rfl⟩, hK _ hk⟩
theorem q_call (hw : Region.wanted o (yielded ops a.tmps) = true)
    (h : ∃ f args, (∀ W', C W' → (execOp a.eval o).run P W' = .ok (.enter f args) W') ∧ ∃ v, (∀ W', C W' → Calls P f args W' fun e w'' => e = .returned v ∧ C w'') ∧ wpQuiet P ops C Q rest (a.put o.dst v)) :
    wpQuiet P ops C Q (o :: rest) a :=
  wpQuiet_step fun K hK => by
    obtain ⟨f, args, h, v, hc, hk⟩ := h
    rw [if_pos hw]
    exact ⟨v, fun W hW => by unfold Oper.quietAt; rw [h W hW]; exact ⟨rfl, hc W hW⟩, hK _ hk⟩
theorem q_skip (hw : Region.wanted o (yielded ops a.tmps) = false) (hk : wpQuiet P ops C Q rest (a.put o.dst undef)) : wpQuiet P ops C Q (o :: rest) a :=
  wpQuiet_step fun K hK => by
    rw [if_neg (by rw [hw]; exact Bool.false_ne_true)]
    exact hK _ hk
end
theorem qcall {P : Program} {f : FuncId} {args : Array Value} {N : Nat} {W W' : World} {v : Value} (h : Calls P f args W' fun e w'' => e = .returned v ∧ Below W'.heap.size W' w'')
    (hW' : Below N W W') (hN : N ≤ W.heap.size) : Calls P f args W' fun e w'' => e = .returned v ∧ Below N W w'' :=
  h.mono fun _ _ ⟨he, hb⟩ => ⟨he, hW'.trans (hb.mono (Nat.le_trans hN hW'.size))⟩

/-! ### Points and inequalities in memory -/
structure Pt where
  x : Int
  y : Int
  z : Int
deriving DecidableEq, Inhabited
structure Iq where
  a : Pt
  b : Int
deriving DecidableEq, Inhabited
def Pt.cells (p : Pt) : List Value := [.int .i64 p.x, .int .i64 p.y, .int .i64 p.z]
def Iq.cells (q : Iq) : List Value := [.int .i64 q.a.x, .int .i64 q.a.y, .int .i64 q.a.z, .int .i64 q.b]
def ptCells (l : List Pt) : List Value := l.flatMap Pt.cells
def iqCells (l : List Iq) : List Value := l.flatMap Iq.cells
def intCells (l : List Int) : List Value := l.map (Value.int .i64)

/-- A slice whose first l.length elements are the inequalities l. -/
def IqS (w : World) (s : Option Addr) (l : List Iq) : Prop :=
  l = [] ∨ ∃ b off, s = some ⟨b, off, none⟩ ∧ b < w.heap.size ∧ ∀ i (h : i < l.length),
    w.cell? ⟨b, off + i * 4, none⟩ = some (.int .i64 l[i].a.x) ∧ w.cell? ⟨b, off + i * 4 + 1, none⟩ = some (.int .i64 l[i].a.y) ∧
    w.cell? ⟨b, off + i * 4 + 2, none⟩ = some (.int .i64 l[i].a.z) ∧ w.cell? ⟨b, off + i * 4 + 3, none⟩ = some (.int .i64 l[i].b)
def PtS (w : World) (s : Option Addr) (l : List Pt) : Prop :=
  l = [] ∨ ∃ b off, s = some ⟨b, off, none⟩ ∧ b < w.heap.size ∧ ∀ i (h : i < l.length),
    w.cell? ⟨b, off + i * 3, none⟩ = some (.int .i64 l[i].x) ∧ w.cell? ⟨b, off + i * 3 + 1, none⟩ = some (.int .i64 l[i].y) ∧
    w.cell? ⟨b, off + i * 3 + 2, none⟩ = some (.int .i64 l[i].z)
def IntS (w : World) (s : Option Addr) (l : List Int) : Prop :=
  l = [] ∨ ∃ b off, s = some ⟨b, off, none⟩ ∧ b < w.heap.size ∧ ∀ i (h : i < l.length), w.cell? ⟨b, off + i, none⟩ = some (.int .i64 l[i])
theorem Up.iq {W W' : World} (h : Below W.heap.size W W') {s : Option Addr} {l : List Iq} (c : IqS W s l) : IqS W' s l := by
  rcases c with c | ⟨b, off, e, hb, c⟩
  · exact .inl c
  · exact .inr ⟨b, off, e, Up.lt h hb, fun i hi => ⟨Up.cell h (c i hi).1, Up.cell h (c i hi).2.1, Up.cell h (c i hi).2.2.1, Up.cell h (c i hi).2.2.2⟩⟩
theorem Up.pt {W W' : World} (h : Below W.heap.size W W') {s : Option Addr} {l : List Pt} (c : PtS W s l) : PtS W' s l := by
  rcases c with c | ⟨b, off, e, hb, c⟩
  · exact .inl c
  · exact .inr ⟨b, off, e, Up.lt h hb, fun i hi => ⟨Up.cell h (c i hi).1, Up.cell h (c i hi).2.1, Up.cell h (c i hi).2.2⟩⟩
theorem Up.int {W W' : World} (h : Below W.heap.size W W') {s : Option Addr} {l : List Int} (c : IntS W s l) : IntS W' s l := by
  rcases c with c | ⟨b, off, e, hb, c⟩
  · exact .inl c
  · exact .inr ⟨b, off, e, Up.lt h hb, fun i hi => Up.cell h (c i hi)⟩
theorem IqS.at {w : World} {s : Option Addr} {l : List Iq} (c : IqS w s l) {i : Nat} (h : i < l.length) : ∃ b off, s = some ⟨b, off, none⟩ ∧ b < w.heap.size ∧
    w.cell? ⟨b, off + i * 4, none⟩ = some (.int .i64 l[i].a.x) ∧ w.cell? ⟨b, off + i * 4 + 1, none⟩ = some (.int .i64 l[i].a.y) ∧
    w.cell? ⟨b, off + i * 4 + 2, none⟩ = some (.int .i64 l[i].a.z) ∧ w.cell? ⟨b, off + i * 4 + 3, none⟩ = some (.int .i64 l[i].b) := by
  rcases c with rfl | ⟨b, off, e, hb, c⟩
  · cases h
  · exact ⟨b, off, e, hb, c i h⟩
theorem PtS.at {w : World} {s : Option Addr} {l : List Pt} (c : PtS w s l) {i : Nat} (h : i < l.length) : ∃ b off, s = some ⟨b, off, none⟩ ∧ b < w.heap.size ∧
    w.cell? ⟨b, off + i * 3, none⟩ = some (.int .i64 l[i].x) ∧ w.cell? ⟨b, off + i * 3 + 1, none⟩ = some (.int .i64 l[i].y) ∧
    w.cell? ⟨b, off + i * 3 + 2, none⟩ = some (.int .i64 l[i].z) := by
  rcases c with rfl | ⟨b, off, e, hb, c⟩
  · cases h
  · exact ⟨b, off, e, hb, c i h⟩
theorem IntS.at {w : World} {s : Option Addr} {l : List Int} (c : IntS w s l) {i : Nat} (h : i < l.length) : ∃ b off, s = some ⟨b, off, none⟩ ∧ b < w.heap.size ∧
    w.cell? ⟨b, off + i, none⟩ = some (.int .i64 l[i]) := by
  rcases c with rfl | ⟨b, off, e, hb, c⟩
  · cases h
  · exact ⟨b, off, e, hb, c i h⟩

/-- The block that a slice of inequalities lies in, if it has any. -/
def Blk {α : Type} (s : Option Addr) (l : List α) (k : Nat) : Prop := l ≠ [] ∧ ∃ a, s = some a ∧ a.block = k
theorem IqS.blk {w : World} {s : Option Addr} {l : List Iq} (c : IqS w s l) {k : Nat} (h : Blk s l k) : k < w.heap.size := by
  obtain ⟨hl, a, rfl, rfl⟩ := h
  rcases c with rfl | ⟨b, off, e, hb, _⟩
  · exact absurd rfl hl
  · cases e; exact hb
theorem IqS.keep {w w' : World} {s : Option Addr} {l : List Iq} (c : IqS w s l) (hsz : w.heap.size ≤ w'.heap.size) (h : ∀ k, Blk s l k → w'.heap[k]? = w.heap[k]?) : IqS w' s l := by
  rcases c with rfl | ⟨b, off, rfl, hb, c⟩
  · exact .inl rfl
  · by_cases hl : l = []
    · exact .inl hl
    have hk : ∀ o, w'.cell? ⟨b, o, none⟩ = w.cell? ⟨b, o, none⟩ := fun o => World.cell?_of_block (h b ⟨hl, _, rfl, rfl⟩)
    refine .inr ⟨b, off, rfl, Nat.lt_of_lt_of_le hb hsz, fun i hi => ?_⟩
    rw [hk, hk, hk, hk]
    exact c i hi

theorem flat_len {α : Type} (k : Nat) (f : α → List Value) (hf : ∀ x, (f x).length = k) (l : List α) : (l.flatMap f).length = l.length * k := by
  induction l with
  | nil => simp
  | cons x l ih => simp [List.flatMap_cons, hf, ih, Nat.add_mul]; omega
theorem flat_at {α : Type} (k : Nat) (f : α → List Value) (hf : ∀ x, (f x).length = k) (l : List α) (i j : Nat) (hi : i < l.length) (hj : j < k) :
    (l.flatMap f)[i * k + j]? = (f l[i])[j]? := by
  induction l generalizing i with
  | nil => cases hi
  | cons x l ih =>
    simp only [List.flatMap_cons]
    cases i with
    | zero => simp only [Nat.zero_mul, Nat.zero_add, List.getElem_cons_zero]; rw [List.getElem?_append_left (by rw [hf]; exact hj)]
    | succ i =>
      rw [List.getElem?_append_right (by rw [hf, Nat.add_mul]; omega), hf]
      have e : (i + 1) * k + j - k = i * k + j := by rw [Nat.add_mul]; omega
      rw [e, ih i (by simpa using hi)]
      rfl
theorem ptCells_len (l : List Pt) : (ptCells l).length = l.length * 3 := flat_len 3 _ (fun _ => rfl) l
theorem iqCells_len (l : List Iq) : (iqCells l).length = l.length * 4 := flat_len 4 _ (fun _ => rfl) l
theorem intCells_len (l : List Int) : (intCells l).length = l.length * 1 := by simp [intCells]

theorem owns_cell {w : World} {base e size n g cap : Nat} {xs : List Value} (h : w.ownsRow base e size (.slice (some ⟨g, 0, none⟩) n cap) n xs) {i : Nat} {v : Value} (hv : xs[i]? = some v) :
    w.cell? ⟨g, i, none⟩ = some v := by
  rcases h.2 with ⟨he, _⟩ | ⟨g', cap', cur, he, hb, hg, hn, hm, hs, ht⟩
  · simp at he
  · simp only [Value.slice.injEq, Option.some.injEq, Addr.mk.injEq, and_true, true_and] at he
    obtain ⟨rfl, rfl⟩ := he
    have h2 : (cur.toList.take (n * size))[i]? = some v := by rw [ht]; exact hv
    rw [List.getElem?_take] at h2
    split at h2
    · simp [World.cell?, hg]; simpa using h2
    · cases h2
/-- An owned row's shape: nil, or the head of a block of its own. -/
theorem owns_shape {w : World} {base e size n : Nat} {v : Value} {xs : List Value} (h : w.ownsRow base e size v n xs) : ∃ s cap, v = .slice s n cap ∧ (n = 0 ∧ s = none ∧ cap = 0 ∨ ∃ g, s = some ⟨g, 0, none⟩ ∧ base ≤ g ∧ g < w.heap.size) := by
  rcases h.2 with ⟨rfl, rfl⟩ | ⟨g, cap, cur, rfl, hb, hg, _⟩
  · exact ⟨none, 0, rfl, .inl ⟨rfl, rfl, rfl⟩⟩
  · exact ⟨_, cap, rfl, .inr ⟨g, rfl, hb, (Array.getElem?_eq_some_iff.1 hg).1⟩⟩
theorem owns_iq {w : World} {base e cap : Nat} {s : Option Addr} {l : List Iq} (h : w.ownsRow base e 4 (.slice s l.length cap) l.length (iqCells l)) : IqS w s l := by
  by_cases hl : l = []
  · exact .inl hl
  obtain ⟨s', cap', he, hs⟩ := owns_shape h
  simp only [Value.slice.injEq] at he
  obtain ⟨rfl, _, rfl⟩ := he
  rcases hs with ⟨h0, _⟩ | ⟨g, rfl, hb, hg⟩
  · exact absurd (List.length_eq_zero_iff.1 h0) hl
  refine .inr ⟨g, 0, rfl, hg, fun i hi => ?_⟩
  have k : ∀ j, j < 4 → (iqCells l)[i * 4 + j]? = (Iq.cells l[i])[j]? := fun j hj => flat_at 4 Iq.cells (fun _ => rfl) l i j hi hj
  simp only [Nat.zero_add]
  exact ⟨owns_cell h (by have := k 0 (by omega); simpa [Iq.cells] using this), owns_cell h (by have := k 1 (by omega); simpa [Iq.cells] using this),
    owns_cell h (by have := k 2 (by omega); simpa [Iq.cells] using this), owns_cell h (by have := k 3 (by omega); simpa [Iq.cells] using this)⟩
theorem owns_pt {w : World} {base e cap : Nat} {s : Option Addr} {l : List Pt} (h : w.ownsRow base e 3 (.slice s l.length cap) l.length (ptCells l)) : PtS w s l := by
  by_cases hl : l = []
  · exact .inl hl
  obtain ⟨s', cap', he, hs⟩ := owns_shape h
  simp only [Value.slice.injEq] at he
  obtain ⟨rfl, _, rfl⟩ := he
  rcases hs with ⟨h0, _⟩ | ⟨g, rfl, hb, hg⟩
  · exact absurd (List.length_eq_zero_iff.1 h0) hl
  refine .inr ⟨g, 0, rfl, hg, fun i hi => ?_⟩
  have k : ∀ j, j < 3 → (ptCells l)[i * 3 + j]? = (Pt.cells l[i])[j]? := fun j hj => flat_at 3 Pt.cells (fun _ => rfl) l i j hi hj
  simp only [Nat.zero_add]
  exact ⟨owns_cell h (by have := k 0 (by omega); simpa [Pt.cells] using this), owns_cell h (by have := k 1 (by omega); simpa [Pt.cells] using this),
    owns_cell h (by have := k 2 (by omega); simpa [Pt.cells] using this)⟩
theorem owns_int {w : World} {base e cap : Nat} {s : Option Addr} {l : List Int} (h : w.ownsRow base e 1 (.slice s l.length cap) l.length (intCells l)) : IntS w s l := by
  by_cases hl : l = []
  · exact .inl hl
  obtain ⟨s', cap', he, hs⟩ := owns_shape h
  simp only [Value.slice.injEq] at he
  obtain ⟨rfl, _, rfl⟩ := he
  rcases hs with ⟨h0, _⟩ | ⟨g, rfl, hb, hg⟩
  · exact absurd (List.length_eq_zero_iff.1 h0) hl
  refine .inr ⟨g, 0, rfl, hg, fun i hi => ?_⟩
  simp only [Nat.zero_add]
  exact owns_cell h (by simp [intCells, hi])

theorem news_new (w : World) (cs : List Value) (t : TypeId) : ∀ j u, cs[j]? = some u → (w.alloc (.cells cs.toArray t)).cell? ((⟨w.heap.size, 0, none⟩ : Addr).add j) = some u := fun j u hu => by
  have hadd : (⟨w.heap.size, 0, none⟩ : Addr).add j = ⟨w.heap.size, j, none⟩ := by unfold Addr.add; split <;> simp_all
  rw [hadd]
  have h := heap_alloc_new w (.cells cs.toArray t)
  simp only [World.cell?, h]
  simpa using hu
/-- Behind an append to a row of one's own: what lay below the row's base is as it was. -/
theorem Up.grown {B : Nat} {A w w' : World} {o : Obj} {e size n : Nat} {v : Value} {xs : List Value} (h : Below B A w) (hB : B ≤ w.heap.size) (hown : w.ownsRow B e size v n xs) (hg : (w.alloc o).grownBy w' v.ownBlock) : Below B A w' :=
  (h.alloc hB o).grown hg (by simp; omega) (fun k hk => (hown.lt k hk).1)

theorem ret_int {k : IntKind} {a b : Int} (h : a = b) : Ending.returned (.int k a) = .returned (.int k b) := by rw [h]
theorem ret_bool {a b : Bool} (h : a = b) : Ending.returned (.bool a) = .returned (.bool b) := by rw [h]
end Go.Proofs.Ytbpdgoedglkefaa
