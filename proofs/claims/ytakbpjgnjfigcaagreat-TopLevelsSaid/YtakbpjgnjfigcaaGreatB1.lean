/- Several texts in one: each says what it proves. -/
import Derived.Test.YtakbpjgnjfigcaaGreatRows
import Derived.WalkKit
import Derived.WalkSpells
import Derived.WalkLawsBesides
import Derived.BigQuiet
import Derived.Lib.Hide
import Derived.RangeFuncNested
import Derived.RangeFuncBound
import Derived.RangeFuncCalls
import Derived.RangeFuncLeaves
import Derived.RangeFuncBox
import Derived.OwnWalkIn
import Derived.TacticsInMore
import Derived.LoopNIn
import Derived.LoopIn
import Derived.Maps.AppendAt
import Derived.Deep.Cut
import Derived.Deep.DeepMust
import Derived.Lib.AppendZerosOnto
import Derived.Lib.SliceRun
import Derived.Laws.AppendOwnNone
import Derived.Maps.Own
import Derived.Maps.OwnOps
import Derived.Maps.Views
import Derived.Deep.AppendLies
import Derived.Laws.OwnMore
import Derived.OrdersHeld
import Derived.Deep.RegionHeld
import Derived.Deep.RegionHeld3
/- Small lemmas on worlds, rows of cells and drawn regions, over any program. They are used by all walks of this seat. -/
namespace Go.Proofs.YtakbpjgnjfigcaaGreat
open Go.RowKit

/-! ### Worlds that grow -/
theorem Up.cell {W W' : World} (h : Below W.heap.size W W') {a : Addr} {v : Value} (c : W.cell? a = some v) : W'.cell? a = some v :=
  (h.cell (World.block_lt_of_cell? W _ c)).trans c
theorem Up.block {W W' : World} (h : Below W.heap.size W W') {b : Nat} {o : Obj} (c : W.heap[b]? = some o) : W'.heap[b]? = some o :=
  (h.block b (Array.getElem?_eq_some_iff.1 c).1).trans c
theorem Up.lt {W W' : World} (h : Below W.heap.size W W') {b : Nat} (c : b < W.heap.size) : b < W'.heap.size := Nat.lt_of_lt_of_le c h.size
theorem Up.owns {W W' : World} (h : Below W.heap.size W W') {base e size n : Nat} {v : Value} {xs : List Value} (c : W.ownsRow base e size v n xs) : W'.ownsRow base e size v n xs := by
  refine ⟨c.1, ?_⟩
  rcases c.2 with hn | ⟨g, cap, cur, rfl, hb, hg, r⟩
  · exact .inl hn
  · exact .inr ⟨g, cap, cur, rfl, hb, Up.block h hg, r⟩
theorem Up.trans {A B C : World} (h : Below A.heap.size A B) (k : Below B.heap.size B C) : Below A.heap.size A C := h.trans (k.mono h.size)
theorem Up.to {n : Nat} {A B C : World} (h : Below n A B) (k : Below B.heap.size B C) (hn : n ≤ B.heap.size) : Below n A C := h.trans (k.mono hn)
theorem cellB {n : Nat} {W W' : World} (h : Below n W W') : ∀ b o, b < n → W'.cell? ⟨b, o, none⟩ = W.cell? ⟨b, o, none⟩ := fun b o k => h.cell (p := ⟨b, o, none⟩) k
theorem owns_mono {w : World} {b b' e size n : Nat} {v : Value} {xs : List Value} (h : w.ownsRow b e size v n xs) (hb : b' ≤ b) : w.ownsRow b' e size v n xs := by
  refine ⟨h.1, ?_⟩
  rcases h.2 with hn | ⟨g, cap, cur, rfl, hg, r⟩
  · exact .inl hn
  · exact .inr ⟨g, cap, cur, rfl, by omega, r⟩

theorem blk_new {w : World} {o : Obj} {k : Nat} (h : k = w.heap.size) : (w.alloc o).heap[k]? = some o := by rw [h]; exact heap_alloc_new w o
theorem blk_old {w : World} {k : Nat} {ob : Obj} (h : w.heap[k]? = some ob) (o : Obj) : (w.alloc o).heap[k]? = some ob := (Below.heap_alloc w o k (Array.getElem?_eq_some_iff.1 h).1).trans h
/-! ### The world under a name -/
theorem wp_world {P : Program} {c : Code} {Q : Exit → Act → World → Prop} {a : Act} {w : World} (h : ∀ W, Hid (W = w) → c.wp P Q a W) : c.wp P Q a w := h w rfl

/-! ### Drawn regions: one walk in the order of the text -/
section
variable {P : Program} {ops : Array Oper} {C : World → Prop} {Q : Act → Prop} {a : Act} {o : Oper} {rest : List Oper}
theorem q_det (hw : Region.wanted o (yielded ops a.tmps) = true)
    (h : ∃ v, (∀ W', C W' → (execOp a.eval o).run P W' = .ok (.value v) W') ∧ wpQuiet P ops C Q rest (a.put o.dst v)) : wpQuiet P ops C Q (o :: rest) a :=
  wpQuiet_step fun K hK => by
    obtain ⟨v, h, hk⟩ := h
    rw [if_pos hw]
    exact ⟨v, fun W hW => by unfold Oper.quietAt; rw [h W hW]; exact ⟨rfl, rfl⟩, hK _ hk⟩
theorem q_call (hw : Region.wanted o (yielded ops a.tmps) = true)
    (h : ∃ f args, (∀ W', C W' → (execOp a.eval o).run P W' = .ok (.enter f args) W') ∧ ∃ v, (∀ W', C W' → Calls P f args W' fun e w'' => e = .returned v ∧ C w'') ∧ wpQuiet P ops C Q rest (a.put o.dst v)) :
    wpQuiet P ops C Q (o :: rest) a :=
  wpQuiet_step fun K hK => by
    obtain ⟨f, args, h, v, hc, hk⟩ := h
    rw [if_pos hw]
    exact ⟨v, fun W hW => by unfold Oper.quietAt; rw [h W hW]; exact ⟨rfl, hc W hW⟩, hK _ hk⟩
theorem q_skip (hw : Region.wanted o (yielded ops a.tmps) = false) (hk : wpQuiet P ops C Q rest (a.put o.dst undef)) : wpQuiet P ops C Q (o :: rest) a :=
  wpQuiet_step fun K hK => by
    rw [if_neg (by rw [hw]; exact Bool.false_ne_true)]
    exact hK _ hk
end
theorem qcall {P : Program} {f : FuncId} {args : Array Value} {N : Nat} {W W' : World} {v : Value} (h : Calls P f args W' fun e w'' => e = .returned v ∧ Below W'.heap.size W' w'')
    (hW' : Below N W W') (hN : N ≤ W.heap.size) : Calls P f args W' fun e w'' => e = .returned v ∧ Below N W w'' :=
  h.mono fun _ _ ⟨he, hb⟩ => ⟨he, hW'.trans (hb.mono (Nat.le_trans hN hW'.size))⟩

/-! ### Points and inequalities in memory -/
structure Pt where
  x : Int
  y : Int
  z : Int
deriving DecidableEq, Inhabited
structure Iq where
  a : Pt
  b : Int
deriving DecidableEq, Inhabited
def Pt.cells (p : Pt) : List Value := [.int .i64 p.x, .int .i64 p.y, .int .i64 p.z]
def Iq.cells (q : Iq) : List Value := [.int .i64 q.a.x, .int .i64 q.a.y, .int .i64 q.a.z, .int .i64 q.b]
def ptCells (l : List Pt) : List Value := l.flatMap Pt.cells
def iqCells (l : List Iq) : List Value := l.flatMap Iq.cells
def intCells (l : List Int) : List Value := l.map (Value.int .i64)

/-- A slice whose first l.length elements are the inequalities l. -/
def IqS (w : World) (s : Option Addr) (l : List Iq) : Prop :=
  l = [] ∨ ∃ b off, s = some ⟨b, off, none⟩ ∧ b < w.heap.size ∧ ∀ i (h : i < l.length),
    w.cell? ⟨b, off + i * 4, none⟩ = some (.int .i64 l[i].a.x) ∧ w.cell? ⟨b, off + i * 4 + 1, none⟩ = some (.int .i64 l[i].a.y) ∧
    w.cell? ⟨b, off + i * 4 + 2, none⟩ = some (.int .i64 l[i].a.z) ∧ w.cell? ⟨b, off + i * 4 + 3, none⟩ = some (.int .i64 l[i].b)
def PtS (w : World) (s : Option Addr) (l : List Pt) : Prop :=
  l = [] ∨ ∃ b off, s = some ⟨b, off, none⟩ ∧ b < w.heap.size ∧ ∀ i (h : i < l.length),
    w.cell? ⟨b, off + i * 3, none⟩ = some (.int .i64 l[i].x) ∧ w.cell? ⟨b, off + i * 3 + 1, none⟩ = some (.int .i64 l[i].y) ∧
    w.cell? ⟨b, off + i * 3 + 2, none⟩ = some (.int .i64 l[i].z)
def IntS (w : World) (s : Option Addr) (l : List Int) : Prop :=
  l = [] ∨ ∃ b off, s = some ⟨b, off, none⟩ ∧ b < w.heap.size ∧ ∀ i (h : i < l.length), w.cell? ⟨b, off + i, none⟩ = some (.int .i64 l[i])
theorem Up.iq {W W' : World} (h : Below W.heap.size W W') {s : Option Addr} {l : List Iq} (c : IqS W s l) : IqS W' s l := by
  rcases c with c | ⟨b, off, e, hb, c⟩
  · exact .inl c
  · exact .inr ⟨b, off, e, Up.lt h hb, fun i hi => ⟨Up.cell h (c i hi).1, Up.cell h (c i hi).2.1, Up.cell h (c i hi).2.2.1, Up.cell h (c i hi).2.2.2⟩⟩
theorem Up.pt {W W' : World} (h : Below W.heap.size W W') {s : Option Addr} {l : List Pt} (c : PtS W s l) : PtS W' s l := by
  rcases c with c | ⟨b, off, e, hb, c⟩
  · exact .inl c
  · exact .inr ⟨b, off, e, Up.lt h hb, fun i hi => ⟨Up.cell h (c i hi).1, Up.cell h (c i hi).2.1, Up.cell h (c i hi).2.2⟩⟩
theorem Up.int {W W' : World} (h : Below W.heap.size W W') {s : Option Addr} {l : List Int} (c : IntS W s l) : IntS W' s l := by
  rcases c with c | ⟨b, off, e, hb, c⟩
  · exact .inl c
  · exact .inr ⟨b, off, e, Up.lt h hb, fun i hi => Up.cell h (c i hi)⟩
theorem IqS.at {w : World} {s : Option Addr} {l : List Iq} (c : IqS w s l) {i : Nat} (h : i < l.length) : ∃ b off, s = some ⟨b, off, none⟩ ∧ b < w.heap.size ∧
    w.cell? ⟨b, off + i * 4, none⟩ = some (.int .i64 l[i].a.x) ∧ w.cell? ⟨b, off + i * 4 + 1, none⟩ = some (.int .i64 l[i].a.y) ∧
    w.cell? ⟨b, off + i * 4 + 2, none⟩ = some (.int .i64 l[i].a.z) ∧ w.cell? ⟨b, off + i * 4 + 3, none⟩ = some (.int .i64 l[i].b) := by
  rcases c with rfl | ⟨b, off, e, hb, c⟩
  · cases h
  · exact ⟨b, off, e, hb, c i h⟩
theorem PtS.at {w : World} {s : Option Addr} {l : List Pt} (c : PtS w s l) {i : Nat} (h : i < l.length) : ∃ b off, s = some ⟨b, off, none⟩ ∧ b < w.heap.size ∧
    w.cell? ⟨b, off + i * 3, none⟩ = some (.int .i64 l[i].x) ∧ w.cell? ⟨b, off + i * 3 + 1, none⟩ = some (.int .i64 l[i].y) ∧
    w.cell? ⟨b, off + i * 3 + 2, none⟩ = some (.int .i64 l[i].z) := by
  rcases c with rfl | ⟨b, off, e, hb, c⟩
  · cases h
  · exact ⟨b, off, e, hb, c i h⟩
theorem IntS.at {w : World} {s : Option Addr} {l : List Int} (c : IntS w s l) {i : Nat} (h : i < l.length) : ∃ b off, s = some ⟨b, off, none⟩ ∧ b < w.heap.size ∧
    w.cell? ⟨b, off + i, none⟩ = some (.int .i64 l[i]) := by
  rcases c with rfl | ⟨b, off, e, hb, c⟩
  · cases h
  · exact ⟨b, off, e, hb, c i h⟩

/-- The block that a slice of inequalities lies in, if it has any. -/
def Blk {α : Type} (s : Option Addr) (l : List α) (k : Nat) : Prop := l ≠ [] ∧ ∃ a, s = some a ∧ a.block = k
theorem IqS.blk {w : World} {s : Option Addr} {l : List Iq} (c : IqS w s l) {k : Nat} (h : Blk s l k) : k < w.heap.size := by
  obtain ⟨hl, a, rfl, rfl⟩ := h
  rcases c with rfl | ⟨b, off, e, hb, _⟩
  · exact absurd rfl hl
  · cases e; exact hb
theorem IqS.keep {w w' : World} {s : Option Addr} {l : List Iq} (c : IqS w s l) (hsz : w.heap.size ≤ w'.heap.size) (h : ∀ k, Blk s l k → w'.heap[k]? = w.heap[k]?) : IqS w' s l := by
  rcases c with rfl | ⟨b, off, rfl, hb, c⟩
  · exact .inl rfl
  · by_cases hl : l = []
    · exact .inl hl
    have hk : ∀ o, w'.cell? ⟨b, o, none⟩ = w.cell? ⟨b, o, none⟩ := fun o => World.cell?_of_block (h b ⟨hl, _, rfl, rfl⟩)
    refine .inr ⟨b, off, rfl, Nat.lt_of_lt_of_le hb hsz, fun i hi => ?_⟩
    rw [hk, hk, hk, hk]
    exact c i hi

theorem flat_len {α : Type} (k : Nat) (f : α → List Value) (hf : ∀ x, (f x).length = k) (l : List α) : (l.flatMap f).length = l.length * k := by
  induction l with
  | nil => simp
  | cons x l ih => simp [List.flatMap_cons, hf, ih, Nat.add_mul]; omega
theorem flat_at {α : Type} (k : Nat) (f : α → List Value) (hf : ∀ x, (f x).length = k) (l : List α) (i j : Nat) (hi : i < l.length) (hj : j < k) :
    (l.flatMap f)[i * k + j]? = (f l[i])[j]? := by
  induction l generalizing i with
  | nil => cases hi
  | cons x l ih =>
    simp only [List.flatMap_cons]
    cases i with
    | zero => simp only [Nat.zero_mul, Nat.zero_add, List.getElem_cons_zero]; rw [List.getElem?_append_left (by rw [hf]; exact hj)]
    | succ i =>
      rw [List.getElem?_append_right (by rw [hf, Nat.add_mul]; omega), hf]
      have e : (i + 1) * k + j - k = i * k + j := by rw [Nat.add_mul]; omega
      rw [e, ih i (by simpa using hi)]
      rfl
theorem ptCells_len (l : List Pt) : (ptCells l).length = l.length * 3 := flat_len 3 _ (fun _ => rfl) l
theorem iqCells_len (l : List Iq) : (iqCells l).length = l.length * 4 := flat_len 4 _ (fun _ => rfl) l
theorem intCells_len (l : List Int) : (intCells l).length = l.length * 1 := by simp [intCells]

theorem owns_cell {w : World} {base e size n g cap : Nat} {xs : List Value} (h : w.ownsRow base e size (.slice (some ⟨g, 0, none⟩) n cap) n xs) {i : Nat} {v : Value} (hv : xs[i]? = some v) :
    w.cell? ⟨g, i, none⟩ = some v := by
  rcases h.2 with ⟨he, _⟩ | ⟨g', cap', cur, he, hb, hg, hn, hm, hs, ht⟩
  · simp at he
  · simp only [Value.slice.injEq, Option.some.injEq, Addr.mk.injEq, and_true, true_and] at he
    obtain ⟨rfl, rfl⟩ := he
    have h2 : (cur.toList.take (n * size))[i]? = some v := by rw [ht]; exact hv
    rw [List.getElem?_take] at h2
    split at h2
    · simp [World.cell?, hg]; simpa using h2
    · cases h2
/-- An owned row's shape: nil, or the head of a block of its own. -/
theorem owns_shape {w : World} {base e size n : Nat} {v : Value} {xs : List Value} (h : w.ownsRow base e size v n xs) : ∃ s cap, v = .slice s n cap ∧ (n = 0 ∧ s = none ∧ cap = 0 ∨ ∃ g, s = some ⟨g, 0, none⟩ ∧ base ≤ g ∧ g < w.heap.size) := by
  rcases h.2 with ⟨rfl, rfl⟩ | ⟨g, cap, cur, rfl, hb, hg, _⟩
  · exact ⟨none, 0, rfl, .inl ⟨rfl, rfl, rfl⟩⟩
  · exact ⟨_, cap, rfl, .inr ⟨g, rfl, hb, (Array.getElem?_eq_some_iff.1 hg).1⟩⟩
theorem owns_iq {w : World} {base e cap : Nat} {s : Option Addr} {l : List Iq} (h : w.ownsRow base e 4 (.slice s l.length cap) l.length (iqCells l)) : IqS w s l := by
  by_cases hl : l = []
  · exact .inl hl
  obtain ⟨s', cap', he, hs⟩ := owns_shape h
  simp only [Value.slice.injEq] at he
  obtain ⟨rfl, _, rfl⟩ := he
  rcases hs with ⟨h0, _⟩ | ⟨g, rfl, hb, hg⟩
  · exact absurd (List.length_eq_zero_iff.1 h0) hl
  refine .inr ⟨g, 0, rfl, hg, fun i hi => ?_⟩
  have k : ∀ j, j < 4 → (iqCells l)[i * 4 + j]? = (Iq.cells l[i])[j]? := fun j hj => flat_at 4 Iq.cells (fun _ => rfl) l i j hi hj
  simp only [Nat.zero_add]
  exact ⟨owns_cell h (by have := k 0 (by omega); simpa [Iq.cells] using this), owns_cell h (by have := k 1 (by omega); simpa [Iq.cells] using this),
    owns_cell h (by have := k 2 (by omega); simpa [Iq.cells] using this), owns_cell h (by have := k 3 (by omega); simpa [Iq.cells] using this)⟩
theorem owns_pt {w : World} {base e cap : Nat} {s : Option Addr} {l : List Pt} (h : w.ownsRow base e 3 (.slice s l.length cap) l.length (ptCells l)) : PtS w s l := by
  by_cases hl : l = []
  · exact .inl hl
  obtain ⟨s', cap', he, hs⟩ := owns_shape h
  simp only [Value.slice.injEq] at he
  obtain ⟨rfl, _, rfl⟩ := he
  rcases hs with ⟨h0, _⟩ | ⟨g, rfl, hb, hg⟩
  · exact absurd (List.length_eq_zero_iff.1 h0) hl
  refine .inr ⟨g, 0, rfl, hg, fun i hi => ?_⟩
  have k : ∀ j, j < 3 → (ptCells l)[i * 3 + j]? = (Pt.cells l[i])[j]? := fun j hj => flat_at 3 Pt.cells (fun _ => rfl) l i j hi hj
  simp only [Nat.zero_add]
  exact ⟨owns_cell h (by have := k 0 (by omega); simpa [Pt.cells] using this), owns_cell h (by have := k 1 (by omega); simpa [Pt.cells] using this),
    owns_cell h (by have := k 2 (by omega); simpa [Pt.cells] using this)⟩
theorem owns_int {w : World} {base e cap : Nat} {s : Option Addr} {l : List Int} (h : w.ownsRow base e 1 (.slice s l.length cap) l.length (intCells l)) : IntS w s l := by
  by_cases hl : l = []
  · exact .inl hl
  obtain ⟨s', cap', he, hs⟩ := owns_shape h
  simp only [Value.slice.injEq] at he
  obtain ⟨rfl, _, rfl⟩ := he
  rcases hs with ⟨h0, _⟩ | ⟨g, rfl, hb, hg⟩
  · exact absurd (List.length_eq_zero_iff.1 h0) hl
  refine .inr ⟨g, 0, rfl, hg, fun i hi => ?_⟩
  simp only [Nat.zero_add]
  exact owns_cell h (by simp [intCells, hi])

theorem news_new (w : World) (cs : List Value) (t : TypeId) : ∀ j u, cs[j]? = some u → (w.alloc (.cells cs.toArray t)).cell? ((⟨w.heap.size, 0, none⟩ : Addr).add j) = some u := fun j u hu => by
  have hadd : (⟨w.heap.size, 0, none⟩ : Addr).add j = ⟨w.heap.size, j, none⟩ := by unfold Addr.add; split <;> simp_all
  rw [hadd]
  have h := heap_alloc_new w (.cells cs.toArray t)
  simp only [World.cell?, h]
  simpa using hu
/-- Behind an append to a row of one's own: what lay below the row's base is as it was. -/
theorem Up.grown {B : Nat} {A w w' : World} {o : Obj} {e size n : Nat} {v : Value} {xs : List Value} (h : Below B A w) (hB : B ≤ w.heap.size) (hown : w.ownsRow B e size v n xs) (hg : (w.alloc o).grownBy w' v.ownBlock) : Below B A w' :=
  (h.alloc hB o).grown hg (by simp; omega) (fun k hk => (hown.lt k hk).1)

theorem ret_int {k : IntKind} {a b : Int} (h : a = b) : Ending.returned (.int k a) = .returned (.int k b) := by rw [h]
theorem ret_bool {a b : Bool} (h : a = b) : Ending.returned (.bool a) = .returned (.bool b) := by rw [h]
end Go.Proofs.YtakbpjgnjfigcaaGreat

/- What the functions of layer 1 compute: plain functions on lists and numbers. -/
namespace Go.Proofs.YtakbpjgnjfigcaaGreat
open Go.RowKit

def bw (lo n hi : Int) : Bool := decide (lo ≤ n) && decide (n ≤ hi)
theorem bw_iff {lo n hi : Int} : bw lo n hi = true ↔ lo ≤ n ∧ n ≤ hi := by simp [bw]
def dotZ (a p : Pt) : Int := a.x * p.x + a.y * p.y + a.z * p.z
def flatC (i : Int) (x n most : Int) : Bool := bw (-most) x most && (decide (i < n) || decide (x = 0))
def flatB (p : Pt) (n most : Int) : Bool := flatC 0 p.x n most && (flatC 1 p.y n most && flatC 2 p.z n most)
/-- One inequality, B taken so many times, as the machine reckons it. -/
def holdQ (p : Pt) (by_ : Int) (q : Iq) : Bool := !decide (wrap64 (q.b * by_) < wrap64 (dotZ q.a p))
def holdsB (l : List Iq) (p : Pt) (by_ : Int) : Bool := l.all (holdQ p by_)
def okQ (n : Int) (q : Iq) : Bool := flatB q.a n 20 && bw (-1000) q.b 1000
def validB (n : Int) (l : List Iq) : Bool := bw 1 n 3 && (decide (l.length ≤ 6) && l.all (okQ n))
def hasB (n : Int) (l : List Iq) (p : Pt) : Bool := flatB p n 20 && holdsB l p 1

/-- The index of the first element with a property; -1: there is none. -/
def fidx {α : Type} (pr : α → Bool) (l : List α) : Int := match l.findIdx? pr with | some i => (i : Int) | none => -1
theorem fidx_none {α : Type} {pr : α → Bool} {l : List α} (h : ∀ j (hj : j < l.length), pr l[j] = false) : fidx pr l = -1 := by
  have : l.findIdx? pr = none := by
    rw [List.findIdx?_eq_none_iff]
    intro x hx
    obtain ⟨j, hj, rfl⟩ := List.getElem_of_mem hx
    exact h j hj
  simp [fidx, this]
theorem fidx_at {α : Type} {pr : α → Bool} {l : List α} {k : Nat} (hk : k < l.length) (h : ∀ j (hj : j < k), pr (l[j]'(by omega)) = false) (hp : pr l[k] = true) : fidx pr l = k := by
  have : l.findIdx? pr = some k := by
    rw [List.findIdx?_eq_some_iff_getElem]
    exact ⟨hk, hp, fun j hj => by simp [h j hj]⟩
  simp [fidx, this]
theorem fidx_any {α : Type} (pr : α → Bool) (l : List α) : decide (0 ≤ fidx pr l) = l.any pr := by
  unfold fidx
  cases h : l.findIdx? pr with
  | none =>
    rw [List.findIdx?_eq_none_iff] at h
    have : l.any pr = false := by
      rw [List.any_eq_false]; intro x hx; simp [h x hx]
    simp [this]
  | some i =>
    rw [List.findIdx?_eq_some_iff_getElem] at h
    obtain ⟨hi, hp, _⟩ := h
    have : l.any pr = true := by rw [List.any_eq_true]; exact ⟨_, List.getElem_mem hi, hp⟩
    rw [this]
    simp

/-- The numbers from lo to hi. -/
def upTo : Nat → Int → List Int
  | 0, _ => []
  | k + 1, lo => lo :: upTo k (lo + 1)
def up (lo hi : Int) : List Int := upTo (hi + 1 - lo).toNat lo
theorem up_nil {lo hi : Int} (h : hi < lo) : up lo hi = [] := by
  unfold up; rw [show (hi + 1 - lo).toNat = 0 by omega]; rfl
theorem up_cons {lo hi : Int} (h : lo ≤ hi) : up lo hi = lo :: up (lo + 1) hi := by
  unfold up
  rw [show (hi + 1 - lo).toNat = (hi + 1 - (lo + 1)).toNat + 1 by omega]; rfl
theorem mem_upTo {x : Int} : ∀ (k : Nat) (lo : Int), x ∈ upTo k lo ↔ lo ≤ x ∧ x < lo + k
  | 0, lo => by simp [upTo]
  | k + 1, lo => by simp only [upTo, List.mem_cons, mem_upTo k (lo + 1)]; omega
theorem mem_up {x lo hi : Int} : x ∈ up lo hi ↔ lo ≤ x ∧ x ≤ hi := by
  unfold up; rw [mem_upTo]; omega
theorem upTo_len (k : Nat) (lo : Int) : (upTo k lo).length = k := by
  induction k generalizing lo with
  | zero => rfl
  | succ k ih => simp [upTo, ih]
theorem up_len (lo hi : Int) : (up lo hi).length = (hi + 1 - lo).toNat := upTo_len _ _

/-- How far a coordinate goes. -/
def far (n : Int) (i : Int) : Int := if i < n then 20 else 0
def ptsZ (l : List Iq) (x y : Int) (zs : List Int) : List Pt := zs.flatMap fun z => if holdsB l ⟨x, y, z⟩ 1 then [⟨x, y, z⟩] else []
def ptsY (n : Int) (l : List Iq) (x : Int) (ys : List Int) : List Pt := ys.flatMap fun y => ptsZ l x y (up (-far n 2) (far n 2))
def ptsX (n : Int) (l : List Iq) (xs : List Int) : List Pt := xs.flatMap fun x => ptsY n l x (up (-far n 1) (far n 1))
/-- All points, in ascending order. -/
def pts (n : Int) (l : List Iq) : List Pt := ptsX n l (up (-far n 0) (far n 0))

theorem flatMap_len_le {α β : Type} (f : α → List β) (k : Nat) (l : List α) (h : ∀ x ∈ l, (f x).length ≤ k) : (l.flatMap f).length ≤ l.length * k := by
  induction l with
  | nil => simp
  | cons x l ih =>
    have h1 := h x (by simp)
    have h2 := ih (fun y hy => h y (by simp [hy]))
    simp only [List.flatMap_cons, List.length_append, List.length_cons, Nat.add_mul]
    omega
theorem far_le (n i : Int) : far n i ≤ 20 := by unfold far; split <;> omega
theorem far_nn (n i : Int) : 0 ≤ far n i := by unfold far; split <;> omega
theorem up_far_len (n i : Int) : (up (-far n i) (far n i)).length ≤ 41 := by
  rw [up_len]; have := far_le n i; omega
theorem pts_len (n : Int) (l : List Iq) : (pts n l).length ≤ 68921 := by
  have hz : ∀ x y, (ptsZ l x y (up (-far n 2) (far n 2))).length ≤ 41 := fun x y => by
    have h1 := flatMap_len_le (fun z => if holdsB l ⟨x, y, z⟩ 1 then [(⟨x, y, z⟩ : Pt)] else []) 1 (up (-far n 2) (far n 2)) (fun z _ => by split <;> simp)
    have h2 := up_far_len n 2
    unfold ptsZ; omega
  have hy : ∀ x, (ptsY n l x (up (-far n 1) (far n 1))).length ≤ 1681 := fun x => by
    have h1 := flatMap_len_le (fun y => ptsZ l x y (up (-far n 2) (far n 2))) 41 (up (-far n 1) (far n 1)) (fun y _ => hz x y)
    have h2 := up_far_len n 1
    unfold ptsY; omega
  have h1 := flatMap_len_le (fun x => ptsY n l x (up (-far n 1) (far n 1))) 1681 (up (-far n 0) (far n 0)) (fun x _ => hy x)
  have h2 := up_far_len n 0
  unfold pts ptsX; omega
end Go.Proofs.YtakbpjgnjfigcaaGreat

/- The list of all points: ascending, and just the points of the domain. -/
namespace Go.Proofs.YtakbpjgnjfigcaaGreat
open Go.RowKit

def ltP (p q : Pt) : Bool := if p.x ≠ q.x then decide (p.x < q.x) else if p.y ≠ q.y then decide (p.y < q.y) else decide (p.z < q.z)
theorem ltP_iff {p q : Pt} : ltP p q = true ↔ p.x < q.x ∨ (p.x = q.x ∧ (p.y < q.y ∨ (p.y = q.y ∧ p.z < q.z))) := by
  unfold ltP
  by_cases h0 : p.x = q.x <;> by_cases h1 : p.y = q.y <;> simp [h0, h1] <;> omega
theorem mem_ptsZ {l : List Iq} {x y : Int} {zs : List Int} {q : Pt} : q ∈ ptsZ l x y zs ↔ q.x = x ∧ q.y = y ∧ q.z ∈ zs ∧ holdsB l q 1 = true := by
  unfold ptsZ
  simp only [List.mem_flatMap]
  constructor
  · rintro ⟨z, hz, h⟩
    split at h
    · rename_i hh; simp at h; subst h; exact ⟨rfl, rfl, hz, hh⟩
    · cases h
  · rintro ⟨rfl, rfl, hz, hh⟩
    exact ⟨q.z, hz, by rw [if_pos hh]; simp⟩
theorem mem_ptsY {n : Int} {l : List Iq} {x : Int} {ys : List Int} {q : Pt} : q ∈ ptsY n l x ys ↔ q.x = x ∧ q.y ∈ ys ∧ q.z ∈ up (-far n 2) (far n 2) ∧ holdsB l q 1 = true := by
  unfold ptsY
  simp only [List.mem_flatMap, mem_ptsZ]
  constructor
  · rintro ⟨y, hy, h0, rfl, h1, h2⟩; exact ⟨h0, hy, h1, h2⟩
  · rintro ⟨h0, hy, h1, h2⟩; exact ⟨_, hy, h0, rfl, h1, h2⟩
theorem mem_ptsX {n : Int} {l : List Iq} {xs : List Int} {q : Pt} : q ∈ ptsX n l xs ↔ q.x ∈ xs ∧ q.y ∈ up (-far n 1) (far n 1) ∧ q.z ∈ up (-far n 2) (far n 2) ∧ holdsB l q 1 = true := by
  unfold ptsX
  simp only [List.mem_flatMap, mem_ptsY]
  constructor
  · rintro ⟨x, hx, rfl, h⟩; exact ⟨hx, h⟩
  · rintro ⟨hx, h⟩; exact ⟨_, hx, rfl, h⟩
theorem flatB_far {n : Int} {q : Pt} : flatB q n 20 = true ↔ (-far n 0 ≤ q.x ∧ q.x ≤ far n 0) ∧ (-far n 1 ≤ q.y ∧ q.y ≤ far n 1) ∧ (-far n 2 ≤ q.z ∧ q.z ≤ far n 2) := by
  have e : ∀ i x, flatC i x n 20 = true ↔ -far n i ≤ x ∧ x ≤ far n i := fun i x => by
    simp only [flatC, bw, far, Bool.and_eq_true, Bool.or_eq_true, decide_eq_true_eq]
    split <;> omega
  simp only [flatB, Bool.and_eq_true, e]
theorem mem_pts {n : Int} {l : List Iq} {q : Pt} : q ∈ pts n l ↔ hasB n l q = true := by
  unfold pts
  rw [mem_ptsX, mem_up, mem_up, mem_up, hasB, Bool.and_eq_true, flatB_far]
  constructor
  · rintro ⟨a, b, c, d⟩; exact ⟨⟨a, b, c⟩, d⟩
  · rintro ⟨⟨a, b, c⟩, d⟩; exact ⟨a, b, c, d⟩
theorem upTo_sorted : ∀ (k : Nat) (lo : Int), (upTo k lo).Pairwise (· < ·)
  | 0, lo => .nil
  | k + 1, lo => by
    simp only [upTo, List.pairwise_cons]
    exact ⟨fun x hx => by have := (mem_upTo k (lo + 1)).1 hx; omega, upTo_sorted k (lo + 1)⟩
theorem flatMap_sorted {α β : Type} {r : α → α → Prop} {s : β → β → Prop} (f : α → List β) (hin : ∀ a, (f a).Pairwise s) (hx : ∀ a b, r a b → ∀ x ∈ f a, ∀ y ∈ f b, s x y) :
    ∀ l : List α, l.Pairwise r → (l.flatMap f).Pairwise s
  | [], _ => by simp
  | a :: l, h => by
    rw [List.pairwise_cons] at h
    rw [List.flatMap_cons, List.pairwise_append]
    refine ⟨hin a, flatMap_sorted f hin hx l h.2, fun x hxa y hy => ?_⟩
    obtain ⟨b, hb, hy⟩ := List.mem_flatMap.1 hy
    exact hx a b (h.1 b hb) x hxa y hy
theorem ptsZ_sorted (l : List Iq) (x y : Int) (zs : List Int) (h : zs.Pairwise (· < ·)) : (ptsZ l x y zs).Pairwise (fun p q => ltP p q = true) := by
  unfold ptsZ
  refine flatMap_sorted _ (fun z => by split <;> simp) (fun a b hab p hp q hq => ?_) zs h
  have e1 : p.x = x ∧ p.y = y ∧ p.z = a := by split at hp <;> simp at hp; subst hp; simp
  have e2 : q.x = x ∧ q.y = y ∧ q.z = b := by split at hq <;> simp at hq; subst hq; simp
  rw [ltP_iff]; omega
theorem ptsY_sorted (n : Int) (l : List Iq) (x : Int) (ys : List Int) (h : ys.Pairwise (· < ·)) : (ptsY n l x ys).Pairwise (fun p q => ltP p q = true) := by
  unfold ptsY
  refine flatMap_sorted _ (fun y => ptsZ_sorted l x y _ (upTo_sorted _ _)) (fun a b hab p hp q hq => ?_) ys h
  have e1 := mem_ptsZ.1 hp
  have e2 := mem_ptsZ.1 hq
  rw [ltP_iff]; omega
theorem pts_sorted (n : Int) (l : List Iq) : (pts n l).Pairwise (fun p q => ltP p q = true) := by
  unfold pts ptsX
  refine flatMap_sorted _ (fun x => ptsY_sorted n l x _ (upTo_sorted _ _)) (fun a b hab p hp q hq => ?_) _ (upTo_sorted _ _)
  have e1 := mem_ptsY.1 hp
  have e2 := mem_ptsY.1 hq
  rw [ltP_iff]; omega
theorem pts_step {n : Int} {l : List Iq} {k : Nat} (hk : k + 1 < (pts n l).length) : ltP (pts n l)[k] (pts n l)[k + 1] = true :=
  List.pairwise_iff_getElem.1 (pts_sorted n l) k (k + 1) (by omega) hk (by omega)
end Go.Proofs.YtakbpjgnjfigcaaGreat

/- A range over a function, at the wide fence, with invariants that hold on when nothing but new memory comes. -/
namespace Go.Proofs.YtakbpjgnjfigcaaGreat
open Go.RowKit

@[simp, go_sem] theorem wide_fn (f : FuncId) : Fence.wide.fn f = True := rfl
@[simp, go_sem] theorem wide_depth : Fence.wide.depth = none := rfl
theorem ci {n : Nat} {P : Program} {f : FuncId} {args : Array Value} {w : World} {R : Ending → World → Prop} (h : Calls P f args w R) : CallsIn Fence.wide n P f args w R := callsIn_wide.2 h
theorem cir {n l : Nat} {P : Program} {f : FuncId} {args : Array Value} {w : World} {R : Ending → World → Prop} (h : Calls P f args w R) : CallsIn (Fence.wide.inRound l) n P f args w R := CallsIn.inRound l (callsIn_wide.2 h)
theorem callsIn_world {F : Fence} {n : Nat} {P : Program} {f : FuncId} {args : Array Value} {w : World} {R : Ending → World → Prop} (h : ∀ X, Hid (X = w) → CallsIn F n P f args X R) : CallsIn F n P f args w R := h w rfl
theorem calls_world {P : Program} {f : FuncId} {args : Array Value} {w : World} {R : Ending → World → Prop} (h : ∀ X, Hid (X = w) → Calls P f args X R) : Calls P f args w R := h w rfl
theorem wpIn_world {F : Fence} {n : Nat} {P : Program} {c : Code} {Q : Exit → Act → World → Prop} {a : Act} {w : World} (h : ∀ W, Hid (W = w) → c.wpIn F n P Q a W) : c.wpIn F n P Q a w := h w rfl

/-- Below n all is as it was, and all rows of cells are. -/
structure CellsUp (n : Nat) (W W' : World) : Prop where
  below : Below n W W'
  cells : ∀ (k : Nat) (c : Array Value) (t : TypeId) (f : Nat × Nat), W.heap[k]? = some (.cells c t f) → W'.heap[k]? = some (.cells c t f)
theorem CellsUp.cell {n : Nat} {W W' : World} (h : CellsUp n W W') {a : Addr} {v : Value} (c : W.cell? a = some v) : W'.cell? a = some v := by
  unfold World.cell? at c ⊢
  cases hk : W.heap[a.block]? with
  | none => rw [hk] at c; cases c
  | some o =>
    rw [hk] at c
    cases o with
    | cells cc t f => rw [h.cells _ _ _ _ hk]; exact c
    | _ => cases c
theorem CellsUp.frozen {n : Nat} {W W' : World} (h : CellsUp n W W') {a : Addr} {v : Value} (c : W.cell? a = some v) (hf : W.frozen? a = false) : W'.frozen? a = false := by
  unfold World.cell? at c
  unfold World.frozen? at hf ⊢
  cases hk : W.heap[a.block]? with
  | none => rw [hk] at c; cases c
  | some o =>
    rw [hk] at c hf
    cases o with
    | cells cc t f => rw [h.cells _ _ _ _ hk]; exact hf
    | _ => cases c
theorem CellsUp.owns {n : Nat} {W W' : World} (h : CellsUp n W W') {base e size m : Nat} {v : Value} {xs : List Value} (c : W.ownsRow base e size v m xs) : W'.ownsRow base e size v m xs := by
  refine ⟨c.1, ?_⟩
  rcases c.2 with hn | ⟨g, cap, cur, rfl, hb, hg, r⟩
  · exact .inl hn
  · exact .inr ⟨g, cap, cur, rfl, hb, h.cells _ _ _ _ hg, r⟩
theorem CellsUp.of_grownBy {n : Nat} {W W' : World} {row : Option Nat} (hg : W.grownBy W' row) (hn : n ≤ W.heap.size) (hr : ∀ r, row = some r → n ≤ r ∧ ∃ o : Obj, W.heap[r]? = some o ∧ o.isCells = false) : CellsUp n W W' :=
  ⟨(Below.refl n W).grown hg hn (fun k e => (hr k e).1), fun k c t f hk => (hg.block k (Array.getElem?_eq_some_iff.1 hk).1 (fun e => by
    obtain ⟨_, o, ho, hc⟩ := hr k e.symm
    rw [hk] at ho; cases ho; cases hc)).trans hk⟩
theorem KeepsOthers.of_below {W W' : World} (h : Below W.heap.size W W') : KeepsOthers W W' := ⟨h.size, fun _ _ hk _ => Up.block h hk⟩
theorem grownBy_of_below {W W' : World} (h : Below W.heap.size W W') : W.grownBy W' none := ⟨h.os, h.tape, h.output, h.size, fun k hk _ => h.block k hk⟩

theorem app_up {W w1 : World} {B : Nat} {tmp : Obj} {e size k : Nat} {v : Value} {xs : List Value} (hB : B ≤ W.heap.size) (hown : W.ownsRow B e size v k xs) (hgrow : (W.alloc tmp).grownBy w1 v.ownBlock) :
    Below B W w1 ∧ KeepsOthers W w1 := by
  refine ⟨Up.grown (Below.refl B W) hB hown hgrow, (KeepsOthers.alloc W tmp).trans (KeepsOthers.of_grownBy hgrow fun j o ej hj => ?_)⟩
  rcases (hown.alloc tmp).2 with ⟨rfl, _⟩ | ⟨g, cap, cur, rfl, _, hgb, _⟩
  · simp [Value.ownBlock] at ej
  · obtain rfl : g = j := by simpa [Value.ownBlock] using ej
    rw [hgb] at hj; cases hj; rfl

/-- The blocks of S lie as they lay; no block has gone. -/
structure KeepUp (S : Nat → Prop) (W W' : World) : Prop where
  size : W.heap.size ≤ W'.heap.size
  same : ∀ k, S k → W'.heap[k]? = W.heap[k]?
theorem KeepUp.refl (S : Nat → Prop) (W : World) : KeepUp S W W := ⟨Nat.le_refl _, fun _ _ => rfl⟩
theorem KeepUp.trans {S : Nat → Prop} {A B C : World} (h : KeepUp S A B) (k : KeepUp S B C) : KeepUp S A C := ⟨Nat.le_trans h.size k.size, fun i hi => (k.same i hi).trans (h.same i hi)⟩
theorem KeepUp.of_below {S : Nat → Prop} {n : Nat} {W W' : World} (h : Below n W W') (hS : ∀ k, S k → k < n) : KeepUp S W W' := ⟨h.size, fun k hk => h.block k (hS k hk)⟩
theorem KeepUp.cell {S : Nat → Prop} {W W' : World} (h : KeepUp S W W') {a : Addr} {v : Value} (hS : S a.block) (c : W.cell? a = some v) : W'.cell? a = some v := by
  rw [← c]; exact World.cell?_of_block (h.same _ hS)
theorem KeepUp.setCell {S : Nat → Prop} (W : World) {a : Addr} (v : Value) (h : ∀ k, S k → k ≠ a.block) : KeepUp S W (W.setCell a v) :=
  ⟨by simp [World.setCell], fun k hk => Below.heap_setCell W a v k (h k hk)⟩
theorem KeepUp.grown {S : Nat → Prop} {W W' : World} {row : Option Nat} (hg : W.grownBy W' row) (hS : ∀ k, S k → k < W.heap.size) (hr : ∀ k, S k → some k ≠ row) : KeepUp S W W' :=
  ⟨hg.size, fun k hk => hg.block k (hS k hk) (hr k hk)⟩

/-- An iterator's contract: it hands its rounds the elements xs, in order, until a round says 'no more'; a round must leave the blocks of S as they are. -/
structure Iter {α : Type} (P : Program) (gf : Nat) (lb : Array Value) (encs : α → Array Value) (S : Nat → Prop) (xs : List α) (w : World) : Prop where
  lt : ∀ k, S k → k < w.heap.size
  seq : SeqStopsK Fence.wide 5 P gf lb encs (KeepUp S) (fun ys => ys = xs) (fun pre => pre <+: xs) xs.length w

theorem wp_rangeFunc {α : Type} {P : Program} {g : Operand} {ps : Array Tmp} {assign body : Code} {Q : Exit → Act → World → Prop} {a : Act} {w : World}
    {gf : Nat} {lb : Array Value} (hg : a.eval g = .func (.func gf) #[] lb) (eg : ∀ args w, (callFunc gf args).run P w = .ok (.enter gf args) w)
    {encs : α → Array Value} {S : Nat → Prop} {xs : List α} (hseq : Iter P gf lb encs S xs w) (hps : ∀ x, (encs x).size = ps.size)
    (n : Nat) (hn : n ≤ w.heap.size) (I : List α → World → Prop) (Ix : Code → List α → World → Prop) (hI : ∀ s W W', I s W → CellsUp n W W' → I s W') (hIx : ∀ c s W W', Ix c s W → CellsUp n W W' → Ix c s W') (hsz : ∀ s W, I s W → n ≤ W.heap.size) (hszx : ∀ c s W, Ix c s W → n ≤ W.heap.size) (h0 : I [] w) (a₁ : α → Act)
    (hassign : ∀ (l : Nat) (x : α) (W : World) (K : Act → World → Prop), K (a₁ x) W →
      assign.wpIn (Fence.wide.inRound l) 4 P (Exit.then K (fun _ _ _ => False)) { tmps := (ps.zip (encs x)).foldl (fun t (p, v) => t.setIfInBounds p v) a.tmps, defers := [] } W)
    (hbody : ∀ (l : Nat) (pre : List α) (x : α) (W : World), I pre W → pre.length < xs.length → body.wpIn (Fence.wide.inRound l) 4 P (ownPostK (KeepUp S) I Ix (pre ++ [x]) W) (a₁ x) W)
    (hdone : ∀ (D : Nat) (W : World), w.heap.size ≤ D → I xs W → W.heap[D]? = some (.deferred (some [])) → Q .normal { a with defers := { target := .collected D, args := #[] } :: a.defers } W)
    (hstop : ∀ (D : Nat) (c : Code) (pre : List α) (W : World), w.heap.size ≤ D → pre <+: xs → Ix c pre W → W.heap[D]? = some (.deferred (some [])) → c.wp P Q { a with defers := { target := .collected D, args := #[] } :: a.defers } W) :
    (Code.rangeFunc g ps assign body).wp P Q a w := by
  refine (wpIn_wide (n := 6)).1 ?_
  refine wpIn_rangeFunc_ownG (F := Fence.wide) rfl (by omega) hg trivial eg hseq.seq KeepUp.trans ?_ (Below.refl _ _) hps I Ix ?_ ?_ h0 a₁ hassign ?_ ?_ ?_
  · intro W l o o' hl _ _ _
    exact KeepUp.grown (grownBy_putObj' W l o') (fun k hk => by
      have h1 := hseq.lt k hk
      have := (Array.getElem?_eq_some_iff.1 ‹W.heap[l]? = some o›).1
      omega) (fun k hk e => by have h1 := hseq.lt k hk; cases e; omega)
  · exact fun s W W' row hs hgr hr => hI s W W' hs (CellsUp.of_grownBy hgr (hsz s W hs) (fun r e => ⟨Nat.le_trans hn (hr r e).1, (hr r e).2⟩))
  · exact fun c s W W' row hs hgr hr => hIx c s W W' hs (CellsUp.of_grownBy hgr (hszx c s W hs) (fun r e => ⟨Nat.le_trans hn (hr r e).1, (hr r e).2⟩))
  · exact fun l pre x W hi hl => wpIn_mono (hbody l pre x W hi hl) ownPostG_of_ownPostK
  · rintro D ys W hD rfl hi hk; exact hdone D W hD hi hk
  · exact fun D c pre W hD hp hx hk => (wpIn_wide (n := 6)).2 (hstop D c pre W hD hp hx hk)

/-- One loop variable, in a slot. -/
theorem wp_range1 {α : Type} {P : Program} {g : Operand} {p : Tmp} {assign body : Code} {Q : Exit → Act → World → Prop} {a : Act} {w : World}
    {gf : Nat} {lb : Array Value} (hg : a.eval g = .func (.func gf) #[] lb) (eg : ∀ args w, (callFunc gf args).run P w = .ok (.enter gf args) w)
    {enc : α → Value} {S : Nat → Prop} {xs : List α} (hseq : Iter P gf lb (fun x => #[enc x]) S xs w)
    (n : Nat) (hn : n ≤ w.heap.size) (I : List α → World → Prop) (Ix : Code → List α → World → Prop) (hI : ∀ s W W', I s W → CellsUp n W W' → I s W') (hIx : ∀ c s W W', Ix c s W → CellsUp n W W' → Ix c s W') (hsz : ∀ s W, I s W → n ≤ W.heap.size) (hszx : ∀ c s W, Ix c s W → n ≤ W.heap.size) (h0 : I [] w) (a₁ : α → Act)
    (hassign : ∀ (l : Nat) (x : α) (W : World) (K : Act → World → Prop), K (a₁ x) W →
      assign.wpIn (Fence.wide.inRound l) 4 P (Exit.then K (fun _ _ _ => False)) { tmps := a.tmps.setIfInBounds p (enc x), defers := [] } W)
    (hbody : ∀ (l : Nat) (pre : List α) (x : α) (W : World), I pre W → pre.length < xs.length → body.wpIn (Fence.wide.inRound l) 4 P (ownPostK (KeepUp S) I Ix (pre ++ [x]) W) (a₁ x) W)
    (hdone : ∀ (D : Nat) (W : World), w.heap.size ≤ D → I xs W → W.heap[D]? = some (.deferred (some [])) → Q .normal { a with defers := { target := .collected D, args := #[] } :: a.defers } W)
    (hstop : ∀ (D : Nat) (c : Code) (pre : List α) (W : World), w.heap.size ≤ D → pre <+: xs → Ix c pre W → W.heap[D]? = some (.deferred (some [])) → c.wp P Q { a with defers := { target := .collected D, args := #[] } :: a.defers } W) :
    (Code.rangeFunc g #[p] assign body).wp P Q a w :=
  wp_rangeFunc hg eg hseq (fun _ => rfl) n hn I Ix hI hIx hsz hszx h0 a₁ (fun l x W K hK => by simpa using hassign l x W K hK) hbody hdone hstop

/-- One loop variable, which the assignment boxes. -/
theorem wp_rangeB {α : Type} {P : Program} {g : Operand} {p : Tmp} {assign body : Code} {Q : Exit → Act → World → Prop} {a : Act} {w : World}
    {gf : Nat} {lb : Array Value} (hg : a.eval g = .func (.func gf) #[] lb) (eg : ∀ args w, (callFunc gf args).run P w = .ok (.enter gf args) w)
    {enc : α → Value} {S : Nat → Prop} {xs : List α} (hseq : Iter P gf lb (fun x => #[enc x]) S xs w)
    (n : Nat) (hn : n ≤ w.heap.size) (I : List α → World → Prop) (Ix : Code → List α → World → Prop) (hI : ∀ s W W', I s W → CellsUp n W W' → I s W') (hIx : ∀ c s W W', Ix c s W → CellsUp n W W' → Ix c s W') (hsz : ∀ s W, I s W → n ≤ W.heap.size) (hszx : ∀ c s W, Ix c s W → n ≤ W.heap.size) (h0 : I [] w)
    (t : TypeId) (vs : α → Array Value) (a₁ : α → Nat → Act)
    (hassign : ∀ (l : Nat) (x : α) (W : World) (b : Nat) (K : Act → World → Prop), W.heap.size = b → K (a₁ x b) (W.alloc (.cells (vs x) t)) →
      assign.wpIn (Fence.wide.inRound l) 4 P (Exit.then K (fun _ _ _ => False)) { tmps := a.tmps.setIfInBounds p (enc x), defers := [] } W)
    (hbody : ∀ (l : Nat) (pre : List α) (x : α) (B : Nat) (W : World), I pre W → pre.length < xs.length → w.heap.size ≤ B → W.heap[B]? = some (.cells (vs x) t (0, 0)) →
      body.wpIn (Fence.wide.inRound l) 4 P (ownPostK (KeepUp S) I Ix (pre ++ [x]) W) (a₁ x B) W)
    (hdone : ∀ (D : Nat) (W : World), w.heap.size ≤ D → I xs W → W.heap[D]? = some (.deferred (some [])) → Q .normal { a with defers := { target := .collected D, args := #[] } :: a.defers } W)
    (hstop : ∀ (D : Nat) (c : Code) (pre : List α) (W : World), w.heap.size ≤ D → pre <+: xs → Ix c pre W → W.heap[D]? = some (.deferred (some [])) → c.wp P Q { a with defers := { target := .collected D, args := #[] } :: a.defers } W) :
    (Code.rangeFunc g #[p] assign body).wp P Q a w := by
  refine (wpIn_wide (n := 6)).1 ?_
  refine wpIn_rangeFunc_ownH (F := Fence.wide) rfl (by omega) hg trivial eg hseq.seq KeepUp.trans ?_ (Below.refl _ _) (fun _ => rfl) (fun s W => I s W ∧ w.heap.size ≤ W.heap.size) Ix ?_ ?_ ⟨h0, Nat.le_refl _⟩
    (fun x a' W => ∃ B, w.heap.size ≤ B ∧ W.heap[B]? = some (.cells (vs x) t (0, 0)) ∧ a' = a₁ x B) ?_ ?_ ?_ ?_ ?_
  · intro W l o o' hl _ _ _
    exact KeepUp.grown (grownBy_putObj' W l o') (fun k hk => by
      have h1 := hseq.lt k hk
      have := (Array.getElem?_eq_some_iff.1 ‹W.heap[l]? = some o›).1
      omega) (fun k hk e => by have h1 := hseq.lt k hk; cases e; omega)
  · exact fun s W W' row hs hgr hr => ⟨hI s W W' hs.1 (CellsUp.of_grownBy hgr (hsz s W hs.1) (fun r e => ⟨Nat.le_trans hn (hr r e).1, (hr r e).2⟩)), Nat.le_trans hs.2 hgr.size⟩
  · exact fun c s W W' row hs hgr hr => hIx c s W W' hs (CellsUp.of_grownBy hgr (hszx c s W hs) (fun r e => ⟨Nat.le_trans hn (hr r e).1, (hr r e).2⟩))
  · rintro x a' _ W W' row ⟨B, hB, hb, rfl⟩ hgr hr
    refine ⟨B, hB, (hgr.block B (Array.getElem?_eq_some_iff.1 hb).1 (fun e => ?_)).trans hb, rfl⟩
    obtain ⟨_, o, ho, hc⟩ := hr B e.symm
    rw [hb] at ho; cases ho; cases hc
  · intro l pre x W K hi hK
    have h1 := hassign l x W _ K rfl (hK _ _ ((KeepsOthers.alloc _ _).from _) (KeepUp.grown (World.grownBy_alloc W _ none) (fun k hk => Nat.lt_of_lt_of_le (hseq.lt k hk) hi.2) (fun _ _ e => by cases e))
      ⟨hI _ _ _ hi.1 (CellsUp.of_grownBy (World.grownBy_alloc W _ none) (hsz _ _ hi.1) (fun _ e => by cases e)), by simp; omega⟩ ⟨W.heap.size, hi.2, heap_alloc_new W _, rfl⟩)
    simpa using h1
  · rintro l pre x a' W _ _ hi ⟨B, hB, hb, rfl⟩ hl
    refine wpIn_mono (hbody l pre x B W hi.1 hl hB hb) ?_
    rintro e a2 W2 hp
    cases e with
    | normal => exact ⟨hp.1.from _, hp.2.1, hp.2.2, Nat.le_trans hi.2 hp.1.size⟩
    | ret => exact ⟨hp.1.from _, hp.2⟩
    | exit id => exact ⟨hp.1.from _, hp.2⟩
    | goto tt => exact ⟨hp.1.from _, hp.2⟩
    | panic ch => exact hp.elim
    | outgrown => exact hp.elim
  · rintro D ys W hD rfl hi hk; exact hdone D W hD hi.1 hk
  · exact fun D c pre W hD hp hx hk => (wpIn_wide (n := 6)).2 (hstop D c pre W hD hp hx hk)

/-- A function that holds a range over a function. -/
theorem calls_of_wp_marks {P : Program} {f : FuncId} {fn : Func} {c : Code} {args : Array Value} {w : World} {R : Ending → World → Prop} (hf : P.funcs[f]? = some fn) (hb : fn.body = some c)
    (h : c.wp P (bodyPostM Fence.wide 6 P fn R) { tmps := args ++ Array.replicate (fn.ntmps - args.size) undef, defers := [] } w) : Calls P f args w R :=
  callsIn_wide.1 (callsIn_of_wp_marks (F := Fence.wide) (n := 6) hf hb trivial (wpIn_wide.2 h))
/-- Its end: behind a loop. -/
theorem marks_ret {P : Program} {fn : Func} {R : Ending → World → Prop} {tmps : Array Value} {w : World} {v : Value} {D : Nat} (hK : w.heap[D]? = some (.deferred (some [])))
    (hr : (results fn tmps).run P (w.putObj D (.deferred none)) = .ok v (w.putObj D (.deferred none))) (hR : R (.returned v) (w.putObj D (.deferred none))) :
    bodyPostM Fence.wide 6 P fn R .ret { tmps := tmps, defers := [{ target := .collected D, args := #[] }] } w :=
  ⟨by simp, .inl ⟨_, _, rfl, run_takeDeferred hK, ⟨v, hr, hR⟩⟩⟩
/-- Its end: without a loop. -/
theorem marks_ret0 {P : Program} {fn : Func} {R : Ending → World → Prop} {tmps : Array Value} {w : World} {v : Value}
    (hr : (results fn tmps).run P w = .ok v w) (hR : R (.returned v) w) : bodyPostM Fence.wide 6 P fn R .ret { tmps := tmps, defers := [] } w :=
  ⟨v, hr, hR⟩
theorem marks_up {n : Nat} {w : World} {D : Nat} (hn : n ≤ w.heap.size) (hD : n ≤ D) (hK : w.heap[D]? = some (.deferred (some []))) : CellsUp n w (w.putObj D (.deferred none)) :=
  CellsUp.of_grownBy (grownBy_putObj' w D _) hn (fun r e => by cases e; exact ⟨hD, _, hK, rfl⟩)
end Go.Proofs.YtakbpjgnjfigcaaGreat

/- Facts on a world, carried to a later world by one name; drawn regions in one walk. Over any program. -/
namespace Go.Proofs.YtakbpjgnjfigcaaGreat
open Go.RowKit

/-- A fact on a world that stays true when nothing but new memory has come. -/
class UpF (W W' : World) (p : Prop) (q : outParam Prop) : Prop where
  up : Below W.heap.size W W' → p → q
theorem up_of {W W' : World} {p q : Prop} (hb : Below W.heap.size W W') (x : p) [i : UpF W W' p q] : q := i.up hb x
instance {W W' : World} {a : Addr} {v : Value} : UpF W W' (W.cell? a = some v) (W'.cell? a = some v) := ⟨fun h c => Up.cell h c⟩
instance {W W' : World} {b : Nat} {o : Obj} : UpF W W' (W.heap[b]? = some o) (W'.heap[b]? = some o) := ⟨fun h c => Up.block h c⟩
instance {W W' : World} {b : Nat} : UpF W W' (b < W.heap.size) (b < W'.heap.size) := ⟨fun h c => Up.lt h c⟩
instance {W W' : World} {b : Nat} : UpF W W' (b ≤ W.heap.size) (b ≤ W'.heap.size) := ⟨fun h c => Nat.le_trans c h.size⟩
instance {W W' : World} {base e size n : Nat} {v : Value} {xs : List Value} : UpF W W' (W.ownsRow base e size v n xs) (W'.ownsRow base e size v n xs) := ⟨fun h c => Up.owns h c⟩
instance {W W' : World} {s : Option Addr} {l : List Iq} : UpF W W' (IqS W s l) (IqS W' s l) := ⟨fun h c => Up.iq h c⟩
instance {W W' : World} {s : Option Addr} {l : List Pt} : UpF W W' (PtS W s l) (PtS W' s l) := ⟨fun h c => Up.pt h c⟩
instance {W W' : World} {s : Option Addr} {l : List Int} : UpF W W' (IntS W s l) (IntS W' s l) := ⟨fun h c => Up.int h c⟩
instance {A W W' : World} : UpF W W' (Below A.heap.size A W) (Below A.heap.size A W') := ⟨fun h c => Up.to c h c.size⟩
instance {W W' : World} {p q : Prop} [i : UpF W W' p q] : UpF W W' (Hid p) (Hid q) := ⟨fun h c => i.up h c⟩
instance {W W' : World} {b t : Nat} {v : Value} : UpF W W' (Boxed W b t v) (Boxed W' b t v) := ⟨fun h c => Up.block h c⟩

/-! ### Blocks of cells that are known whole, and writes into them -/
/-- Block b holds just these cells. -/
def Row (W : World) (b : Nat) (t : TypeId) (arr : Array Value) : Prop := W.heap[b]? = some (.cells arr t (0, 0))
theorem Row.lt {W : World} {b t : Nat} {arr : Array Value} (h : Row W b t arr) : b < W.heap.size := (Array.getElem?_eq_some_iff.1 h).1
theorem Row.cell {W : World} {b t : Nat} {arr : Array Value} (h : Row W b t arr) {i : Nat} {v : Value} (hv : arr[i]? = some v) : W.cell? ⟨b, i, none⟩ = some v := by
  simp [World.cell?, show W.heap[b]? = _ from h, hv]
theorem Row.frozen {W : World} {b t : Nat} {arr : Array Value} (h : Row W b t arr) (i : Nat) : W.frozen? ⟨b, i, none⟩ = false := by simp [World.frozen?, show W.heap[b]? = _ from h]
theorem Row.new (W : World) (t : TypeId) (arr : Array Value) : Row (W.alloc (.cells arr t)) W.heap.size t arr := World.alloc_heap_new W _
theorem Row.alloc {W : World} {b t : Nat} {arr : Array Value} (h : Row W b t arr) (o : Obj) : Row (W.alloc o) b t arr := blk_old h o
theorem Row.set {W : World} {b t : Nat} {arr : Array Value} (h : Row W b t arr) (i : Nat) (v : Value) : Row (W.setCell ⟨b, i, none⟩ v) b t (arr.setIfInBounds i v) := by
  obtain ⟨hlt, hk⟩ := Array.getElem?_eq_some_iff.1 h
  show (W.heap.modify b _)[b]? = _
  rw [Array.getElem?_eq_getElem (by rw [Array.size_modify]; exact hlt), Array.getElem_modify_self, hk]
  rfl
theorem Row.other {W : World} {b t : Nat} {arr : Array Value} (h : Row W b t arr) {a : Addr} (hne : b ≠ a.block) (v : Value) : Row (W.setCell a v) b t arr :=
  (Below.heap_setCell W a v b hne).trans h
theorem Row.drew {W : World} {b t : Nat} {arr : Array Value} (h : Row W b t arr) : Row W.drew b t arr := h
theorem Row.cast {W : World} {b t : Nat} {arr arr' : Array Value} (h : Row W b t arr) (e : arr = arr') : Row W b t arr' := e ▸ h
def RowG (W : World) (b t : Nat) (g : Array Value → Prop) : Prop := ∃ arr, Row W b t arr ∧ g arr
theorem Row.of {W : World} {b t : Nat} {arr : Array Value} (h : RowG W b t (fun a => a = arr)) : Row W b t arr := by obtain ⟨a, h, rfl⟩ := h; exact h
theorem RowG.base {W : World} {b t : Nat} {arr : Array Value} {g : Array Value → Prop} (h : Row W b t arr) (k : g arr) : RowG W b t g := ⟨arr, h, k⟩
theorem RowG.drew {W : World} {b t : Nat} {g : Array Value → Prop} (h : RowG W b t g) : RowG W.drew b t g := h
theorem RowG.set {W : World} {b t i : Nat} {v : Value} {g : Array Value → Prop} (h : RowG W b t (fun a => g (a.setIfInBounds i v))) : RowG (W.setCell ⟨b, i, none⟩ v) b t g := by
  obtain ⟨a, h, k⟩ := h; exact ⟨_, h.set i v, k⟩
theorem RowG.other {W : World} {b t : Nat} {a : Addr} {v : Value} {g : Array Value → Prop} (hne : b ≠ a.block) (h : RowG W b t g) : RowG (W.setCell a v) b t g := by
  obtain ⟨c, h, k⟩ := h; exact ⟨_, h.other hne v, k⟩
theorem RowG.alloc {W : World} {b t : Nat} {o : Obj} {g : Array Value → Prop} (h : RowG W b t g) : RowG (W.alloc o) b t g := by
  obtain ⟨c, h, k⟩ := h; exact ⟨_, h.alloc o, k⟩
instance {W W' : World} {b t : Nat} {arr : Array Value} : UpF W W' (Row W b t arr) (Row W' b t arr) := ⟨fun h c => Up.block h c⟩
theorem Row.one {W : World} {b t : Nat} {a : Value} (h : Row W b t #[a]) : W.cell? ⟨b, 0, none⟩ = some a := h.cell rfl
theorem Row.three {W : World} {b t : Nat} {x y z : Value} (h : Row W b t #[x, y, z]) : W.cell? ⟨b, 0, none⟩ = some x ∧ W.cell? ⟨b, 1, none⟩ = some y ∧ W.cell? ⟨b, 2, none⟩ = some z := ⟨h.cell rfl, h.cell rfl, h.cell rfl⟩

theorem Below.allo {B : Nat} {a w : World} {o : Obj} (hB : B ≤ w.heap.size) (h : Below B a w) : Below B a (w.alloc o) := h.alloc hB o
theorem Below.setC {B : Nat} {a w : World} {p : Addr} {u : Value} (hp : B ≤ p.block) (h : Below B a w) : Below B a (w.setCell p u) := h.setCell hp u
theorem have_it (p : Prop) {q : Prop} (h : p) (k : p → q) : q := k h
/-- Block b holds this object. -/
def At (W : World) (b : Nat) (o : Obj) : Prop := W.heap[b]? = some o
theorem At.drew {W : World} {b : Nat} {o : Obj} (h : At W b o) : At W.drew b o := h
theorem At.other {W : World} {b : Nat} {o : Obj} {a : Addr} {v : Value} (hne : b ≠ a.block) (h : At W b o) : At (W.setCell a v) b o := (Below.heap_setCell W a v b hne).trans h
theorem At.alloc {W : World} {b : Nat} {o : Obj} {o' : Obj} (h : At W b o) : At (W.alloc o') b o := blk_old h o'
/-- W' is W but for new memory and the cells of the blocks of p. -/
structure Chg (p : Nat → Prop) (W W' : World) : Prop where
  os : W'.os = W.os
  tape : W'.tape = W.tape
  output : W'.output = W.output
  size : W.heap.size ≤ W'.heap.size
  block : ∀ k, k < W.heap.size → ¬ p k → W'.heap[k]? = W.heap[k]?
  others : KeepsOthers W W'
theorem Chg.refl (p : Nat → Prop) (W : World) : Chg p W W := ⟨rfl, rfl, rfl, Nat.le_refl _, fun _ _ _ => rfl, KeepsOthers.refl W⟩
theorem Chg.trans {p : Nat → Prop} {A B C : World} (h : Chg p A B) (k : Chg p B C) : Chg p A C :=
  ⟨k.os.trans h.os, k.tape.trans h.tape, k.output.trans h.output, Nat.le_trans h.size k.size, fun i hi hp => (k.block i (Nat.lt_of_lt_of_le hi h.size) hp).trans (h.block i hi hp), h.others.trans k.others⟩
theorem Chg.setCell {p : Nat → Prop} {A W : World} (h : Chg p A W) {a : Addr} (ha : p a.block) (v : Value) : Chg p A (W.setCell a v) :=
  h.trans ⟨rfl, rfl, rfl, by simp [World.setCell], fun k _ hk => Below.heap_setCell W a v k (fun e => hk (e ▸ ha)), KeepsOthers.setCell W a v⟩
theorem Chg.of_below {p : Nat → Prop} {W W' : World} (h : Below W.heap.size W W') : Chg p W W' := ⟨h.os, h.tape, h.output, h.size, fun k hk _ => h.block k hk, ⟨h.size, fun _ _ hk _ => Up.block h hk⟩⟩
theorem Chg.below {p : Nat → Prop} {A W W' : World} (h : Chg p W W') {n : Nat} (hp : ∀ k, p k → n ≤ k) (hn : n ≤ W.heap.size) (k : Below n A W) : Below n A W' :=
  k.trans ⟨h.os, h.tape, h.output, h.size, fun i hi => h.block i (Nat.lt_of_lt_of_le hi hn) (fun hpi => Nat.not_le_of_lt hi (hp i hpi))⟩
theorem Chg.row {p : Nat → Prop} {W W' : World} (h : Chg p W W') {b t : Nat} {arr : Array Value} (hp : ¬ p b) (r : Row W b t arr) : Row W' b t arr := (h.block b r.lt hp).trans r
theorem Chg.cell {p : Nat → Prop} {W W' : World} (h : Chg p W W') {a : Addr} {v : Value} (hp : ¬ p a.block) (c : W.cell? a = some v) : W'.cell? a = some v := by
  rw [← c]; exact World.cell?_of_block (h.block _ (World.block_lt_of_cell? W _ c) hp)
theorem Chg.keepUp {p S : Nat → Prop} {W W' : World} (h : Chg p W W') (hS : ∀ k, S k → k < W.heap.size ∧ ¬ p k) : KeepUp S W W' := ⟨h.size, fun k hk => h.block k (hS k hk).1 (hS k hk).2⟩
instance {p : Nat → Prop} {A W W' : World} : UpF W W' (Chg p A W) (Chg p A W') := ⟨fun h c => c.trans (Chg.of_below h)⟩

section
variable {P : Program} {ops : Array Oper}
theorem region_q {id : Nat} {Q : Exit → Act → World → Prop} {a : Act} {w : World} (hm : P.follows .mixedOrders = true) (hB : Region.lexB .any ops = true)
    (h : wpQuiet P ops (fun V => Below w.heap.size w V) (fun a' => ∀ w', Below w.heap.size w w' → Q .normal a' w') ops.toList a) : (Code.region id ops true).wp P Q a w :=
  wp_region_quiet hm hB (Below.refl _ _).drew h
end
theorem qq_det {P : Program} {C : World → Prop} {a : Act} {o : Oper} {K : Act → Prop} (h : ∃ v, (∀ W', C W' → (execOp a.eval o).run P W' = .ok (.value v) W') ∧ K (a.put o.dst v)) : o.quiet P a C K := by
  obtain ⟨v, h, hk⟩ := h
  exact ⟨v, fun W hW => by unfold Oper.quietAt; rw [h W hW]; exact ⟨rfl, rfl⟩, hk⟩
theorem qq_call {P : Program} {C : World → Prop} {a : Act} {o : Oper} {K : Act → Prop} (h : ∃ f args, (∀ W', C W' → (execOp a.eval o).run P W' = .ok (.enter f args) W') ∧ ∃ v, (∀ W', C W' → Calls P f args W' fun e w'' => e = .returned v ∧ C w'') ∧ K (a.put o.dst v)) : o.quiet P a C K := by
  obtain ⟨f, args, h, v, hc, hk⟩ := h
  exact ⟨v, fun W hW => by unfold Oper.quietAt; rw [h W hW]; exact ⟨rfl, hc W hW⟩, hk⟩
theorem qc {P : Program} {f : FuncId} {args : Array Value} {W W' : World} {v : Value} (hW' : Below W.heap.size W W') (h : Calls P f args W' fun e w'' => e = .returned v ∧ Below W'.heap.size W' w'') :
    Calls P f args W' fun e w'' => e = .returned v ∧ Below W.heap.size W w'' :=
  h.mono fun _ _ ⟨he, hb⟩ => ⟨he, hW'.trans (hb.mono hW'.size)⟩
theorem qs {P : Program} {f : FuncId} {args : Array Value} {W W' : World} {v : Value} (hW' : Below W.heap.size W W') (h : Calls P f args W' fun e w'' => e = .returned v ∧ W' = w'') :
    Calls P f args W' fun e w'' => e = .returned v ∧ Below W.heap.size W w'' :=
  h.mono fun _ _ ⟨he, hb⟩ => ⟨he, hb ▸ hW'⟩
end Go.Proofs.YtakbpjgnjfigcaaGreat

/- Slices of elements, generically; over any program. -/
namespace Go.Proofs.YtakbpjgnjfigcaaGreat
open Go.RowKit

theorem RowG.new' {W : World} {b t : Nat} {arr : Array Value} {g : Array Value → Prop} (hb : b = W.heap.size) (k : g arr) : RowG (W.alloc (.cells arr t)) b t g := by subst hb; exact ⟨arr, Row.new W t arr, k⟩
/-- How an element lies in cells. -/
structure Elt (α : Type) where
  size : Nat
  cells : α → List Value
  pos : 0 < size
  len : ∀ x, (cells x).length = size
  one : ∀ x, ∀ u ∈ cells x, u.oneCell' = true
namespace Elt
variable {α : Type} (E : Elt α)
def all (l : List α) : List Value := l.flatMap E.cells
theorem all_len (l : List α) : (E.all l).length = l.length * E.size := flat_len _ _ E.len l
theorem all_at (l : List α) (i j : Nat) (hi : i < l.length) (hj : j < E.size) : (E.all l)[i * E.size + j]? = (E.cells l[i])[j]? := flat_at _ _ E.len l i j hi hj
theorem all_one (l : List α) : ∀ u ∈ E.all l, u.oneCell' = true := fun u hu => by
  obtain ⟨x, _, h⟩ := List.mem_flatMap.1 hu
  exact E.one x u h
theorem all_append (l m : List α) : E.all (l ++ m) = E.all l ++ E.all m := List.flatMap_append
theorem all_nil : E.all [] = [] := rfl
theorem all_single (x : α) : E.all [x] = E.cells x := by simp [all]
end Elt
def intE : Elt Int := ⟨1, fun n => [.int .i64 n], by decide, fun _ => rfl, fun _ u h => by simp at h; subst h; rfl⟩
def boolE : Elt Bool := ⟨1, fun n => [.bool n], by decide, fun _ => rfl, fun _ u h => by simp at h; subst h; rfl⟩
def ptE : Elt Pt := ⟨3, Pt.cells, by decide, fun _ => rfl, fun _ u h => by simp [Pt.cells] at h; rcases h with rfl | rfl | rfl <;> rfl⟩
def iqE : Elt Iq := ⟨4, Iq.cells, by decide, fun _ => rfl, fun _ u h => by simp [Iq.cells] at h; rcases h with rfl | rfl | rfl | rfl <;> rfl⟩
/-- A slice as an element: its address, length and capacity. -/
structure Sv where
  addr : Option Addr
  len : Nat
  cap : Nat
def svE : Elt Sv := ⟨1, fun s => [.slice s.addr s.len s.cap], by decide, fun _ => rfl, fun _ u h => by simp at h; subst h; rfl⟩

section
variable {α : Type} {E : Elt α}
/-- A slice whose first l.length elements are l. -/
def SlS (E : Elt α) (w : World) (s : Option Addr) (l : List α) : Prop :=
  l = [] ∨ ∃ b off, s = some ⟨b, off, none⟩ ∧ b < w.heap.size ∧ ∀ j u, (E.all l)[j]? = some u → w.cell? ⟨b, off + j, none⟩ = some u
theorem SlS.nil {w : World} {s : Option Addr} : SlS E w s [] := .inl rfl
theorem SlS.up {W W' : World} (h : Below W.heap.size W W') {s : Option Addr} {l : List α} (c : SlS E W s l) : SlS E W' s l := by
  rcases c with c | ⟨b, off, e, hb, c⟩
  · exact .inl c
  · exact .inr ⟨b, off, e, Up.lt h hb, fun j u hj => Up.cell h (c j u hj)⟩
instance {W W' : World} {s : Option Addr} {l : List α} : UpF W W' (SlS E W s l) (SlS E W' s l) := ⟨fun h c => SlS.up h c⟩
theorem SlS.at {w : World} {s : Option Addr} {l : List α} (c : SlS E w s l) {i : Nat} (h : i < l.length) : ∃ b off, s = some ⟨b, off, none⟩ ∧ b < w.heap.size ∧
    ∀ j u, (E.cells l[i])[j]? = some u → w.cell? ⟨b, off + i * E.size + j, none⟩ = some u := by
  rcases c with rfl | ⟨b, off, e, hb, c⟩
  · cases h
  · refine ⟨b, off, e, hb, fun j u hj => ?_⟩
    have hjl : j < E.size := by rw [← E.len l[i]]; exact (List.getElem?_eq_some_iff.1 hj).1
    have := c (i * E.size + j) u (by rw [E.all_at l i j h hjl]; exact hj)
    rwa [← Nat.add_assoc] at this
theorem SlS.none_nil {w : World} {l : List α} (c : SlS E w none l) : l = [] := by
  rcases c with c | ⟨b, off, e, _⟩
  · exact c
  · cases e
theorem add_eq {b off : Nat} (j : Nat) : (⟨b, off, none⟩ : Addr).add j = ⟨b, off + j, none⟩ := by
  unfold Addr.add; split <;> simp_all
theorem SlS.news {w : World} {a : Addr} {l : List α} (c : SlS E w (some a) l) : ∀ j u, (E.all l)[j]? = some u → w.cell? (a.add j) = some u := by
  rcases c with rfl | ⟨b, off, e, hb, c⟩
  · intro j u h; simp [Elt.all] at h
  · cases e; intro j u h; rw [add_eq]; exact c j u h
theorem SlS.blk {w : World} {s : Option Addr} {l : List α} (c : SlS E w s l) {k : Nat} (h : Blk s l k) : k < w.heap.size := by
  obtain ⟨hl, a, rfl, rfl⟩ := h
  rcases c with rfl | ⟨b, off, e, hb, _⟩
  · exact absurd rfl hl
  · cases e; exact hb
theorem SlS.keep {w w' : World} {s : Option Addr} {l : List α} (c : SlS E w s l) (hsz : w.heap.size ≤ w'.heap.size) (h : ∀ k, Blk s l k → w'.heap[k]? = w.heap[k]?) : SlS E w' s l := by
  rcases c with rfl | ⟨b, off, rfl, hb, c⟩
  · exact .inl rfl
  · by_cases hl : l = []
    · exact .inl hl
    refine .inr ⟨b, off, rfl, Nat.lt_of_lt_of_le hb hsz, fun j u hj => ?_⟩
    rw [World.cell?_of_block (h b ⟨hl, _, rfl, rfl⟩)]; exact c j u hj
theorem SlS.chg {p : Nat → Prop} {W W' : World} (h : Chg p W W') {s : Option Addr} {l : List α} (hp : ∀ k, Blk s l k → ¬ p k) (c : SlS E W s l) : SlS E W' s l :=
  c.keep h.size fun k hk => h.block k (c.blk hk) (hp k hk)
theorem SlS.of_own {w : World} {base e cap : Nat} {s : Option Addr} {l : List α} (h : w.ownsRow base e E.size (.slice s l.length cap) l.length (E.all l)) : SlS E w s l := by
  by_cases hl : l = []
  · exact .inl hl
  obtain ⟨s', cap', he, hs⟩ := owns_shape h
  simp only [Value.slice.injEq] at he
  obtain ⟨rfl, _, rfl⟩ := he
  rcases hs with ⟨h0, _⟩ | ⟨g, rfl, hb, hg⟩
  · exact absurd (List.length_eq_zero_iff.1 h0) hl
  refine .inr ⟨g, 0, rfl, hg, fun j u hj => ?_⟩
  rw [Nat.zero_add]
  exact owns_cell h hj
/-- A slice that came out of a call: new, its elements l. -/
def RetS (E : Elt α) (t : Nat) (l : List α) (w : World) (e : Ending) (w' : World) : Prop :=
  ∃ s cap, e = .returned (.slice s l.length cap) ∧ w'.ownsRow w.heap.size t E.size (.slice s l.length cap) l.length (E.all l) ∧ Below w.heap.size w w'
theorem owns_cap {w : World} {base e size n cap m : Nat} {s : Option Addr} {xs : List Value} (h : w.ownsRow base e size (.slice s n cap) m xs) : s = none → cap = 0 := by
  rintro rfl
  rcases h.2 with ⟨h0, _⟩ | ⟨g, c, cur, h0, hb, _⟩
  · simp at h0; exact h0.2
  · simp at h0
theorem owns_len {w : World} {base e size n cap m : Nat} {s : Option Addr} {xs : List Value} (h : w.ownsRow base e size (.slice s n cap) m xs) : n = m := by
  rcases h.2 with ⟨h0, rfl⟩ | ⟨g, c, cur, h0, hb, _⟩
  · simp at h0; exact h0.2.1
  · simp at h0; exact h0.2.1
theorem own_chg {p : Nat → Prop} {W W' : World} (h : Chg p W W') {base e size n : Nat} {v : Value} {xs : List Value} (hp : ∀ k, base ≤ k → ¬ p k) (c : W.ownsRow base e size v n xs) : W'.ownsRow base e size v n xs := by
  refine ⟨c.1, ?_⟩
  rcases c.2 with hn | ⟨g, cap, cur, rfl, hb, hg, r⟩
  · exact .inl hn
  · exact .inr ⟨g, cap, cur, rfl, hb, (h.block g (Array.getElem?_eq_some_iff.1 hg).1 (hp g hb)).trans hg, r⟩
/-- An empty slice that was just built. -/
theorem owns_built (w : World) (t size : Nat) : (w.alloc (.cells #[] t)).ownsRow w.heap.size t size (.slice (some ⟨w.heap.size, 0, none⟩) 0 0) 0 [] :=
  ⟨by simp, .inr ⟨_, 0, #[], rfl, Nat.le_refl _, heap_alloc_new w _, Nat.le_refl _, Nat.zero_le _, by simp, by simp⟩⟩
/-- A row of zeros that was just grown: as a slice of no elements. -/
theorem owns_grown (w : World) (t size G : Nat) (cur : Array Value) (hc : cur.size = G * size) (hG : G ≤ maxLen) : (w.alloc (.cells cur t)).ownsRow w.heap.size t size (.slice (some ⟨w.heap.size, 0, none⟩) 0 G) 0 [] :=
  ⟨by simp, .inr ⟨_, G, cur, rfl, Nat.le_refl _, heap_alloc_new w _, Nat.zero_le _, hG, hc, by simp⟩⟩
end
/-- The first k lists, joined. -/
def catTo {α : Type} (ls : List (List α)) (k : Nat) : List α := (ls.take k).flatten
theorem catTo_zero {α : Type} (ls : List (List α)) : catTo ls 0 = [] := rfl
theorem catTo_succ {α : Type} {ls : List (List α)} {k : Nat} (hk : k < ls.length) : catTo ls (k + 1) = catTo ls k ++ ls[k] := by
  unfold catTo; rw [List.take_succ_eq_append_getElem hk, List.flatten_append]; simp
theorem catTo_all {α : Type} {ls : List (List α)} {k : Nat} (hk : k = ls.length) : catTo ls k = ls.flatten := by
  unfold catTo; rw [hk, List.take_of_length_le (Nat.le_refl _)]
theorem catTo_le {α : Type} (ls : List (List α)) (k : Nat) : (catTo ls k).length ≤ ls.flatten.length := by
  unfold catTo
  conv => rhs; rw [← List.take_append_drop k ls, List.flatten_append, List.length_append]
  omega
theorem IqS.sl {w : World} {s : Option Addr} {l : List Iq} (c : IqS w s l) : SlS iqE w s l := by
  rcases c with c | ⟨b, off, e, hb, c⟩
  · exact .inl c
  refine .inr ⟨b, off, e, hb, fun j u hj => ?_⟩
  have hjl := (List.getElem?_eq_some_iff.1 hj).1
  rw [iqE.all_len] at hjl
  have hd : j / 4 < l.length := by have : iqE.size = 4 := rfl; rw [this] at hjl; omega
  have hm : j % 4 < 4 := Nat.mod_lt _ (by decide)
  have e1 : j / 4 * 4 + j % 4 = j := by omega
  have h2 := iqE.all_at l (j / 4) (j % 4) hd hm
  rw [show iqE.size = 4 from rfl, e1, hj] at h2
  obtain ⟨c0, c1, c2, c3⟩ := c (j / 4) hd
  have : j % 4 = 0 ∨ j % 4 = 1 ∨ j % 4 = 2 ∨ j % 4 = 3 := by omega
  rcases this with h | h | h | h <;> rw [h] at h2 <;> simp [iqE, Iq.cells] at h2 <;> subst h2
  · rw [show off + j = off + j / 4 * 4 by omega]; exact c0
  · rw [show off + j = off + j / 4 * 4 + 1 by omega]; exact c1
  · rw [show off + j = off + j / 4 * 4 + 2 by omega]; exact c2
  · rw [show off + j = off + j / 4 * 4 + 3 by omega]; exact c3
theorem SlS.iq {w : World} {s : Option Addr} {l : List Iq} (c : SlS iqE w s l) : IqS w s l := by
  by_cases hl : l = []
  · exact .inl hl
  rcases c with c | ⟨b, off, e, hb, c⟩
  · exact absurd c hl
  refine .inr ⟨b, off, e, hb, fun i hi => ?_⟩
  have k : ∀ j, j < 4 → ∀ u, (Iq.cells l[i])[j]? = some u → w.cell? ⟨b, off + i * 4 + j, none⟩ = some u := fun j hj u hu => by
    have := c (i * 4 + j) u (by have := iqE.all_at l i j hi hj; rw [show iqE.size = 4 from rfl] at this; rw [this]; exact hu)
    rwa [← Nat.add_assoc] at this
  exact ⟨by simpa using k 0 (by omega) _ rfl, k 1 (by omega) _ rfl, k 2 (by omega) _ rfl, k 3 (by omega) _ rfl⟩
theorem iqE_all (l : List Iq) : iqE.all l = iqCells l := rfl
theorem ptE_all (l : List Pt) : ptE.all l = ptCells l := rfl
end Go.Proofs.YtakbpjgnjfigcaaGreat

/- A look-up in a map that the call made, of a bool. Over any program. -/
namespace Go.Proofs.YtakbpjgnjfigcaaGreat
open Go.RowKit Go.Maps

theorem plainElem_bool_inv {H : Type} {P : Program} {e : TypeId} (he : P.underlying e = some .bool) {v : Value} {z : DataW H × List MemPlace} (h : plainElem P e v = some z) : ∃ x, v = .bool x ∧ z = (.lit (.bool x), []) := by
  unfold plainElem at h
  rw [he] at h
  cases v <;> simp at h
  exact ⟨_, rfl, h.symm⟩
theorem lookup_bool {H : Type} {P : Program} {k t e : TypeId} {w : World} {b n : Nat} {D : DataW H} (h : w.ownsMap P k (plainElem P e) b n D) (K : Keyed P k) (ht : P.underlying t = some (.map k e)) (he : P.underlying e = some .bool) (hz : (zeroValue e).run P w = .ok (.bool false) w)
    {key : Value} {kl : Lit} (hkey : keyOf P k key = some kl) : ∃ c, (Instr.lookup t (.map (some b)) key false).run P w = .ok (.bool c) w ∧ D.atKey kl (.lit (.bool false)) = .lit (.bool c) := by
  obtain ⟨v, ps, hrun, hv⟩ := h.lookup K ht hz (plainElem_bool he false) hkey
  obtain ⟨c, rfl, hc⟩ := plainElem_bool_inv he hv
  simp only [Prod.mk.injEq] at hc
  exact ⟨c, hrun, hc.1⟩
end Go.Proofs.YtakbpjgnjfigcaaGreat

/- An append of a whole slice, nil or not, to a row of one's own: one law. Over any program. -/
namespace Go.Proofs.YtakbpjgnjfigcaaGreat
open Go.RowKit

theorem grown_refl (w : World) (r : Option Nat) : w.grownBy w r := ⟨rfl, rfl, rfl, Nat.le_refl _, fun _ _ _ => rfl⟩
theorem grown_chg {w w1 : World} {v : Value} {p : Nat → Prop} (h : w.grownBy w1 v.ownBlock) (hp : ∀ j, v.ownBlock = some j → p j) (ho : KeepsOthers w w1) : Chg p w w1 :=
  ⟨h.os, h.tape, h.output, h.size, fun k hk hn => h.block k hk (fun e => hn (hp k e.symm)), ho⟩
section
variable {P : Program} {w : World} {α : Type} {E : Elt α}
theorem wpList_append_sl (E : Elt α) {ops : Array Oper} {rest : List Oper} {o : Oper} {a : Act} {Q : Exit → Act → World → Prop} (hgd : o.guard = none) (s x : Operand) (t : TypeId)
    (ho : o.op = .call { callee := .builtin .append, args := #[s, x], argTypes := #[t, t] })
    (base : Nat) (e : TypeId) (i : TypeInfo) (z : Value) (bytes : Nat) (ht : P.underlying t = some (.slice e)) (hi : P.info? e = some i) (hz : i.zero = some z)
    (hsize : i.size = E.size) (hby : i.bytes = bytes) (hzs : z.cells.size = E.size)
    (v : Value) (n : Nat) (xs : List Value) (hs : a.eval s = v) (hown : w.ownsRow base e E.size v n xs)
    (sx : Option Addr) (c : Nat) (l : List α) (hx : a.eval x = .slice sx l.length c) (hl : SlS E w sx l) (hc : sx = none → c = 0)
    (h63 : n + l.length ≤ maxLen) (hbytes : (n + l.length) * bytes ≤ 140737488355328) (hbase : base ≤ w.heap.size)
    (h : ∀ v' w', w'.ownsRow base e E.size v' (n + l.length) (xs ++ E.all l) → w.grownBy w' v.ownBlock → wpList P ops Q rest (a.put o.dst v') w') : wpList P ops Q (o :: rest) a w := by
  cases sx with
  | none =>
    obtain rfl := hl.none_nil
    obtain rfl := hc rfl
    refine wpList_append_own_none hgd s x t ho base e i E.size ht hi v n xs hs hown hx (h v w ?_ (grown_refl w _))
    simpa [Elt.all_nil] using hown
  | some ad =>
    exact wpList_append_own w hgd s x t ho base e i z E.size bytes ht hi hz hsize hby hzs E.pos v n xs hs hown ad l.length c (E.all l) hx (E.all_len l) (SlS.news hl) (E.all_one l) h63 hbytes hbase (fun v' w' h2 h3 _ => h v' w' h2 h3)
end
end Go.Proofs.YtakbpjgnjfigcaaGreat

/- Slices of slices; slices of claims. Over any program. -/
namespace Go.Proofs.YtakbpjgnjfigcaaGreat
open Go.RowKit

section
variable {α : Type} {E : Elt α}
/-- A slice of slices whose elements are the lists k. -/
def SlSS (E : Elt α) (w : World) (s : Option Addr) (k : List (List α)) : Prop :=
  ∃ ss : List Sv, SlS svE w s ss ∧ ss.length = k.length ∧ ∀ i (h : i < k.length) (h' : i < ss.length), ss[i].len = k[i].length ∧ SlS E w ss[i].addr k[i] ∧ (ss[i].addr = none → ss[i].cap = 0) ∧ k[i].length ≤ ss[i].cap
theorem SlSS.up {W W' : World} (h : Below W.heap.size W W') {s : Option Addr} {k : List (List α)} (c : SlSS E W s k) : SlSS E W' s k := by
  obtain ⟨ss, h1, h2, h3⟩ := c
  exact ⟨ss, h1.up h, h2, fun i hi hi' => ⟨(h3 i hi hi').1, (h3 i hi hi').2.1.up h, (h3 i hi hi').2.2⟩⟩
instance {W W' : World} {s : Option Addr} {k : List (List α)} : UpF W W' (SlSS E W s k) (SlSS E W' s k) := ⟨fun h c => SlSS.up h c⟩
theorem SlSS.at {w : World} {s : Option Addr} {k : List (List α)} (c : SlSS E w s k) {i : Nat} (hi : i < k.length) :
    ∃ b off sa sc, s = some ⟨b, off, none⟩ ∧ b < w.heap.size ∧ w.cell? ⟨b, off + i, none⟩ = some (.slice sa k[i].length sc) ∧ SlS E w sa k[i] ∧ (sa = none → sc = 0) ∧ k[i].length ≤ sc := by
  obtain ⟨ss, h1, h2, h3⟩ := c
  obtain ⟨b, off, e, hb, hc⟩ := h1.at (i := i) (by omega)
  obtain ⟨z1, z2, z3⟩ := h3 i hi (by omega)
  refine ⟨b, off, ss[i].addr, ss[i].cap, e, hb, ?_, z2, z3⟩
  have := hc 0 _ rfl
  simp only [svE, Nat.mul_one, Nat.add_zero] at this
  rw [this, z1]
theorem SlSS.nil {w : World} {s : Option Addr} : SlSS E w s [] := ⟨[], SlS.nil, rfl, fun i h => absurd h (by simp)⟩
theorem SlSS.none_nil {w : World} {k : List (List α)} (c : SlSS E w none k) : k = [] := by
  obtain ⟨ss, h1, h2, _⟩ := c
  have := h1.none_nil
  subst this
  exact List.length_eq_zero_iff.1 h2.symm
end
theorem SlS.int_at {w : World} {s : Option Addr} {l : List Int} (c : SlS intE w s l) {i : Nat} (h : i < l.length) : ∃ b off, s = some ⟨b, off, none⟩ ∧ b < w.heap.size ∧ w.cell? ⟨b, off + i, none⟩ = some (.int .i64 l[i]) := by
  obtain ⟨b, off, e, hb, hc⟩ := c.at h
  have := hc 0 _ rfl
  simp only [intE, Nat.mul_one, Nat.add_zero] at this
  exact ⟨b, off, e, hb, this⟩
end Go.Proofs.YtakbpjgnjfigcaaGreat

/- Rows within a row of one's own. Over any program. -/
namespace Go.Proofs.YtakbpjgnjfigcaaGreat
open Go.RowKit

theorem grown_below {W W' : World} {n : Nat} {row : Option Nat} (hg : W.grownBy W' row) (hn : n ≤ W.heap.size) (hr : ∀ k, row = some k → n ≤ k) : Below n W W' := (Below.refl n W).grown hg hn hr
theorem own_upto {base e size n : Nat} {v : Value} {xs : List Value} {W W' : World} (h : W.ownsRow base e size v n xs) (hb : ∀ b, v.ownBlock = some b → W'.heap[b]? = W.heap[b]?) : W'.ownsRow base e size v n xs := by
  refine ⟨h.1, ?_⟩
  rcases h.2 with hn | ⟨g, cap, cur, rfl, hb0, hg, r⟩
  · exact .inl hn
  · exact .inr ⟨g, cap, cur, rfl, hb0, (hb g rfl).trans hg, r⟩
section
variable {α : Type} {E : Elt α} {T t : Nat}
def Sv.val (s : Sv) : Value := .slice s.addr s.len s.cap
/-- v is a slice of one's own whose elements are slices of one's own that hold the lists R, each in a block of its own. -/
structure Tbl (E : Elt α) (T t : Nat) (V : World) (base : Nat) (v : Value) (ss : List Sv) (R : List (List α)) : Prop where
  out : V.ownsRow base T 1 v ss.length (svE.all ss)
  len : ss.length = R.length
  row : ∀ i (h : i < R.length) (h' : i < ss.length), V.ownsRow base t E.size ss[i].val R[i].length (E.all R[i])
  off : ∀ i (h : i < ss.length) b, ss[i].val.ownBlock = some b → v.ownBlock ≠ some b
  apart : ∀ i j (h : i < ss.length) (h' : j < ss.length) b, i ≠ j → ss[i].val.ownBlock = some b → ss[j].val.ownBlock ≠ some b
variable {V V' : World} {base : Nat} {v : Value} {ss : List Sv} {R : List (List α)}
theorem Tbl.nil : Tbl E T t V base (.slice none 0 0) [] [] := ⟨World.ownsRow_nil _ _ _ _, rfl, fun i h => absurd h (by simp), fun i h => absurd h (by simp), fun i j h => absurd h (by simp)⟩
theorem Tbl.lt (h : Tbl E T t V base v ss R) {i : Nat} (hi : i < ss.length) {b : Nat} (e : ss[i].val.ownBlock = some b) : base ≤ b ∧ b < V.heap.size := (h.row i (by rw [← h.len]; exact hi) hi).lt b e
theorem Tbl.upto (h : Tbl E T t V base v ss R) (hb : ∀ b, base ≤ b → b < V.heap.size → V'.heap[b]? = V.heap[b]?) : Tbl E T t V' base v ss R :=
  ⟨own_upto h.out fun b e => hb b (h.out.lt b e).1 (h.out.lt b e).2, h.len, fun i h1 h2 => own_upto (h.row i h1 h2) fun b e => hb b (h.lt h2 e).1 (h.lt h2 e).2, h.off, h.apart⟩
theorem Tbl.up (hb : Below V.heap.size V V') (h : Tbl E T t V base v ss R) : Tbl E T t V' base v ss R := h.upto fun b _ h2 => hb.block b h2
instance : UpF V V' (Tbl E T t V base v ss R) (Tbl E T t V' base v ss R) := ⟨fun h c => Tbl.up h c⟩
theorem Tbl.alloc (h : Tbl E T t V base v ss R) (o : Obj) : Tbl E T t (V.alloc o) base v ss R := h.upto fun b _ h2 => heap_alloc_old V o h2
/-- Row i has become L. -/
theorem Tbl.set (h : Tbl E T t V base v ss R) {i : Nat} (hi : i < ss.length) {L : List α} (hg : V.grownBy V' ss[i].val.ownBlock) (ho : V'.ownsRow base t E.size ss[i].val L.length (E.all L)) : Tbl E T t V' base v ss (R.set i L) := by
  refine ⟨own_upto h.out fun b e => hg.block b (h.out.lt b e).2 fun e2 => h.off i hi b e2.symm e, by rw [List.length_set]; exact h.len, fun j h1 h2 => ?_, h.off, h.apart⟩
  by_cases hij : i = j
  · subst hij
    rw [show (R.set i L)[i] = L by simp]
    exact ho
  · have h3 : j < R.length := by rw [List.length_set] at h1; exact h1
    rw [show (R.set i L)[j] = R[j] by simp [hij]]
    exact own_upto (h.row j h3 h2) fun b e => hg.block b (h.lt h2 e).2 fun e2 => h.apart j i h2 hi b (fun e3 => hij e3.symm) e e2.symm
/-- Place i of the outer row has become another slice. -/
theorem Tbl.put (h : Tbl E T t V base v ss R) {i : Nat} (hi : i < ss.length) {x : Sv} {L : List α} (hg : V.grownBy V' v.ownBlock) (ho : V'.ownsRow base T 1 v ss.length ((svE.all ss).set i x.val))
    (hx : V.ownsRow base t E.size x.val L.length (E.all L)) (hv : ∀ b, x.val.ownBlock = some b → v.ownBlock ≠ some b) (ha : ∀ b, x.val.ownBlock = some b → ∀ j (h' : j < ss.length), ss[j].val.ownBlock ≠ some b) : Tbl E T t V' base v (ss.set i x) (R.set i L) := by
  have hl : (ss.set i x).length = ss.length := List.length_set
  have hat : ∀ j (h1 : j < (ss.set i x).length) (h2 : j < ss.length), i ≠ j → (ss.set i x)[j] = ss[j] := fun j h1 h2 hij => by simp [hij]
  have hai : ∀ (h1 : i < (ss.set i x).length), (ss.set i x)[i] = x := fun h1 => by simp
  have hval : ∀ (l : List Sv) i, (svE.all l).set i x.val = svE.all (l.set i x) := fun l => by
    induction l with
    | nil => intro i; rfl
    | cons a l ih =>
      intro i
      cases i with
      | zero => rfl
      | succ i =>
        have h3 := ih i
        show List.set (a.val :: svE.all l) (i + 1) x.val = a.val :: svE.all (l.set i x)
        rw [List.set_cons_succ, h3]
  refine ⟨by rw [hl, ← hval]; exact ho, by rw [hl, List.length_set]; exact h.len, fun j h1 h2 => ?_, fun j h1 b e => ?_, fun j j' h1 h2 b hjj e => ?_⟩
  · have h3 : j < R.length := by rw [List.length_set] at h1; exact h1
    have h4 : j < ss.length := by rw [hl] at h2; exact h2
    by_cases hij : i = j
    · subst hij
      rw [hai h2, show (R.set i L)[i] = L by simp]
      exact own_upto hx fun b e => hg.block b (hx.lt b e).2 fun e2 => hv b e e2.symm
    · rw [hat j h2 h4 hij, show (R.set i L)[j] = R[j] by simp [hij]]
      exact own_upto (h.row j h3 h4) fun b e => hg.block b (h.lt h4 e).2 fun e2 => h.off j h4 b e e2.symm
  · have h4 : j < ss.length := by rw [hl] at h1; exact h1
    by_cases hij : i = j
    · subst hij; rw [hai h1] at e; exact hv b e
    · rw [hat j h1 h4 hij] at e; exact h.off j h4 b e
  · have h4 : j < ss.length := by rw [hl] at h1; exact h1
    have h5 : j' < ss.length := by rw [hl] at h2; exact h2
    by_cases hij : i = j
    · subst hij
      rw [hai h1] at e
      rw [hat j' h2 h5 hjj]
      exact ha b e j' h5
    · rw [hat j h1 h4 hij] at e
      by_cases hij' : i = j'
      · subst hij'
        rw [hai h2]
        exact fun e2 => ha b e2 j h4 e
      · rw [hat j' h2 h5 hij']
        exact h.apart j j' h4 h5 b hjj e
/-- A reader's view. -/
theorem Tbl.view {s : Option Addr} {cap : Nat} (h : Tbl E T t V base (.slice s ss.length cap) ss R) : SlSS E V s R := by
  refine ⟨ss, SlS.of_own (E := svE) h.out, h.len, fun i h1 h2 => ?_⟩
  have h3 := h.row i h1 h2
  obtain ⟨s', c', e, _⟩ := owns_shape h3
  simp only [Sv.val, Value.slice.injEq] at e
  obtain ⟨e1, e2, e3⟩ := e
  have h4 : V.ownsRow base t E.size (.slice ss[i].addr R[i].length ss[i].cap) R[i].length (E.all R[i]) := by
    rw [← e2]; rw [← e2] at h3; exact h3
  refine ⟨e2, SlS.of_own h4, owns_cap h4, ?_⟩
  rcases h4.2 with ⟨h5, h6⟩ | ⟨g, c, cur, h5, _, _, h6, _⟩
  · omega
  · simp only [Value.slice.injEq] at h5
    rw [h5.2.2]; exact h6
end
end Go.Proofs.YtakbpjgnjfigcaaGreat

/- Slices that are only read, their headers in a list of one's own. Over any program. -/
namespace Go.Proofs.YtakbpjgnjfigcaaGreat
open Go.RowKit

theorem own_cap {w : World} {base e size n cap : Nat} {s : Option Addr} {xs : List Value} (h : w.ownsRow base e size (.slice s n cap) n xs) : n ≤ cap ∧ (s = none → cap = 0) := by
  rcases h.2 with ⟨h1, h2⟩ | ⟨g, c, cur, h1, _, _, h2, _⟩
  · simp only [Value.slice.injEq] at h1
    obtain ⟨rfl, _, rfl⟩ := h1
    exact ⟨by omega, fun _ => rfl⟩
  · simp only [Value.slice.injEq] at h1
    obtain ⟨rfl, _, rfl⟩ := h1
    exact ⟨h2, fun e => by cases e⟩
section
variable {α : Type} {E : Elt α}
theorem SlS.block {W W' : World} {s : Option Addr} {l : List α} (c : SlS E W s l) (hs : W.heap.size ≤ W'.heap.size) (h : ∀ b o, s = some ⟨b, o, none⟩ → b < W.heap.size → W'.heap[b]? = W.heap[b]?) : SlS E W' s l := by
  rcases c with c | ⟨b, off, e, hb, c⟩
  · exact .inl c
  · refine .inr ⟨b, off, e, by omega, fun j u hj => ?_⟩
    have h2 := c j u hj
    rw [World.cell?_of_block (a := ⟨b, off + j, none⟩) (h b off e hb)]
    exact h2
/-- The slices ss hold the lists K; none of them lies in the block of v. -/
structure Inn (E : Elt α) (W : World) (v : Value) (ss : List Sv) (K : List (List α)) : Prop where
  len : ss.length = K.length
  row : ∀ i (h : i < K.length) (h' : i < ss.length), ss[i].len = K[i].length ∧ SlS E W ss[i].addr K[i] ∧ (ss[i].addr = none → ss[i].cap = 0) ∧ K[i].length ≤ ss[i].cap
  apart : ∀ x ∈ ss, ∀ b o, x.addr = some ⟨b, o, none⟩ → b < W.heap.size ∧ v.ownBlock ≠ some b
theorem Inn.nil {W : World} {v : Value} : Inn E W v [] [] := ⟨rfl, fun i h => absurd h (by simp), fun x hx => by simp at hx⟩
theorem Inn.up {W W' : World} {v : Value} {ss : List Sv} {K : List (List α)} (hb : Below W.heap.size W W') (h : Inn E W v ss K) : Inn E W' v ss K :=
  ⟨h.len, fun i h1 h2 => ⟨(h.row i h1 h2).1, (h.row i h1 h2).2.1.up hb, (h.row i h1 h2).2.2⟩, fun x hx b o e => ⟨Nat.lt_of_lt_of_le (h.apart x hx b o e).1 hb.size, (h.apart x hx b o e).2⟩⟩
instance {W W' : World} {v : Value} {ss : List Sv} {K : List (List α)} : UpF W W' (Inn E W v ss K) (Inn E W' v ss K) := ⟨fun h c => Inn.up h c⟩
theorem Inn.push {W W' : World} {v v' : Value} {ss : List Sv} {K : List (List α)} (h : Inn E W v ss K) (hg : W.grownBy W' v.ownBlock) (hat : v'.ownBlock = v.ownBlock ∨ v'.ownBlock = some W.heap.size)
    {s : Option Addr} {cap : Nat} {l : List α} (c : SlS E W s l) (hn : s = none → cap = 0) (hc : l.length ≤ cap) (ha : ∀ b o, s = some ⟨b, o, none⟩ → b < W.heap.size ∧ v.ownBlock ≠ some b) : Inn E W' v' (ss ++ [⟨s, l.length, cap⟩]) (K ++ [l]) := by
  have hap : ∀ x ∈ ss ++ [(⟨s, l.length, cap⟩ : Sv)], ∀ b o, x.addr = some ⟨b, o, none⟩ → b < W.heap.size ∧ v.ownBlock ≠ some b := fun x hx b o e => by
    rcases List.mem_append.1 hx with hx | hx
    · exact h.apart x hx b o e
    · obtain rfl := List.mem_singleton.1 hx
      exact ha b o e
  have hrow : ∀ i (h1 : i < (K ++ [l]).length) (h2 : i < (ss ++ [(⟨s, l.length, cap⟩ : Sv)]).length), (ss ++ [(⟨s, l.length, cap⟩ : Sv)])[i].len = (K ++ [l])[i].length ∧ SlS E W (ss ++ [(⟨s, l.length, cap⟩ : Sv)])[i].addr (K ++ [l])[i] ∧ ((ss ++ [(⟨s, l.length, cap⟩ : Sv)])[i].addr = none → (ss ++ [(⟨s, l.length, cap⟩ : Sv)])[i].cap = 0) ∧ (K ++ [l])[i].length ≤ (ss ++ [(⟨s, l.length, cap⟩ : Sv)])[i].cap := fun i h1 h2 => by
    by_cases hi : i < K.length
    · have hi2 : i < ss.length := by rw [h.len]; exact hi
      have e1 := List.getElem_append_left (bs := [l]) (h' := h1) hi
      have e2 := List.getElem_append_left (bs := [(⟨s, l.length, cap⟩ : Sv)]) (h' := h2) hi2
      rw [e1, e2]
      exact h.row i hi hi2
    · have hiK : i = K.length := by simp at h1; omega
      subst hiK
      have e1 : (K ++ [l])[K.length] = l := by simp
      have e2 : (ss ++ [(⟨s, l.length, cap⟩ : Sv)])[K.length] = ⟨s, l.length, cap⟩ := by simp [← h.len]
      rw [e1, e2]
      exact ⟨rfl, c, hn, hc⟩
  refine ⟨by simp [h.len], fun i h1 h2 => ?_, fun x hx b o e => ?_⟩
  · obtain ⟨r1, r2, r3⟩ := hrow i h1 h2
    exact ⟨r1, r2.block hg.size fun b o e hb => hg.block b hb (fun e2 => (hap _ (List.getElem_mem h2) b o e).2 e2.symm), r3⟩
  · obtain ⟨h1, h2⟩ := hap x hx b o e
    refine ⟨Nat.lt_of_lt_of_le h1 hg.size, fun e2 => ?_⟩
    rcases hat with h3 | h3
    · exact h2 (h3.symm.trans e2)
    · rw [h3] at e2; injection e2 with e2; omega
end
theorem Inn.view {α : Type} {E : Elt α} {W : World} {base e cap : Nat} {s : Option Addr} {ss : List Sv} {K : List (List α)} (h : Inn E W (.slice s ss.length cap) ss K) (ho : W.ownsRow base e 1 (.slice s ss.length cap) ss.length (svE.all ss)) : SlSS E W s K :=
  ⟨ss, SlS.of_own (E := svE) ho, h.len, fun i h1 h2 => h.row i h1 h2⟩
theorem own_ex {w : World} {base e size n cap : Nat} {s : Option Addr} {xs : List Value} (h : w.ownsRow base e size (.slice s n cap) n xs) (hn : 0 < n) : ∃ g, s = some ⟨g, 0, none⟩ ∧ base ≤ g ∧ g < w.heap.size := by
  obtain ⟨s', cap', he, hs⟩ := owns_shape h
  simp only [Value.slice.injEq] at he
  obtain ⟨rfl, _, rfl⟩ := he
  rcases hs with ⟨h0, _⟩ | hs
  · omega
  · exact hs
theorem svE_snoc (ss : List Sv) (x : Sv) : svE.all (ss ++ [x]) = svE.all ss ++ [.slice x.addr x.len x.cap] := by simp [Elt.all, svE]
theorem meas {k n : Nat} (h : k < n) : n - (intOf (.int .i64 ((k : Int) + 1))).toNat < n - (intOf (.int .i64 (k : Int))).toNat := by simp [intOf]; omega
theorem i64_small {n : Int} (h : -9223372036854775808 ≤ n ∧ n ≤ 9223372036854775807) : IntKind.i64.wrap n = n := by rw [IntKind.wrap_i64]; omega
theorem Row.two {W : World} {b t : Nat} {x y : Value} (h : Row W b t #[x, y]) : W.cell? ⟨b, 0, none⟩ = some x ∧ W.cell? ⟨b, 1, none⟩ = some y := ⟨h.cell rfl, h.cell rfl⟩
theorem any_not {α : Type} (pr : α → Bool) (l : List α) : (!l.any fun x => !pr x) = l.all pr := by
  induction l with
  | nil => rfl
  | cons x l ih => simp only [List.any_cons, List.all_cons, Bool.not_or, Bool.not_not, ih]
/-- Numbers in memory. -/
structure Ints (w : World) (s : Option Addr) (l : List Int) : Prop where
  sl : SlS intE w s l
  len : l.length ≤ 9223372036854775807
instance {W W' : World} {s : Option Addr} {l : List Int} : UpF W W' (Ints W s l) (Ints W' s l) := ⟨fun h c => ⟨c.sl.up h, c.len⟩⟩
theorem SlS.bool_at {w : World} {s : Option Addr} {l : List Bool} (c : SlS boolE w s l) {i : Nat} (h : i < l.length) : ∃ b off, s = some ⟨b, off, none⟩ ∧ b < w.heap.size ∧ w.cell? ⟨b, off + i, none⟩ = some (.bool l[i]) := by
  obtain ⟨b, off, e, hb, hc⟩ := c.at h
  have := hc 0 _ rfl
  simp only [boolE, Nat.mul_one, Nat.add_zero] at this
  exact ⟨b, off, e, hb, this⟩
end Go.Proofs.YtakbpjgnjfigcaaGreat

/- A drawn region with one operation that waits for its loads (a store at its end): what the loads read need hold only till that operation. Over any program. -/
namespace Go.Proofs.YtakbpjgnjfigcaaGreat

section
variable {P : Program} {ops : Array Oper} {Q : Exit → Act → World → Prop} {md : Region.Mode} {S : World → Prop} {m : Nat}
/-- Whatever order comes, and S is true behind each operation as long as number m has not come. -/
def wpL (P : Program) (md : Region.Mode) (ops : Array Oper) (Q : Exit → Act → World → Prop) (m : Nat) (S : World → Prop) : Nat → Array Bool → Act → World → Prop
  | 0, L, a, w => Region.ready md ops L = [] ∧ Q .normal a w
  | f + 1, L, a, w => (Region.ready md ops L = [] → Q .normal a w) ∧
    ∀ i ∈ Region.ready md ops L, wpOp P ops Q i (fun a' w' => ((L.setIfInBounds i true).getD m true = false → S w') ∧ wpL P md ops Q m S f (L.setIfInBounds i true) a' w') a w
theorem wpL.any : ∀ (f : Nat) (L : Array Bool) (a : Act) (w : World), wpL P md ops Q m S f L a w → wpAny P md ops Q f L a w
  | 0, _, _, _, h => h
  | f + 1, _, _, _, h => ⟨h.1, fun i hi => wpOp_mono (fun a' w' h' => wpL.any f _ a' w' h'.2) (h.2 i hi)⟩
theorem wpL.region {id : Nat} {a : Act} {w : World} (hm : P.follows .mixedOrders = true) (hS : S w.drew)
    (h : S w.drew → wpL P .any ops Q m S ops.size (Array.replicate ops.size false) a w.drew) : (Code.region id ops true).wp P Q a w :=
  wp_region_any hm (wpL.any _ _ _ _ (h hS))
theorem wpL.fin {L : Array Bool} {a : Act} {w : World} (hr : Region.ready md ops L = []) (h : Q .normal a w) : ∀ f, wpL P md ops Q m S f L a w
  | 0 => ⟨hr, h⟩
  | _ + 1 => ⟨fun _ => h, by rw [hr]; simp⟩
theorem wpL.one0 {i f : Nat} {L : Array Bool} {a : Act} {w : World} (hr : Region.ready md ops L = [i])
    (h : wpOp P ops Q i (fun a' w' => ((L.setIfInBounds i true).getD m true = false → S w') ∧ wpL P md ops Q m S f (L.setIfInBounds i true) a' w') a w) : wpL P md ops Q m S (f + 1) L a w :=
  ⟨fun h0 => (by rw [hr] at h0; simp at h0), fun j hj => (by rw [hr] at hj; simp at hj; subst hj; exact h)⟩
/-- Just one operation may come up: it comes up; S is to be shown anew. -/
theorem wpL.one {i f : Nat} {o : Oper} {L : Array Bool} {a : Act} {w : World} (hr : Region.ready md ops L = [i]) (ho : ops.toList[i]? = some o)
    (h : ∀ K' : Act → World → Prop, Shut (∀ a w, S w → (S w → wpL P md ops Q m S f (L.setIfInBounds i true) a w) → K' a w) → if Region.wanted o (yielded ops a.tmps) = true then Oper.wp P o a w K' Q else K' (a.put o.dst undef) w) : wpL P md ops Q m S (f + 1) L a w :=
  wpL.one0 hr (wpOp_step (by simpa using ho) fun K' hK => h K' (fun a w hS hW => hK a w ⟨fun _ => hS, hW hS⟩))
/-- Just number m may come up: it comes up. -/
theorem wpL.last {f : Nat} {o : Oper} {L : Array Bool} {a : Act} {w : World} (hr : Region.ready md ops L = [m]) (hd : (L.setIfInBounds m true).getD m true = true) (ho : ops.toList[m]? = some o)
    (h : ∀ K' : Act → World → Prop, Shut (∀ a w, wpL P md ops Q m S f (L.setIfInBounds m true) a w → K' a w) → if Region.wanted o (yielded ops a.tmps) = true then Oper.wp P o a w K' Q else K' (a.put o.dst undef) w) : wpL P md ops Q m S (f + 1) L a w :=
  wpL.one0 hr (wpOp_step (by simpa using ho) fun K' hK => h K' (fun a w hW => hK a w ⟨fun h0 => (by rw [hd] at h0; cases h0), hW⟩))
/-- Number m waits for number i. -/
def waits (md : Region.Mode) (ops : Array Oper) (m i : Nat) : Bool := match ops[m]? with
  | some o => o.after.any fun e => Region.binds md e && e.on == i
  | none => false
theorem wpL.first {i : Nat} {oi : Oper} {v : Value} (hi : ops[i]? = some oi) (hsel : ∀ (j : Nat) (o : Oper) cs b, ops[j]? = some o → o.op ≠ .select cs b)
    (hQ : ∀ c a w, Q (.panic c) (a.put oi.dst v) w → Q (.panic c) a w) (hmi : waits md ops m i = true) (hne : m ≠ i) :
    ∀ (f : Nat) (L : Array Bool) (a : Act) (w : World),
      (∀ j oj, ops[j]? = some oj → j ≠ i → L.getD j true = false → (∀ e ∈ oj.after, Region.binds md e = true → e.on ≠ i) → oi.apart ops oj = true) →
      i ∈ Region.ready md ops L → L.getD m true = false → YieldsIf P ops S oi v a → S w →
      wpL P md ops Q m S f (L.setIfInBounds i true) (a.put oi.dst v) w → wpL P md ops Q m S (f + 1) L a w := by
  have me : ∀ {L : Array Bool} {j : Nat}, i ∈ Region.ready md ops L → j ∈ Region.ready md ops L → j ≠ i → j ≠ m := by
    rintro L j h1 h2 hji rfl
    obtain ⟨-, o, ho, hall⟩ := mem_ready.1 h2
    simp only [waits, ho, Array.any_eq_true, Bool.and_eq_true, beq_iff_eq] at hmi
    obtain ⟨k, hk, hb, he⟩ := hmi
    have h3 := hall _ (Array.getElem_mem hk) hb
    rw [he] at h3
    have h0 := (mem_ready.1 h1).1
    rcases Nat.lt_or_ge i L.size with h' | h'
    · simp [h'] at h0 h3; rw [h0] at h3; cases h3
    · simp [Array.getElem?_eq_none h'] at h3
  intro f
  induction f with
  | zero =>
    intro L a w _ hr _ hy hS H
    refine ⟨fun h => (by rw [h] at hr; cases hr), fun j hj => ?_⟩
    by_cases hji : j = i
    · subst hji; exact hy.wpOp hi hS ⟨fun _ => hS, H⟩
    · have h1 := ready_mono hj hji
      rw [H.1] at h1; cases h1
  | succ f ih =>
    intro L a w hfree hr hL hy hS H
    refine ⟨fun h => (by rw [h] at hr; cases hr), fun j hj => ?_⟩
    by_cases hji : j = i
    · subst hji; exact hy.wpOp hi hS ⟨fun _ => hS, H⟩
    have hjm := me hr hj hji
    have hstep := H.2 j (ready_mono hj hji)
    obtain ⟨hjun, oj, hoj, hall⟩ := mem_ready.1 hj
    have hnot : ∀ e ∈ oj.after, Region.binds md e = true → e.on ≠ i := fun e he hb heq => by
      have h1 := hall e he hb
      have h0 := (mem_ready.1 hr).1
      rw [heq] at h1
      rcases Nat.lt_or_ge i L.size with h' | h'
      · simp [h'] at h0 h1; rw [h0] at h1; cases h1
      · simp [Array.getElem?_eq_none h'] at h1
    have h2 := wpOp_putIf hoj (hfree j oj hoj hji hjun hnot) (fun cs b => hsel i oi cs b hi) (fun cs b => hsel j oj cs b hoj) hQ hy hstep
    have hLj : (L.setIfInBounds j true).getD m true = false := by rw [getD_set_ne true hjm]; exact hL
    refine wpOp_mono (fun a' w' h3 => ?_) h2
    have hSw : S w' := h3.2.1 (by rw [getD_set_ne true hjm, getD_set_ne true (Ne.symm hne)]; exact hL)
    refine ⟨fun _ => hSw, ih (L.setIfInBounds j true) a' w' ?_ (ready_mono hr (Ne.symm hji)) hLj h3.1 hSw ?_⟩
    · intro k ok hk hki hun hno
      refine hfree k ok hk hki ?_ hno
      by_cases hjk : j = k
      · subst hjk; exact hjun
      · rw [getD_set_ne true hjk] at hun; exact hun
    · rw [Array.setIfInBounds_comm _ _ hji]; exact h3.2.2
theorem wpL.take {i : Nat} {oi : Oper} {v : Value} {f : Nat} {L : Array Bool} {a : Act} {w : World} (hi0 : ops.toList[i]? = some oi)
    (hs : Region.noSelect ops = true) (hf : Region.free md ops L i = true) (hr : (Region.ready md ops L).contains i = true) (hmi : waits md ops m i = true) (hne : m ≠ i) (hL : L.getD m true = false)
    (hQ : ∀ c a w, Q (.panic c) (a.put oi.dst v) w → Q (.panic c) a w) (hy : YieldsIf P ops S oi v a) (hS : S w)
    (h : wpL P md ops Q m S f (L.setIfInBounds i true) (a.put oi.dst v) w) : wpL P md ops Q m S (f + 1) L a w :=
  have hi : ops[i]? = some oi := by simpa using hi0
  wpL.first hi (Region.noSelect_spec hs) hQ hmi hne f L a w (Region.free_spec hi hf) (by simpa using hr) hL hy hS h
theorem wpL.take' {i : Nat} {oi : Oper} {f : Nat} {L : Array Bool} {a : Act} {w : World} (hi0 : ops.toList[i]? = some oi)
    (hs : Region.noSelect ops = true) (hf : Region.free md ops L i = true) (hr : (Region.ready md ops L).contains i = true) (hmi : waits md ops m i = true) (hne : m ≠ i) (hL : L.getD m true = false) (hS : S w)
    (h : ∃ v, (∀ c a w, Q (.panic c) (a.put oi.dst v) w → Q (.panic c) a w) ∧ YieldsIf P ops S oi v a ∧ wpL P md ops Q m S f (L.setIfInBounds i true) (a.put oi.dst v) w) : wpL P md ops Q m S (f + 1) L a w := by
  obtain ⟨v, h1, h2, h3⟩ := h
  exact wpL.take hi0 hs hf hr hmi hne hL h1 h2 hS h3
end
end Go.Proofs.YtakbpjgnjfigcaaGreat

/- Drawn regions whose loads come first: lemmas over any program; two operations may come up, in either order. -/
namespace Go.Proofs.YtakbpjgnjfigcaaGreat
open Go.RowKit

theorem cell_set {W : World} {a p : Addr} {u v : Value} (hne : p.block ≠ a.block) (h : W.cell? p = some v) : (W.setCell a u).cell? p = some v := by
  rw [← h]; exact World.cell?_of_block (Below.heap_setCell W a u p.block hne)
theorem cell_drew {W : World} {p : Addr} {v : Value} (h : W.cell? p = some v) : W.drew.cell? p = some v := h
theorem cell_alloc {W : World} {p : Addr} {v : Value} (h : W.cell? p = some v) (o : Obj) : (W.alloc o).cell? p = some v := Up.cell ((Below.refl _ _).alloc (Nat.le_refl _) o) h
theorem frozB {n : Nat} {W W' : World} (h : Below n W W') : ∀ b o, b < n → W'.frozen? ⟨b, o, none⟩ = W.frozen? ⟨b, o, none⟩ := fun b o k => h.frozen (p := ⟨b, o, none⟩) k
theorem below_alloc_lt {W N : World} {o : Obj} (h : Below (W.alloc o).heap.size (W.alloc o) N) : W.heap.size < N.heap.size := by have := h.size; simp at this; omega
theorem new_up {W N : World} {t : Nat} {arr : Array Value} (h : Below (W.alloc (.cells arr t)).heap.size (W.alloc (.cells arr t)) N) : Row N W.heap.size t arr := Up.block h (Row.new W t arr)
theorem calls_below {P : Program} {f : FuncId} {args : Array Value} {w W0 : World} {R : Ending → World → Prop} (hpre : Below W0.heap.size W0 w) (h : Below W0.heap.size W0 w → Calls P f args w R) : Calls P f args w R := h hpre
theorem RowG.new {W : World} {t : Nat} {arr : Array Value} {g : Array Value → Prop} (k : g arr) : RowG (W.alloc (.cells arr t)) W.heap.size t g := ⟨arr, Row.new W t arr, k⟩
theorem drewB {W Z : World} (h : Below W.drew.heap.size W.drew Z) : Below W.heap.size W Z := ⟨h.os, h.tape, h.output, h.size, h.block⟩
theorem exit_world {K : Act → World → Prop} {Q : Exit → Act → World → Prop} {e : Exit} {a : Act} {w : World} (h : ∀ W, Hid (W = w) → Exit.then K Q e a W) : Exit.then K Q e a w := h w rfl
theorem Chg.drew {p : Nat → Prop} {A W : World} (h : Chg p A W) : Chg p A W.drew := ⟨h.os, h.tape, h.output, h.size, h.block, ⟨h.size, h.others.same⟩⟩
theorem Chg.alloc {p : Nat → Prop} {A W : World} (h : Chg p A W) (o : Obj) : Chg p A (W.alloc o) := h.trans (Chg.of_below ((Below.refl _ _).alloc (Nat.le_refl _) o))
theorem grown_keep {W w1 : World} {o : Obj} {v x : Value} {a : Addr} {B : Nat} (hg : (W.alloc o).grownBy w1 v.ownBlock) (hne : ∀ k, v.ownBlock = some k → k < B) (hB : B ≤ a.block) (c : W.cell? a = some x) : w1.cell? a = some x := by
  have hl := World.block_lt_of_cell? W _ c
  rw [hg.cell_far a (by simp; omega) (fun e => by have := hne _ e.symm; omega)]
  exact cell_alloc c o
theorem grown_keep0 {W w1 : World} {v x : Value} {a : Addr} {B : Nat} (hg : W.grownBy w1 v.ownBlock) (hne : ∀ k, v.ownBlock = some k → B ≤ k) (hB : a.block < B) (c : W.cell? a = some x) : w1.cell? a = some x := by
  have hl := World.block_lt_of_cell? W _ c
  rw [hg.cell_far a hl (fun e => by have := hne _ e.symm; omega)]
  exact c
theorem grown_row {W w1 : World} {o : Obj} {v : Value} {B e size n : Nat} {xs : List Value} (hg : (W.alloc o).grownBy w1 v.ownBlock) (hown : W.ownsRow B e size v n xs) {b t : Nat} {arr : Array Value} (hb : b < B) (r : Row W b t arr) : Row w1 b t arr := by
  refine (hg.block b (by simp; have := r.lt; omega) (fun e => ?_)).trans (r.alloc o)
  have := (hown.lt b e.symm).1; omega
theorem owns_built2 (W : World) (o : Obj) (t size : Nat) : ((W.alloc o).alloc (.cells #[] t)).ownsRow (W.heap.size + 1) t size (.slice (some ⟨W.heap.size + 1, 0, none⟩) 0 0) 0 [] := by
  have h := owns_built (W.alloc o) t size
  simpa using h
theorem grown_rowN {V w1 : World} {v : Value} {b t : Nat} {arr : Array Value} (hg : V.grownBy w1 v.ownBlock) (r : Row V b t arr) (hne : v.ownBlock ≠ some b) : Row w1 b t arr :=
  (hg.block b r.lt (fun e => hne e.symm)).trans r
/-- A whole slice, nil or not, is appended, at a step of a drawn region. -/
theorem step_append_sl {P : Program} {w : World} {α : Type} (E : Elt α) {ops : Array Oper} {o : Oper} {a : Act} {K : Act → World → Prop} {Q : Exit → Act → World → Prop} {Els : Prop} (hgd : o.guard = none) (s x : Operand) (t : TypeId)
    (ho : o.op = .call { callee := .builtin .append, args := #[s, x], argTypes := #[t, t] })
    (base : Nat) (e : TypeId) (i : TypeInfo) (z : Value) (bytes : Nat) (ht : P.underlying t = some (.slice e)) (hi : P.info? e = some i) (hz : i.zero = some z)
    (hsize : i.size = E.size) (hby : i.bytes = bytes) (hzs : z.cells.size = E.size)
    (v : Value) (n : Nat) (xs : List Value) (hs : a.eval s = v) (hown : w.ownsRow base e E.size v n xs)
    (sx : Option Addr) (c : Nat) (l : List α) (hx : a.eval x = .slice sx l.length c) (hl : SlS E w sx l) (hc : sx = none → c = 0)
    (h63 : n + l.length ≤ maxLen) (hbytes : (n + l.length) * bytes ≤ 140737488355328) (hbase : base ≤ w.heap.size)
    (h : ∀ v' w', w'.ownsRow base e E.size v' (n + l.length) (xs ++ E.all l) → w.grownBy w' v.ownBlock → K (a.put o.dst v') w') : if Region.wanted o (yielded ops a.tmps) = true then Oper.wp P o a w K Q else Els := by
  have hw : Region.wanted o (yielded ops a.tmps) = true := by simp [Region.wanted, hgd]
  rw [if_pos hw]
  cases sx with
  | none =>
    obtain rfl := hl.none_nil
    obtain rfl := hc rfl
    have hrun := run_append_owned_none (P := P) (w := w) base t o.type e i E.size ht hi v n xs hown
    have hx' : a.eval x = .slice none 0 0 := hx
    unfold Oper.wp
    simp [execOp, ho, resolve, invoke, builtin, hs, hx', hrun, Result.andThen]
    exact h v w (by simpa [Elt.all_nil] using hown) ⟨rfl, rfl, rfl, Nat.le_refl _, fun _ _ _ => rfl⟩
  | some ad =>
    exact wp_append_own w s x t ho base e i z E.size bytes ht hi hz hsize hby hzs E.pos v n xs hs hown ad l.length c (E.all l) hx (E.all_len l) (SlS.news hl) (E.all_one l) h63 hbytes hbase (fun v' w' h2 h3 _ => h v' w' h2 h3)
section
variable {P : Program} {ops : Array Oper} {Q : Exit → Act → World → Prop} {md : Region.Mode} {S : World → Prop} {m : Nat}
/-- Just two operations may come up: either comes up; S is to be shown anew. -/
theorem wpL.two {i j f : Nat} {o u : Oper} {L : Array Bool} {a : Act} {w : World} (hr : Region.ready md ops L = [i, j]) (ho : ops.toList[i]? = some o) (hu : ops.toList[j]? = some u)
    (h : ∀ K' : Act → World → Prop, Shut (∀ a w, S w → (S w → wpL P md ops Q m S f (L.setIfInBounds i true) a w) → K' a w) → if Region.wanted o (yielded ops a.tmps) = true then Oper.wp P o a w K' Q else K' (a.put o.dst undef) w)
    (g : ∀ K' : Act → World → Prop, Shut (∀ a w, S w → (S w → wpL P md ops Q m S f (L.setIfInBounds j true) a w) → K' a w) → if Region.wanted u (yielded ops a.tmps) = true then Oper.wp P u a w K' Q else K' (a.put u.dst undef) w) : wpL P md ops Q m S (f + 1) L a w :=
  ⟨fun h0 => (by rw [hr] at h0; simp at h0), fun k hk => (by
    rw [hr] at hk
    simp only [List.mem_cons, List.not_mem_nil, or_false] at hk
    rcases hk with rfl | rfl
    · exact wpOp_step (by simpa using ho) fun K' hK => h K' (fun a w hS hW => hK a w ⟨fun _ => hS, hW hS⟩)
    · exact wpOp_step (by simpa using hu) fun K' hK => g K' (fun a w hS hW => hK a w ⟨fun _ => hS, hW hS⟩))⟩
end
end Go.Proofs.YtakbpjgnjfigcaaGreat
