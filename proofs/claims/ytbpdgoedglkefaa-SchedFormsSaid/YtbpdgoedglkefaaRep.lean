/- Slices of elements, generically; over any program. -/
import Derived.Test.YtbpdgoedglkefaaAuto
import Derived.Deep.Cut
import Derived.Deep.DeepMust
import Derived.Lib.AppendZerosOnto
import Derived.Lib.SliceRun
import Derived.Laws.AppendOwnNone
namespace Go.Proofs.Ytbpdgoedglkefaa
open Go.RowKit

theorem RowG.new' {W : World} {b t : Nat} {arr : Array Value} {g : Array Value → Prop} (hb : b = W.heap.size) (k : g arr) : RowG (W.alloc (.cells arr t)) b t g := by subst hb; exact ⟨arr, Row.new W t arr, k⟩
/-- How an element lies in cells. -/
structure Elt (α : Type) where
  size : Nat
  cells : α → List Value
  pos : 0 < size
  len : ∀ x, (cells x).length = size
  one : ∀ x, ∀ u ∈ cells x, u.oneCell' = true
namespace Elt
variable {α : Type} (E : Elt α)
def all (l : List α) : List Value := l.flatMap E.cells
theorem all_len (l : List α) : (E.all l).length = l.length * E.size := flat_len _ _ E.len l
theorem all_at (l : List α) (i j : Nat) (hi : i < l.length) (hj : j < E.size) : (E.all l)[i * E.size + j]? = (E.cells l[i])[j]? := flat_at _ _ E.len l i j hi hj
theorem all_one (l : List α) : ∀ u ∈ E.all l, u.oneCell' = true := fun u hu => by
  obtain ⟨x, _, h⟩ := List.mem_flatMap.1 hu
  exact E.one x u h
theorem all_append (l m : List α) : E.all (l ++ m) = E.all l ++ E.all m := List.flatMap_append
theorem all_nil : E.all [] = [] := rfl
theorem all_single (x : α) : E.all [x] = E.cells x := by simp [all]
end Elt
def intE : Elt Int := ⟨1, fun n => [.int .i64 n], by decide, fun _ => rfl, fun _ u h => by simp at h; subst h; rfl⟩
def boolE : Elt Bool := ⟨1, fun n => [.bool n], by decide, fun _ => rfl, fun _ u h => by simp at h; subst h; rfl⟩
def ptE : Elt Pt := ⟨3, Pt.cells, by decide, fun _ => rfl, fun _ u h => by simp [Pt.cells] at h; rcases h with rfl | rfl | rfl <;> rfl⟩
def iqE : Elt Iq := ⟨4, Iq.cells, by decide, fun _ => rfl, fun _ u h => by simp [Iq.cells] at h; rcases h with rfl | rfl | rfl | rfl <;> rfl⟩
/-- A slice as an element: its address, length and capacity. -/
structure Sv where
  addr : Option Addr
  len : Nat
  cap : Nat
def svE : Elt Sv := ⟨1, fun s => [.slice s.addr s.len s.cap], by decide, fun _ => rfl, fun _ u h => by simp at h; subst h; rfl⟩

section
variable {α : Type} {E : Elt α}
/-- A slice whose first l.length elements are l. -/
def SlS (E : Elt α) (w : World) (s : Option Addr) (l : List α) : Prop :=
  l = [] ∨ ∃ b off, s = some ⟨b, off, none⟩ ∧ b < w.heap.size ∧ ∀ j u, (E.all l)[j]? = some u → w.cell? ⟨b, off + j, none⟩ = some u
theorem SlS.nil {w : World} {s : Option Addr} : SlS E w s [] := .inl rfl
theorem SlS.up {W W' : World} (h : Below W.heap.size W W') {s : Option Addr} {l : List α} (c : SlS E W s l) : SlS E W' s l := by
  rcases c with c | ⟨b, off, e, hb, c⟩
  · exact .inl c
  · exact .inr ⟨b, off, e, Up.lt h hb, fun j u hj => Up.cell h (c j u hj)⟩
instance {W W' : World} {s : Option Addr} {l : List α} : UpF W W' (SlS E W s l) (SlS E W' s l) := ⟨fun h c => SlS.up h c⟩
theorem SlS.at {w : World} {s : Option Addr} {l : List α} (c : SlS E w s l) {i : Nat} (h : i < l.length) : ∃ b off, s = some ⟨b, off, none⟩ ∧ b < w.heap.size ∧
    ∀ j u, (E.cells l[i])[j]? = some u → w.cell? ⟨b, off + i * E.size + j, none⟩ = some u := by
  rcases c with rfl | ⟨b, off, e, hb, c⟩
  · cases h
  · refine ⟨b, off, e, hb, fun j u hj => ?_⟩
    have hjl : j < E.size := by rw [← E.len l[i]]; exact (List.getElem?_eq_some_iff.1 hj).1
    have := c (i * E.size + j) u (by rw [E.all_at l i j h hjl]; exact hj)
    rwa [← Nat.add_assoc] at this
theorem SlS.none_nil {w : World} {l : List α} (c : SlS E w none l) : l = [] := by
  rcases c with c | ⟨b, off, e, _⟩
  · exact c
  · cases e
theorem add_eq {b off : Nat} (j : Nat) : (⟨b, off, none⟩ : Addr).add j = ⟨b, off + j, none⟩ := by
  unfold Addr.add; split <;> simp_all
theorem SlS.news {w : World} {a : Addr} {l : List α} (c : SlS E w (some a) l) : ∀ j u, (E.all l)[j]? = some u → w.cell? (a.add j) = some u := by
  rcases c with rfl | ⟨b, off, e, hb, c⟩
  · intro j u h; simp [Elt.all] at h
  · cases e; intro j u h; rw [add_eq]; exact c j u h
theorem SlS.blk {w : World} {s : Option Addr} {l : List α} (c : SlS E w s l) {k : Nat} (h : Blk s l k) : k < w.heap.size := by
  obtain ⟨hl, a, rfl, rfl⟩ := h
  rcases c with rfl | ⟨b, off, e, hb, _⟩
  · exact absurd rfl hl
  · cases e; exact hb
theorem SlS.keep {w w' : World} {s : Option Addr} {l : List α} (c : SlS E w s l) (hsz : w.heap.size ≤ w'.heap.size) (h : ∀ k, Blk s l k → w'.heap[k]? = w.heap[k]?) : SlS E w' s l := by
  rcases c with rfl | ⟨b, off, rfl, hb, c⟩
  · exact .inl rfl
  · by_cases hl : l = []
    · exact .inl hl
    refine .inr ⟨b, off, rfl, Nat.lt_of_lt_of_le hb hsz, fun j u hj => ?_⟩
    rw [World.cell?_of_block (h b ⟨hl, _, rfl, rfl⟩)]; exact c j u hj
theorem SlS.chg {p : Nat → Prop} {W W' : World} (h : Chg p W W') {s : Option Addr} {l : List α} (hp : ∀ k, Blk s l k → ¬ p k) (c : SlS E W s l) : SlS E W' s l :=
  c.keep h.size fun k hk => h.block k (c.blk hk) (hp k hk)
theorem SlS.of_own {w : World} {base e cap : Nat} {s : Option Addr} {l : List α} (h : w.ownsRow base e E.size (.slice s l.length cap) l.length (E.all l)) : SlS E w s l := by
  by_cases hl : l = []
  · exact .inl hl
  obtain ⟨s', cap', he, hs⟩ := owns_shape h
  simp only [Value.slice.injEq] at he
  obtain ⟨rfl, _, rfl⟩ := he
  rcases hs with ⟨h0, _⟩ | ⟨g, rfl, hb, hg⟩
  · exact absurd (List.length_eq_zero_iff.1 h0) hl
  refine .inr ⟨g, 0, rfl, hg, fun j u hj => ?_⟩
  rw [Nat.zero_add]
  exact owns_cell h hj
/-- A slice that came out of a call: new, its elements l. -/
def RetS (E : Elt α) (t : Nat) (l : List α) (w : World) (e : Ending) (w' : World) : Prop :=
  ∃ s cap, e = .returned (.slice s l.length cap) ∧ w'.ownsRow w.heap.size t E.size (.slice s l.length cap) l.length (E.all l) ∧ Below w.heap.size w w'
theorem owns_cap {w : World} {base e size n cap m : Nat} {s : Option Addr} {xs : List Value} (h : w.ownsRow base e size (.slice s n cap) m xs) : s = none → cap = 0 := by
  rintro rfl
  rcases h.2 with ⟨h0, _⟩ | ⟨g, c, cur, h0, hb, _⟩
  · simp at h0; exact h0.2
  · simp at h0
theorem owns_len {w : World} {base e size n cap m : Nat} {s : Option Addr} {xs : List Value} (h : w.ownsRow base e size (.slice s n cap) m xs) : n = m := by
  rcases h.2 with ⟨h0, rfl⟩ | ⟨g, c, cur, h0, hb, _⟩
  · simp at h0; exact h0.2.1
  · simp at h0; exact h0.2.1
theorem own_chg {p : Nat → Prop} {W W' : World} (h : Chg p W W') {base e size n : Nat} {v : Value} {xs : List Value} (hp : ∀ k, base ≤ k → ¬ p k) (c : W.ownsRow base e size v n xs) : W'.ownsRow base e size v n xs := by
  refine ⟨c.1, ?_⟩
  rcases c.2 with hn | ⟨g, cap, cur, rfl, hb, hg, r⟩
  · exact .inl hn
  · exact .inr ⟨g, cap, cur, rfl, hb, (h.block g (Array.getElem?_eq_some_iff.1 hg).1 (hp g hb)).trans hg, r⟩
/-- An empty slice that was just built. -/
theorem owns_built (w : World) (t size : Nat) : (w.alloc (.cells #[] t)).ownsRow w.heap.size t size (.slice (some ⟨w.heap.size, 0, none⟩) 0 0) 0 [] :=
  ⟨by simp, .inr ⟨_, 0, #[], rfl, Nat.le_refl _, heap_alloc_new w _, Nat.le_refl _, Nat.zero_le _, by simp, by simp⟩⟩
/-- A row of zeros that was just grown: as a slice of no elements. -/
theorem owns_grown (w : World) (t size G : Nat) (cur : Array Value) (hc : cur.size = G * size) (hG : G ≤ maxLen) : (w.alloc (.cells cur t)).ownsRow w.heap.size t size (.slice (some ⟨w.heap.size, 0, none⟩) 0 G) 0 [] :=
  ⟨by simp, .inr ⟨_, G, cur, rfl, Nat.le_refl _, heap_alloc_new w _, Nat.zero_le _, hG, hc, by simp⟩⟩
end
/-- The first k lists, joined. -/
def catTo {α : Type} (ls : List (List α)) (k : Nat) : List α := (ls.take k).flatten
theorem catTo_zero {α : Type} (ls : List (List α)) : catTo ls 0 = [] := rfl
theorem catTo_succ {α : Type} {ls : List (List α)} {k : Nat} (hk : k < ls.length) : catTo ls (k + 1) = catTo ls k ++ ls[k] := by
  unfold catTo; rw [List.take_succ_eq_append_getElem hk, List.flatten_append]; simp
theorem catTo_all {α : Type} {ls : List (List α)} {k : Nat} (hk : k = ls.length) : catTo ls k = ls.flatten := by
  unfold catTo; rw [hk, List.take_of_length_le (Nat.le_refl _)]
theorem catTo_le {α : Type} (ls : List (List α)) (k : Nat) : (catTo ls k).length ≤ ls.flatten.length := by
  unfold catTo
  conv => rhs; rw [← List.take_append_drop k ls, List.flatten_append, List.length_append]
  omega
theorem IqS.sl {w : World} {s : Option Addr} {l : List Iq} (c : IqS w s l) : SlS iqE w s l := by
  rcases c with c | ⟨b, off, e, hb, c⟩
  · exact .inl c
  refine .inr ⟨b, off, e, hb, fun j u hj => ?_⟩
  have hjl := (List.getElem?_eq_some_iff.1 hj).1
  rw [iqE.all_len] at hjl
  have hd : j / 4 < l.length := by have : iqE.size = 4 := rfl; rw [this] at hjl; omega
  have hm : j % 4 < 4 := Nat.mod_lt _ (by decide)
  have e1 : j / 4 * 4 + j % 4 = j := by omega
  have h2 := iqE.all_at l (j / 4) (j % 4) hd hm
  rw [show iqE.size = 4 from rfl, e1, hj] at h2
  obtain ⟨c0, c1, c2, c3⟩ := c (j / 4) hd
  have : j % 4 = 0 ∨ j % 4 = 1 ∨ j % 4 = 2 ∨ j % 4 = 3 := by omega
  rcases this with h | h | h | h <;> rw [h] at h2 <;> simp [iqE, Iq.cells] at h2 <;> subst h2
  · rw [show off + j = off + j / 4 * 4 by omega]; exact c0
  · rw [show off + j = off + j / 4 * 4 + 1 by omega]; exact c1
  · rw [show off + j = off + j / 4 * 4 + 2 by omega]; exact c2
  · rw [show off + j = off + j / 4 * 4 + 3 by omega]; exact c3
theorem SlS.iq {w : World} {s : Option Addr} {l : List Iq} (c : SlS iqE w s l) : IqS w s l := by
  by_cases hl : l = []
  · exact .inl hl
  rcases c with c | ⟨b, off, e, hb, c⟩
  · exact absurd c hl
  refine .inr ⟨b, off, e, hb, fun i hi => ?_⟩
  have k : ∀ j, j < 4 → ∀ u, (Iq.cells l[i])[j]? = some u → w.cell? ⟨b, off + i * 4 + j, none⟩ = some u := fun j hj u hu => by
    have := c (i * 4 + j) u (by have := iqE.all_at l i j hi hj; rw [show iqE.size = 4 from rfl] at this; rw [this]; exact hu)
    rwa [← Nat.add_assoc] at this
  exact ⟨by simpa using k 0 (by omega) _ rfl, k 1 (by omega) _ rfl, k 2 (by omega) _ rfl, k 3 (by omega) _ rfl⟩
theorem iqE_all (l : List Iq) : iqE.all l = iqCells l := rfl
theorem ptE_all (l : List Pt) : ptE.all l = ptCells l := rfl
end Go.Proofs.Ytbpdgoedglkefaa
