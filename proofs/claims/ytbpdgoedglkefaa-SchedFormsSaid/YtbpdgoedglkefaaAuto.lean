/- Facts on a world, carried to a later world by one name; drawn regions in one walk. Over any program. -/
import Derived.Test.YtbpdgoedglkefaaRange
namespace Go.Proofs.Ytbpdgoedglkefaa
open Go.RowKit

/-- A fact on a world that stays true when nothing but new memory has come. -/
class UpF (W W' : World) (p : Prop) (q : outParam Prop) : Prop where
  up : Below W.heap.size W W' → p → q
theorem up_of {W W' : World} {p q : Prop} (hb : Below W.heap.size W W') (x : p) [i : UpF W W' p q] : q := i.up hb x
instance {W W' : World} {a : Addr} {v : Value} : UpF W W' (W.cell? a = some v) (W'.cell? a = some v) := ⟨fun h c => Up.cell h c⟩
instance {W W' : World} {b : Nat} {o : Obj} : UpF W W' (W.heap[b]? = some o) (W'.heap[b]? = some o) := ⟨fun h c => Up.block h c⟩
instance {W W' : World} {b : Nat} : UpF W W' (b < W.heap.size) (b < W'.heap.size) := ⟨fun h c => Up.lt h c⟩
instance {W W' : World} {b : Nat} : UpF W W' (b ≤ W.heap.size) (b ≤ W'.heap.size) := ⟨fun h c => Nat.le_trans c h.size⟩
instance {W W' : World} {base e size n : Nat} {v : Value} {xs : List Value} : UpF W W' (W.ownsRow base e size v n xs) (W'.ownsRow base e size v n xs) := ⟨fun h c => Up.owns h c⟩
instance {W W' : World} {s : Option Addr} {l : List Iq} : UpF W W' (IqS W s l) (IqS W' s l) := ⟨fun h c => Up.iq h c⟩
instance {W W' : World} {s : Option Addr} {l : List Pt} : UpF W W' (PtS W s l) (PtS W' s l) := ⟨fun h c => Up.pt h c⟩
instance {W W' : World} {s : Option Addr} {l : List Int} : UpF W W' (IntS W s l) (IntS W' s l) := ⟨fun h c => Up.int h c⟩
instance {A W W' : World} : UpF W W' (Below A.heap.size A W) (Below A.heap.size A W') := ⟨fun h c => Up.to c h c.size⟩
instance {W W' : World} {p q : Prop} [i : UpF W W' p q] : UpF W W' (Hid p) (Hid q) := ⟨fun h c => i.up h c⟩
instance {W W' : World} {b t : Nat} {v : Value} : UpF W W' (Boxed W b t v) (Boxed W' b t v) := ⟨fun h c => Up.block h c⟩

/-! ### Blocks of cells that are known whole, and writes into them -/
/-- Block b holds just these cells. -/
def Row (W : World) (b : Nat) (t : TypeId) (arr : Array Value) : Prop := W.heap[b]? = some (.cells arr t (0, 0))
theorem Row.lt {W : World} {b t : Nat} {arr : Array Value} (h : Row W b t arr) : b < W.heap.size := (Array.getElem?_eq_some_iff.1 h).1
theorem Row.cell {W : World} {b t : Nat} {arr : Array Value} (h : Row W b t arr) {i : Nat} {v : Value} (hv : arr[i]? = some v) : W.cell? ⟨b, i, none⟩ = some v := by
  simp [World.cell?, show W.heap[b]? = _ from h, hv]
theorem Row.frozen {W : World} {b t : Nat} {arr : Array Value} (h : Row W b t arr) (i : Nat) : W.frozen? ⟨b, i, none⟩ = false := by simp [World.frozen?, show W.heap[b]? = _ from h]
theorem Row.new (W : World) (t : TypeId) (arr : Array Value) : Row (W.alloc (.cells arr t)) W.heap.size t arr := World.alloc_heap_new W _
theorem Row.alloc {W : World} {b t : Nat} {arr : Array Value} (h : Row W b t arr) (o : Obj) : Row (W.alloc o) b t arr := blk_old h o
theorem Row.set {W : World} {b t : Nat} {arr : Array Value} (h : Row W b t arr) (i : Nat) (v : Value) : Row (W.setCell ⟨b, i, none⟩ v) b t (arr.setIfInBounds i v) := by
  obtain ⟨hlt, hk⟩ := Array.getElem?_eq_some_iff.1 h
  show (W.heap.modify b _)[b]? = _
  rw [Array.getElem?_eq_getElem (by rw [Array.size_modify]; exact hlt), Array.getElem_modify_self, hk]
  rfl
theorem Row.other {W : World} {b t : Nat} {arr : Array Value} (h : Row W b t arr) {a : Addr} (hne : b ≠ a.block) (v : Value) : Row (W.setCell a v) b t arr :=
  (Below.heap_setCell W a v b hne).trans h
theorem Row.drew {W : World} {b t : Nat} {arr : Array Value} (h : Row W b t arr) : Row W.drew b t arr := h
theorem Row.cast {W : World} {b t : Nat} {arr arr' : Array Value} (h : Row W b t arr) (e : arr = arr') : Row W b t arr' := e ▸ h
def RowG (W : World) (b t : Nat) (g : Array Value → Prop) : Prop := ∃ arr, Row W b t arr ∧ g arr
theorem Row.of {W : World} {b t : Nat} {arr : Array Value} (h : RowG W b t (fun a => a = arr)) : Row W b t arr := by obtain ⟨a, h, rfl⟩ := h; exact h
theorem RowG.base {W : World} {b t : Nat} {arr : Array Value} {g : Array Value → Prop} (h : Row W b t arr) (k : g arr) : RowG W b t g := ⟨arr, h, k⟩
theorem RowG.drew {W : World} {b t : Nat} {g : Array Value → Prop} (h : RowG W b t g) : RowG W.drew b t g := h
theorem RowG.set {W : World} {b t i : Nat} {v : Value} {g : Array Value → Prop} (h : RowG W b t (fun a => g (a.setIfInBounds i v))) : RowG (W.setCell ⟨b, i, none⟩ v) b t g := by
  obtain ⟨a, h, k⟩ := h; exact ⟨_, h.set i v, k⟩
theorem RowG.other {W : World} {b t : Nat} {a : Addr} {v : Value} {g : Array Value → Prop} (hne : b ≠ a.block) (h : RowG W b t g) : RowG (W.setCell a v) b t g := by
  obtain ⟨c, h, k⟩ := h; exact ⟨_, h.other hne v, k⟩
theorem RowG.alloc {W : World} {b t : Nat} {o : Obj} {g : Array Value → Prop} (h : RowG W b t g) : RowG (W.alloc o) b t g := by
  obtain ⟨c, h, k⟩ := h; exact ⟨_, h.alloc o, k⟩
instance {W W' : World} {b t : Nat} {arr : Array Value} : UpF W W' (Row W b t arr) (Row W' b t arr) := ⟨fun h c => Up.block h c⟩
theorem Row.one {W : World} {b t : Nat} {a : Value} (h : Row W b t #[a]) : W.cell? ⟨b, 0, none⟩ = some a := h.cell rfl
theorem Row.three {W : World} {b t : Nat} {x y z : Value} (h : Row W b t #[x, y, z]) : W.cell? ⟨b, 0, none⟩ = some x ∧ W.cell? ⟨b, 1, none⟩ = some y ∧ W.cell? ⟨b, 2, none⟩ = some z := ⟨h.cell rfl, h.cell rfl, h.cell rfl⟩

theorem Below.allo {B : Nat} {a w : World} {o : Obj} (hB : B ≤ w.heap.size) (h : Below B a w) : Below B a (w.alloc o) := h.alloc hB o
theorem Below.setC {B : Nat} {a w : World} {p : Addr} {u : Value} (hp : B ≤ p.block) (h : Below B a w) : Below B a (w.setCell p u) := h.setCell hp u
theorem have_it (p : Prop) {q : Prop} (h : p) (k : p → q) : q := k h
/-- Block b holds this object. -/
def At (W : World) (b : Nat) (o : Obj) : Prop := W.heap[b]? = some o
theorem At.drew {W : World} {b : Nat} {o : Obj} (h : At W b o) : At W.drew b o := h
theorem At.other {W : World} {b : Nat} {o : Obj} {a : Addr} {v : Value} (hne : b ≠ a.block) (h : At W b o) : At (W.setCell a v) b o := (Below.heap_setCell W a v b hne).trans h
theorem At.alloc {W : World} {b : Nat} {o : Obj} {o' : Obj} (h : At W b o) : At (W.alloc o') b o := blk_old h o'
/-- W' is W but for new memory and the cells of the blocks of p. -/
structure Chg (p : Nat → Prop) (W W' : World) : Prop where
  os : W'.os = W.os
  tape : W'.tape = W.tape
  output : W'.output = W.output
  size : W.heap.size ≤ W'.heap.size
  block : ∀ k, k < W.heap.size → ¬ p k → W'.heap[k]? = W.heap[k]?
  others : KeepsOthers W W'
theorem Chg.refl (p : Nat → Prop) (W : World) : Chg p W W := ⟨rfl, rfl, rfl, Nat.le_refl _, fun _ _ _ => rfl, KeepsOthers.refl W⟩
theorem Chg.trans {p : Nat → Prop} {A B C : World} (h : Chg p A B) (k : Chg p B C) : Chg p A C :=
  ⟨k.os.trans h.os, k.tape.trans h.tape, k.output.trans h.output, Nat.le_trans h.size k.size, fun i hi hp => (k.block i (Nat.lt_of_lt_of_le hi h.size) hp).trans (h.block i hi hp), h.others.trans k.others⟩
theorem Chg.setCell {p : Nat → Prop} {A W : World} (h : Chg p A W) {a : Addr} (ha : p a.block) (v : Value) : Chg p A (W.setCell a v) :=
  h.trans ⟨rfl, rfl, rfl, by simp [World.setCell], fun k _ hk => Below.heap_setCell W a v k (fun e => hk (e ▸ ha)), KeepsOthers.setCell W a v⟩
theorem Chg.of_below {p : Nat → Prop} {W W' : World} (h : Below W.heap.size W W') : Chg p W W' := ⟨h.os, h.tape, h.output, h.size, fun k hk _ => h.block k hk, ⟨h.size, fun _ _ hk _ => Up.block h hk⟩⟩
theorem Chg.below {p : Nat → Prop} {A W W' : World} (h : Chg p W W') {n : Nat} (hp : ∀ k, p k → n ≤ k) (hn : n ≤ W.heap.size) (k : Below n A W) : Below n A W' :=
  k.trans ⟨h.os, h.tape, h.output, h.size, fun i hi => h.block i (Nat.lt_of_lt_of_le hi hn) (fun hpi => Nat.not_le_of_lt hi (hp i hpi))⟩
theorem Chg.row {p : Nat → Prop} {W W' : World} (h : Chg p W W') {b t : Nat} {arr : Array Value} (hp : ¬ p b) (r : Row W b t arr) : Row W' b t arr := (h.block b r.lt hp).trans r
theorem Chg.cell {p : Nat → Prop} {W W' : World} (h : Chg p W W') {a : Addr} {v : Value} (hp : ¬ p a.block) (c : W.cell? a = some v) : W'.cell? a = some v := by
  rw [← c]; exact World.cell?_of_block (h.block _ (World.block_lt_of_cell? W _ c) hp)
theorem Chg.keepUp {p S : Nat → Prop} {W W' : World} (h : Chg p W W') (hS : ∀ k, S k → k < W.heap.size ∧ ¬ p k) : KeepUp S W W' := ⟨h.size, fun k hk => h.block k (hS k hk).1 (hS k hk).2⟩
instance {p : Nat → Prop} {A W W' : World} : UpF W W' (Chg p A W) (Chg p A W') := ⟨fun h c => c.trans (Chg.of_below h)⟩

section
variable {P : Program} {ops : Array Oper}
theorem region_q {id : Nat} {Q : Exit → Act → World → Prop} {a : Act} {w : World} (hm : P.follows .mixedOrders = true) (hB : Region.lexB .any ops = true)
    (h : wpQuiet P ops (fun V => Below w.heap.size w V) (fun a' => ∀ w', Below w.heap.size w w' → Q .normal a' w') ops.toList a) : (Code.region id ops true).wp P Q a w :=
  wp_region_quiet hm hB (Below.refl _ _).drew h
end
theorem qq_det {P : Program} {C : World → Prop} {a : Act} {o : Oper} {K : Act → Prop} (h : ∃ v, (∀ W', C W' → (execOp a.eval o).run P W' = .ok (.value v) W') ∧ K (a.put o.dst v)) : o.quiet P a C K := by
  obtain ⟨v, h, hk⟩ := h
  exact ⟨v, fun W hW => by unfold Oper.quietAt; rw [h W hW]; exact ⟨rfl, rfl⟩, hk⟩
theorem qq_call {P : Program} {C : World → Prop} {a : Act} {o : Oper} {K : Act → Prop} (h : ∃ f args, (∀ W', C W' → (execOp a.eval o).run P W' = .ok (.enter f args) W') ∧ ∃ v, (∀ W', C W' → Calls P f args W' fun e w'' => e = .returned v ∧ C w'') ∧ K (a.put o.dst v)) : o.quiet P a C K := by
  obtain ⟨f, args, h, v, hc, hk⟩ := h
  exact ⟨v, fun W hW => by unfold Oper.quietAt; rw [h W hW]; exact ⟨rfl, hc W hW⟩, hk⟩
theorem qc {P : Program} {f : FuncId} {args : Array Value} {W W' : World} {v : Value} (hW' : Below W.heap.size W W') (h : Calls P f args W' fun e w'' => e = .returned v ∧ Below W'.heap.size W' w'') :
    Calls P f args W' fun e w'' => e = .returned v ∧ Below W.heap.size W w'' :=
  h.mono fun _ _ ⟨he, hb⟩ => ⟨he, hW'.trans (hb.mono hW'.size)⟩
theorem qs {P : Program} {f : FuncId} {args : Array Value} {W W' : World} {v : Value} (hW' : Below W.heap.size W W') (h : Calls P f args W' fun e w'' => e = .returned v ∧ W' = w'') :
    Calls P f args W' fun e w'' => e = .returned v ∧ Below W.heap.size W w'' :=
  h.mono fun _ _ ⟨he, hb⟩ => ⟨he, hb ▸ hW'⟩
end Go.Proofs.Ytbpdgoedglkefaa
