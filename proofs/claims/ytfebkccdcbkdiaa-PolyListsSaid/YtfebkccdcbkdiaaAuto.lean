/- Facts on a world, carried to a later world by one name; drawn regions in one walk. Over any program. -/
import Derived.Test.YtfebkccdcbkdiaaCore
import Derived.RangeFuncBox
namespace Go.Proofs.Ytfebkccdcbkdiaa
open Go.RowKit

/-- A fact on a world that stays true when nothing but new memory has come. -/
class UpF (W W' : World) (p : Prop) (q : outParam Prop) : Prop where
  up : Below W.heap.size W W' → p → q
theorem up_of {W W' : World} {p q : Prop} (hb : Below W.heap.size W W') (x : p) [i : UpF W W' p q] : q := i.up hb x
instance {W W' : World} {a : Addr} {v : Value} : UpF W W' (W.cell? a = some v) (W'.cell? a = some v) := ⟨fun h c => Up.cell h c⟩
instance {W W' : World} {b : Nat} {o : Obj} : UpF W W' (W.heap[b]? = some o) (W'.heap[b]? = some o) := ⟨fun h c => Up.block h c⟩
instance {W W' : World} {b : Nat} : UpF W W' (b < W.heap.size) (b < W'.heap.size) := ⟨fun h c => Up.lt h c⟩
instance {W W' : World} {b : Nat} : UpF W W' (b ≤ W.heap.size) (b ≤ W'.heap.size) := ⟨fun h c => Nat.le_trans c h.size⟩
instance {W W' : World} {base e size n : Nat} {v : Value} {xs : List Value} : UpF W W' (W.ownsRow base e size v n xs) (W'.ownsRow base e size v n xs) := ⟨fun h c => Up.owns h c⟩
instance {W W' : World} {s : Option Addr} {l : List Iq} : UpF W W' (IqS W s l) (IqS W' s l) := ⟨fun h c => Up.iq h c⟩
instance {W W' : World} {s : Option Addr} {l : List Pt} : UpF W W' (PtS W s l) (PtS W' s l) := ⟨fun h c => Up.pt h c⟩
instance {W W' : World} {s : Option Addr} {l : List Int} : UpF W W' (IntS W s l) (IntS W' s l) := ⟨fun h c => Up.int h c⟩
instance {A W W' : World} : UpF W W' (Below A.heap.size A W) (Below A.heap.size A W') := ⟨fun h c => Up.to c h c.size⟩
instance {W W' : World} {p q : Prop} [i : UpF W W' p q] : UpF W W' (Hid p) (Hid q) := ⟨fun h c => i.up h c⟩
instance {W W' : World} {b t : Nat} {v : Value} : UpF W W' (Boxed W b t v) (Boxed W' b t v) := ⟨fun h c => Up.block h c⟩

section
variable {P : Program} {ops : Array Oper}
theorem region_q {id : Nat} {Q : Exit → Act → World → Prop} {a : Act} {w : World} (hm : P.follows .mixedOrders = true) (hB : Region.lexB .any ops = true)
    (h : wpQuiet P ops (fun V => Below w.heap.size w V) (fun a' => ∀ w', Below w.heap.size w w' → Q .normal a' w') ops.toList a) : (Code.region id ops true).wp P Q a w :=
  wp_region_quiet hm hB (Below.refl _ _).drew h
end
theorem qq_det {P : Program} {C : World → Prop} {a : Act} {o : Oper} {K : Act → Prop} (h : ∃ v, (∀ W', C W' → (execOp a.eval o).run P W' = .ok (.value v) W') ∧ K (a.put o.dst v)) : o.quiet P a C K := by
  obtain ⟨v, h, hk⟩ := h
  exact ⟨v, fun W hW => by unfold Oper.quietAt; rw [h W hW]; exact ⟨rfl, rfl⟩, hk⟩
theorem qq_call {P : Program} {C : World → Prop} {a : Act} {o : Oper} {K : Act → Prop} (h : ∃ f args, (∀ W', C W' → (execOp a.eval o).run P W' = .ok (.enter f args) W') ∧ ∃ v, (∀ W', C W' → Calls P f args W' fun e w'' => e = .returned v ∧ C w'') ∧ K (a.put o.dst v)) : o.quiet P a C K := by
  obtain ⟨f, args, h, v, hc, hk⟩ := h
  exact ⟨v, fun W hW => by unfold Oper.quietAt; rw [h W hW]; exact ⟨rfl, hc W hW⟩, hk⟩
theorem qc {P : Program} {f : FuncId} {args : Array Value} {W W' : World} {v : Value} (hW' : Below W.heap.size W W') (h : Calls P f args W' fun e w'' => e = .returned v ∧ Below W'.heap.size W' w'') :
    Calls P f args W' fun e w'' => e = .returned v ∧ Below W.heap.size W w'' :=
  h.mono fun _ _ ⟨he, hb⟩ => ⟨he, hW'.trans (hb.mono hW'.size)⟩
theorem qs {P : Program} {f : FuncId} {args : Array Value} {W W' : World} {v : Value} (hW' : Below W.heap.size W W') (h : Calls P f args W' fun e w'' => e = .returned v ∧ W' = w'') :
    Calls P f args W' fun e w'' => e = .returned v ∧ Below W.heap.size W w'' :=
  h.mono fun _ _ ⟨he, hb⟩ => ⟨he, hb ▸ hW'⟩
end Go.Proofs.Ytfebkccdcbkdiaa
