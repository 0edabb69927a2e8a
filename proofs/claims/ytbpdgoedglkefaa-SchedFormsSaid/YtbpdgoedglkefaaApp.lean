/- An append of a whole slice, nil or not, to a row of one's own: one law. Over any program. -/
import Derived.Test.YtbpdgoedglkefaaRep
import Derived.Deep.AppendLies
namespace Go.Proofs.Ytbpdgoedglkefaa
open Go.RowKit

theorem grown_refl (w : World) (r : Option Nat) : w.grownBy w r := ⟨rfl, rfl, rfl, Nat.le_refl _, fun _ _ _ => rfl⟩
theorem grown_chg {w w1 : World} {v : Value} {p : Nat → Prop} (h : w.grownBy w1 v.ownBlock) (hp : ∀ j, v.ownBlock = some j → p j) (ho : KeepsOthers w w1) : Chg p w w1 :=
  ⟨h.os, h.tape, h.output, h.size, fun k hk hn => h.block k hk (fun e => hn (hp k e.symm)), ho⟩
section
variable {P : Program} {w : World} {α : Type} {E : Elt α}
theorem wpList_append_sl (E : Elt α) {ops : Array Oper} {rest : List Oper} {o : Oper} {a : Act} {Q : Exit → Act → World → Prop} (hgd : o.guard = none) (s x : Operand) (t : TypeId)
    (ho : o.op = .call { callee := .builtin .append, args := #[s, x], argTypes := #[t, t] })
    (base : Nat) (e : TypeId) (i : TypeInfo) (z : Value) (bytes : Nat) (ht : P.underlying t = some (.slice e)) (hi : P.info? e = some i) (hz : i.zero = some z)
    (hsize : i.size = E.size) (hby : i.bytes = bytes) (hzs : z.cells.size = E.size)
    (v : Value) (n : Nat) (xs : List Value) (hs : a.eval s = v) (hown : w.ownsRow base e E.size v n xs)
    (sx : Option Addr) (c : Nat) (l : List α) (hx : a.eval x = .slice sx l.length c) (hl : SlS E w sx l) (hc : sx = none → c = 0)
    (h63 : n + l.length ≤ maxLen) (hbytes : (n + l.length) * bytes ≤ 140737488355328) (hbase : base ≤ w.heap.size)
    (h : ∀ v' w', w'.ownsRow base e E.size v' (n + l.length) (xs ++ E.all l) → w.grownBy w' v.ownBlock → wpList P ops Q rest (a.put o.dst v') w') : wpList P ops Q (o :: rest) a w := by
  cases sx with
  | none =>
    obtain rfl := hl.none_nil
    obtain rfl := hc rfl
    refine wpList_append_own_none hgd s x t ho base e i E.size ht hi v n xs hs hown hx (h v w ?_ (grown_refl w _))
    simpa [Elt.all_nil] using hown
  | some ad =>
    exact wpList_append_own w hgd s x t ho base e i z E.size bytes ht hi hz hsize hby hzs E.pos v n xs hs hown ad l.length c (E.all l) hx (E.all_len l) (SlS.news hl) (E.all_one l) h63 hbytes hbase (fun v' w' h2 h3 _ => h v' w' h2 h3)
end
end Go.Proofs.Ytbpdgoedglkefaa
