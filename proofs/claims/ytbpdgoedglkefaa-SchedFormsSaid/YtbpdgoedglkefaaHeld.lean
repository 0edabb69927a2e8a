/- Drawn regions whose loads come first: lemmas over any program; two operations may come up, in either order. -/
import Derived.Test.YtbpdgoedglkefaaLast
import Derived.Test.YtbpdgoedglkefaaAuto
import Derived.Test.YtbpdgoedglkefaaRep
import Derived.Deep.RegionHeld3
import Derived.Deep.AppendLies
import Derived.Laws.AppendOwnNone
namespace Go.Proofs.Ytbpdgoedglkefaa
open Go.RowKit

theorem cell_set {W : World} {a p : Addr} {u v : Value} (hne : p.block ≠ a.block) (h : W.cell? p = some v) : (W.setCell a u).cell? p = some v := by
  rw [← h]; exact World.cell?_of_block (Below.heap_setCell W a u p.block hne)
theorem cell_drew {W : World} {p : Addr} {v : Value} (h : W.cell? p = some v) : W.drew.cell? p = some v := h
theorem cell_alloc {W : World} {p : Addr} {v : Value} (h : W.cell? p = some v) (o : Obj) : (W.alloc o).cell? p = some v := Up.cell ((Below.refl _ _).alloc (Nat.le_refl _) o) h
theorem frozB {n : Nat} {W W' : World} (h : Below n W W') : ∀ b o, b < n → W'.frozen? ⟨b, o, none⟩ = W.frozen? ⟨b, o, none⟩ := fun b o k => h.frozen (p := ⟨b, o, none⟩) k
theorem below_alloc_lt {W N : World} {o : Obj} (h : Below (W.alloc o).heap.size (W.alloc o) N) : W.heap.size < N.heap.size := by have := h.size; simp at this; omega
theorem new_up {W N : World} {t : Nat} {arr : Array Value} (h : Below (W.alloc (.cells arr t)).heap.size (W.alloc (.cells arr t)) N) : Row N W.heap.size t arr := Up.block h (Row.new W t arr)
theorem calls_below {P : Program} {f : FuncId} {args : Array Value} {w W0 : World} {R : Ending → World → Prop} (hpre : Below W0.heap.size W0 w) (h : Below W0.heap.size W0 w → Calls P f args w R) : Calls P f args w R := h hpre
theorem RowG.new {W : World} {t : Nat} {arr : Array Value} {g : Array Value → Prop} (k : g arr) : RowG (W.alloc (.cells arr t)) W.heap.size t g := ⟨arr, Row.new W t arr, k⟩
theorem drewB {W Z : World} (h : Below W.drew.heap.size W.drew Z) : Below W.heap.size W Z := ⟨h.os, h.tape, h.output, h.size, h.block⟩
theorem exit_world {K : Act → World → Prop} {Q : Exit → Act → World → Prop} {e : Exit} {a : Act} {w : World} (h : ∀ W, Hid (W = w) → Exit.then K Q e a W) : Exit.then K Q e a w := h w rfl
theorem Chg.drew {p : Nat → Prop} {A W : World} (h : Chg p A W) : Chg p A W.drew := ⟨h.os, h.tape, h.output, h.size, h.block, ⟨h.size, h.others.same⟩⟩
theorem Chg.alloc {p : Nat → Prop} {A W : World} (h : Chg p A W) (o : Obj) : Chg p A (W.alloc o) := h.trans (Chg.of_below ((Below.refl _ _).alloc (Nat.le_refl _) o))
theorem grown_keep {W w1 : World} {o : Obj} {v x : Value} {a : Addr} {B : Nat} (hg : (W.alloc o).grownBy w1 v.ownBlock) (hne : ∀ k, v.ownBlock = some k → k < B) (hB : B ≤ a.block) (c : W.cell? a = some x) : w1.cell? a = some x := by
  have hl := World.block_lt_of_cell? W _ c
  rw [hg.cell_far a (by simp; omega) (fun e => by have := hne _ e.symm; omega)]
  exact cell_alloc c o
theorem grown_keep0 {W w1 : World} {v x : Value} {a : Addr} {B : Nat} (hg : W.grownBy w1 v.ownBlock) (hne : ∀ k, v.ownBlock = some k → B ≤ k) (hB : a.block < B) (c : W.cell? a = some x) : w1.cell? a = some x := by
  have hl := World.block_lt_of_cell? W _ c
  rw [hg.cell_far a hl (fun e => by have := hne _ e.symm; omega)]
  exact c
theorem grown_row {W w1 : World} {o : Obj} {v : Value} {B e size n : Nat} {xs : List Value} (hg : (W.alloc o).grownBy w1 v.ownBlock) (hown : W.ownsRow B e size v n xs) {b t : Nat} {arr : Array Value} (hb : b < B) (r : Row W b t arr) : Row w1 b t arr := by
  refine (hg.block b (by simp; have := r.lt; omega) (fun e => ?_)).trans (r.alloc o)
  have := (hown.lt b e.symm).1; omega
theorem owns_built2 (W : World) (o : Obj) (t size : Nat) : ((W.alloc o).alloc (.cells #[] t)).ownsRow (W.heap.size + 1) t size (.slice (some ⟨W.heap.size + 1, 0, none⟩) 0 0) 0 [] := by
  have h := owns_built (W.alloc o) t size
  simpa using h
theorem grown_rowN {V w1 : World} {v : Value} {b t : Nat} {arr : Array Value} (hg : V.grownBy w1 v.ownBlock) (r : Row V b t arr) (hne : v.ownBlock ≠ some b) : Row w1 b t arr :=
  (hg.block b r.lt (fun e => hne e.symm)).trans r
/-- A whole slice, nil or not, is appended, at a step of a drawn region. -/
theorem step_append_sl {P : Program} {w : World} {α : Type} (E : Elt α) {ops : Array Oper} {o : Oper} {a : Act} {K : Act → World → Prop} {Q : Exit → Act → World → Prop} {Els : Prop} (hgd : o.guard = none) (s x : Operand) (t : TypeId)
    (ho : o.op = .call { callee := .builtin .append, args := #[s, x], argTypes := #[t, t] })
    (base : Nat) (e : TypeId) (i : TypeInfo) (z : Value) (bytes : Nat) (ht : P.underlying t = some (.slice e)) (hi : P.info? e = some i) (hz : i.zero = some z)
    (hsize : i.size = E.size) (hby : i.bytes = bytes) (hzs : z.cells.size = E.size)
    (v : Value) (n : Nat) (xs : List Value) (hs : a.eval s = v) (hown : w.ownsRow base e E.size v n xs)
    (sx : Option Addr) (c : Nat) (l : List α) (hx : a.eval x = .slice sx l.length c) (hl : SlS E w sx l) (hc : sx = none → c = 0)
    (h63 : n + l.length ≤ maxLen) (hbytes : (n + l.length) * bytes ≤ 140737488355328) (hbase : base ≤ w.heap.size)
    (h : ∀ v' w', w'.ownsRow base e E.size v' (n + l.length) (xs ++ E.all l) → w.grownBy w' v.ownBlock → K (a.put o.dst v') w') : if Region.wanted o (yielded ops a.tmps) = true then Oper.wp P o a w K Q else Els := by
  have hw : Region.wanted o (yielded ops a.tmps) = true := by simp [Region.wanted, hgd]
  rw [if_pos hw]
  cases sx with
  | none =>
    obtain rfl := hl.none_nil
    obtain rfl := hc rfl
    have hrun := run_append_owned_none (P := P) (w := w) base t o.type e i E.size ht hi v n xs hown
    have hx' : a.eval x = .slice none 0 0 := hx
    unfold Oper.wp
    simp [execOp, ho, resolve, invoke, builtin, hs, hx', hrun, Result.andThen]
    exact h v w (by simpa [Elt.all_nil] using hown) ⟨rfl, rfl, rfl, Nat.le_refl _, fun _ _ _ => rfl⟩
  | some ad =>
    exact wp_append_own w s x t ho base e i z E.size bytes ht hi hz hsize hby hzs E.pos v n xs hs hown ad l.length c (E.all l) hx (E.all_len l) (SlS.news hl) (E.all_one l) h63 hbytes hbase (fun v' w' h2 h3 _ => h v' w' h2 h3)
section
variable {P : Program} {ops : Array Oper} {Q : Exit → Act → World → Prop} {md : Region.Mode} {S : World → Prop} {m : Nat}
/-- Just two operations may come up: either comes up; S is to be shown anew. -/
theorem wpL.two {i j f : Nat} {o u : Oper} {L : Array Bool} {a : Act} {w : World} (hr : Region.ready md ops L = [i, j]) (ho : ops.toList[i]? = some o) (hu : ops.toList[j]? = some u)
    (h : ∀ K' : Act → World → Prop, Shut (∀ a w, S w → (S w → wpL P md ops Q m S f (L.setIfInBounds i true) a w) → K' a w) → if Region.wanted o (yielded ops a.tmps) = true then Oper.wp P o a w K' Q else K' (a.put o.dst undef) w)
    (g : ∀ K' : Act → World → Prop, Shut (∀ a w, S w → (S w → wpL P md ops Q m S f (L.setIfInBounds j true) a w) → K' a w) → if Region.wanted u (yielded ops a.tmps) = true then Oper.wp P u a w K' Q else K' (a.put u.dst undef) w) : wpL P md ops Q m S (f + 1) L a w :=
  ⟨fun h0 => (by rw [hr] at h0; simp at h0), fun k hk => (by
    rw [hr] at hk
    simp only [List.mem_cons, List.not_mem_nil, or_false] at hk
    rcases hk with rfl | rfl
    · exact wpOp_step (by simpa using ho) fun K' hK => h K' (fun a w hS hW => hK a w ⟨fun _ => hS, hW hS⟩)
    · exact wpOp_step (by simpa using hu) fun K' hK => g K' (fun a w hS hW => hK a w ⟨fun _ => hS, hW hS⟩))⟩
end
end Go.Proofs.Ytbpdgoedglkefaa
