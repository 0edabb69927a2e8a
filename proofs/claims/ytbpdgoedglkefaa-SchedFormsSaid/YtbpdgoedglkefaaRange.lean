/- A range over a function, at the wide fence, with invariants that hold on when nothing but new memory comes. -/
import Derived.Test.YtbpdgoedglkefaaCore
import Derived.RangeFuncNested
import Derived.RangeFuncBound
import Derived.RangeFuncCalls
import Derived.RangeFuncLeaves
import Derived.RangeFuncBox
import Derived.OwnWalkIn
import Derived.TacticsInMore
import Derived.LoopNIn
import Derived.LoopIn
import Derived.Maps.AppendAt
import Derived.Deep.Cut
namespace Go.Proofs.Ytbpdgoedglkefaa
open Go.RowKit

@[simp, go_sem] theorem wide_fn (f : FuncId) : Fence.wide.fn f = True := rfl
@[simp, go_sem] theorem wide_depth : Fence.wide.depth = none := rfl
theorem ci {n : Nat} {P : Program} {f : FuncId} {args : Array Value} {w : World} {R : Ending → World → Prop} (h : Calls P f args w R) : CallsIn Fence.wide n P f args w R := callsIn_wide.2 h
theorem cir {n l : Nat} {P : Program} {f : FuncId} {args : Array Value} {w : World} {R : Ending → World → Prop} (h : Calls P f args w R) : CallsIn (Fence.wide.inRound l) n P f args w R := CallsIn.inRound l (callsIn_wide.2 h)
theorem callsIn_world {F : Fence} {n : Nat} {P : Program} {f : FuncId} {args : Array Value} {w : World} {R : Ending → World → Prop} (h : ∀ X, Hid (X = w) → CallsIn F n P f args X R) : CallsIn F n P f args w R := h w rfl
theorem calls_world {P : Program} {f : FuncId} {args : Array Value} {w : World} {R : Ending → World → Prop} (h : ∀ X, Hid (X = w) → Calls P f args X R) : Calls P f args w R := h w rfl
theorem wpIn_world {F : Fence} {n : Nat} {P : Program} {c : Code} {Q : Exit → Act → World → Prop} {a : Act} {w : World} (h : ∀ W, Hid (W = w) → c.wpIn F n P Q a W) : c.wpIn F n P Q a w := h w rfl

/-- Below n all is as it was, and all rows of cells are. -/
structure CellsUp (n : Nat) (W W' : World) : Prop where
  below : Below n W W'
  cells : ∀ (k : Nat) (c : Array Value) (t : TypeId) (f : Nat × Nat), W.heap[k]? = some (.cells c t f) → W'.heap[k]? = some (.cells c t f)
theorem CellsUp.cell {n : Nat} {W W' : World} (h : CellsUp n W W') {a : Addr} {v : Value} (c : W.cell? a = some v) : W'.cell? a = some v := by
  unfold World.cell? at c ⊢
  cases hk : W.heap[a.block]? with
  | none => rw [hk] at c; cases c
  | some o =>
    rw [hk] at c
    cases o with
    | cells cc t f => rw [h.cells _ _ _ _ hk]; exact c
    | _ => cases c
theorem CellsUp.frozen {n : Nat} {W W' : World} (h : CellsUp n W W') {a : Addr} {v : Value} (c : W.cell? a = some v) (hf : W.frozen? a = false) : W'.frozen? a = false := by
  unfold World.cell? at c
  unfold World.frozen? at hf ⊢
  cases hk : W.heap[a.block]? with
  | none => rw [hk] at c; cases c
  | some o =>
    rw [hk] at c hf
    cases o with
    | cells cc t f => rw [h.cells _ _ _ _ hk]; exact hf
    | _ => cases c
theorem CellsUp.owns {n : Nat} {W W' : World} (h : CellsUp n W W') {base e size m : Nat} {v : Value} {xs : List Value} (c : W.ownsRow base e size v m xs) : W'.ownsRow base e size v m xs := by
  refine ⟨c.1, ?_⟩
  rcases c.2 with hn | ⟨g, cap, cur, rfl, hb, hg, r⟩
  · exact .inl hn
  · exact .inr ⟨g, cap, cur, rfl, hb, h.cells _ _ _ _ hg, r⟩
theorem CellsUp.of_grownBy {n : Nat} {W W' : World} {row : Option Nat} (hg : W.grownBy W' row) (hn : n ≤ W.heap.size) (hr : ∀ r, row = some r → n ≤ r ∧ ∃ o : Obj, W.heap[r]? = some o ∧ o.isCells = false) : CellsUp n W W' :=
  ⟨(Below.refl n W).grown hg hn (fun k e => (hr k e).1), fun k c t f hk => (hg.block k (Array.getElem?_eq_some_iff.1 hk).1 (fun e => by
    obtain ⟨_, o, ho, hc⟩ := hr k e.symm
    rw [hk] at ho; cases ho; cases hc)).trans hk⟩
theorem KeepsOthers.of_below {W W' : World} (h : Below W.heap.size W W') : KeepsOthers W W' := ⟨h.size, fun _ _ hk _ => Up.block h hk⟩
theorem grownBy_of_below {W W' : World} (h : Below W.heap.size W W') : W.grownBy W' none := ⟨h.os, h.tape, h.output, h.size, fun k hk _ => h.block k hk⟩

theorem app_up {W w1 : World} {B : Nat} {tmp : Obj} {e size k : Nat} {v : Value} {xs : List Value} (hB : B ≤ W.heap.size) (hown : W.ownsRow B e size v k xs) (hgrow : (W.alloc tmp).grownBy w1 v.ownBlock) :
    Below B W w1 ∧ KeepsOthers W w1 := by
  refine ⟨Up.grown (Below.refl B W) hB hown hgrow, (KeepsOthers.alloc W tmp).trans (KeepsOthers.of_grownBy hgrow fun j o ej hj => ?_)⟩
  rcases (hown.alloc tmp).2 with ⟨rfl, _⟩ | ⟨g, cap, cur, rfl, _, hgb, _⟩
  · simp [Value.ownBlock] at ej
  · obtain rfl : g = j := by simpa [Value.ownBlock] using ej
    rw [hgb] at hj; cases hj; rfl

/-- The blocks of S lie as they lay; no block has gone. -/
structure KeepUp (S : Nat → Prop) (W W' : World) : Prop where
  size : W.heap.size ≤ W'.heap.size
  same : ∀ k, S k → W'.heap[k]? = W.heap[k]?
theorem KeepUp.refl (S : Nat → Prop) (W : World) : KeepUp S W W := ⟨Nat.le_refl _, fun _ _ => rfl⟩
theorem KeepUp.trans {S : Nat → Prop} {A B C : World} (h : KeepUp S A B) (k : KeepUp S B C) : KeepUp S A C := ⟨Nat.le_trans h.size k.size, fun i hi => (k.same i hi).trans (h.same i hi)⟩
theorem KeepUp.of_below {S : Nat → Prop} {n : Nat} {W W' : World} (h : Below n W W') (hS : ∀ k, S k → k < n) : KeepUp S W W' := ⟨h.size, fun k hk => h.block k (hS k hk)⟩
theorem KeepUp.cell {S : Nat → Prop} {W W' : World} (h : KeepUp S W W') {a : Addr} {v : Value} (hS : S a.block) (c : W.cell? a = some v) : W'.cell? a = some v := by
  rw [← c]; exact World.cell?_of_block (h.same _ hS)
theorem KeepUp.setCell {S : Nat → Prop} (W : World) {a : Addr} (v : Value) (h : ∀ k, S k → k ≠ a.block) : KeepUp S W (W.setCell a v) :=
  ⟨by simp [World.setCell], fun k hk => Below.heap_setCell W a v k (h k hk)⟩
theorem KeepUp.grown {S : Nat → Prop} {W W' : World} {row : Option Nat} (hg : W.grownBy W' row) (hS : ∀ k, S k → k < W.heap.size) (hr : ∀ k, S k → some k ≠ row) : KeepUp S W W' :=
  ⟨hg.size, fun k hk => hg.block k (hS k hk) (hr k hk)⟩

/-- An iterator's contract: it hands its rounds the elements xs, in order, until a round says 'no more'; a round must leave the blocks of S as they are. -/
structure Iter {α : Type} (P : Program) (gf : Nat) (lb : Array Value) (encs : α → Array Value) (S : Nat → Prop) (xs : List α) (w : World) : Prop where
  lt : ∀ k, S k → k < w.heap.size
  seq : SeqStopsK Fence.wide 5 P gf lb encs (KeepUp S) (fun ys => ys = xs) (fun pre => pre <+: xs) xs.length w

theorem wp_rangeFunc {α : Type} {P : Program} {g : Operand} {ps : Array Tmp} {assign body : Code} {Q : Exit → Act → World → Prop} {a : Act} {w : World}
    {gf : Nat} {lb : Array Value} (hg : a.eval g = .func (.func gf) #[] lb) (eg : ∀ args w, (callFunc gf args).run P w = .ok (.enter gf args) w)
    {encs : α → Array Value} {S : Nat → Prop} {xs : List α} (hseq : Iter P gf lb encs S xs w) (hps : ∀ x, (encs x).size = ps.size)
    (n : Nat) (hn : n ≤ w.heap.size) (I : List α → World → Prop) (Ix : Code → List α → World → Prop) (hI : ∀ s W W', I s W → CellsUp n W W' → I s W') (hIx : ∀ c s W W', Ix c s W → CellsUp n W W' → Ix c s W') (hsz : ∀ s W, I s W → n ≤ W.heap.size) (hszx : ∀ c s W, Ix c s W → n ≤ W.heap.size) (h0 : I [] w) (a₁ : α → Act)
    (hassign : ∀ (l : Nat) (x : α) (W : World) (K : Act → World → Prop), K (a₁ x) W →
      assign.wpIn (Fence.wide.inRound l) 4 P (Exit.then K (fun _ _ _ => False)) { tmps := (ps.zip (encs x)).foldl (fun t (p, v) => t.setIfInBounds p v) a.tmps, defers := [] } W)
    (hbody : ∀ (l : Nat) (pre : List α) (x : α) (W : World), I pre W → pre.length < xs.length → body.wpIn (Fence.wide.inRound l) 4 P (ownPostK (KeepUp S) I Ix (pre ++ [x]) W) (a₁ x) W)
    (hdone : ∀ (D : Nat) (W : World), w.heap.size ≤ D → I xs W → W.heap[D]? = some (.deferred (some [])) → Q .normal { a with defers := { target := .collected D, args := #[] } :: a.defers } W)
    (hstop : ∀ (D : Nat) (c : Code) (pre : List α) (W : World), w.heap.size ≤ D → pre <+: xs → Ix c pre W → W.heap[D]? = some (.deferred (some [])) → c.wp P Q { a with defers := { target := .collected D, args := #[] } :: a.defers } W) :
    (Code.rangeFunc g ps assign body).wp P Q a w := by
  refine (wpIn_wide (n := 6)).1 ?_
  refine wpIn_rangeFunc_ownG (F := Fence.wide) rfl (by omega) hg trivial eg hseq.seq KeepUp.trans ?_ (Below.refl _ _) hps I Ix ?_ ?_ h0 a₁ hassign ?_ ?_ ?_
  · intro W l o o' hl _ _ _
    exact KeepUp.grown (grownBy_putObj' W l o') (fun k hk => by
      have h1 := hseq.lt k hk
      have := (Array.getElem?_eq_some_iff.1 ‹W.heap[l]? = some o›).1
      omega) (fun k hk e => by have h1 := hseq.lt k hk; cases e; omega)
  · exact fun s W W' row hs hgr hr => hI s W W' hs (CellsUp.of_grownBy hgr (hsz s W hs) (fun r e => ⟨Nat.le_trans hn (hr r e).1, (hr r e).2⟩))
  · exact fun c s W W' row hs hgr hr => hIx c s W W' hs (CellsUp.of_grownBy hgr (hszx c s W hs) (fun r e => ⟨Nat.le_trans hn (hr r e).1, (hr r e).2⟩))
  · exact fun l pre x W hi hl => wpIn_mono (hbody l pre x W hi hl) ownPostG_of_ownPostK
  · rintro D ys W hD rfl hi hk; exact hdone D W hD hi hk
  · exact fun D c pre W hD hp hx hk => (wpIn_wide (n := 6)).2 (hstop D c pre W hD hp hx hk)

/-- One loop variable, in a slot. -/
theorem wp_range1 {α : Type} {P : Program} {g : Operand} {p : Tmp} {assign body : Code} {Q : Exit → Act → World → Prop} {a : Act} {w : World}
    {gf : Nat} {lb : Array Value} (hg : a.eval g = .func (.func gf) #[] lb) (eg : ∀ args w, (callFunc gf args).run P w = .ok (.enter gf args) w)
    {enc : α → Value} {S : Nat → Prop} {xs : List α} (hseq : Iter P gf lb (fun x => #[enc x]) S xs w)
    (n : Nat) (hn : n ≤ w.heap.size) (I : List α → World → Prop) (Ix : Code → List α → World → Prop) (hI : ∀ s W W', I s W → CellsUp n W W' → I s W') (hIx : ∀ c s W W', Ix c s W → CellsUp n W W' → Ix c s W') (hsz : ∀ s W, I s W → n ≤ W.heap.size) (hszx : ∀ c s W, Ix c s W → n ≤ W.heap.size) (h0 : I [] w) (a₁ : α → Act)
    (hassign : ∀ (l : Nat) (x : α) (W : World) (K : Act → World → Prop), K (a₁ x) W →
      assign.wpIn (Fence.wide.inRound l) 4 P (Exit.then K (fun _ _ _ => False)) { tmps := a.tmps.setIfInBounds p (enc x), defers := [] } W)
    (hbody : ∀ (l : Nat) (pre : List α) (x : α) (W : World), I pre W → pre.length < xs.length → body.wpIn (Fence.wide.inRound l) 4 P (ownPostK (KeepUp S) I Ix (pre ++ [x]) W) (a₁ x) W)
    (hdone : ∀ (D : Nat) (W : World), w.heap.size ≤ D → I xs W → W.heap[D]? = some (.deferred (some [])) → Q .normal { a with defers := { target := .collected D, args := #[] } :: a.defers } W)
    (hstop : ∀ (D : Nat) (c : Code) (pre : List α) (W : World), w.heap.size ≤ D → pre <+: xs → Ix c pre W → W.heap[D]? = some (.deferred (some [])) → c.wp P Q { a with defers := { target := .collected D, args := #[] } :: a.defers } W) :
    (Code.rangeFunc g #[p] assign body).wp P Q a w :=
  wp_rangeFunc hg eg hseq (fun _ => rfl) n hn I Ix hI hIx hsz hszx h0 a₁ (fun l x W K hK => by simpa using hassign l x W K hK) hbody hdone hstop

/-- One loop variable, which the assignment boxes. -/
theorem wp_rangeB {α : Type} {P : Program} {g : Operand} {p : Tmp} {assign body : Code} {Q : Exit → Act → World → Prop} {a : Act} {w : World}
    {gf : Nat} {lb : Array Value} (hg : a.eval g = .func (.func gf) #[] lb) (eg : ∀ args w, (callFunc gf args).run P w = .ok (.enter gf args) w)
    {enc : α → Value} {S : Nat → Prop} {xs : List α} (hseq : Iter P gf lb (fun x => #[enc x]) S xs w)
    (n : Nat) (hn : n ≤ w.heap.size) (I : List α → World → Prop) (Ix : Code → List α → World → Prop) (hI : ∀ s W W', I s W → CellsUp n W W' → I s W') (hIx : ∀ c s W W', Ix c s W → CellsUp n W W' → Ix c s W') (hsz : ∀ s W, I s W → n ≤ W.heap.size) (hszx : ∀ c s W, Ix c s W → n ≤ W.heap.size) (h0 : I [] w)
    (t : TypeId) (vs : α → Array Value) (a₁ : α → Nat → Act)
    (hassign : ∀ (l : Nat) (x : α) (W : World) (b : Nat) (K : Act → World → Prop), W.heap.size = b → K (a₁ x b) (W.alloc (.cells (vs x) t)) →
      assign.wpIn (Fence.wide.inRound l) 4 P (Exit.then K (fun _ _ _ => False)) { tmps := a.tmps.setIfInBounds p (enc x), defers := [] } W)
    (hbody : ∀ (l : Nat) (pre : List α) (x : α) (B : Nat) (W : World), I pre W → pre.length < xs.length → w.heap.size ≤ B → W.heap[B]? = some (.cells (vs x) t (0, 0)) →
      body.wpIn (Fence.wide.inRound l) 4 P (ownPostK (KeepUp S) I Ix (pre ++ [x]) W) (a₁ x B) W)
    (hdone : ∀ (D : Nat) (W : World), w.heap.size ≤ D → I xs W → W.heap[D]? = some (.deferred (some [])) → Q .normal { a with defers := { target := .collected D, args := #[] } :: a.defers } W)
    (hstop : ∀ (D : Nat) (c : Code) (pre : List α) (W : World), w.heap.size ≤ D → pre <+: xs → Ix c pre W → W.heap[D]? = some (.deferred (some [])) → c.wp P Q { a with defers := { target := .collected D, args := #[] } :: a.defers } W) :
    (Code.rangeFunc g #[p] assign body).wp P Q a w := by
  refine (wpIn_wide (n := 6)).1 ?_
  refine wpIn_rangeFunc_ownH (F := Fence.wide) rfl (by omega) hg trivial eg hseq.seq KeepUp.trans ?_ (Below.refl _ _) (fun _ => rfl) (fun s W => I s W ∧ w.heap.size ≤ W.heap.size) Ix ?_ ?_ ⟨h0, Nat.le_refl _⟩
    (fun x a' W => ∃ B, w.heap.size ≤ B ∧ W.heap[B]? = some (.cells (vs x) t (0, 0)) ∧ a' = a₁ x B) ?_ ?_ ?_ ?_ ?_
  · intro W l o o' hl _ _ _
    exact KeepUp.grown (grownBy_putObj' W l o') (fun k hk => by
      have h1 := hseq.lt k hk
      have := (Array.getElem?_eq_some_iff.1 ‹W.heap[l]? = some o›).1
      omega) (fun k hk e => by have h1 := hseq.lt k hk; cases e; omega)
  · exact fun s W W' row hs hgr hr => ⟨hI s W W' hs.1 (CellsUp.of_grownBy hgr (hsz s W hs.1) (fun r e => ⟨Nat.le_trans hn (hr r e).1, (hr r e).2⟩)), Nat.le_trans hs.2 hgr.size⟩
  · exact fun c s W W' row hs hgr hr => hIx c s W W' hs (CellsUp.of_grownBy hgr (hszx c s W hs) (fun r e => ⟨Nat.le_trans hn (hr r e).1, (hr r e).2⟩))
  · rintro x a' _ W W' row ⟨B, hB, hb, rfl⟩ hgr hr
    refine ⟨B, hB, (hgr.block B (Array.getElem?_eq_some_iff.1 hb).1 (fun e => ?_)).trans hb, rfl⟩
    obtain ⟨_, o, ho, hc⟩ := hr B e.symm
    rw [hb] at ho; cases ho; cases hc
  · intro l pre x W K hi hK
    have h1 := hassign l x W _ K rfl (hK _ _ ((KeepsOthers.alloc _ _).from _) (KeepUp.grown (World.grownBy_alloc W _ none) (fun k hk => Nat.lt_of_lt_of_le (hseq.lt k hk) hi.2) (fun _ _ e => by cases e))
      ⟨hI _ _ _ hi.1 (CellsUp.of_grownBy (World.grownBy_alloc W _ none) (hsz _ _ hi.1) (fun _ e => by cases e)), by simp; omega⟩ ⟨W.heap.size, hi.2, heap_alloc_new W _, rfl⟩)
    simpa using h1
  · rintro l pre x a' W _ _ hi ⟨B, hB, hb, rfl⟩ hl
    refine wpIn_mono (hbody l pre x B W hi.1 hl hB hb) ?_
    rintro e a2 W2 hp
    cases e with
    | normal => exact ⟨hp.1.from _, hp.2.1, hp.2.2, Nat.le_trans hi.2 hp.1.size⟩
    | ret => exact ⟨hp.1.from _, hp.2⟩
    | exit id => exact ⟨hp.1.from _, hp.2⟩
    | goto tt => exact ⟨hp.1.from _, hp.2⟩
    | panic ch => exact hp.elim
    | outgrown => exact hp.elim
  · rintro D ys W hD rfl hi hk; exact hdone D W hD hi.1 hk
  · exact fun D c pre W hD hp hx hk => (wpIn_wide (n := 6)).2 (hstop D c pre W hD hp hx hk)

/-- A function that holds a range over a function. -/
theorem calls_of_wp_marks {P : Program} {f : FuncId} {fn : Func} {c : Code} {args : Array Value} {w : World} {R : Ending → World → Prop} (hf : P.funcs[f]? = some fn) (hb : fn.body = some c)
    (h : c.wp P (bodyPostM Fence.wide 6 P fn R) { tmps := args ++ Array.replicate (fn.ntmps - args.size) undef, defers := [] } w) : Calls P f args w R :=
  callsIn_wide.1 (callsIn_of_wp_marks (F := Fence.wide) (n := 6) hf hb trivial (wpIn_wide.2 h))
/-- Its end: behind a loop. -/
theorem marks_ret {P : Program} {fn : Func} {R : Ending → World → Prop} {tmps : Array Value} {w : World} {v : Value} {D : Nat} (hK : w.heap[D]? = some (.deferred (some [])))
    (hr : (results fn tmps).run P (w.putObj D (.deferred none)) = .ok v (w.putObj D (.deferred none))) (hR : R (.returned v) (w.putObj D (.deferred none))) :
    bodyPostM Fence.wide 6 P fn R .ret { tmps := tmps, defers := [{ target := .collected D, args := #[] }] } w :=
  ⟨by simp, .inl ⟨_, _, rfl, run_takeDeferred hK, ⟨v, hr, hR⟩⟩⟩
/-- Its end: without a loop. -/
theorem marks_ret0 {P : Program} {fn : Func} {R : Ending → World → Prop} {tmps : Array Value} {w : World} {v : Value}
    (hr : (results fn tmps).run P w = .ok v w) (hR : R (.returned v) w) : bodyPostM Fence.wide 6 P fn R .ret { tmps := tmps, defers := [] } w :=
  ⟨v, hr, hR⟩
theorem marks_up {n : Nat} {w : World} {D : Nat} (hn : n ≤ w.heap.size) (hD : n ≤ D) (hK : w.heap[D]? = some (.deferred (some []))) : CellsUp n w (w.putObj D (.deferred none)) :=
  CellsUp.of_grownBy (grownBy_putObj' w D _) hn (fun r e => by cases e; exact ⟨hD, _, hK, rfl⟩)
end Go.Proofs.Ytbpdgoedglkefaa
