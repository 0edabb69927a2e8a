/- A range over an iterator that has memory of its own between two rounds: a round leaves all cells but its own as they are. -/
import Derived.Test.YtbpdgoedglkefaaB1
import Derived.RangeFuncWrites
namespace Go.Proofs.Ytbpdgoedglkefaa
open Go.RowKit

/-- All rows of cells but those of T lie as they lay. -/
structure KeepX (T : Nat → Prop) (W W' : World) : Prop where
  size : W.heap.size ≤ W'.heap.size
  same : ∀ (k : Nat) (c : Array Value) (t : TypeId) (f : Nat × Nat), ¬ T k → W.heap[k]? = some (.cells c t f) → W'.heap[k]? = some (.cells c t f)
theorem KeepX.refl (T : Nat → Prop) (W : World) : KeepX T W W := ⟨Nat.le_refl _, fun _ _ _ _ _ h => h⟩
theorem KeepX.trans {T : Nat → Prop} {A B C : World} (h : KeepX T A B) (k : KeepX T B C) : KeepX T A C := ⟨Nat.le_trans h.size k.size, fun i c t f hi hc => k.same i c t f hi (h.same i c t f hi hc)⟩
theorem KeepX.of_below {T : Nat → Prop} {W W' : World} (h : Below W.heap.size W W') : KeepX T W W' := ⟨h.size, fun k c t f _ hk => (h.block k (Array.getElem?_eq_some_iff.1 hk).1).trans hk⟩
theorem KeepX.alloc {T : Nat → Prop} (W : World) (o : Obj) : KeepX T W (W.alloc o) := KeepX.of_below ((Below.refl _ W).alloc (Nat.le_refl _) o)
theorem KeepX.setCell {T : Nat → Prop} (W : World) {a : Addr} (v : Value) (h : T a.block) : KeepX T W (W.setCell a v) :=
  ⟨by simp [World.setCell], fun k c t f hk hc => (Below.heap_setCell W a v k (fun e => hk (by rw [e]; exact h))).trans hc⟩
theorem KeepX.row {T : Nat → Prop} {W W' : World} (h : KeepX T W W') {b t : Nat} {arr : Array Value} (hb : ¬ T b) (r : Row W b t arr) : Row W' b t arr := h.same _ _ _ _ hb r

/-- An iterator's contract: it hands its rounds the elements xs, in order, until a round says 'no more'; a round may write the blocks of T alone; between the rounds the iterator writes the first block that it made. -/
def SeqX {α : Type} (P : Program) (gf : Nat) (lb : Array Value) (enc : α → Value) (T : Nat → Prop) (xs : List α) (w : World) : Prop :=
  ∀ (l : Nat) (J Jx : List α → World → Prop) (W : World), Below w.heap.size w W →
    (∀ s A B row, J s A → A.grownBy B row → (∀ r, row = some r → r = W.heap.size) → J s B) →
    (∀ pre x W1, J pre W1 → pre ++ [x] <+: xs → YieldAt Fence.wide 4 P l #[enc x] W1 fun e W' =>
      (e = .returned (.bool true) ∧ J (pre ++ [x]) W' ∧ KeepX T W1 W') ∨ (e = .returned (.bool false) ∧ Jx (pre ++ [x]) W')) →
    J [] W →
    CallsIn Fence.wide 5 P gf (#[.func (.yield l) #[] #[]] ++ lb) W fun e W' => (∃ v, e = .returned v) ∧ (J xs W' ∨ ∃ pre, pre <+: xs ∧ Jx pre W')

/-- How a round's body may be left. -/
def postX {α : Type} (n : Nat) (T : Nat → Prop) (I : List α → World → Prop) (Ix : Code → List α → World → Prop) (xs : List α) (W : World) : Exit → Act → World → Prop
  | .normal, _, W' => KeepsFrom n W W' ∧ KeepX T W W' ∧ I xs W'
  | .ret, _, W' => KeepsFrom n W W' ∧ Ix .ret xs W'
  | .exit id, _, W' => KeepsFrom n W W' ∧ Ix (.exit id) xs W'
  | .goto t, _, W' => KeepsFrom n W W' ∧ Ix (.goto t) xs W'
  | .panic _, _, _ => False
  | .outgrown, _, _ => False

theorem wp_rangeX {α : Type} {P : Program} {g : Operand} {p : Tmp} {assign body : Code} {Q : Exit → Act → World → Prop} {a : Act} {w : World}
    {gf : Nat} {lb : Array Value} (hg : a.eval g = .func (.func gf) #[] lb) (eg : ∀ args w, (callFunc gf args).run P w = .ok (.enter gf args) w)
    {enc : α → Value} {T : Nat → Prop} {xs : List α} (hseq : SeqX P gf lb enc T xs w) (t : TypeId) (vs : α → Array Value)
    (I : List α → World → Prop) (Ix : Code → List α → World → Prop)
    (hI : ∀ s A B row, I s A → A.grownBy B row → (∀ r, row = some r → w.heap.size ≤ r ∧ r ≤ w.heap.size + 2) → I s B)
    (hIx : ∀ c s W W', Ix c s W → CellsUp w.heap.size W W' → Ix c s W')
    (hszx : ∀ c s W, Ix c s W → w.heap.size ≤ W.heap.size)
    (h0 : I [] w) (a₁ : α → Nat → Act)
    (hassign : ∀ (l : Nat) (x : α) (W : World) (b : Nat) (K : Act → World → Prop), W.heap.size = b → K (a₁ x b) (W.alloc (.cells (vs x) t)) →
      assign.wpIn (Fence.wide.inRound l) 4 P (Exit.then K (fun _ _ _ => False)) { tmps := a.tmps.setIfInBounds p (enc x), defers := [] } W)
    (hbody : ∀ (l : Nat) (pre : List α) (x : α) (b : Nat) (W : World), I pre W → pre ++ [x] <+: xs → w.heap.size + 2 ≤ b → Row W b t (vs x) →
      body.wpIn (Fence.wide.inRound l) 4 P (postX w.heap.size T I Ix (pre ++ [x]) W) (a₁ x b) W)
    (hdone : ∀ (D : Nat) (W : World), w.heap.size ≤ D → I xs W → W.heap[D]? = some (.deferred (some [])) → Q .normal { a with defers := { target := .collected D, args := #[] } :: a.defers } W)
    (hstop : ∀ (D : Nat) (c : Code) (pre : List α) (W : World), w.heap.size ≤ D → pre <+: xs → Ix c pre W → W.heap[D]? = some (.deferred (some [])) → c.wp P Q { a with defers := { target := .collected D, args := #[] } :: a.defers } W) :
    (Code.rangeFunc g #[p] assign body).wp P Q a w := by
  refine (wpIn_wide (n := 6)).1 ?_
  refine wpIn_rangeFunc ?_
  intro fn hfn
  rw [show Fence.wide.round = none from rfl]
  obtain ⟨rec, hrec⟩ : ∃ rec : LoopState → Option Code → Loop, rec = fun st pe => { state := st, pending := pe, fn, tmps := a.tmps, params := #[p], assign, body, defers := w.heap.size } := ⟨_, rfl⟩
  obtain ⟨W1, hW1⟩ : ∃ W1, (w.alloc (.deferred (some []))).alloc (.loop (rec .ready none)) = W1 := ⟨_, rfl⟩
  have hs1 : W1.heap.size = w.heap.size + 2 := by rw [← hW1]; simp
  have hL1 : W1.heap[w.heap.size + 1]? = some (.loop (rec .ready none)) := by
    rw [← hW1]; have := World.alloc_heap_new (w.alloc (.deferred (some []))) (.loop (rec .ready none)); rwa [World.size_alloc] at this
  have hK1 : W1.heap[w.heap.size]? = some (.deferred (some [])) := by
    rw [← hW1]; exact (Below.heap_alloc _ _ _ (by simp)).trans (World.alloc_heap_new w _)
  have hb1 : Below w.heap.size w W1 := by
    rw [← hW1]; exact ((Below.refl _ w).alloc (Nat.le_refl _) _).alloc (by simp) _
  have hI1 : I [] W1 := by
    rw [← hW1]
    exact hI _ _ _ none (hI _ _ _ none h0 (World.grownBy_alloc _ _ none) (fun r e => by cases e)) (World.grownBy_alloc _ _ none) (fun r e => by cases e)
  refine ⟨w.heap.size + 1, [{ target := .collected w.heap.size, args := #[] }], W1, { target := .fn (.func gf) lb, args := #[.func (.yield (w.heap.size + 1)) #[] #[]] }, W1, gf,
    #[.func (.yield (w.heap.size + 1)) #[] #[]] ++ lb, W1, ?_, ?_, ?_, ?_, fun _ => by omega, ?_⟩
  · rw [← hW1, hrec]; exact run_enterLoop_outer _ _ _ _ _
  · simp only [resolve, hg]
    simp [go_sem]
  · intro f' hf'; trivial
  · simp [invoke, go_sem, eg]
  · refine (hseq (w.heap.size + 1)
      (fun pre W => I pre W ∧ W.heap[w.heap.size + 1]? = some (.loop (rec .ready none)) ∧ W.heap[w.heap.size]? = some (.deferred (some [])))
      (fun pre W => ∃ c, Ix c pre W ∧ W.heap[w.heap.size + 1]? = some (.loop (rec .done (some c))) ∧ W.heap[w.heap.size]? = some (.deferred (some [])))
      W1 hb1 ?_ ?_ ⟨hI1, hL1, hK1⟩).mono ?_
    · rintro s A B row ⟨hs, hl, hk⟩ hgr hr
      refine ⟨hI s A B row hs hgr (fun r e => by have := hr r e; omega), ?_, ?_⟩
      · exact (hgr.block _ (Array.getElem?_eq_some_iff.1 hl).1 (fun e => by have := hr _ e.symm; omega)).trans hl
      · exact (hgr.block _ (Array.getElem?_eq_some_iff.1 hk).1 (fun e => by have := hr _ e.symm; omega)).trans hk
    · rintro pre x W0 ⟨hi, hl, hk⟩ hlen
      have hlt0 : w.heap.size + 1 < W0.heap.size := (Array.getElem?_eq_some_iff.1 hl).1
      have hy := run_yield (P := P) (args := #[enc x]) hl (by rw [hrec]; rfl)
      rw [hrec] at hy
      refine ⟨fn, _, assign, body, hy, roundIn_of_wpIn hfn ?_⟩
      have ha := hassign (w.heap.size + 1) x W0 _ (fun a₁ w₁ => ∃ w₂, (Instr.beginRound (w.heap.size + 1)).run P w₁ = .ok () w₂ ∧ body.wpIn (Fence.wide.inRound (w.heap.size + 1)) 4 P (roundPost P (w.heap.size + 1) fun e W' =>
        (e = .returned (.bool true) ∧ (I (pre ++ [x]) W' ∧ W'.heap[w.heap.size + 1]? = some (.loop (rec .ready none)) ∧ W'.heap[w.heap.size]? = some (.deferred (some []))) ∧ KeepX T W0 W') ∨
        (e = .returned (.bool false) ∧ ∃ c, Ix c (pre ++ [x]) W' ∧ W'.heap[w.heap.size + 1]? = some (.loop (rec .done (some c))) ∧ W'.heap[w.heap.size]? = some (.deferred (some [])))) a₁ w₂) rfl ?_
      · simpa using ha
      clear hy
      have hi : I pre (W0.alloc (.cells (vs x) t)) := hI _ _ _ none hi (World.grownBy_alloc _ _ none) (fun r e => by cases e)
      have hl : (W0.alloc (.cells (vs x) t)).heap[w.heap.size + 1]? = some (.loop (rec .ready none)) := (Below.heap_alloc _ _ _ hlt0).trans hl
      have hk : (W0.alloc (.cells (vs x) t)).heap[w.heap.size]? = some (.deferred (some [])) := (Below.heap_alloc _ _ _ (by omega)).trans hk
      have hr : Row (W0.alloc (.cells (vs x) t)) W0.heap.size t (vs x) := Row.new _ _ _
      have hkx : KeepX T W0 (W0.alloc (.cells (vs x) t)) := KeepX.alloc _ _
      obtain ⟨b, hbe⟩ : ∃ b, W0.heap.size = b := ⟨_, rfl⟩
      have hb : w.heap.size + 2 ≤ b := by omega
      rw [hbe] at hr ⊢
      obtain ⟨W, hWe⟩ : ∃ W, W0.alloc (.cells (vs x) t) = W := ⟨_, rfl⟩
      rw [hWe] at hi hl hk hr hkx ⊢
      have hlt : w.heap.size + 1 < W.heap.size := (Array.getElem?_eq_some_iff.1 hl).1
      refine ⟨_, run_beginRound hl (by rw [hrec]), ?_⟩
      have hl2 : (W.putObj (w.heap.size + 1) (.loop { rec .ready none with state := .busy })).heap[w.heap.size + 1]? = some (.loop { rec .ready none with state := .busy }) := World.putObj_heap_same hlt
      have hk2 : (W.putObj (w.heap.size + 1) (.loop { rec .ready none with state := .busy })).heap[w.heap.size]? = some (.deferred (some [])) := (World.putObj_heap_other (by omega)).trans hk
      have hr2 : Row (W.putObj (w.heap.size + 1) (.loop { rec .ready none with state := .busy })) b t (vs x) := (World.putObj_heap_other (by omega)).trans hr
      have hi2 : I pre (W.putObj (w.heap.size + 1) (.loop { rec .ready none with state := .busy })) := hI _ _ _ _ hi (grownBy_putObj' _ _ _) (fun r e => by cases e; omega)
      have hkc : KeepX T W (W.putObj (w.heap.size + 1) (.loop { rec .ready none with state := .busy })) := ⟨(grownBy_putObj' _ _ _).size, fun k c t f _ hc => (World.putObj_heap_other (fun e => by subst e; rw [hl] at hc; cases hc)).trans hc⟩
      obtain ⟨W2, hW2⟩ : ∃ W2, W.putObj (w.heap.size + 1) (.loop { rec .ready none with state := .busy }) = W2 := ⟨_, rfl⟩
      rw [hW2] at hl2 hk2 hr2 hi2 hkc ⊢
      have hbW := hr2.lt
      refine wpIn_mono (hbody _ pre x b _ hi2 hlen (by omega) hr2) ?_
      have fin : ∀ (jump : Option Code) (W3 : World), KeepsFrom w.heap.size W2 W3 →
          (Instr.endRound (w.heap.size + 1) jump).run P W3 = .ok (.bool jump.isNone) (W3.putObj (w.heap.size + 1) (.loop (rec (if jump.isNone then .ready else .done) jump))) ∧
          W3.heap[w.heap.size + 1]? = some (.loop { rec .ready none with state := .busy }) ∧
          (W3.putObj (w.heap.size + 1) (.loop (rec (if jump.isNone then .ready else .done) jump))).heap[w.heap.size + 1]? = some (.loop (rec (if jump.isNone then .ready else .done) jump)) ∧
          (W3.putObj (w.heap.size + 1) (.loop (rec (if jump.isNone then .ready else .done) jump))).heap[w.heap.size]? = some (.deferred (some [])) := fun jump W3 hk3 => by
        have hl3 := hk3.same _ _ (by omega) hl2 rfl
        have := run_endRound (P := P) jump hl3
        rw [hrec] at this ⊢
        exact ⟨this, by rw [hrec] at hl3; exact hl3, World.putObj_heap_same (Array.getElem?_eq_some_iff.1 hl3).1, (World.putObj_heap_other (by omega)).trans (hk3.same _ _ (Nat.le_refl _) hk2 rfl)⟩
      have stop : ∀ (c : Code) (W3 : World), KeepsFrom w.heap.size W2 W3 → Ix c (pre ++ [x]) W3 → Ix c (pre ++ [x]) (W3.putObj (w.heap.size + 1) (.loop (rec .done (some c)))) := fun c W3 hk3 hi3 => by
        have hl3 := hk3.same _ _ (by omega) hl2 rfl
        exact hIx _ _ _ _ hi3 (CellsUp.of_grownBy (grownBy_putObj' _ _ _) (hszx _ _ _ hi3) (fun r e => by cases e; exact ⟨by omega, _, hl3, rfl⟩))
      rintro e a3 W3 hp
      cases e with
      | normal =>
        obtain ⟨hkf, hbel, hi3⟩ := hp
        obtain ⟨h1, hl3, hl4, hk4⟩ := fin none W3 hkf
        exact ⟨_, _, h1, .inl ⟨rfl, ⟨hI _ _ _ _ hi3 (grownBy_putObj' _ _ _) (fun r e => by cases e; omega), hl4, hk4⟩, (hkx.trans hkc).trans (hbel.trans ⟨(grownBy_putObj' _ _ _).size, fun k c t f _ hc => (World.putObj_heap_other (fun e => by subst e; rw [hl3] at hc; cases hc)).trans hc⟩)⟩⟩
      | ret =>
        obtain ⟨hk3, hi3⟩ := hp
        obtain ⟨h1, hl3, hl4, hk4⟩ := fin (some .ret) W3 hk3
        exact ⟨_, _, h1, .inr ⟨rfl, .ret, stop _ _ hk3 hi3, hl4, hk4⟩⟩
      | exit id =>
        obtain ⟨hk3, hi3⟩ := hp
        obtain ⟨h1, hl3, hl4, hk4⟩ := fin (some (.exit id)) W3 hk3
        exact ⟨_, _, h1, .inr ⟨rfl, .exit id, stop _ _ hk3 hi3, hl4, hk4⟩⟩
      | goto tt =>
        obtain ⟨hk3, hi3⟩ := hp
        obtain ⟨h1, hl3, hl4, hk4⟩ := fin (some (.goto tt)) W3 hk3
        exact ⟨_, _, h1, .inr ⟨rfl, .goto tt, stop _ _ hk3 hi3, hl4, hk4⟩⟩
      | panic ch => exact hp.elim
      | outgrown => exact hp.elim
    · rintro e W2 ⟨⟨v, rfl⟩, (⟨hi, hl, hk⟩ | ⟨pre, hSp, c, hi, hl, hk⟩)⟩
      · exact ⟨none, _, by have := run_endLoop (P := P) hl (by rw [hrec]; simp); rw [hrec] at this; exact this,
          hdone _ _ (Nat.le_refl _) (hI _ _ _ _ hi (grownBy_putObj' _ _ _) (fun r e => by cases e; omega)) ((World.putObj_heap_other (by omega)).trans hk)⟩
      · exact ⟨some c, _, by have := run_endLoop (P := P) hl (by rw [hrec]; simp); rw [hrec] at this; exact this,
          wpIn_wide.2 (hstop _ c pre _ (Nat.le_refl _) hSp (hIx _ _ _ _ hi (CellsUp.of_grownBy (grownBy_putObj' _ _ _) (hszx _ _ _ hi) (fun r e => by cases e; exact ⟨by omega, _, hl, rfl⟩))) ((World.putObj_heap_other (by omega)).trans hk))⟩
end Go.Proofs.Ytbpdgoedglkefaa
