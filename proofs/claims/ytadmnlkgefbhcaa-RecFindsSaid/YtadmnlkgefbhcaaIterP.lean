/- A range over an iterator that hands out the elements of a list in order, and makes nothing; each round knows how far it has come. Over any program. -/
import Derived.Test.YtadmnlkgefbhcaaB1
namespace Go.Proofs.Ytadmnlkgefbhcaa
open Go.RowKit

/-- The iterator hands its rounds the elements xs, in order; a round must leave the blocks of S as they are. -/
def SeqP {α : Type} (P : Program) (gf : Nat) (lb : Array Value) (encs : α → Array Value) (S : Nat → Prop) (xs : List α) (w : World) : Prop :=
  ∀ (l : Nat) (J : List α → World → Prop) (W : World), Below w.heap.size w W →
    (∀ pre x W1, J pre W1 → pre ++ [x] <+: xs → YieldAt Fence.wide 4 P l (encs x) W1 fun e W' =>
      e = .returned (.bool true) ∧ J (pre ++ [x]) W' ∧ KeepUp S W1 W') →
    J [] W →
    CallsIn Fence.wide 5 P gf (#[.func (.yield l) #[] #[]] ++ lb) W fun e W' => (∃ v, e = .returned v) ∧ J xs W'

/-- How a round's body is left. -/
def postP {α : Type} (n : Nat) (S : Nat → Prop) (I : List α → World → Prop) (xs : List α) (W : World) : Exit → Act → World → Prop
  | .normal, _, W' => KeepsFrom n W W' ∧ KeepUp S W W' ∧ I xs W'
  | _, _, _ => False

theorem wp_rangeP {α : Type} {P : Program} {g : Operand} {ps : Array Tmp} {assign body : Code} {Q : Exit → Act → World → Prop} {a : Act} {w : World}
    {gf : Nat} {lb : Array Value} (hg : a.eval g = .func (.func gf) #[] lb) (eg : ∀ args w, (callFunc gf args).run P w = .ok (.enter gf args) w)
    {encs : α → Array Value} {S : Nat → Prop} {xs : List α} (hS : ∀ k, S k → k < w.heap.size) (hseq : SeqP P gf lb encs S xs w) (hps : ∀ x, (encs x).size = ps.size)
    (I : List α → World → Prop) (hI : ∀ s W W', I s W → CellsUp w.heap.size W W' → I s W') (hsz : ∀ s W, I s W → w.heap.size ≤ W.heap.size) (h0 : I [] w) (a₁ : α → Act)
    (hassign : ∀ (l : Nat) (x : α) (W : World) (K : Act → World → Prop), K (a₁ x) W →
      assign.wpIn (Fence.wide.inRound l) 4 P (Exit.then K (fun _ _ _ => False)) { tmps := (ps.zip (encs x)).foldl (fun t (p, v) => t.setIfInBounds p v) a.tmps, defers := [] } W)
    (hbody : ∀ (l : Nat) (pre : List α) (x : α) (W : World), I pre W → pre ++ [x] <+: xs → body.wpIn (Fence.wide.inRound l) 4 P (postP w.heap.size S I (pre ++ [x]) W) (a₁ x) W)
    (hdone : ∀ (D : Nat) (W : World), w.heap.size ≤ D → I xs W → W.heap[D]? = some (.deferred (some [])) → Q .normal { a with defers := { target := .collected D, args := #[] } :: a.defers } W) :
    (Code.rangeFunc g ps assign body).wp P Q a w := by
  refine (wpIn_wide (n := 6)).1 ?_
  refine wpIn_rangeFunc ?_
  intro fn hfn
  rw [show Fence.wide.round = none from rfl]
  obtain ⟨rec, hrec⟩ : ∃ rec : LoopState → Option Code → Loop, rec = fun st pe => { state := st, pending := pe, fn, tmps := a.tmps, params := ps, assign, body, defers := w.heap.size } := ⟨_, rfl⟩
  obtain ⟨W1, hW1⟩ : ∃ W1, (w.alloc (.deferred (some []))).alloc (.loop (rec .ready none)) = W1 := ⟨_, rfl⟩
  have hs1 : W1.heap.size = w.heap.size + 2 := by rw [← hW1]; simp
  have hL1 : W1.heap[w.heap.size + 1]? = some (.loop (rec .ready none)) := by
    rw [← hW1]; have := World.alloc_heap_new (w.alloc (.deferred (some []))) (.loop (rec .ready none)); rwa [World.size_alloc] at this
  have hK1 : W1.heap[w.heap.size]? = some (.deferred (some [])) := by
    rw [← hW1]; exact (Below.heap_alloc _ _ _ (by simp)).trans (World.alloc_heap_new w _)
  have hb1 : Below w.heap.size w W1 := by
    rw [← hW1]; exact ((Below.refl _ w).alloc (Nat.le_refl _) _).alloc (by simp) _
  have hI1 : I [] W1 := by
    rw [← hW1]
    refine hI _ _ _ (hI _ _ _ h0 (CellsUp.of_grownBy (World.grownBy_alloc _ _ none) (Nat.le_refl _) (fun r e => by cases e))) (CellsUp.of_grownBy (World.grownBy_alloc _ _ none) (by simp) (fun r e => by cases e))
  refine ⟨w.heap.size + 1, [{ target := .collected w.heap.size, args := #[] }], W1, { target := .fn (.func gf) lb, args := #[.func (.yield (w.heap.size + 1)) #[] #[]] }, W1, gf,
    #[.func (.yield (w.heap.size + 1)) #[] #[]] ++ lb, W1, ?_, ?_, ?_, ?_, fun _ => by omega, ?_⟩
  · rw [← hW1, hrec]; exact run_enterLoop_outer _ _ _ _ _
  · simp only [resolve, hg]
    simp [go_sem]
  · intro f' hf'; trivial
  · simp [invoke, go_sem, eg]
  · refine (hseq (w.heap.size + 1)
      (fun pre W => I pre W ∧ W.heap[w.heap.size + 1]? = some (.loop (rec .ready none)) ∧ W.heap[w.heap.size]? = some (.deferred (some [])))
      W1 hb1 ?_ ⟨hI1, hL1, hK1⟩).mono ?_
    · rintro pre x W ⟨hi, hl, hk⟩ hpre
      have hlt : w.heap.size + 1 < W.heap.size := (Array.getElem?_eq_some_iff.1 hl).1
      have hy := run_yield (P := P) (args := encs x) hl (by rw [hrec]; exact hps x)
      rw [hrec] at hy
      refine ⟨fn, _, assign, body, hy, roundIn_of_wpIn hfn ?_⟩
      have ha := hassign (w.heap.size + 1) x W (fun a₁ w₁ => ∃ w₂, (Instr.beginRound (w.heap.size + 1)).run P w₁ = .ok () w₂ ∧ body.wpIn (Fence.wide.inRound (w.heap.size + 1)) 4 P (roundPost P (w.heap.size + 1) fun e W' =>
        e = .returned (.bool true) ∧ (I (pre ++ [x]) W' ∧ W'.heap[w.heap.size + 1]? = some (.loop (rec .ready none)) ∧ W'.heap[w.heap.size]? = some (.deferred (some []))) ∧ KeepUp S W W') a₁ w₂) ?_
      · exact ha
      clear hy
      refine ⟨_, run_beginRound hl (by rw [hrec]), ?_⟩
      have hl2 : (W.putObj (w.heap.size + 1) (.loop { rec .ready none with state := .busy })).heap[w.heap.size + 1]? = some (.loop { rec .ready none with state := .busy }) := World.putObj_heap_same hlt
      have hk2 : (W.putObj (w.heap.size + 1) (.loop { rec .ready none with state := .busy })).heap[w.heap.size]? = some (.deferred (some [])) := (World.putObj_heap_other (by omega)).trans hk
      have hi2 : I pre (W.putObj (w.heap.size + 1) (.loop { rec .ready none with state := .busy })) := hI _ _ _ hi (CellsUp.of_grownBy (grownBy_putObj' _ _ _) (by omega) (fun r e => by cases e; exact ⟨by omega, _, hl, rfl⟩))
      have hks : KeepUp S W (W.putObj (w.heap.size + 1) (.loop { rec .ready none with state := .busy })) := KeepUp.grown (grownBy_putObj' _ _ _) (fun k hk => by have := hS k hk; omega) (fun k hk e => by have := hS k hk; cases e; omega)
      obtain ⟨W2, hW2⟩ : ∃ W2, W.putObj (w.heap.size + 1) (.loop { rec .ready none with state := .busy }) = W2 := ⟨_, rfl⟩
      rw [hW2] at hl2 hk2 hi2 hks ⊢
      refine wpIn_mono (hbody _ pre x _ hi2 hpre) ?_
      rintro e a3 W3 hp
      cases e with
      | normal =>
        obtain ⟨hk3, hku, hi3⟩ := hp
        have hl3 := hk3.same _ _ (by omega) hl2 rfl
        have h1 := run_endRound (P := P) none hl3
        have hs3 := hsz _ _ hi3
        refine ⟨_, _, h1, rfl, ⟨hI _ _ _ hi3 (CellsUp.of_grownBy (grownBy_putObj' _ _ _) hs3 (fun r e => by cases e; exact ⟨by omega, _, hl3, rfl⟩)), ?_, ?_⟩, hks.trans (hku.trans (KeepUp.grown (grownBy_putObj' _ _ _) (fun k hk => by have := hS k hk; omega) (fun k hk e => by have := hS k hk; cases e; omega)))⟩
        · rw [hrec]; exact World.putObj_heap_same (Array.getElem?_eq_some_iff.1 hl3).1
        · exact (World.putObj_heap_other (by omega)).trans (hk3.same _ _ (Nat.le_refl _) hk2 rfl)
      | ret => exact hp.elim
      | exit id => exact hp.elim
      | goto tt => exact hp.elim
      | panic ch => exact hp.elim
      | outgrown => exact hp.elim
    · rintro e W2 ⟨⟨v, rfl⟩, hi, hl, hk⟩
      exact ⟨none, _, by have := run_endLoop (P := P) hl (by rw [hrec]; simp); rw [hrec] at this; exact this,
          hdone _ _ (Nat.le_refl _) (hI _ _ _ hi (CellsUp.of_grownBy (grownBy_putObj' _ _ _) (hsz _ _ hi) (fun r e => by cases e; exact ⟨by omega, _, hl, rfl⟩))) ((World.putObj_heap_other (by omega)).trans hk)⟩
end Go.Proofs.Ytadmnlkgefbhcaa
