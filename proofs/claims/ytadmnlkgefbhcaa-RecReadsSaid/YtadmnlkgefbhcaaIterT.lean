/- A range over an iterator that has memory of its own: the first m blocks that it makes; a round writes other blocks. Over any program. -/
import Derived.Test.YtadmnlkgefbhcaaB1
import Derived.Test.YtadmnlkgefbhcaaMarks
namespace Go.Proofs.Ytadmnlkgefbhcaa
open Go.RowKit

/-- All below N but those of T, and m blocks from n on, lie as they lay. -/
structure KeepN (T : Nat → Prop) (N n m : Nat) (W W' : World) : Prop where
  size : W.heap.size ≤ W'.heap.size
  low : ∀ k, k < N → ¬ T k → W'.heap[k]? = W.heap[k]?
  own : ∀ k, n ≤ k → k < n + m → W'.heap[k]? = W.heap[k]?
section
variable {T : Nat → Prop} {N n m : Nat}
theorem KeepN.refl (W : World) : KeepN T N n m W W := ⟨Nat.le_refl _, fun _ _ _ => rfl, fun _ _ _ => rfl⟩
theorem KeepN.trans {A B C : World} (h : KeepN T N n m A B) (k : KeepN T N n m B C) : KeepN T N n m A C :=
  ⟨Nat.le_trans h.size k.size, fun i h1 h2 => (k.low i h1 h2).trans (h.low i h1 h2), fun i h1 h2 => (k.own i h1 h2).trans (h.own i h1 h2)⟩
theorem KeepN.of_below {W W' : World} (h : Below W.heap.size W W') (hN : N ≤ W.heap.size) (hn : n + m ≤ W.heap.size) : KeepN T N n m W W' :=
  ⟨h.size, fun k hk _ => h.block k (by omega), fun k _ hk => h.block k (by omega)⟩
theorem KeepN.grown {A W W' : World} {row : Option Nat} (h : KeepN T N n m A W) (hg : W.grownBy W' row) (hN : N ≤ W.heap.size) (hn : n + m ≤ W.heap.size) (hr : ∀ k, row = some k → (k < N → T k) ∧ ¬ (n ≤ k ∧ k < n + m)) : KeepN T N n m A W' :=
  ⟨Nat.le_trans h.size hg.size, fun k hk ht => (hg.block k (by omega) (fun e => ht ((hr k e.symm).1 hk))).trans (h.low k hk ht), fun k h1 h2 => (hg.block k (by omega) (fun e => (hr k e.symm).2 ⟨h1, h2⟩)).trans (h.own k h1 h2)⟩
theorem KeepN.setC {A W : World} (h : KeepN T N n m A W) {a : Addr} (v : Value) (ht : (a.block < N → T a.block) ∧ ¬ (n ≤ a.block ∧ a.block < n + m)) : KeepN T N n m A (W.setCell a v) :=
  ⟨by simpa [World.setCell] using h.size, fun k hk hn => (Below.heap_setCell W a v k (fun e => hn (by rw [e]; exact ht.1 (by omega)))).trans (h.low k hk hn), fun k h1 h2 => (Below.heap_setCell W a v k (fun e => ht.2 (by omega))).trans (h.own k h1 h2)⟩
theorem KeepN.drew {A W : World} (h : KeepN T N n m A W) : KeepN T N n m A W.drew := ⟨h.size, h.low, h.own⟩
theorem KeepN.cell {w W : World} (hk : KeepN T N n m w W) {a : Addr} {v : Value} (ht : (a.block < N ∧ ¬ T a.block) ∨ (n ≤ a.block ∧ a.block < n + m)) (c : w.cell? a = some v) : W.cell? a = some v := by
  rw [← c]
  refine World.cell?_of_block ?_
  rcases ht with h | h
  · exact hk.low _ h.1 h.2
  · exact hk.own _ h.1 h.2
end
/-- An iterator's contract: it hands its rounds the elements xs, in order, until a round says 'no more'; a round may write the blocks of T, and those made behind the iterator's own. -/
def IterT {α : Type} (P : Program) (gf : Nat) (lb : Array Value) (enc : α → Value) (T : Nat → Prop) (m : Nat) (xs : List α) (w : World) : Prop :=
  ∀ (l : Nat) (J Jx : List α → World → Prop) (W : World), Below w.heap.size w W →
    (∀ s A B, J s A → Below A.heap.size A B → J s B) →
    (∀ pre x W1, J pre W1 → pre ++ [x] <+: xs → W.heap.size + m ≤ W1.heap.size → YieldAt Fence.wide 4 P l #[enc x] W1 fun e W' =>
      (e = .returned (.bool true) ∧ J (pre ++ [x]) W' ∧ KeepN T w.heap.size W.heap.size m W1 W') ∨ (e = .returned (.bool false) ∧ Jx (pre ++ [x]) W')) →
    J [] W →
    CallsIn Fence.wide 5 P gf (#[.func (.yield l) #[] #[]] ++ lb) W fun e W' => (∃ v, e = .returned v) ∧ (J xs W' ∨ ∃ pre, pre <+: xs ∧ Jx pre W')

/-- How a round's body may be left. -/
def postT {α : Type} (n : Nat) (Kp : World → World → Prop) (I : List α → World → Prop) (Ix : Code → List α → World → Prop) (xs : List α) (W : World) : Exit → Act → World → Prop
  | .normal, _, W' => KeepsFrom n W W' ∧ Kp W W' ∧ I xs W'
  | .ret, _, W' => KeepsFrom n W W' ∧ Ix .ret xs W'
  | .exit id, _, W' => KeepsFrom n W W' ∧ Ix (.exit id) xs W'
  | .goto t, _, W' => KeepsFrom n W W' ∧ Ix (.goto t) xs W'
  | .panic _, _, _ => False
  | .outgrown, _, _ => False

theorem wp_rangeT {α : Type} {P : Program} {g : Operand} {p : Tmp} {assign body : Code} {Q : Exit → Act → World → Prop} {a : Act} {w : World}
    {gf : Nat} {lb : Array Value} (hg : a.eval g = .func (.func gf) #[] lb) (eg : ∀ args w, (callFunc gf args).run P w = .ok (.enter gf args) w)
    {enc : α → Value} {T : Nat → Prop} {m : Nat} {xs : List α} (hseq : IterT P gf lb enc T m xs w)
    (I : List α → World → Prop) (Ix : Code → List α → World → Prop)
    (hI : ∀ s A B, I s A → CellsUp w.heap.size A B → I s B)
    (hIx : ∀ c s A B, Ix c s A → CellsUp w.heap.size A B → Ix c s B)
    (hsz : ∀ s W, I s W → w.heap.size ≤ W.heap.size)
    (hszx : ∀ c s W, Ix c s W → w.heap.size ≤ W.heap.size)
    (h0 : I [] w) (a₁ : α → Act)
    (hassign : ∀ (l : Nat) (x : α) (W : World) (K : Act → World → Prop), K (a₁ x) W →
      assign.wpIn (Fence.wide.inRound l) 4 P (Exit.then K (fun _ _ _ => False)) { tmps := a.tmps.setIfInBounds p (enc x), defers := [] } W)
    (hbody : ∀ (l : Nat) (pre : List α) (x : α) (W : World), I pre W → pre ++ [x] <+: xs → w.heap.size + 2 + m ≤ W.heap.size →
      body.wpIn (Fence.wide.inRound l) 4 P (postT w.heap.size (KeepN T w.heap.size (w.heap.size + 2) m) I Ix (pre ++ [x]) W) (a₁ x) W)
    (hdone : ∀ (D : Nat) (W : World), w.heap.size ≤ D → I xs W → W.heap[D]? = some (.deferred (some [])) → Q .normal { a with defers := { target := .collected D, args := #[] } :: a.defers } W)
    (hstop : ∀ (D : Nat) (c : Code) (pre : List α) (W : World), w.heap.size ≤ D → pre <+: xs → Ix c pre W → W.heap[D]? = some (.deferred (some [])) → c.wp P Q { a with defers := { target := .collected D, args := #[] } :: a.defers } W) :
    (Code.rangeFunc g #[p] assign body).wp P Q a w := by
  refine (wpIn_wide (n := 6)).1 ?_
  refine wpIn_rangeFunc ?_
  intro fn hfn
  rw [show Fence.wide.round = none from rfl]
  obtain ⟨rec, hrec⟩ : ∃ rec : LoopState → Option Code → Loop, rec = fun st pe => { state := st, pending := pe, fn, tmps := a.tmps, params := #[p], assign, body, defers := w.heap.size } := ⟨_, rfl⟩
  obtain ⟨W1, hW1⟩ : ∃ W1, (w.alloc (.deferred (some []))).alloc (.loop (rec .ready none)) = W1 := ⟨_, rfl⟩
  have hs1 : W1.heap.size = w.heap.size + 2 := by rw [← hW1]; simp
  have hL1 : W1.heap[w.heap.size + 1]? = some (.loop (rec .ready none)) := by
    rw [← hW1]; have := World.alloc_heap_new (w.alloc (.deferred (some []))) (.loop (rec .ready none)); rwa [World.size_alloc] at this
  have hK1 : W1.heap[w.heap.size]? = some (.deferred (some [])) := by
    rw [← hW1]; exact (Below.heap_alloc _ _ _ (by simp)).trans (World.alloc_heap_new w _)
  have hb1 : Below w.heap.size w W1 := by
    rw [← hW1]; exact ((Below.refl _ w).alloc (Nat.le_refl _) _).alloc (by simp) _
  have hup : ∀ A B : World, w.heap.size ≤ A.heap.size → Below A.heap.size A B → CellsUp w.heap.size A B := fun A B hs hb =>
    CellsUp.of_grownBy (grownBy_of_below hb) hs (fun r e => by cases e)
  have hI1 : I [] W1 := hI _ _ _ h0 (hup _ _ (Nat.le_refl _) hb1)
  refine ⟨w.heap.size + 1, [{ target := .collected w.heap.size, args := #[] }], W1, { target := .fn (.func gf) lb, args := #[.func (.yield (w.heap.size + 1)) #[] #[]] }, W1, gf,
    #[.func (.yield (w.heap.size + 1)) #[] #[]] ++ lb, W1, ?_, ?_, ?_, ?_, fun _ => by omega, ?_⟩
  · rw [← hW1, hrec]; exact run_enterLoop_outer _ _ _ _ _
  · simp only [resolve, hg]
    simp [go_sem]
  · intro f' hf'; trivial
  · simp [invoke, go_sem, eg]
  · refine (hseq (w.heap.size + 1)
      (fun pre W => I pre W ∧ W.heap[w.heap.size + 1]? = some (.loop (rec .ready none)) ∧ W.heap[w.heap.size]? = some (.deferred (some [])))
      (fun pre W => ∃ c, Ix c pre W ∧ W.heap[w.heap.size + 1]? = some (.loop (rec .done (some c))) ∧ W.heap[w.heap.size]? = some (.deferred (some [])))
      W1 hb1 ?_ ?_ ⟨hI1, hL1, hK1⟩).mono ?_
    · rintro s A B ⟨hs, hl, hk⟩ hb
      exact ⟨hI s A B hs (hup _ _ (hsz _ _ hs) hb), Up.block hb hl, Up.block hb hk⟩
    · rintro pre x W ⟨hi, hl, hk⟩ hlen hm
      rw [hs1] at hm ⊢
      have hlt : w.heap.size + 1 < W.heap.size := (Array.getElem?_eq_some_iff.1 hl).1
      have hy := run_yield (P := P) (args := #[enc x]) hl (by rw [hrec]; rfl)
      rw [hrec] at hy
      refine ⟨fn, _, assign, body, hy, roundIn_of_wpIn hfn ?_⟩
      have ha := hassign (w.heap.size + 1) x W (fun a₁ w₁ => ∃ w₂, (Instr.beginRound (w.heap.size + 1)).run P w₁ = .ok () w₂ ∧ body.wpIn (Fence.wide.inRound (w.heap.size + 1)) 4 P (roundPost P (w.heap.size + 1) fun e W' =>
        (e = .returned (.bool true) ∧ (I (pre ++ [x]) W' ∧ W'.heap[w.heap.size + 1]? = some (.loop (rec .ready none)) ∧ W'.heap[w.heap.size]? = some (.deferred (some []))) ∧ KeepN T w.heap.size (w.heap.size + 2) m W W') ∨
        (e = .returned (.bool false) ∧ ∃ c, Ix c (pre ++ [x]) W' ∧ W'.heap[w.heap.size + 1]? = some (.loop (rec .done (some c))) ∧ W'.heap[w.heap.size]? = some (.deferred (some [])))) a₁ w₂) ?_
      · simpa using ha
      clear hy
      refine ⟨_, run_beginRound hl (by rw [hrec]), ?_⟩
      have hl2 : (W.putObj (w.heap.size + 1) (.loop { rec .ready none with state := .busy })).heap[w.heap.size + 1]? = some (.loop { rec .ready none with state := .busy }) := World.putObj_heap_same hlt
      have hk2 : (W.putObj (w.heap.size + 1) (.loop { rec .ready none with state := .busy })).heap[w.heap.size]? = some (.deferred (some [])) := (World.putObj_heap_other (by omega)).trans hk
      have hput : ∀ (V : World) (o : Obj), KeepN T w.heap.size (w.heap.size + 2) m V (V.putObj (w.heap.size + 1) o) := fun V o =>
        ⟨(grownBy_putObj' _ _ _).size, fun k h1 _ => World.putObj_heap_other (by omega), fun k h1 _ => World.putObj_heap_other (by omega)⟩
      have hi2 : I pre (W.putObj (w.heap.size + 1) (.loop { rec .ready none with state := .busy })) := hI _ _ _ hi (CellsUp.of_grownBy (grownBy_putObj' _ _ _) (by omega) (fun r e => by cases e; exact ⟨by omega, _, hl, rfl⟩))
      have hkc := hput W (.loop { rec .ready none with state := .busy })
      have hsz2 : w.heap.size + 2 + m ≤ (W.putObj (w.heap.size + 1) (.loop { rec .ready none with state := .busy })).heap.size := Nat.le_trans hm (grownBy_putObj' _ _ _).size
      obtain ⟨W2, hW2⟩ : ∃ W2, W.putObj (w.heap.size + 1) (.loop { rec .ready none with state := .busy }) = W2 := ⟨_, rfl⟩
      rw [hW2] at hl2 hk2 hi2 hkc hsz2 ⊢
      refine wpIn_mono (hbody _ pre x _ hi2 hlen hsz2) ?_
      have fin : ∀ (jump : Option Code) (W3 : World), KeepsFrom w.heap.size W2 W3 →
          (Instr.endRound (w.heap.size + 1) jump).run P W3 = .ok (.bool jump.isNone) (W3.putObj (w.heap.size + 1) (.loop (rec (if jump.isNone then .ready else .done) jump))) ∧
          W3.heap[w.heap.size + 1]? = some (.loop { rec .ready none with state := .busy }) ∧
          (W3.putObj (w.heap.size + 1) (.loop (rec (if jump.isNone then .ready else .done) jump))).heap[w.heap.size + 1]? = some (.loop (rec (if jump.isNone then .ready else .done) jump)) ∧
          (W3.putObj (w.heap.size + 1) (.loop (rec (if jump.isNone then .ready else .done) jump))).heap[w.heap.size]? = some (.deferred (some [])) := fun jump W3 hk3 => by
        have hl3 := hk3.same _ _ (by omega) hl2 rfl
        have := run_endRound (P := P) jump hl3
        rw [hrec] at this ⊢
        exact ⟨this, by rw [hrec] at hl3; exact hl3, World.putObj_heap_same (Array.getElem?_eq_some_iff.1 hl3).1, (World.putObj_heap_other (by omega)).trans (hk3.same _ _ (Nat.le_refl _) hk2 rfl)⟩
      have stop : ∀ (c : Code) (W3 : World), KeepsFrom w.heap.size W2 W3 → Ix c (pre ++ [x]) W3 → Ix c (pre ++ [x]) (W3.putObj (w.heap.size + 1) (.loop (rec .done (some c)))) := fun c W3 hk3 hi3 => by
        have hl3 := hk3.same _ _ (by omega) hl2 rfl
        exact hIx _ _ _ _ hi3 (CellsUp.of_grownBy (grownBy_putObj' _ _ _) (hszx _ _ _ hi3) (fun r e => by cases e; exact ⟨by omega, _, hl3, rfl⟩))
      rintro e a3 W3 hp
      cases e with
      | normal =>
        obtain ⟨hkf, hbel, hi3⟩ := hp
        obtain ⟨h1, hl3, hl4, hk4⟩ := fin none W3 hkf
        exact ⟨_, _, h1, .inl ⟨rfl, ⟨hI _ _ _ hi3 (CellsUp.of_grownBy (grownBy_putObj' _ _ _) (hsz _ _ hi3) (fun r e => by cases e; exact ⟨by omega, _, hl3, rfl⟩)), hl4, hk4⟩, hkc.trans (hbel.trans (hput W3 _))⟩⟩
      | ret =>
        obtain ⟨hk3, hi3⟩ := hp
        obtain ⟨h1, hl3, hl4, hk4⟩ := fin (some .ret) W3 hk3
        exact ⟨_, _, h1, .inr ⟨rfl, .ret, stop _ _ hk3 hi3, hl4, hk4⟩⟩
      | exit id =>
        obtain ⟨hk3, hi3⟩ := hp
        obtain ⟨h1, hl3, hl4, hk4⟩ := fin (some (.exit id)) W3 hk3
        exact ⟨_, _, h1, .inr ⟨rfl, .exit id, stop _ _ hk3 hi3, hl4, hk4⟩⟩
      | goto tt =>
        obtain ⟨hk3, hi3⟩ := hp
        obtain ⟨h1, hl3, hl4, hk4⟩ := fin (some (.goto tt)) W3 hk3
        exact ⟨_, _, h1, .inr ⟨rfl, .goto tt, stop _ _ hk3 hi3, hl4, hk4⟩⟩
      | panic ch => exact hp.elim
      | outgrown => exact hp.elim
    · rintro e W2 ⟨⟨v, rfl⟩, (⟨hi, hl, hk⟩ | ⟨pre, hSp, c, hi, hl, hk⟩)⟩
      · exact ⟨none, _, by have := run_endLoop (P := P) hl (by rw [hrec]; simp); rw [hrec] at this; exact this,
          hdone _ _ (Nat.le_refl _) (hI _ _ _ hi (CellsUp.of_grownBy (grownBy_putObj' _ _ _) (hsz _ _ hi) (fun r e => by cases e; exact ⟨by omega, _, hl, rfl⟩))) ((World.putObj_heap_other (by omega)).trans hk)⟩
      · exact ⟨some c, _, by have := run_endLoop (P := P) hl (by rw [hrec]; simp); rw [hrec] at this; exact this,
          wpIn_wide.2 (hstop _ c pre _ (Nat.le_refl _) hSp (hIx _ _ _ _ hi (CellsUp.of_grownBy (grownBy_putObj' _ _ _) (hszx _ _ _ hi) (fun r e => by cases e; exact ⟨by omega, _, hl, rfl⟩))) ((World.putObj_heap_other (by omega)).trans hk))⟩
end Go.Proofs.Ytadmnlkgefbhcaa
