/- Loops whose rounds range over functions: each such range leaves a mark among the deferred calls. Over any program. -/
import Derived.Test.YtadmnlkgefbhcaaB1
namespace Go.Proofs.Ytadmnlkgefbhcaa
open Go.RowKit

/-- The marks of ranges that have ended: different, each at or behind `base`, none with calls. -/
def Marks (base : Nat) (ds : List Deferred) (W : World) : Prop :=
  ∃ Ds : List Nat, ds = Ds.map (fun D => { target := .collected D, args := #[] }) ∧ Ds.Nodup ∧ ∀ D ∈ Ds, base ≤ D ∧ W.heap[D]? = some (.deferred (some []))
theorem Marks.nil (base : Nat) (W : World) : Marks base [] W := ⟨[], rfl, List.nodup_nil, fun D h => absurd h (by simp)⟩
/-- As above, all below n. -/
def MarksIn (base n : Nat) (ds : List Deferred) (W : World) : Prop :=
  ∃ Ds : List Nat, ds = Ds.map (fun D => { target := .collected D, args := #[] }) ∧ Ds.Nodup ∧ ∀ D ∈ Ds, base ≤ D ∧ D < n ∧ W.heap[D]? = some (.deferred (some []))
theorem Marks.lt {base : Nat} {ds : List Deferred} {W : World} (h : Marks base ds W) : MarksIn base W.heap.size ds W := by
  obtain ⟨Ds, h0, h1, h2⟩ := h
  exact ⟨Ds, h0, h1, fun D hD => ⟨(h2 D hD).1, (Array.getElem?_eq_some_iff.1 (h2 D hD).2).1, (h2 D hD).2⟩⟩
theorem MarksIn.all {base n : Nat} {ds : List Deferred} {W : World} (h : MarksIn base n ds W) : Marks base ds W := by
  obtain ⟨Ds, h0, h1, h2⟩ := h
  exact ⟨Ds, h0, h1, fun D hD => ⟨(h2 D hD).1, (h2 D hD).2.2⟩⟩
theorem MarksIn.keep {base n : Nat} {ds : List Deferred} {W W' : World} (h : MarksIn base n ds W) (hk : ∀ k, base ≤ k → k < n → ∀ o : Obj, W.heap[k]? = some o → o = .deferred (some []) → W'.heap[k]? = some o) : MarksIn base n ds W' := by
  obtain ⟨Ds, h0, h1, h2⟩ := h
  exact ⟨Ds, h0, h1, fun D hD => ⟨(h2 D hD).1, (h2 D hD).2.1, hk D (h2 D hD).1 (h2 D hD).2.1 _ (h2 D hD).2.2 rfl⟩⟩
theorem MarksIn.below {base n : Nat} {ds : List Deferred} {W W' : World} (h : MarksIn base n ds W) (hb : Below n W W') : MarksIn base n ds W' := h.keep fun k _ hk o ho _ => (hb.block k hk).trans ho
theorem MarksIn.others {base n : Nat} {ds : List Deferred} {W W' : World} (h : MarksIn base n ds W) (hb : KeepsOthers W W') : MarksIn base n ds W' := h.keep fun k _ _ o ho e => hb.same k o ho (by subst e; rfl)
theorem MarksIn.push {base n : Nat} {ds : List Deferred} {W : World} {D : Nat} (h : MarksIn base n ds W) (hD : n ≤ D) (hb : base ≤ D) (hK : W.heap[D]? = some (.deferred (some []))) : Marks base ({ target := .collected D, args := #[] } :: ds) W := by
  obtain ⟨Ds, rfl, h1, h2⟩ := h
  refine ⟨D :: Ds, rfl, List.nodup_cons.2 ⟨fun hm => by have := (h2 D hm).2.1; omega, h1⟩, fun D' hm => ?_⟩
  rcases List.mem_cons.1 hm with rfl | hm
  · exact ⟨hb, hK⟩
  · exact ⟨(h2 D' hm).1, (h2 D' hm).2.2⟩
theorem Marks.up {base : Nat} {ds : List Deferred} {W W' : World} (hb : Below W.heap.size W W') (h : Marks base ds W) : Marks base ds W' := (h.lt.below hb).all
instance {base : Nat} {ds : List Deferred} {W W' : World} : UpF W W' (Marks base ds W) (Marks base ds W') := ⟨fun h c => Marks.up h c⟩
theorem Marks.others {base : Nat} {ds : List Deferred} {W W' : World} (hb : KeepsOthers W W') (h : Marks base ds W) : Marks base ds W' := (h.lt.others hb).all
/-- The function's end. -/
theorem marks_retN {P : Program} {fn : Func} {R : Ending → World → Prop} {tmps : Array Value} {base : Nat} {ds : List Deferred} {w : World} (hm : Marks base ds w) (hb : base ≤ w.heap.size)
    (h : ∀ W, CellsUp base w W → ∃ v, (results fn tmps).run P W = .ok v W ∧ R (.returned v) W) : bodyPostM Fence.wide 6 P fn R .ret { tmps := tmps, defers := ds } w := by
  show LeavesInM Fence.wide 6 P fn tmps R ds .returning w
  obtain ⟨Ds, rfl, h1, h2⟩ := hm
  have key : ∀ (Ds : List Nat) (W : World), Ds.Nodup → (∀ D ∈ Ds, base ≤ D ∧ W.heap[D]? = some (.deferred (some []))) → CellsUp base w W → LeavesInM Fence.wide 6 P fn tmps R (Ds.map fun D => { target := .collected D, args := #[] }) .returning W := by
    intro Ds
    induction Ds with
    | nil =>
      intro W _ _ hc
      obtain ⟨v, hr, hR⟩ := h W hc
      exact ⟨v, hr, hR⟩
    | cons D Ds ih =>
      intro W hn hD hc
      have hK := (hD D List.mem_cons_self).2
      have hDb := (hD D List.mem_cons_self).1
      have hlt : D < W.heap.size := (Array.getElem?_eq_some_iff.1 hK).1
      refine ⟨by simp, .inl ⟨_, _, rfl, run_takeDeferred hK, ih _ (List.nodup_cons.1 hn).2 (fun D' hD' => ⟨(hD D' (List.mem_cons_of_mem _ hD')).1, (World.putObj_heap_other (fun e => (List.nodup_cons.1 hn).1 (by subst e; exact hD'))).trans (hD D' (List.mem_cons_of_mem _ hD')).2⟩) ?_⟩⟩
      have hs := hc.below.size
      have h3 := marks_up (n := base) (w := W) (D := D) (by omega) hDb hK
      exact ⟨hc.below.trans h3.below, fun k c t f hk => h3.cells k c t f (hc.cells k c t f hk)⟩
  exact key Ds w h1 h2 ⟨Below.refl _ _, fun _ _ _ _ hk => hk⟩

/-! ### Loops -/
def setMany (t : Array Value) : List Nat → (Nat → Value) → Array Value
  | [], _ => t
  | s :: l, us => setMany (t.setIfInBounds s (us s)) l us
def slotF (t : Array Value) (s : Nat) : Value := t.getD s undef
theorem set_self (t : Array Value) (s : Nat) : t.setIfInBounds s (slotF t s) = t := by
  unfold slotF
  apply Array.ext
  · simp
  · intro i h1 h2
    rw [Array.getElem_setIfInBounds (by simpa using h1)]
    split
    · subst_vars; simp [Array.getD, h2]
    · rfl
theorem setMany_self (t : Array Value) : ∀ l, setMany t l (slotF t) = t
  | [] => rfl
  | s :: l => by unfold setMany; rw [set_self]; exact setMany_self t l
/-- The end of a round. -/
def RoundEnd (t0 : Array Value) (slots : List Nat) (rel : (Nat → Value) → List Deferred → World → Prop) (μ : (Nat → Value) → Nat) (m : Nat) (a : Act) (w : World) : Prop :=
  (a.tmps = setMany t0 slots (slotF a.tmps) ∧ rel (slotF a.tmps) a.defers w) ∧ μ (slotF a.tmps) < m
theorem wp_loop_marks {P : Program} {c : Code} {Q : Exit → Act → World → Prop} {t0 : Array Value} {ds0 : List Deferred} {w : World} (slots : List Nat) (rel : (Nat → Value) → List Deferred → World → Prop) (μ : (Nat → Value) → Nat)
    (h0 : rel (slotF t0) ds0 w)
    (round : ∀ us ds W, rel us ds W → c.wp P (Exit.then (RoundEnd t0 slots rel μ (μ us)) Q) { tmps := setMany t0 slots us, defers := ds } W) : (Code.loop c).wp P Q { tmps := t0, defers := ds0 } w := by
  refine wp_loop (fun a w => a.tmps = setMany t0 slots (slotF a.tmps) ∧ rel (slotF a.tmps) a.defers w) (fun a _ => μ (slotF a.tmps)) ⟨(setMany_self t0 slots).symm, h0⟩ ?_
  rintro ⟨t, ds⟩ W ⟨h1, h2⟩
  have := round _ _ _ h2
  simp only at h1 h2 this ⊢
  rw [← h1] at this
  exact this
end Go.Proofs.Ytadmnlkgefbhcaa
