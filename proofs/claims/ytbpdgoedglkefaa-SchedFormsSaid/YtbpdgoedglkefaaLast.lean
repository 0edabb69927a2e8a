/- A drawn region with one operation that waits for its loads (a store at its end): what the loads read need hold only till that operation. Over any program. -/
import Derived.OrdersHeld
import Derived.Deep.RegionHeld
namespace Go.Proofs.Ytbpdgoedglkefaa

section
variable {P : Program} {ops : Array Oper} {Q : Exit → Act → World → Prop} {md : Region.Mode} {S : World → Prop} {m : Nat}
/-- Whatever order comes, and S is true behind each operation as long as number m has not come. -/
def wpL (P : Program) (md : Region.Mode) (ops : Array Oper) (Q : Exit → Act → World → Prop) (m : Nat) (S : World → Prop) : Nat → Array Bool → Act → World → Prop
  | 0, L, a, w => Region.ready md ops L = [] ∧ Q .normal a w
  | f + 1, L, a, w => (Region.ready md ops L = [] → Q .normal a w) ∧
    ∀ i ∈ Region.ready md ops L, wpOp P ops Q i (fun a' w' => ((L.setIfInBounds i true).getD m true = false → S w') ∧ wpL P md ops Q m S f (L.setIfInBounds i true) a' w') a w
theorem wpL.any : ∀ (f : Nat) (L : Array Bool) (a : Act) (w : World), wpL P md ops Q m S f L a w → wpAny P md ops Q f L a w
  | 0, _, _, _, h => h
  | f + 1, _, _, _, h => ⟨h.1, fun i hi => wpOp_mono (fun a' w' h' => wpL.any f _ a' w' h'.2) (h.2 i hi)⟩
theorem wpL.region {id : Nat} {a : Act} {w : World} (hm : P.follows .mixedOrders = true) (hS : S w.drew)
    (h : S w.drew → wpL P .any ops Q m S ops.size (Array.replicate ops.size false) a w.drew) : (Code.region id ops true).wp P Q a w :=
  wp_region_any hm (wpL.any _ _ _ _ (h hS))
theorem wpL.fin {L : Array Bool} {a : Act} {w : World} (hr : Region.ready md ops L = []) (h : Q .normal a w) : ∀ f, wpL P md ops Q m S f L a w
  | 0 => ⟨hr, h⟩
  | _ + 1 => ⟨fun _ => h, by rw [hr]; simp⟩
theorem wpL.one0 {i f : Nat} {L : Array Bool} {a : Act} {w : World} (hr : Region.ready md ops L = [i])
    (h : wpOp P ops Q i (fun a' w' => ((L.setIfInBounds i true).getD m true = false → S w') ∧ wpL P md ops Q m S f (L.setIfInBounds i true) a' w') a w) : wpL P md ops Q m S (f + 1) L a w :=
  ⟨fun h0 => (by rw [hr] at h0; simp at h0), fun j hj => (by rw [hr] at hj; simp at hj; subst hj; exact h)⟩
/-- Just one operation may come up: it comes up; S is to be shown anew. -/
theorem wpL.one {i f : Nat} {o : Oper} {L : Array Bool} {a : Act} {w : World} (hr : Region.ready md ops L = [i]) (ho : ops.toList[i]? = some o)
    (h : ∀ K' : Act → World → Prop, Shut (∀ a w, S w → (S w → wpL P md ops Q m S f (L.setIfInBounds i true) a w) → K' a w) → if Region.wanted o (yielded ops a.tmps) = true then Oper.wp P o a w K' Q else K' (a.put o.dst undef) w) : wpL P md ops Q m S (f + 1) L a w :=
  wpL.one0 hr (wpOp_step (by simpa using ho) fun K' hK => h K' (fun a w hS hW => hK a w ⟨fun _ => hS, hW hS⟩))
/-- Just number m may come up: it comes up. -/
theorem wpL.last {f : Nat} {o : Oper} {L : Array Bool} {a : Act} {w : World} (hr : Region.ready md ops L = [m]) (hd : (L.setIfInBounds m true).getD m true = true) (ho : ops.toList[m]? = some o)
    (h : ∀ K' : Act → World → Prop, Shut (∀ a w, wpL P md ops Q m S f (L.setIfInBounds m true) a w → K' a w) → if Region.wanted o (yielded ops a.tmps) = true then Oper.wp P o a w K' Q else K' (a.put o.dst undef) w) : wpL P md ops Q m S (f + 1) L a w :=
  wpL.one0 hr (wpOp_step (by simpa using ho) fun K' hK => h K' (fun a w hW => hK a w ⟨fun h0 => (by rw [hd] at h0; cases h0), hW⟩))
/-- Number m waits for number i. -/
def waits (md : Region.Mode) (ops : Array Oper) (m i : Nat) : Bool := match ops[m]? with
  | some o => o.after.any fun e => Region.binds md e && e.on == i
  | none => false
theorem wpL.first {i : Nat} {oi : Oper} {v : Value} (hi : ops[i]? = some oi) (hsel : ∀ (j : Nat) (o : Oper) cs b, ops[j]? = some o → o.op ≠ .select cs b)
    (hQ : ∀ c a w, Q (.panic c) (a.put oi.dst v) w → Q (.panic c) a w) (hmi : waits md ops m i = true) (hne : m ≠ i) :
    ∀ (f : Nat) (L : Array Bool) (a : Act) (w : World),
      (∀ j oj, ops[j]? = some oj → j ≠ i → L.getD j true = false → (∀ e ∈ oj.after, Region.binds md e = true → e.on ≠ i) → oi.apart ops oj = true) →
      i ∈ Region.ready md ops L → L.getD m true = false → YieldsIf P ops S oi v a → S w →
      wpL P md ops Q m S f (L.setIfInBounds i true) (a.put oi.dst v) w → wpL P md ops Q m S (f + 1) L a w := by
  have me : ∀ {L : Array Bool} {j : Nat}, i ∈ Region.ready md ops L → j ∈ Region.ready md ops L → j ≠ i → j ≠ m := by
    rintro L j h1 h2 hji rfl
    obtain ⟨-, o, ho, hall⟩ := mem_ready.1 h2
    simp only [waits, ho, Array.any_eq_true, Bool.and_eq_true, beq_iff_eq] at hmi
    obtain ⟨k, hk, hb, he⟩ := hmi
    have h3 := hall _ (Array.getElem_mem hk) hb
    rw [he] at h3
    have h0 := (mem_ready.1 h1).1
    rcases Nat.lt_or_ge i L.size with h' | h'
    · simp [h'] at h0 h3; rw [h0] at h3; cases h3
    · simp [Array.getElem?_eq_none h'] at h3
  intro f
  induction f with
  | zero =>
    intro L a w _ hr _ hy hS H
    refine ⟨fun h => (by rw [h] at hr; cases hr), fun j hj => ?_⟩
    by_cases hji : j = i
    · subst hji; exact hy.wpOp hi hS ⟨fun _ => hS, H⟩
    · have h1 := ready_mono hj hji
      rw [H.1] at h1; cases h1
  | succ f ih =>
    intro L a w hfree hr hL hy hS H
    refine ⟨fun h => (by rw [h] at hr; cases hr), fun j hj => ?_⟩
    by_cases hji : j = i
    · subst hji; exact hy.wpOp hi hS ⟨fun _ => hS, H⟩
    have hjm := me hr hj hji
    have hstep := H.2 j (ready_mono hj hji)
    obtain ⟨hjun, oj, hoj, hall⟩ := mem_ready.1 hj
    have hnot : ∀ e ∈ oj.after, Region.binds md e = true → e.on ≠ i := fun e he hb heq => by
      have h1 := hall e he hb
      have h0 := (mem_ready.1 hr).1
      rw [heq] at h1
      rcases Nat.lt_or_ge i L.size with h' | h'
      · simp [h'] at h0 h1; rw [h0] at h1; cases h1
      · simp [Array.getElem?_eq_none h'] at h1
    have h2 := wpOp_putIf hoj (hfree j oj hoj hji hjun hnot) (fun cs b => hsel i oi cs b hi) (fun cs b => hsel j oj cs b hoj) hQ hy hstep
    have hLj : (L.setIfInBounds j true).getD m true = false := by rw [getD_set_ne true hjm]; exact hL
    refine wpOp_mono (fun a' w' h3 => ?_) h2
    have hSw : S w' := h3.2.1 (by rw [getD_set_ne true hjm, getD_set_ne true (Ne.symm hne)]; exact hL)
    refine ⟨fun _ => hSw, ih (L.setIfInBounds j true) a' w' ?_ (ready_mono hr (Ne.symm hji)) hLj h3.1 hSw ?_⟩
    · intro k ok hk hki hun hno
      refine hfree k ok hk hki ?_ hno
      by_cases hjk : j = k
      · subst hjk; exact hjun
      · rw [getD_set_ne true hjk] at hun; exact hun
    · rw [Array.setIfInBounds_comm _ _ hji]; exact h3.2.2
theorem wpL.take {i : Nat} {oi : Oper} {v : Value} {f : Nat} {L : Array Bool} {a : Act} {w : World} (hi0 : ops.toList[i]? = some oi)
    (hs : Region.noSelect ops = true) (hf : Region.free md ops L i = true) (hr : (Region.ready md ops L).contains i = true) (hmi : waits md ops m i = true) (hne : m ≠ i) (hL : L.getD m true = false)
    (hQ : ∀ c a w, Q (.panic c) (a.put oi.dst v) w → Q (.panic c) a w) (hy : YieldsIf P ops S oi v a) (hS : S w)
    (h : wpL P md ops Q m S f (L.setIfInBounds i true) (a.put oi.dst v) w) : wpL P md ops Q m S (f + 1) L a w :=
  have hi : ops[i]? = some oi := by simpa using hi0
  wpL.first hi (Region.noSelect_spec hs) hQ hmi hne f L a w (Region.free_spec hi hf) (by simpa using hr) hL hy hS h
theorem wpL.take' {i : Nat} {oi : Oper} {f : Nat} {L : Array Bool} {a : Act} {w : World} (hi0 : ops.toList[i]? = some oi)
    (hs : Region.noSelect ops = true) (hf : Region.free md ops L i = true) (hr : (Region.ready md ops L).contains i = true) (hmi : waits md ops m i = true) (hne : m ≠ i) (hL : L.getD m true = false) (hS : S w)
    (h : ∃ v, (∀ c a w, Q (.panic c) (a.put oi.dst v) w → Q (.panic c) a w) ∧ YieldsIf P ops S oi v a ∧ wpL P md ops Q m S f (L.setIfInBounds i true) (a.put oi.dst v) w) : wpL P md ops Q m S (f + 1) L a w := by
  obtain ⟨v, h1, h2, h3⟩ := h
  exact wpL.take hi0 hs hf hr hmi hne hL h1 h2 hS h3
end
end Go.Proofs.Ytbpdgoedglkefaa
