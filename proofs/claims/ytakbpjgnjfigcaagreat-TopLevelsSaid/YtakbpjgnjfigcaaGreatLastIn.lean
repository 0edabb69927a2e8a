/- XLast's walk through a drawn region, for a region that stands in a round. Over any program. -/
import Derived.Test.YtakbpjgnjfigcaaGreatB1
namespace Go.Proofs.YtakbpjgnjfigcaaGreat
open Go.RowKit

/-- As Q, and left in the normal way alone. -/
def onlyN (Q : Exit → Act → World → Prop) : Exit → Act → World → Prop := fun e a w => e = .normal ∧ Q .normal a w
theorem onlyN_lets {Q : Exit → Act → World → Prop} : ¬ LetsOut (onlyN Q) := fun ⟨_, _, h, _⟩ => by cases h
section
variable {P : Program} {ops : Array Oper} {Q : Exit → Act → World → Prop} {n l : Nat}
theorem rows_in {row : String} {args : Array Value} {w : World} {R : Value → World → Prop} (h : Rows P row args w R) : RowsIn (Fence.wide.inRound l) n P row args w R :=
  fun c cs _ => let ⟨v, w', r, s⟩ := h c cs; ⟨v, w', r, stepsIn_wide.2 s⟩
theorem operWp_in {o : Oper} {a : Act} {w : World} {K : Act → World → Prop} (hd : ∀ c, o.op ≠ .defer c) (h : o.wp P a w K Q) : o.wpIn (Fence.wide.inRound l) n P a w K Q := by
  refine ⟨fun _ _ => trivial, ?_⟩
  rw [Oper.semAt_eq _ _ _ hd]
  unfold Oper.wp at h
  generalize (execOp a.eval o).run P w = r at h ⊢
  unfold Oper.upon at h
  unfold Oper.uponIn
  split at h
  · exact h
  · exact h
  · exact h
  · exact ⟨fun e => by simp [Fence.wide, Fence.inRound] at e, cir h⟩
  · exact ⟨fun e => by simp [Fence.wide, Fence.inRound] at e, rows_in h⟩
  · exact h
  · exact h.elim
theorem wpAny_in {md : Region.Mode} (hd : ∀ (i : Nat) (o : Oper), ops[i]? = some o → ∀ c, o.op ≠ .defer c) (hl : ¬ LetsOut Q) : ∀ (f : Nat) (L : Array Bool) (a : Act) (w : World), wpAny P md ops Q f L a w → wpAnyIn (Fence.wide.inRound l) n P md ops Q f L a w
  | 0, _, _, _, h => h
  | f + 1, L, a, w, h => ⟨h.1, fun i hi => by
    have h1 := wpOp_mono (fun a' w' h' => wpAny_in hd hl f _ a' w' h') (h.2 i hi)
    unfold wpOp at h1
    unfold wpOpIn
    cases ho : ops[i]? with
    | none => rw [ho] at h1; exact h1
    | some o =>
      rw [ho] at h1
      simp only at h1 ⊢
      split
      · rename_i hw
        rw [if_pos hw] at h1
        rcases h1 with h1 | ⟨_, h1⟩
        · exact operWp_in (hd i o ho) h1
        · exact absurd h1 hl
      · rename_i hw
        rw [if_neg hw] at h1
        exact ⟨fun _ _ => trivial, h1⟩⟩
def noDefer (ops : Array Oper) : Bool := ops.all fun o => match o.op with
  | .defer _ => false
  | _ => true
theorem noDefer_spec (h : noDefer ops = true) : ∀ (i : Nat) (o : Oper), ops[i]? = some o → ∀ c, o.op ≠ .defer c := fun i o ho c e => by
  unfold noDefer at h
  rw [Array.all_eq_true] at h
  obtain ⟨hi, he⟩ := Array.getElem?_eq_some_iff.1 ho
  have := h i hi
  rw [he, e] at this
  cases this
theorem wpL.regionIn {m : Nat} {S : World → Prop} {id : Nat} {a : Act} {w : World} (hm : P.follows .mixedOrders = true) (hd : noDefer ops = true) (hS : S w.drew)
    (h : S w.drew → wpL P .any ops (onlyN Q) m S ops.size (Array.replicate ops.size false) a w.drew) : (Code.region id ops true).wpIn (Fence.wide.inRound l) n P Q a w :=
  wpIn_mono (wpIn_region_any hm (wpAny_in (noDefer_spec hd) onlyN_lets _ _ _ _ (wpL.any _ _ _ _ (h hS)))) fun e a' w' h => by obtain ⟨rfl, h⟩ := h; exact h
end
end Go.Proofs.YtakbpjgnjfigcaaGreat
