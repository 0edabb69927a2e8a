/- A quiet walk through a drawn region that stands in a round. Over any program. -/
import Derived.Test.YtakbpjgnjfigcaaGreatLastIn
import Derived.Test.YtakbpjgnjfigcaaGreatB1
namespace Go.Proofs.YtakbpjgnjfigcaaGreat
open Go.RowKit

theorem region_qi {P : Program} {ops : Array Oper} {n l id : Nat} {Q : Exit → Act → World → Prop} {a : Act} {w : World} (hm : P.follows .mixedOrders = true) (hd : noDefer ops = true) (hB : Region.lexB .any ops = true)
    (h : wpQuiet P ops (fun V => Below w.heap.size w V) (fun a' => ∀ w', Below w.heap.size w w' → Q .normal a' w') ops.toList a) : (Code.region id ops true).wpIn (Fence.wide.inRound l) n P Q a w := by
  simp only [Region.lexB, Bool.and_eq_true] at hB
  refine wpIn_mono (wpIn_region_any hm (wpAny_in (noDefer_spec hd) (onlyN_lets (Q := Q)) _ _ _ _ ?_)) fun e a' w' h => by obtain ⟨rfl, h⟩ := h; exact h
  refine wpAny_of_quiet (C := fun V => Below w.heap.size w V) (Q := fun a' => ∀ w', Below w.heap.size w w' → Q .normal a' w') (fun _ w' hw' h => ⟨rfl, h w' hw'⟩) _ _ _ _ (Below.refl _ _).drew ?_
  have := wpAnyQ_lex (C := fun V => Below w.heap.size w V) (md := .any) hB.1 ops.toList 0 (Array.replicate ops.size false) a (by simp) (by simpa using hB.2) h
  simpa using this
end Go.Proofs.YtakbpjgnjfigcaaGreat
