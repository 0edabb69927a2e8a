/- How an argument of the type uint8 is opened. -/
import Derived.Test.YtbpdgoedglkefaaB6
namespace Go.Proofs.Ytbpdgoedglkefaa
open Go.ChangeShapes Go.WideShapes Go.ChangeAt Go.RowKit Go.Joins Go.Deep

set_option linter.constructorNameAsVariable false
set_option maxRecDepth 100000 in
theorem open_u8 {H : Type} {enc : TypeId × Value → H} {w : World} {held : Bool} {r : Reach} {b0 : Nat} {v : Value} {d : DataW H} {p : List MemPlace} (hv : Value.okWide Try.prog w r b0 5 v) (h : DataW.Trod enc Try.prog w 0 (fun _ => true) held 5 v d p) : ∃ n : Nat, v = .int .u8 n ∧ n ≤ 255 := by
  obtain ⟨fuel, hf⟩ := h
  obtain ⟨a, h0, -, w0⟩ := DataW.trod_int (k := .u8) (by kernel_rfl) hf
  have h1 : 0 ≤ a ∧ a ≤ 255 := by
    have e1 : IntKind.u8.min = 0 := rfl
    have e2 : IntKind.u8.max = 255 := rfl
    simp [Lit.wf, e1, e2] at w0
    exact w0
  refine ⟨a.toNat, ?_, by omega⟩
  rw [val_int (q := .u8) (by kernel_rfl) hv h0 ⟨_, rfl⟩]
  congr 1; omega
end Go.Proofs.Ytbpdgoedglkefaa
