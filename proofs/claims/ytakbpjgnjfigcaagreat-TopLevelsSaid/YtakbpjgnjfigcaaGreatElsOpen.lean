/- How an argument of the type []Element is opened. -/
import Derived.Test.YtakbpjgnjfigcaaGreatB6
namespace Go.Proofs.YtakbpjgnjfigcaaGreat
open Go.ChangeShapes Go.WideShapes Go.ChangeAt Go.RowKit Go.Joins Go.Deep

set_option linter.constructorNameAsVariable false
section
variable {H : Type} {enc : TypeId × Value → H} {w : World} {held : Bool}
theorem trod_elm (n : Nat) (ds : List Value) (y : DataW H × List MemPlace) (hl : ds.length = arE.size) (h : DataW.trod enc Tryz.prog w 0 (fun _ => true) held n 90 ds = some y) : ∃ a : Ar, ds = arE.cells a ∧ a.I64 := by
  match ds, hl with
  | [c0, c1, c2, c3], _ =>
    obtain ⟨y0, y1, m, -, -, h0, h1⟩ := trod_struct2 Tryz.underlying90 h
    simp [cells_pt, cells_int] at h0 h1
    obtain ⟨b, h0, -, w0⟩ := DataW.trod_int (k := .i64) (by kernel_rfl) h0
    obtain ⟨p, h1, hp⟩ := trod_pt rfl h1
    cases h0; cases h1
    exact ⟨⟨b, p⟩, rfl, i64_wf w0, hp⟩
set_option maxRecDepth 100000 in
theorem open_els {r : Reach} {b0 : Nat} {v : Value} {d : DataW H} {p : List MemPlace} (hv : Value.okWide Tryz.prog w r b0 28 v) (h : DataW.Trod enc Tryz.prog w 0 (fun _ => true) held 28 v d p) :
    ∃ s cap l, v = .slice s l.length cap ∧ SlS arE w s l ∧ l.length ≤ 9223372036854775807 ∧ ∀ a ∈ l, a.I64 := by
  obtain ⟨fuel, hf⟩ := h
  obtain ⟨s, cap, l, hcs, h1, h2, h3, h4, h6, h5⟩ := trod_sl (E := arE) (Q := Ar.I64) (e := 90) (by kernel_rfl) (by kernel_rfl) trod_elm hf
  exact ⟨s, cap, l, val_slice (e := 90) (by kernel_rfl) hv hcs, h1, h2, h5⟩
end
end Go.Proofs.YtakbpjgnjfigcaaGreat
