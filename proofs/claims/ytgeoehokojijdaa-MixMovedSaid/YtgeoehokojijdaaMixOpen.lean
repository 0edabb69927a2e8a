/- How the arguments that came in are opened: kernels. -/
import Derived.Test.YtgeoehokojijdaaOpenG
namespace Go.Proofs.Ytgeoehokojijdaa
open Go.ChangeShapes Go.WideShapes Go.ChangeAt Go.RowKit Go.Joins Go.Deep

set_option linter.constructorNameAsVariable false
section
variable {H : Type} {enc : TypeId × Value → H} {w : World} {held : Bool}
theorem cells_clm : Try.prog.cellsOf 65 = 2 := by kernel_rfl
theorem trod_clm (n : Nat) (ds : List Value) (y : DataW H × List MemPlace) (hl : ds.length = clmE.size) (h : DataW.trod enc Try.prog w 0 (fun _ => true) held n 65 ds = some y) : ∃ a : Clm, ds = clmE.cells a ∧ (I64 a.cell ∧ I64 a.time) := by
  match ds, hl with
  | [c0, c1], _ =>
    obtain ⟨y0, y1, m, -, -, h0, h1⟩ := trod_struct2 Try.underlying65 h
    simp [cells_int] at h0 h1
    obtain ⟨a, h0, -, w0⟩ := DataW.trod_int (k := .i64) (by kernel_rfl) h0
    obtain ⟨b, h1, -, w1⟩ := DataW.trod_int (k := .i64) (by kernel_rfl) h1
    cases h0; cases h1
    exact ⟨⟨a, b⟩, rfl, i64_wf w0, i64_wf w1⟩
/-- A slice that holds claims. -/
def KerQ (w : World) (s : Sv) : Prop := ∃ l : List Clm, s.len = l.length ∧ SlS clmE w s.addr l ∧ l.length ≤ 9223372036854775807 ∧ (s.addr = none → s.cap = 0) ∧ l.length ≤ s.cap ∧ ∀ a ∈ l, I64 a.cell ∧ I64 a.time
instance : Inhabited Sv := ⟨⟨none, 0, 0⟩⟩
theorem trod_claims (n : Nat) (ds : List Value) (y : DataW H × List MemPlace) (_hl : ds.length = svE.size) (h : DataW.trod enc Try.prog w 0 (fun _ => true) held n 40 ds = some y) : ∃ a : Sv, ds = svE.cells a ∧ KerQ w a := by
  obtain ⟨s, cap, l, hcs, h1, h2, h3, h4, h5⟩ := trod_sl (E := clmE) (Q := fun a => I64 a.cell ∧ I64 a.time) (e := 65) (by kernel_rfl) (by kernel_rfl) trod_clm h
  exact ⟨⟨s, l.length, cap⟩, hcs, l, rfl, h1, h2, h3, h4, h5⟩
set_option maxRecDepth 100000 in
theorem open_ker {r : Reach} {b0 : Nat} {v : Value} {d : DataW H} {p : List MemPlace} (hv : Value.okWide Try.prog w r b0 22 v) (h : DataW.Trod enc Try.prog w 0 (fun _ => true) held 22 v d p) :
    ∃ s cap k, v = .slice s k.length cap ∧ Ker w s cap k := by
  obtain ⟨fuel, hf⟩ := h
  obtain ⟨s, cap, ss, hcs, h1, h2, h3, h4, h5⟩ := trod_sl (E := svE) (Q := KerQ w) (e := 40) (by kernel_rfl) (by kernel_rfl) trod_claims hf
  obtain ⟨L, hL⟩ := choose_lt (α := List Clm) (p := fun i l => ∀ (h : i < ss.length), ss[i].len = l.length ∧ SlS clmE w ss[i].addr l ∧ l.length ≤ 9223372036854775807 ∧ (ss[i].addr = none → ss[i].cap = 0) ∧ l.length ≤ ss[i].cap) (n := ss.length) (fun i hi => by
    obtain ⟨l, e, q1, q2, q3, q4, _⟩ := h5 _ (List.getElem_mem hi)
    exact ⟨l, fun _ => ⟨e, q1, q2, q3, q4⟩⟩)
  have hlen : ((List.range ss.length).map L).length = ss.length := by simp
  refine ⟨s, cap, (List.range ss.length).map L, ?_, ⟨⟨ss, h1, by simp, ?_⟩, by simpa using h2, ?_, by simpa using h4, h3⟩⟩
  · rw [hlen]; exact val_slice (e := 40) (by kernel_rfl) hv hcs
  · intro i hi hi'
    obtain ⟨q0, q1, q2, q3, q4⟩ := hL i hi' hi'
    simp only [List.getElem_map, List.getElem_range]
    exact ⟨q0, q1, q3, q4⟩
  · intro l hl
    obtain ⟨i, hi, rfl⟩ := List.mem_map.1 hl
    rw [List.mem_range] at hi
    exact (hL i hi hi).2.2.1
set_option maxRecDepth 100000 in
theorem open_clms {r : Reach} {b0 : Nat} {v : Value} {d : DataW H} {p : List MemPlace} (hv : Value.okWide Try.prog w r b0 40 v) (h : DataW.Trod enc Try.prog w 0 (fun _ => true) held 40 v d p) :
    ∃ s cap l, v = .slice s l.length cap ∧ SlS clmE w s l ∧ l.length ≤ 9223372036854775807 ∧ (s = none → cap = 0) ∧ l.length ≤ cap := by
  obtain ⟨fuel, hf⟩ := h
  obtain ⟨s, cap, l, hcs, h1, h2, h3, h4, -⟩ := trod_sl (E := clmE) (Q := fun a => I64 a.cell ∧ I64 a.time) (e := 65) (by kernel_rfl) (by kernel_rfl) trod_clm hf
  exact ⟨s, cap, l, val_slice (e := 65) (by kernel_rfl) hv hcs, h1, h2, h3, h4⟩
end
end Go.Proofs.Ytgeoehokojijdaa
