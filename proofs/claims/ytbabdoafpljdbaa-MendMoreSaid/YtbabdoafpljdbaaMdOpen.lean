/- How the arguments that came in are opened: grids, cells, lists of lists (mend). -/
import Derived.Test.YtbabdoafpljdbaaMdOpenG
namespace Go.Proofs.Ytbabdoafpljdbaa
open Go.ChangeShapes Go.WideShapes Go.ChangeAt Go.RowKit Go.Joins Go.Deep

set_option linter.constructorNameAsVariable false
section
variable {H : Type} {enc : TypeId × Value → H} {w : World} {held : Bool}
theorem cells_cel : Try.prog.cellsOf 26 = 2 := by kernel_rfl
theorem trod_array2 {P : Program} {base : Nat} {spare : Nat → Bool} {t e : TypeId} {fuel : Nat} {c0 c1 : Value} {x : DataW H × List MemPlace} (ht : P.underlying t = some (.array 2 e)) (hce : P.cellsOf e = 1)
    (h : DataW.trod enc P w base spare held fuel t [c0, c1] = some x) :
    ∃ y0 y1 n, x = (.agg [y0.1, y1.1], y0.2 ++ y1.2) ∧ DataW.trod enc P w base spare held n e [c0] = some y0 ∧ DataW.trod enc P w base spare held n e [c1] = some y1 := by
  cases fuel with
  | zero => simp [DataW.trod] at h
  | succ n =>
    unfold DataW.trod at h
    rw [ht] at h
    have r2 : List.range 2 = [0, 1] := rfl
    simp [r2, hce] at h
    obtain ⟨_, h⟩ := h
    cases h0 : DataW.trod enc P w base spare held n e [c0] with
    | none => simp [h0] at h
    | some y0 =>
      cases h1 : DataW.trod enc P w base spare held n e [c1] with
      | none => simp [h0, h1] at h
      | some y1 =>
        simp [h0, h1] at h
        exact ⟨y0, y1, n, h.symm, h0, h1⟩
theorem trod_cel (n : Nat) (ds : List Value) (y : DataW H × List MemPlace) (hl : ds.length = celE.size) (h : DataW.trod enc Try.prog w 0 (fun _ => true) held n 26 ds = some y) : ∃ a : Cel, ds = celE.cells a ∧ (I64 a.x ∧ I64 a.y) := by
  match ds, hl with
  | [c0, c1], _ =>
    obtain ⟨y0, y1, m, -, h0, h1⟩ := trod_array2 (e := 3) (by kernel_rfl) (by kernel_rfl) h
    obtain ⟨a, h0, -, w0⟩ := DataW.trod_int (k := .i64) (by kernel_rfl) h0
    obtain ⟨b, h1, -, w1⟩ := DataW.trod_int (k := .i64) (by kernel_rfl) h1
    cases h0; cases h1
    exact ⟨⟨a, b⟩, rfl, i64_wf w0, i64_wf w1⟩
theorem trod_cels {n : Nat} {cs : List Value} {y : DataW H × List MemPlace} (h : DataW.trod enc Try.prog w 0 (fun _ => true) held n 22 cs = some y) : ∃ s cap l, cs = [.slice s l.length cap] ∧ Cels w s cap l ∧ ∀ c ∈ l, I64 c.x ∧ I64 c.y := by
  obtain ⟨s, cap, l, hcs, h1, h2, h3, h4, h5⟩ := trod_sl (E := celE) (Q := fun a => I64 a.x ∧ I64 a.y) (e := 26) (by kernel_rfl) (by kernel_rfl) trod_cel h
  exact ⟨s, cap, l, hcs, ⟨h1, h2, h3, h4⟩, h5⟩
set_option maxRecDepth 100000 in
theorem open_cels {r : Reach} {b0 : Nat} {v : Value} {d : DataW H} {p : List MemPlace} (hv : Value.okWide Try.prog w r b0 22 v) (h : DataW.Trod enc Try.prog w 0 (fun _ => true) held 22 v d p) :
    ∃ s cap l, v = .slice s l.length cap ∧ Cels w s cap l ∧ ∀ c ∈ l, I64 c.x ∧ I64 c.y := by
  obtain ⟨fuel, hf⟩ := h
  obtain ⟨s, cap, l, hcs, h1, h2⟩ := trod_cels hf
  exact ⟨s, cap, l, val_slice (e := 26) (by kernel_rfl) hv hcs, h1, h2⟩
set_option maxRecDepth 100000 in
theorem open_grid {r : Reach} {b0 : Nat} {v : Value} {d : DataW H} {p : List MemPlace} (hv : Value.okWide Try.prog w r b0 24 v) (h : DataW.Trod enc Try.prog w 0 (fun _ => true) held 24 v d p) :
    ∃ wd ht s cap F, v = .agg #[.int .i64 wd, .int .i64 ht, .slice s F.length cap] ∧ Cels w s cap F ∧ I64 wd ∧ I64 ht ∧ ∀ c ∈ F, I64 c.x ∧ I64 c.y := by
  obtain ⟨v0, v1, v2, y0, y1, y2, m, rfl, -, -, h0, h1, h2⟩ := open_agg3 Try.underlying24 (by kernel_rfl) (by kernel_rfl) hv h
  obtain ⟨a, h0, -, w0⟩ := DataW.trod_int (k := .i64) (by kernel_rfl) h0
  obtain ⟨b, h1, -, w1⟩ := DataW.trod_int (k := .i64) (by kernel_rfl) h1
  obtain ⟨s, cap, l, h2, hd, hq⟩ := trod_cels h2
  cases h0; cases h1; cases h2
  exact ⟨a, b, s, cap, l, rfl, hd, i64_wf w0, i64_wf w1, hq⟩
set_option maxRecDepth 100000 in
theorem open_celv {r : Reach} {b0 : Nat} {v : Value} {d : DataW H} {p : List MemPlace} (hv : Value.okWide Try.prog w r b0 26 v) (h : DataW.Trod enc Try.prog w 0 (fun _ => true) held 26 v d p) :
    ∃ q : Cel, v = .agg #[.int .i64 q.x, .int .i64 q.y] ∧ I64 q.x ∧ I64 q.y := by
  have e : Try.prog.underlying 26 = some (.array 2 3) := by kernel_rfl
  simp only [Value.okWide, e] at hv
  obtain ⟨cs, rfl, hc, -⟩ := hv
  obtain ⟨fuel, hf⟩ := h
  simp only [Value.cells] at hf
  obtain ⟨q, hq, hw⟩ := trod_cel _ _ _ (by simpa [cells_cel, celE] using hc) hf
  refine ⟨q, ?_, hw⟩
  cases cs; simp [celE, Cel.cells] at hq; subst hq; rfl
/-- A slice that holds numbers. -/
def IntQ (w : World) (s : Sv) : Prop := ∃ l : List Int, s.len = l.length ∧ SlS intE w s.addr l ∧ l.length ≤ 9223372036854775807 ∧ (s.addr = none → s.cap = 0) ∧ l.length ≤ s.cap ∧ ∀ a ∈ l, I64 a
instance : Inhabited Sv := ⟨⟨none, 0, 0⟩⟩
theorem trod_ints (n : Nat) (ds : List Value) (y : DataW H × List MemPlace) (_hl : ds.length = svE.size) (h : DataW.trod enc Try.prog w 0 (fun _ => true) held n 36 ds = some y) : ∃ a : Sv, ds = svE.cells a ∧ IntQ w a := by
  obtain ⟨s, cap, l, hcs, h1, h2, h3, h4, h5⟩ := trod_sl (E := intE) (Q := I64) (e := 3) (by kernel_rfl) (by kernel_rfl) (trod_int1 fun _ h => h) h
  exact ⟨⟨s, l.length, cap⟩, hcs, l, rfl, h1, h2, h3, h4, h5⟩
set_option maxRecDepth 100000 in
theorem open_intss {r : Reach} {b0 : Nat} {v : Value} {d : DataW H} {p : List MemPlace} (hv : Value.okWide Try.prog w r b0 40 v) (h : DataW.Trod enc Try.prog w 0 (fun _ => true) held 40 v d p) :
    ∃ s cap k, v = .slice s k.length cap ∧ SlSS intE w s k ∧ k.length ≤ 9223372036854775807 ∧ ∀ l ∈ k, l.length ≤ 9223372036854775807 ∧ ∀ n ∈ l, I64 n := by
  obtain ⟨fuel, hf⟩ := h
  obtain ⟨s, cap, ss, hcs, h1, h2, h3, h4, h5⟩ := trod_sl (E := svE) (Q := IntQ w) (e := 36) (by kernel_rfl) (by kernel_rfl) trod_ints hf
  obtain ⟨L, hL⟩ := choose_lt (α := List Int) (p := fun i l => ∀ (h : i < ss.length), ss[i].len = l.length ∧ SlS intE w ss[i].addr l ∧ (l.length ≤ 9223372036854775807 ∧ ∀ n ∈ l, I64 n) ∧ (ss[i].addr = none → ss[i].cap = 0) ∧ l.length ≤ ss[i].cap) (n := ss.length) (fun i hi => by
    obtain ⟨l, e, q1, q2, q3, q4, q5⟩ := h5 _ (List.getElem_mem hi)
    exact ⟨l, fun _ => ⟨e, q1, ⟨q2, q5⟩, q3, q4⟩⟩)
  have hlen : ((List.range ss.length).map L).length = ss.length := by simp
  refine ⟨s, cap, (List.range ss.length).map L, ?_, ⟨ss, h1, by simp, ?_⟩, by simpa using h2, ?_⟩
  · rw [hlen]; exact val_slice (e := 36) (by kernel_rfl) hv hcs
  · intro i hi hi'
    obtain ⟨q0, q1, q2, q3, q4⟩ := hL i hi' hi'
    simp only [List.getElem_map, List.getElem_range]
    exact ⟨q0, q1, q3, q4⟩
  · intro l hl
    obtain ⟨i, hi, rfl⟩ := List.mem_map.1 hl
    rw [List.mem_range] at hi
    exact (hL i hi hi).2.2.1
end
set_option maxRecDepth 100000 in
theorem open_u8 {H : Type} {enc : TypeId × Value → H} {w : World} {held : Bool} {r : Reach} {b0 : Nat} {v : Value} {d : DataW H} {p : List MemPlace} (hv : Value.okWide Try.prog w r b0 5 v) (h : DataW.Trod enc Try.prog w 0 (fun _ => true) held 5 v d p) : ∃ n : Nat, v = .int .u8 n ∧ n ≤ 255 := by
  obtain ⟨fuel, hf⟩ := h
  obtain ⟨a, h0, -, w0⟩ := DataW.trod_int (k := .u8) (by kernel_rfl) hf
  have h1 : 0 ≤ a ∧ a ≤ 255 := by
    have e1 : IntKind.u8.min = 0 := rfl
    have e2 : IntKind.u8.max = 255 := rfl
    simp [Lit.wf, e1, e2] at w0
    exact w0
  refine ⟨a.toNat, ?_, by omega⟩
  rw [val_int (q := .u8) (by kernel_rfl) hv h0 ⟨_, rfl⟩]
  congr 1; omega
end Go.Proofs.Ytbabdoafpljdbaa
