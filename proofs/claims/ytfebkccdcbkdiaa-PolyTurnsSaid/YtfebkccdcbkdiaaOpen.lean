/- How the arguments that came in are opened: a point, an inequality, a domain. -/
import Derived.Test.YtfebkccdcbkdiaaRows
import Derived.Test.YtfebkccdcbkdiaaPoly10
import Derived.WalkKit
import Derived.ProofKit
import Derived.OpenShut
import Derived.Below
import Derived.Deep.Slices
import Derived.Lib.SmallJoins
import Derived.Laws.IdiomArrays
namespace Go.Proofs.Ytfebkccdcbkdiaa
open Go.ChangeShapes Go.WideShapes Go.ChangeAt Go.RowKit Go.Joins Go.Deep

theorem Try.own : ownKnob Try.prog.godebug = none := by kernel_rfl
theorem Try.laidOut : laidOutB Try.prog = true := by kernel_rfl
theorem cells_pt : Try.prog.cellsOf 26 = 3 := by kernel_rfl
theorem cells_int : Try.prog.cellsOf 3 = 1 := by kernel_rfl
theorem cells_iq : Try.prog.cellsOf 64 = 4 := by kernel_rfl
theorem cells_dom : Try.prog.cellsOf 24 = 2 := by kernel_rfl
def I64 (n : Int) : Prop := -9223372036854775808 ≤ n ∧ n ≤ 9223372036854775807
theorem i64_wf {n : Int} (h : (Lit.int .i64 n).wf = true) : I64 n := by
  simp [Lit.wf] at h
  exact h
section
variable {H : Type} {enc : TypeId × Value → H} {w : World} {base : Nat} {spare : Nat → Bool} {held : Bool} {fuel : Nat} {cs : List Value} {x : DataW H × List MemPlace}
theorem trod_pt (hl : cs.length = 3) (h : DataW.trod enc Try.prog w base spare held fuel 26 cs = some x) : ∃ p : Pt, cs = p.cells ∧ I64 p.x ∧ I64 p.y ∧ I64 p.z := by
  match cs, hl with
  | [c0, c1, c2], _ =>
    obtain ⟨y0, y1, y2, n, -, h0, h1, h2⟩ := trod_array3 (e := 3) (by kernel_rfl) (by kernel_rfl) h
    obtain ⟨a, h0, -, w0⟩ := DataW.trod_int (k := .i64) (by kernel_rfl) h0
    obtain ⟨b, h1, -, w1⟩ := DataW.trod_int (k := .i64) (by kernel_rfl) h1
    obtain ⟨c, h2, -, w2⟩ := DataW.trod_int (k := .i64) (by kernel_rfl) h2
    cases h0; cases h1; cases h2
    exact ⟨⟨a, b, c⟩, rfl, i64_wf w0, i64_wf w1, i64_wf w2⟩
theorem trod_iq (hl : cs.length = 4) (h : DataW.trod enc Try.prog w base spare held fuel 64 cs = some x) : ∃ q : Iq, cs = q.cells ∧ I64 q.b := by
  match cs, hl with
  | [c0, c1, c2, c3], _ =>
    obtain ⟨y0, y1, n, -, -, h0, h1⟩ := trod_struct2 Try.underlying64 h
    simp [cells_pt, cells_int] at h0 h1
    obtain ⟨p, h0, -⟩ := trod_pt rfl h0
    obtain ⟨b, h1, -, w1⟩ := DataW.trod_int (k := .i64) (by kernel_rfl) h1
    cases h0; cases h1
    exact ⟨⟨p, b⟩, rfl, i64_wf w1⟩
theorem add_off {a : Addr} (ha : a.spot = none) (i : Nat) : a.add i = ⟨a.block, a.off + i, none⟩ := by
  unfold Addr.add; obtain ⟨b, o, sp⟩ := a; simp at ha; subst ha; split <;> simp_all
theorem trod_iqs (h : DataW.trod enc Try.prog w 0 (fun _ => true) held fuel 22 cs = some x) : ∃ s cap l, cs = [.slice s l.length cap] ∧ Dom w s l ∧ (s = none → cap = 0) := by
  rcases open_slice (e := 64) (by kernel_rfl) h with ⟨rfl, -⟩ | ⟨a, len, cap, m, n, D, Pl, rfl, hb, hl, hm, hmm, -, hx⟩
  · exact ⟨none, 0, [], rfl, ⟨.inl rfl, by simp, by simp⟩, fun _ => rfl⟩
  · simp only [if_true] at hmm
    subst hmm
    rw [cells_iq] at hx
    obtain ⟨L, hL⟩ := choose_lt (α := Iq) (p := fun i q => w.cells? 0 (a.add (i * 4)) 4 = some q.cells ∧ I64 q.b) (fun i (hi : i < m) => by
      obtain ⟨cs', h1, h2⟩ := hx i hi
      obtain ⟨q, rfl, hq⟩ := trod_iq (World.cells?_some h1).2.1 h2
      exact ⟨q, h1, hq⟩)
    by_cases h0 : len = 0
    · subst h0
      exact ⟨some a, m, [], rfl, ⟨.inl rfl, by simp, by simp⟩, fun h => by cases h⟩
    have hsp : a.spot = none := by
      have := (World.cells?_some (hL 0 (by omega)).1).2.2 0 (by omega)
      have h2 := World.cell?_spot (this.trans rfl)
      unfold Addr.add at h2; split at h2 <;> simp_all
    refine ⟨some a, m, (List.range len).map L, by simp, ⟨.inr ⟨a.block, a.off, ?_, ?_, ?_⟩, ?_, ?_⟩, fun h => by cases h⟩
    · obtain ⟨b, o, sp⟩ := a; simp at hsp; subst hsp; rfl
    · have := (World.cells?_some (hL 0 (by omega)).1).2.2 0 (by omega)
      rw [add_off hsp, add_off rfl] at this
      exact World.block_lt_of_cell? w ⟨a.block, a.off + 0 * 4 + 0, none⟩ (this.trans rfl)
    · intro i hi
      simp at hi
      have h4 := (World.cells?_some (hL i (by omega)).1).2.2
      rw [add_off hsp] at h4
      have k0 := h4 0 (by omega); have k1 := h4 1 (by omega); have k2 := h4 2 (by omega); have k3 := h4 3 (by omega)
      rw [add_off rfl] at k0 k1 k2 k3
      simp [Iq.cells] at k0 k1 k2 k3
      simp
      exact ⟨k0, k1, k2, k3⟩
    · simp [maxLen] at hm ⊢; omega
    · intro q hq
      simp at hq
      obtain ⟨i, hi, rfl⟩ := hq
      exact (hL i (by omega)).2
set_option maxRecDepth 100000 in
theorem open_ptv {r : Reach} {b0 : Nat} {v : Value} {d : DataW H} {p : List MemPlace} (hv : Value.okWide Try.prog w r b0 26 v) (h : DataW.Trod enc Try.prog w base spare held 26 v d p) :
    ∃ q : Pt, v = .agg #[.int .i64 q.x, .int .i64 q.y, .int .i64 q.z] ∧ I64 q.x ∧ I64 q.y ∧ I64 q.z := by
  have e : Try.prog.underlying 26 = some (.array 3 3) := by kernel_rfl
  simp only [Value.okWide, e] at hv
  obtain ⟨cs, rfl, hc, -⟩ := hv
  obtain ⟨fuel, hf⟩ := h
  simp only [Value.cells] at hf
  obtain ⟨q, hq, hw⟩ := trod_pt (by simpa [cells_pt] using hc) hf
  refine ⟨q, ?_, hw⟩
  cases cs; simp at hq; subst hq; rfl
set_option maxRecDepth 100000 in
theorem open_dom {r : Reach} {b0 : Nat} {v : Value} {d : DataW H} {p : List MemPlace} (hv : Value.okWide Try.prog w r b0 24 v) (h : DataW.Trod enc Try.prog w 0 (fun _ => true) held 24 v d p) :
    ∃ n s cap l, v = .agg #[.int .i64 n, .slice s l.length cap] ∧ I64 n ∧ Dom w s l ∧ (s = none → cap = 0) := by
  obtain ⟨v0, v1, y0, y1, m, rfl, -, -, h0, h1⟩ := open_agg2 Try.underlying24 (by kernel_rfl) (by kernel_rfl) hv h
  obtain ⟨n, h0, -, w0⟩ := DataW.trod_int (k := .i64) (by kernel_rfl) h0
  obtain ⟨s, cap, l, h1, hd⟩ := trod_iqs h1
  cases h0; cases h1
  exact ⟨n, s, cap, l, rfl, i64_wf w0, hd⟩
end
end Go.Proofs.Ytfebkccdcbkdiaa
