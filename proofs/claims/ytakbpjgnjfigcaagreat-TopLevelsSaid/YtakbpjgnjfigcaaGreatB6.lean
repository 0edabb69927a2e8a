/- Several texts in one: each says what it proves. -/
import Derived.Test.YtakbpjgnjfigcaaGreatRows
import Derived.Test.YtakbpjgnjfigcaaGreatB3
import Derived.WalkKit
import Derived.ProofKit
import Derived.OpenShut
import Derived.Below
import Derived.Deep.Slices
import Derived.Lib.SmallJoins
import Derived.Laws.IdiomArrays
import Derived.Test.YtakbpjgnjfigcaaGreatB4
/- How the arguments that came in are opened: numbers, slices of numbers; generically (sched, rec). -/
namespace Go.Proofs.YtakbpjgnjfigcaaGreat
open Go.ChangeShapes Go.WideShapes Go.ChangeAt Go.RowKit Go.Joins Go.Deep

theorem Try.own : ownKnob Tryz.prog.godebug = none := by kernel_rfl
theorem Try.laidOut : laidOutB Tryz.prog = true := by kernel_rfl
theorem cells_int : Tryz.prog.cellsOf 3 = 1 := by kernel_rfl
def I64 (n : Int) : Prop := -9223372036854775808 ≤ n ∧ n ≤ 9223372036854775807
theorem i64_wf {n : Int} (h : (Lit.int .i64 n).wf = true) : I64 n := by
  simp [Lit.wf] at h
  exact h
set_option linter.constructorNameAsVariable false
section
variable {H : Type} {enc : TypeId × Value → H} {w : World} {held : Bool}
theorem trod_sl {α : Type} [Inhabited α] {E : Elt α} {Q : α → Prop} {t e : TypeId} {fuel : Nat} {cs : List Value} {x : DataW H × List MemPlace} (ht : Tryz.prog.underlying t = some (.slice e)) (hc : Tryz.prog.cellsOf e = E.size)
    (hel : ∀ (n : Nat) (ds : List Value) (y : DataW H × List MemPlace), ds.length = E.size → DataW.trod enc Tryz.prog w 0 (fun _ => true) held n e ds = some y → ∃ a : α, ds = E.cells a ∧ Q a)
    (h : DataW.trod enc Tryz.prog w 0 (fun _ => true) held fuel t cs = some x) :
    ∃ s cap l, cs = [.slice s l.length cap] ∧ SlS E w s l ∧ l.length ≤ 9223372036854775807 ∧ (s = none → cap = 0) ∧ l.length ≤ cap ∧ cap ≤ 9223372036854775807 ∧ ∀ a ∈ l, Q a := by
  rcases open_slice ht h with ⟨rfl, -⟩ | ⟨a, len, cap, m, n, D, Pl, rfl, hb, hl, hm, hmm, -, hx⟩
  · exact ⟨none, 0, [], rfl, .inl rfl, by simp, fun _ => rfl, by simp, by simp, by simp⟩
  · simp only [if_true] at hmm
    subst hmm
    rw [hc] at hx
    obtain ⟨L, hL⟩ := choose_lt (α := α) (p := fun i q => w.cells? 0 (a.add (i * E.size)) E.size = some (E.cells q) ∧ Q q) (fun i (hi : i < m) => by
      obtain ⟨cs', h1, h2⟩ := hx i hi
      obtain ⟨q, rfl, hq⟩ := hel _ _ _ (World.cells?_some h1).2.1 h2
      exact ⟨q, h1, hq⟩)
    by_cases h0 : len = 0
    · subst h0
      exact ⟨some a, m, [], rfl, .inl rfl, by simp, (fun h => by cases h), by simp, (by simp [maxLen] at hm ⊢; omega), by simp⟩
    have hsp : a.spot = none := by
      have h3 := (World.cells?_some (hL 0 (by omega)).1).2.2 0 E.pos
      have h4 : ∃ u, (E.cells (L 0))[0]? = some u := ⟨_, List.getElem?_eq_getElem (by rw [E.len]; exact E.pos)⟩
      obtain ⟨u, hu⟩ := h4
      have h2 := World.cell?_spot (h3.trans hu)
      unfold Addr.add at h2; split at h2 <;> simp_all
    obtain ⟨ab, ao, asp⟩ := a
    simp only at hsp
    subst hsp
    refine ⟨some ⟨ab, ao, none⟩, m, (List.range len).map L, by simp, .inr ⟨ab, ao, rfl, ?_, ?_⟩, ?_, (fun h => by cases h), by simpa using hl, (by simp [maxLen] at hm ⊢; omega), ?_⟩
    · have h3 := (World.cells?_some (hL 0 (by omega)).1).2.2 0 E.pos
      have h4 : ∃ u, (E.cells (L 0))[0]? = some u := ⟨_, List.getElem?_eq_getElem (by rw [E.len]; exact E.pos)⟩
      obtain ⟨u, hu⟩ := h4
      rw [add_eq, add_eq] at h3
      exact World.block_lt_of_cell? w _ (h3.trans hu)
    · intro j u hj
      have hjl := (List.getElem?_eq_some_iff.1 hj).1
      rw [E.all_len] at hjl
      simp only [List.length_map, List.length_range] at hjl
      have hd : j / E.size < len := (Nat.div_lt_iff_lt_mul E.pos).2 hjl
      have hmo : j % E.size < E.size := Nat.mod_lt _ E.pos
      have e1 : j / E.size * E.size + j % E.size = j := Nat.div_add_mod' j E.size
      have h2 := E.all_at ((List.range len).map L) (j / E.size) (j % E.size) (by simpa using hd) hmo
      rw [e1, hj] at h2
      simp only [List.getElem_map, List.getElem_range] at h2
      have h4 := (World.cells?_some (hL (j / E.size) (by omega)).1).2.2 (j % E.size) hmo
      rw [add_eq, add_eq, Nat.add_assoc, e1] at h4
      rw [h4]; exact h2.symm
    · simp [maxLen] at hm ⊢; omega
    · intro q hq
      simp at hq
      obtain ⟨i, hi, rfl⟩ := hq
      exact (hL i (by omega)).2
theorem val_slice {r : Reach} {b0 : Nat} {t e : TypeId} {v : Value} {a : Option Addr} {l c : Nat} (ht : Tryz.prog.underlying t = some (.slice e)) (hv : Value.okWide Tryz.prog w r b0 t v) (h : v.cells.toList = [.slice a l c]) : v = .slice a l c := by
  cases v with
  | agg cs =>
    simp only [Value.okWide, ht, Cell.okWide, Cell.ok] at hv
  | _ => first | (simp [Value.cells] at h; done) | (simp [Value.cells] at h ⊢; exact h)
theorem trod_int1 {Q : Int → Prop} (hQ : ∀ n, I64 n → Q n) (n : Nat) (ds : List Value) (y : DataW H × List MemPlace) (hl : ds.length = intE.size) (h : DataW.trod enc Tryz.prog w 0 (fun _ => true) held n 3 ds = some y) : ∃ a : Int, ds = intE.cells a ∧ Q a := by
  match ds, hl with
  | [c], _ =>
    obtain ⟨a, h0, -, w0⟩ := DataW.trod_int (k := .i64) (by kernel_rfl) h
    cases h0
    exact ⟨a, rfl, hQ a (i64_wf w0)⟩
set_option maxRecDepth 100000 in
theorem open_intsv {r : Reach} {b0 : Nat} {v : Value} {d : DataW H} {p : List MemPlace} (hv : Value.okWide Tryz.prog w r b0 31 v) (h : DataW.Trod enc Tryz.prog w 0 (fun _ => true) held 31 v d p) :
    ∃ s cap l, v = .slice s l.length cap ∧ Ints w s l ∧ (s = none → cap = 0) ∧ l.length ≤ cap ∧ cap ≤ 9223372036854775807 ∧ ∀ a ∈ l, I64 a := by
  obtain ⟨fuel, hf⟩ := h
  obtain ⟨s, cap, l, hcs, h1, h2, h3, h4, h6, h5⟩ := trod_sl (E := intE) (Q := I64) (e := 3) (by kernel_rfl) (by kernel_rfl) (trod_int1 fun _ h => h) hf
  exact ⟨s, cap, l, val_slice (e := 3) (by kernel_rfl) hv hcs, ⟨h1, h2⟩, h3, h4, h6, h5⟩
theorem val_int {r : Reach} {b0 : Nat} {t : TypeId} {q : IntKind} {v : Value} (ht : Tryz.prog.underlying t = some (.int q)) {u : Value} (hv : Value.okWide Tryz.prog w r b0 t v) (h : v.cells.toList = [u]) (hu : ∃ n, u = .int q n) : v = u := by
  obtain ⟨n, rfl⟩ := hu
  cases v with
  | agg cs =>
    simp only [Value.okWide, ht, Cell.okWide, Cell.ok] at hv
  | _ => first | (simp [Value.cells] at h; done) | (simp [Value.cells] at h ⊢; exact h)
set_option maxRecDepth 100000 in
theorem open_intv {r : Reach} {b0 : Nat} {v : Value} {d : DataW H} {p : List MemPlace} (hv : Value.okWide Tryz.prog w r b0 3 v) (h : DataW.Trod enc Tryz.prog w 0 (fun _ => true) held 3 v d p) : ∃ n : Int, v = .int .i64 n ∧ I64 n := by
  obtain ⟨fuel, hf⟩ := h
  obtain ⟨a, h0, -, w0⟩ := DataW.trod_int (k := .i64) (by kernel_rfl) hf
  exact ⟨a, val_int (q := .i64) (by kernel_rfl) hv h0 ⟨_, rfl⟩, i64_wf w0⟩
end
end Go.Proofs.YtakbpjgnjfigcaaGreat

/- How the arguments that came in are opened: points, domains, recurrences. -/
namespace Go.Proofs.YtakbpjgnjfigcaaGreat
open Go.ChangeShapes Go.WideShapes Go.ChangeAt Go.RowKit Go.Joins Go.Deep

set_option linter.constructorNameAsVariable false
theorem cells_pt : Tryz.prog.cellsOf 30 = 3 := by kernel_rfl
theorem cells_iq : Tryz.prog.cellsOf 114 = 4 := by kernel_rfl
theorem cells_dom : Tryz.prog.cellsOf 24 = 2 := by kernel_rfl
theorem cells_ar : Tryz.prog.cellsOf 69 = 4 := by kernel_rfl
theorem cells_var : Tryz.prog.cellsOf 66 = 7 := by kernel_rfl
theorem cells_rec : Tryz.prog.cellsOf 27 = 3 := by kernel_rfl
theorem cells_str : Tryz.prog.cellsOf 9 = 1 := by kernel_rfl
theorem cells_args : Tryz.prog.cellsOf 63 = 1 := by kernel_rfl
theorem cells_iqs : Tryz.prog.cellsOf 22 = 1 := by kernel_rfl
theorem cells_vars : Tryz.prog.cellsOf 25 = 1 := by kernel_rfl
theorem cells_init : Tryz.prog.cellsOf 64 = 4 := by kernel_rfl
instance : Inhabited Ar := ⟨⟨0, ⟨0, 0, 0⟩⟩⟩
instance : Inhabited Vs := ⟨⟨ByteArray.empty, 0, none, 0, 0, 0, 0, 0, 0⟩⟩
instance : Inhabited Vv := ⟨⟨ByteArray.empty, 0, [], 0, 0, 0, 0⟩⟩
def Pt.I64 (p : Pt) : Prop := Go.Proofs.YtakbpjgnjfigcaaGreat.I64 p.x ∧ Go.Proofs.YtakbpjgnjfigcaaGreat.I64 p.y ∧ Go.Proofs.YtakbpjgnjfigcaaGreat.I64 p.z
section
variable {H : Type} {enc : TypeId × Value → H} {w : World} {held : Bool}
theorem trod_pt {base : Nat} {spare : Nat → Bool} {fuel : Nat} {cs : List Value} {x : DataW H × List MemPlace} (hl : cs.length = 3) (h : DataW.trod enc Tryz.prog w base spare held fuel 30 cs = some x) : ∃ p : Pt, cs = p.cells ∧ p.I64 := by
  match cs, hl with
  | [c0, c1, c2], _ =>
    obtain ⟨y0, y1, y2, n, -, h0, h1, h2⟩ := trod_array3 (e := 3) (by kernel_rfl) (by kernel_rfl) h
    obtain ⟨a, h0, -, w0⟩ := DataW.trod_int (k := .i64) (by kernel_rfl) h0
    obtain ⟨b, h1, -, w1⟩ := DataW.trod_int (k := .i64) (by kernel_rfl) h1
    obtain ⟨c, h2, -, w2⟩ := DataW.trod_int (k := .i64) (by kernel_rfl) h2
    cases h0; cases h1; cases h2
    exact ⟨⟨a, b, c⟩, rfl, i64_wf w0, i64_wf w1, i64_wf w2⟩
theorem trod_iq {fuel : Nat} {cs : List Value} {x : DataW H × List MemPlace} (hl : cs.length = 4) (h : DataW.trod enc Tryz.prog w 0 (fun _ => true) held fuel 114 cs = some x) : ∃ q : Iq, cs = q.cells ∧ I64 q.b := by
  match cs, hl with
  | [c0, c1, c2, c3], _ =>
    obtain ⟨y0, y1, n, -, -, h0, h1⟩ := trod_struct2 Tryz.underlying114 h
    simp [cells_pt, cells_int] at h0 h1
    obtain ⟨p, h0, -⟩ := trod_pt rfl h0
    obtain ⟨b, h1, -, w1⟩ := DataW.trod_int (k := .i64) (by kernel_rfl) h1
    cases h0; cases h1
    exact ⟨⟨p, b⟩, rfl, i64_wf w1⟩
theorem add_off {a : Addr} (ha : a.spot = none) (i : Nat) : a.add i = ⟨a.block, a.off + i, none⟩ := by
  unfold Addr.add; obtain ⟨b, o, sp⟩ := a; simp at ha; subst ha; split <;> simp_all
theorem trod_iqs {fuel : Nat} {cs : List Value} {x : DataW H × List MemPlace} (h : DataW.trod enc Tryz.prog w 0 (fun _ => true) held fuel 22 cs = some x) : ∃ s cap l, cs = [.slice s l.length cap] ∧ Dom w s l ∧ (s = none → cap = 0) := by
  rcases open_slice (e := 114) (by kernel_rfl) h with ⟨rfl, -⟩ | ⟨a, len, cap, m, n, D, Pl, rfl, hb, hl, hm, hmm, -, hx⟩
  · exact ⟨none, 0, [], rfl, ⟨.inl rfl, by simp, by simp⟩, fun _ => rfl⟩
  · simp only [if_true] at hmm
    subst hmm
    rw [cells_iq] at hx
    obtain ⟨L, hL⟩ := choose_lt (α := Iq) (p := fun i q => w.cells? 0 (a.add (i * 4)) 4 = some q.cells ∧ I64 q.b) (fun i (hi : i < m) => by
      obtain ⟨cs', h1, h2⟩ := hx i hi
      obtain ⟨q, rfl, hq⟩ := trod_iq (World.cells?_some h1).2.1 h2
      exact ⟨q, h1, hq⟩)
    by_cases h0 : len = 0
    · subst h0
      exact ⟨some a, m, [], rfl, ⟨.inl rfl, by simp, by simp⟩, fun h => by cases h⟩
    have hsp : a.spot = none := by
      have := (World.cells?_some (hL 0 (by omega)).1).2.2 0 (by omega)
      have h2 := World.cell?_spot (this.trans rfl)
      unfold Addr.add at h2; split at h2 <;> simp_all
    refine ⟨some a, m, (List.range len).map L, by simp, ⟨.inr ⟨a.block, a.off, ?_, ?_, ?_⟩, ?_, ?_⟩, fun h => by cases h⟩
    · obtain ⟨b, o, sp⟩ := a; simp at hsp; subst hsp; rfl
    · have := (World.cells?_some (hL 0 (by omega)).1).2.2 0 (by omega)
      rw [add_off hsp, add_off rfl] at this
      exact World.block_lt_of_cell? w ⟨a.block, a.off + 0 * 4 + 0, none⟩ (this.trans rfl)
    · intro i hi
      simp at hi
      have h4 := (World.cells?_some (hL i (by omega)).1).2.2
      rw [add_off hsp] at h4
      have k0 := h4 0 (by omega); have k1 := h4 1 (by omega); have k2 := h4 2 (by omega); have k3 := h4 3 (by omega)
      rw [add_off rfl] at k0 k1 k2 k3
      simp [Iq.cells] at k0 k1 k2 k3
      simp
      exact ⟨k0, k1, k2, k3⟩
    · simp [maxLen] at hm ⊢; omega
    · intro q hq
      simp at hq
      obtain ⟨i, hi, rfl⟩ := hq
      exact (hL i (by omega)).2
/-- An argument's numbers are machine numbers. -/
def Ar.I64 (a : Ar) : Prop := Go.Proofs.YtakbpjgnjfigcaaGreat.I64 a.v ∧ a.p.I64
theorem trod_ar (n : Nat) (ds : List Value) (y : DataW H × List MemPlace) (hl : ds.length = arE.size) (h : DataW.trod enc Tryz.prog w 0 (fun _ => true) held n 69 ds = some y) : ∃ a : Ar, ds = arE.cells a ∧ a.I64 := by
  match ds, hl with
  | [c0, c1, c2, c3], _ =>
    obtain ⟨y0, y1, m, -, -, h0, h1⟩ := trod_struct2 Tryz.underlying69 h
    simp [cells_pt, cells_int] at h0 h1
    obtain ⟨b, h0, -, w0⟩ := DataW.trod_int (k := .i64) (by kernel_rfl) h0
    obtain ⟨p, h1, hp⟩ := trod_pt rfl h1
    cases h0; cases h1
    exact ⟨⟨b, p⟩, rfl, i64_wf w0, hp⟩
/-- What is known of a variable that came in. -/
structure VsQ (w : World) (a : Vs) (l : List Ar) : Prop where
  n : a.n = l.length
  sl : SlS arE w a.s l
  len : l.length ≤ 9223372036854775807
  non : a.s = none → a.cap = 0
  cap : l.length ≤ a.cap
  name : a.name.size ≤ 9223372036854775807
  op : I64 a.op
  i0 : I64 a.i0
  i1 : I64 a.i1
  i2 : I64 a.i2
  i3 : I64 a.i3
  ar : ∀ x ∈ l, x.I64
theorem trod_var (n : Nat) (ds : List Value) (y : DataW H × List MemPlace) (hl : ds.length = vsE.size) (h : DataW.trod enc Tryz.prog w 0 (fun _ => true) held n 66 ds = some y) : ∃ a : Vs, ds = vsE.cells a ∧ ∃ l, VsQ w a l := by
  match ds, hl with
  | [c0, c1, c2, c3, c4, c5, c6], _ =>
    obtain ⟨y0, y1, y2, y3, m, -, -, h0, h1, h2, h3⟩ := trod_struct4 Tryz.underlying66 h
    simp [cells_str, cells_int, cells_args, cells_init] at h0 h1 h2 h3
    obtain ⟨a, h0, -, w0⟩ := DataW.trod_string (by kernel_rfl) h0
    obtain ⟨b, h1, -, w1⟩ := DataW.trod_int (k := .i64) (by kernel_rfl) h1
    obtain ⟨s, cap, l, h2, q1, q2, q3, q4, q6, q5⟩ := trod_sl (E := arE) (Q := Ar.I64) (e := 69) (by kernel_rfl) (by kernel_rfl) trod_ar h2
    obtain ⟨z0, z1, z2, z3, m2, -, i0, i1, i2, i3⟩ := trod_array4 (e := 3) (by kernel_rfl) (by kernel_rfl) h3
    obtain ⟨j0, i0, -, v0⟩ := DataW.trod_int (k := .i64) (by kernel_rfl) i0
    obtain ⟨j1, i1, -, v1⟩ := DataW.trod_int (k := .i64) (by kernel_rfl) i1
    obtain ⟨j2, i2, -, v2⟩ := DataW.trod_int (k := .i64) (by kernel_rfl) i2
    obtain ⟨j3, i3, -, v3⟩ := DataW.trod_int (k := .i64) (by kernel_rfl) i3
    cases h0; cases h1; cases h2; cases i0; cases i1; cases i2; cases i3
    exact ⟨⟨a, b, s, l.length, cap, j0, j1, j2, j3⟩, rfl, l, rfl, q1, q2, q3, q4, by simpa [maxLen] using w0, i64_wf w1, i64_wf v0, i64_wf v1, i64_wf v2, i64_wf v3, q5⟩
/-- A variable's numbers are machine numbers. -/
structure Vv.Fit (v : Vv) : Prop where
  name : v.name.size ≤ 9223372036854775807
  len : v.args.length ≤ 9223372036854775807
  op : I64 v.op
  i0 : I64 v.i0
  i1 : I64 v.i1
  i2 : I64 v.i2
  i3 : I64 v.i3
  ar : ∀ x ∈ v.args, x.I64
theorem trod_vars {fuel : Nat} {cs : List Value} {x : DataW H × List MemPlace} (h : DataW.trod enc Tryz.prog w 0 (fun _ => true) held fuel 25 cs = some x) :
    ∃ s cap k, cs = [.slice s k.length cap] ∧ VarsM w s k ∧ k.length ≤ 9223372036854775807 ∧ (s = none → cap = 0) ∧ k.length ≤ cap ∧ cap ≤ 9223372036854775807 ∧ ∀ v ∈ k, v.Fit := by
  obtain ⟨s, cap, ss, hcs, h1, h2, h3, h4, h6, h5⟩ := trod_sl (E := vsE) (Q := fun a => ∃ l, VsQ w a l) (e := 66) (by kernel_rfl) (by kernel_rfl) trod_var h
  obtain ⟨L, hL⟩ := choose_lt (α := Vv) (p := fun i v => ∀ (h : i < ss.length), VarM w ss[i] v ∧ v.Fit) (n := ss.length) (fun i hi => by
    obtain ⟨l, q⟩ := h5 _ (List.getElem_mem hi)
    exact ⟨⟨ss[i].name, ss[i].op, l, ss[i].i0, ss[i].i1, ss[i].i2, ss[i].i3⟩, fun _ => ⟨⟨rfl, rfl, q.n, q.sl, q.len, q.non, q.cap, rfl, rfl, rfl, rfl⟩, ⟨q.name, q.len, q.op, q.i0, q.i1, q.i2, q.i3, q.ar⟩⟩⟩)
  have hlen : ((List.range ss.length).map L).length = ss.length := by simp
  refine ⟨s, cap, (List.range ss.length).map L, by rw [hlen]; exact hcs, ⟨ss, h1, by simp, ?_⟩, by simpa using h2, h3, by simpa using h4, h6, ?_⟩
  · intro i hi hi'
    simp only [List.getElem_map, List.getElem_range]
    exact (hL i hi' hi').1
  · intro v hv
    obtain ⟨i, hi, rfl⟩ := List.mem_map.1 hv
    rw [List.mem_range] at hi
    exact (hL i hi hi).2
set_option maxRecDepth 100000 in
theorem open_ptv {base : Nat} {spare : Nat → Bool} {r : Reach} {b0 : Nat} {v : Value} {d : DataW H} {p : List MemPlace} (hv : Value.okWide Tryz.prog w r b0 30 v) (h : DataW.Trod enc Tryz.prog w base spare held 30 v d p) :
    ∃ q : Pt, v = .agg #[.int .i64 q.x, .int .i64 q.y, .int .i64 q.z] ∧ q.I64 := by
  have e : Tryz.prog.underlying 30 = some (.array 3 3) := by kernel_rfl
  simp only [Value.okWide, e] at hv
  obtain ⟨cs, rfl, hc, -⟩ := hv
  obtain ⟨fuel, hf⟩ := h
  simp only [Value.cells] at hf
  obtain ⟨q, hq, hw⟩ := trod_pt (by simpa [cells_pt] using hc) hf
  refine ⟨q, ?_, hw⟩
  cases cs; simp at hq; subst hq; rfl
set_option maxRecDepth 100000 in
theorem open_rec {r : Reach} {b0 : Nat} {v : Value} {d : DataW H} {p : List MemPlace} (hv : Value.okWide Tryz.prog w r b0 27 v) (h : DataW.Trod enc Tryz.prog w 0 (fun _ => true) held 27 v d p) :
    ∃ n s cap l s2 cq K, v = .agg #[.int .i64 n, .slice s l.length cap, .slice s2 K.length cq] ∧ RecM w s l s2 cq K ∧ I64 n ∧ ∀ v ∈ K, v.Fit := by
  have e := Tryz.underlying27
  simp only [Value.okWide, e] at hv
  obtain ⟨cs, rfl, hc, -⟩ := hv
  obtain ⟨fuel, hf⟩ := h
  simp only [Value.cells] at hf
  obtain ⟨c0, c1, c2, hcs⟩ : ∃ c0 c1 c2, cs.toList = [c0, c1, c2] := by
    match h : cs.toList, (by simpa [cells_rec] using hc : cs.toList.length = 3) with
    | [c0, c1, c2], _ => exact ⟨_, _, _, rfl⟩
  rw [hcs] at hf
  obtain ⟨y0, y1, m, -, -, h0, h1⟩ := trod_struct2 e hf
  simp [cells_dom, cells_vars] at h0 h1
  obtain ⟨z0, z1, m2, -, -, g0, g1⟩ := trod_struct2 Tryz.underlying24 h0
  simp [cells_int, cells_iqs] at g0 g1
  obtain ⟨n, g0, -, w0⟩ := DataW.trod_int (k := .i64) (by kernel_rfl) g0
  obtain ⟨s, cap, l, g1, hd⟩ := trod_iqs g1
  obtain ⟨s2, cq, K, h1, k1, k2, k3, k4, k6, k5⟩ := trod_vars h1
  cases g0; cases g1; cases h1
  refine ⟨n, s, cap, l, s2, cq, K, ?_, ?_, i64_wf w0, k5⟩
  · cases cs; simp at hcs; subst hcs; rfl
  · exact ⟨hd.1, k1, k2, k4, k6⟩
set_option maxRecDepth 100000 in
theorem open_sd {r : Reach} {b0 : Nat} {v : Value} {d : DataW H} {p : List MemPlace} (hv : Value.okWide Tryz.prog w r b0 33 v) (h : DataW.Trod enc Tryz.prog w 0 (fun _ => true) held 33 v d p) :
    ∃ q : Sd, v = .agg #[.int .i64 q.f.x, .int .i64 q.f.y, .int .i64 q.f.z, .slice q.s q.off.length q.cap] ∧ SdM w q ∧ q.f.I64 ∧ (∀ x ∈ q.off, I64 x) ∧ (q.s = none → q.cap = 0) ∧ q.off.length ≤ q.cap := by
  have e := Tryz.underlying33
  have e4 : Tryz.prog.cellsOf 33 = 4 := by kernel_rfl
  have e1 : Tryz.prog.cellsOf 31 = 1 := by kernel_rfl
  simp only [Value.okWide, e] at hv
  obtain ⟨cs, rfl, hc, -⟩ := hv
  obtain ⟨fuel, hf⟩ := h
  simp only [Value.cells] at hf
  obtain ⟨c0, c1, c2, c3, hcs⟩ : ∃ c0 c1 c2 c3, cs.toList = [c0, c1, c2, c3] := by
    match h : cs.toList, (by simpa [e4] using hc : cs.toList.length = 4) with
    | [c0, c1, c2, c3], _ => exact ⟨_, _, _, _, rfl⟩
  rw [hcs] at hf
  obtain ⟨y0, y1, m, -, -, h0, h1⟩ := trod_struct2 e hf
  simp [cells_pt, e1] at h0 h1
  obtain ⟨f, h0, hfi⟩ := trod_pt rfl h0
  obtain ⟨s, cap, l, h1, q1, q2, q3, q4, q6, q5⟩ := trod_sl (E := intE) (Q := I64) (e := 3) (by kernel_rfl) (by kernel_rfl) (trod_int1 fun _ h => h) h1
  cases h0; cases h1
  refine ⟨⟨f, l, s, cap⟩, ?_, ⟨q1, q2⟩, hfi, q5, q3, q4⟩
  cases cs; simp at hcs; subst hcs; rfl
set_option maxRecDepth 100000 in
theorem open_el {r : Reach} {b0 : Nat} {v : Value} {d : DataW H} {p : List MemPlace} (hv : Value.okWide Tryz.prog w r b0 90 v) (h : DataW.Trod enc Tryz.prog w 0 (fun _ => true) held 90 v d p) :
    ∃ a : Ar, v = .agg #[.int .i64 a.v, .int .i64 a.p.x, .int .i64 a.p.y, .int .i64 a.p.z] ∧ a.I64 := by
  have e := Tryz.underlying90
  have e4 : Tryz.prog.cellsOf 90 = 4 := by kernel_rfl
  simp only [Value.okWide, e] at hv
  obtain ⟨cs, rfl, hc, -⟩ := hv
  obtain ⟨fuel, hf⟩ := h
  simp only [Value.cells] at hf
  obtain ⟨c0, c1, c2, c3, hcs⟩ : ∃ c0 c1 c2 c3, cs.toList = [c0, c1, c2, c3] := by
    match h : cs.toList, (by simpa [e4] using hc : cs.toList.length = 4) with
    | [c0, c1, c2, c3], _ => exact ⟨_, _, _, _, rfl⟩
  rw [hcs] at hf
  obtain ⟨y0, y1, m, -, -, h0, h1⟩ := trod_struct2 e hf
  simp [cells_pt, cells_int] at h0 h1
  obtain ⟨b, h0, -, w0⟩ := DataW.trod_int (k := .i64) (by kernel_rfl) h0
  obtain ⟨f, h1, hfi⟩ := trod_pt rfl h1
  cases h0; cases h1
  refine ⟨⟨b, f⟩, ?_, i64_wf w0, hfi⟩
  cases cs; simp at hcs; subst hcs; rfl
end
end Go.Proofs.YtakbpjgnjfigcaaGreat
