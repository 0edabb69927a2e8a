/- Recurrences: what they are, and which are valid: plain functions on lists and numbers. -/
import Derived.Test.YtbpdgoedglkefaaInn
import Derived.Test.YtbpdgoedglkefaaPolySpec
namespace Go.Proofs.Ytbpdgoedglkefaa
open Go.RowKit

/-- An argument: a variable, and how far off. -/
structure Ar where
  v : Int
  p : Pt
def Ar.cells (a : Ar) : List Value := [.int .i64 a.v, .int .i64 a.p.x, .int .i64 a.p.y, .int .i64 a.p.z]
def arE : Elt Ar := ⟨4, Ar.cells, by decide, fun _ => rfl, fun _ u h => by simp [Ar.cells] at h; rcases h with rfl | rfl | rfl | rfl <;> rfl⟩
theorem SlS.ar_at {w : World} {s : Option Addr} {l : List Ar} (c : SlS arE w s l) {i : Nat} (h : i < l.length) :
    ∃ b off, s = some ⟨b, off, none⟩ ∧ b < w.heap.size ∧ w.cell? ⟨b, off + i * 4, none⟩ = some (.int .i64 l[i].v) ∧ w.cell? ⟨b, off + i * 4 + 1, none⟩ = some (.int .i64 l[i].p.x) ∧ w.cell? ⟨b, off + i * 4 + 2, none⟩ = some (.int .i64 l[i].p.y) ∧ w.cell? ⟨b, off + i * 4 + 3, none⟩ = some (.int .i64 l[i].p.z) := by
  obtain ⟨b, off, e, hb, hc⟩ := c.at h
  have h0 := hc 0 _ rfl
  have h1 := hc 1 _ rfl
  have h2 := hc 2 _ rfl
  have h3 := hc 3 _ rfl
  simp only [arE, Nat.add_zero] at h0 h1 h2 h3
  exact ⟨b, off, e, hb, h0, h1, h2, h3⟩
/-- A variable. -/
structure Vv where
  name : ByteArray
  op : Int
  args : List Ar
  i0 : Int
  i1 : Int
  i2 : Int
  i3 : Int
/-- A variable as it lies in memory. -/
structure Vs where
  name : ByteArray
  op : Int
  s : Option Addr
  n : Nat
  cap : Nat
  i0 : Int
  i1 : Int
  i2 : Int
  i3 : Int
def Vs.cells (a : Vs) : List Value := [.string a.name, .int .i64 a.op, .slice a.s a.n a.cap, .int .i64 a.i0, .int .i64 a.i1, .int .i64 a.i2, .int .i64 a.i3]
def vsE : Elt Vs := ⟨7, Vs.cells, by decide, fun _ => rfl, fun _ u h => by simp [Vs.cells] at h; rcases h with rfl | rfl | rfl | rfl | rfl | rfl | rfl <;> rfl⟩
theorem SlS.vs_at {w : World} {s : Option Addr} {l : List Vs} (c : SlS vsE w s l) {i : Nat} (h : i < l.length) :
    ∃ b off, s = some ⟨b, off, none⟩ ∧ b < w.heap.size ∧ w.cell? ⟨b, off + i * 7, none⟩ = some (.string l[i].name) ∧ w.cell? ⟨b, off + i * 7 + 1, none⟩ = some (.int .i64 l[i].op) ∧ w.cell? ⟨b, off + i * 7 + 2, none⟩ = some (.slice l[i].s l[i].n l[i].cap) ∧ w.cell? ⟨b, off + i * 7 + 3, none⟩ = some (.int .i64 l[i].i0) ∧ w.cell? ⟨b, off + i * 7 + 4, none⟩ = some (.int .i64 l[i].i1) ∧ w.cell? ⟨b, off + i * 7 + 5, none⟩ = some (.int .i64 l[i].i2) ∧ w.cell? ⟨b, off + i * 7 + 6, none⟩ = some (.int .i64 l[i].i3) := by
  obtain ⟨b, off, e, hb, hc⟩ := c.at h
  have h0 := hc 0 _ rfl
  have h1 := hc 1 _ rfl
  have h2 := hc 2 _ rfl
  have h3 := hc 3 _ rfl
  have h4 := hc 4 _ rfl
  have h5 := hc 5 _ rfl
  have h6 := hc 6 _ rfl
  simp only [vsE, Nat.add_zero] at h0 h1 h2 h3 h4 h5 h6
  exact ⟨b, off, e, hb, h0, h1, h2, h3, h4, h5, h6⟩
/-- A variable in memory, with its arguments. -/
def VarM (w : World) (r : Vs) (v : Vv) : Prop :=
  r.name = v.name ∧ r.op = v.op ∧ r.n = v.args.length ∧ SlS arE w r.s v.args ∧ v.args.length ≤ 9223372036854775807 ∧ (r.s = none → r.cap = 0) ∧ v.args.length ≤ r.cap ∧ r.i0 = v.i0 ∧ r.i1 = v.i1 ∧ r.i2 = v.i2 ∧ r.i3 = v.i3
/-- Variables in memory. -/
def VarsM (w : World) (s : Option Addr) (k : List Vv) : Prop :=
  ∃ ss : List Vs, SlS vsE w s ss ∧ ss.length = k.length ∧ ∀ i (h : i < k.length) (h' : i < ss.length), VarM w ss[i] k[i]
theorem VarM.up {W W' : World} (h : Below W.heap.size W W') {r : Vs} {v : Vv} (c : VarM W r v) : VarM W' r v := by
  obtain ⟨h1, h2, h3, h4, h5⟩ := c
  exact ⟨h1, h2, h3, h4.up h, h5⟩
theorem VarsM.up {W W' : World} (h : Below W.heap.size W W') {s : Option Addr} {k : List Vv} (c : VarsM W s k) : VarsM W' s k := by
  obtain ⟨ss, h1, h2, h3⟩ := c
  exact ⟨ss, h1.up h, h2, fun i hi hi' => (h3 i hi hi').up h⟩
instance {W W' : World} {s : Option Addr} {k : List Vv} : UpF W W' (VarsM W s k) (VarsM W' s k) := ⟨fun h c => VarsM.up h c⟩
/-- What lies where variable i does. -/
theorem VarsM.at {w : World} {s : Option Addr} {k : List Vv} (c : VarsM w s k) {i : Nat} (hi : i < k.length) :
    ∃ b off sa ca, s = some ⟨b, off, none⟩ ∧ b < w.heap.size ∧ w.cell? ⟨b, off + i * 7, none⟩ = some (.string k[i].name) ∧ w.cell? ⟨b, off + i * 7 + 1, none⟩ = some (.int .i64 k[i].op) ∧ w.cell? ⟨b, off + i * 7 + 2, none⟩ = some (.slice sa k[i].args.length ca) ∧ w.cell? ⟨b, off + i * 7 + 3, none⟩ = some (.int .i64 k[i].i0) ∧ w.cell? ⟨b, off + i * 7 + 4, none⟩ = some (.int .i64 k[i].i1) ∧ w.cell? ⟨b, off + i * 7 + 5, none⟩ = some (.int .i64 k[i].i2) ∧ w.cell? ⟨b, off + i * 7 + 6, none⟩ = some (.int .i64 k[i].i3) ∧ SlS arE w sa k[i].args ∧ k[i].args.length ≤ 9223372036854775807 ∧ (sa = none → ca = 0) ∧ k[i].args.length ≤ ca := by
  obtain ⟨ss, h1, h2, h3⟩ := c
  obtain ⟨b, off, e, hb, c0, c1, c2, c3, c4, c5, c6⟩ := h1.vs_at (i := i) (by omega)
  obtain ⟨e1, e2, e3, q, ql, qn, qc, e4, e5, e6, e7⟩ := h3 i hi (by omega)
  rw [e1] at c0; rw [e2] at c1; rw [e3] at c2; rw [e4] at c3; rw [e5] at c4; rw [e6] at c5; rw [e7] at c6
  exact ⟨b, off, ss[i].s, ss[i].cap, e, hb, c0, c1, c2, c3, c4, c5, c6, q, ql, qn, qc⟩

/-! ### Valid recurrences -/
/-- How many arguments an operation needs; 0: there is none such. -/
def needs (op : Int) : Nat := if op = 1 then 1 else if op = 5 then 3 else if op = 2 ∨ op = 3 ∨ op = 4 ∨ op = 6 ∨ op = 7 then 2 else 0
def initC (i x n : Int) : Bool := bw 0 x 10006 && (decide (i ≤ n) || decide (x = 0))
def initB (v : Vv) (n : Int) : Bool := initC 0 v.i0 n && (initC 1 v.i1 n && (initC 2 v.i2 n && initC 3 v.i3 n))
def argC (vars n : Int) (a : Ar) : Bool := flatB a.p n 3 && bw 0 a.v (vars - 1)
/-- A name is one small letter. -/
def nameB (s : ByteArray) : Bool := decide (s.size = 1) && (decide (97 ≤ (s.get! 0).toNat) && decide ((s.get! 0).toNat ≤ 122))
def varB (vars n : Int) (v : Vv) : Bool := decide (needs v.op ≠ 0) && (nameB v.name && (decide (v.args.length = needs v.op) && (initB v n && v.args.all (argC vars n))))
/-- Each name stands once. -/
def onceB : List Vv → Bool
  | [] => true
  | v :: k => onceB k && k.all fun u => !decide (u.name = v.name)
def recB (n : Int) (l : List Iq) (k : List Vv) : Bool := validB n l && (decide ((pts n l).length ≤ 1000) && (bw 1 k.length 4 && (k.all (varB k.length n) && onceB k)))
end Go.Proofs.Ytbpdgoedglkefaa
