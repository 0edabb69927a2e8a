/- Several texts in one: each says what it proves. -/
import Derived.Test.YtakbpjgnjfigcaaGreatB1
import Derived.StringKeys
import Derived.Test.YtakbpjgnjfigcaaGreatB2
import Derived.Laws.Tables
import Derived.BigRegion
/- Recurrences: what they are, and which are valid: plain functions on lists and numbers. -/
namespace Go.Proofs.YtakbpjgnjfigcaaGreat
open Go.RowKit

/-- An argument: a variable, and how far off. -/
structure Ar where
  v : Int
  p : Pt
def Ar.cells (a : Ar) : List Value := [.int .i64 a.v, .int .i64 a.p.x, .int .i64 a.p.y, .int .i64 a.p.z]
def arE : Elt Ar := ⟨4, Ar.cells, by decide, fun _ => rfl, fun _ u h => by simp [Ar.cells] at h; rcases h with rfl | rfl | rfl | rfl <;> rfl⟩
theorem SlS.ar_at {w : World} {s : Option Addr} {l : List Ar} (c : SlS arE w s l) {i : Nat} (h : i < l.length) :
    ∃ b off, s = some ⟨b, off, none⟩ ∧ b < w.heap.size ∧ w.cell? ⟨b, off + i * 4, none⟩ = some (.int .i64 l[i].v) ∧ w.cell? ⟨b, off + i * 4 + 1, none⟩ = some (.int .i64 l[i].p.x) ∧ w.cell? ⟨b, off + i * 4 + 2, none⟩ = some (.int .i64 l[i].p.y) ∧ w.cell? ⟨b, off + i * 4 + 3, none⟩ = some (.int .i64 l[i].p.z) := by
  obtain ⟨b, off, e, hb, hc⟩ := c.at h
  have h0 := hc 0 _ rfl
  have h1 := hc 1 _ rfl
  have h2 := hc 2 _ rfl
  have h3 := hc 3 _ rfl
  simp only [arE, Nat.add_zero] at h0 h1 h2 h3
  exact ⟨b, off, e, hb, h0, h1, h2, h3⟩
/-- A variable. -/
structure Vv where
  name : ByteArray
  op : Int
  args : List Ar
  i0 : Int
  i1 : Int
  i2 : Int
  i3 : Int
/-- A variable as it lies in memory. -/
structure Vs where
  name : ByteArray
  op : Int
  s : Option Addr
  n : Nat
  cap : Nat
  i0 : Int
  i1 : Int
  i2 : Int
  i3 : Int
def Vs.cells (a : Vs) : List Value := [.string a.name, .int .i64 a.op, .slice a.s a.n a.cap, .int .i64 a.i0, .int .i64 a.i1, .int .i64 a.i2, .int .i64 a.i3]
def vsE : Elt Vs := ⟨7, Vs.cells, by decide, fun _ => rfl, fun _ u h => by simp [Vs.cells] at h; rcases h with rfl | rfl | rfl | rfl | rfl | rfl | rfl <;> rfl⟩
theorem SlS.vs_at {w : World} {s : Option Addr} {l : List Vs} (c : SlS vsE w s l) {i : Nat} (h : i < l.length) :
    ∃ b off, s = some ⟨b, off, none⟩ ∧ b < w.heap.size ∧ w.cell? ⟨b, off + i * 7, none⟩ = some (.string l[i].name) ∧ w.cell? ⟨b, off + i * 7 + 1, none⟩ = some (.int .i64 l[i].op) ∧ w.cell? ⟨b, off + i * 7 + 2, none⟩ = some (.slice l[i].s l[i].n l[i].cap) ∧ w.cell? ⟨b, off + i * 7 + 3, none⟩ = some (.int .i64 l[i].i0) ∧ w.cell? ⟨b, off + i * 7 + 4, none⟩ = some (.int .i64 l[i].i1) ∧ w.cell? ⟨b, off + i * 7 + 5, none⟩ = some (.int .i64 l[i].i2) ∧ w.cell? ⟨b, off + i * 7 + 6, none⟩ = some (.int .i64 l[i].i3) := by
  obtain ⟨b, off, e, hb, hc⟩ := c.at h
  have h0 := hc 0 _ rfl
  have h1 := hc 1 _ rfl
  have h2 := hc 2 _ rfl
  have h3 := hc 3 _ rfl
  have h4 := hc 4 _ rfl
  have h5 := hc 5 _ rfl
  have h6 := hc 6 _ rfl
  simp only [vsE, Nat.add_zero] at h0 h1 h2 h3 h4 h5 h6
  exact ⟨b, off, e, hb, h0, h1, h2, h3, h4, h5, h6⟩
/-- A variable in memory, with its arguments. -/
def VarM (w : World) (r : Vs) (v : Vv) : Prop :=
  r.name = v.name ∧ r.op = v.op ∧ r.n = v.args.length ∧ SlS arE w r.s v.args ∧ v.args.length ≤ 9223372036854775807 ∧ (r.s = none → r.cap = 0) ∧ v.args.length ≤ r.cap ∧ r.i0 = v.i0 ∧ r.i1 = v.i1 ∧ r.i2 = v.i2 ∧ r.i3 = v.i3
/-- Variables in memory. -/
def VarsM (w : World) (s : Option Addr) (k : List Vv) : Prop :=
  ∃ ss : List Vs, SlS vsE w s ss ∧ ss.length = k.length ∧ ∀ i (h : i < k.length) (h' : i < ss.length), VarM w ss[i] k[i]
theorem VarM.up {W W' : World} (h : Below W.heap.size W W') {r : Vs} {v : Vv} (c : VarM W r v) : VarM W' r v := by
  obtain ⟨h1, h2, h3, h4, h5⟩ := c
  exact ⟨h1, h2, h3, h4.up h, h5⟩
theorem VarsM.up {W W' : World} (h : Below W.heap.size W W') {s : Option Addr} {k : List Vv} (c : VarsM W s k) : VarsM W' s k := by
  obtain ⟨ss, h1, h2, h3⟩ := c
  exact ⟨ss, h1.up h, h2, fun i hi hi' => (h3 i hi hi').up h⟩
instance {W W' : World} {s : Option Addr} {k : List Vv} : UpF W W' (VarsM W s k) (VarsM W' s k) := ⟨fun h c => VarsM.up h c⟩
/-- What lies where variable i does. -/
theorem VarsM.at {w : World} {s : Option Addr} {k : List Vv} (c : VarsM w s k) {i : Nat} (hi : i < k.length) :
    ∃ b off sa ca, s = some ⟨b, off, none⟩ ∧ b < w.heap.size ∧ w.cell? ⟨b, off + i * 7, none⟩ = some (.string k[i].name) ∧ w.cell? ⟨b, off + i * 7 + 1, none⟩ = some (.int .i64 k[i].op) ∧ w.cell? ⟨b, off + i * 7 + 2, none⟩ = some (.slice sa k[i].args.length ca) ∧ w.cell? ⟨b, off + i * 7 + 3, none⟩ = some (.int .i64 k[i].i0) ∧ w.cell? ⟨b, off + i * 7 + 4, none⟩ = some (.int .i64 k[i].i1) ∧ w.cell? ⟨b, off + i * 7 + 5, none⟩ = some (.int .i64 k[i].i2) ∧ w.cell? ⟨b, off + i * 7 + 6, none⟩ = some (.int .i64 k[i].i3) ∧ SlS arE w sa k[i].args ∧ k[i].args.length ≤ 9223372036854775807 ∧ (sa = none → ca = 0) ∧ k[i].args.length ≤ ca := by
  obtain ⟨ss, h1, h2, h3⟩ := c
  obtain ⟨b, off, e, hb, c0, c1, c2, c3, c4, c5, c6⟩ := h1.vs_at (i := i) (by omega)
  obtain ⟨e1, e2, e3, q, ql, qn, qc, e4, e5, e6, e7⟩ := h3 i hi (by omega)
  rw [e1] at c0; rw [e2] at c1; rw [e3] at c2; rw [e4] at c3; rw [e5] at c4; rw [e6] at c5; rw [e7] at c6
  exact ⟨b, off, ss[i].s, ss[i].cap, e, hb, c0, c1, c2, c3, c4, c5, c6, q, ql, qn, qc⟩

/-! ### Valid recurrences -/
/-- How many arguments an operation needs; 0: there is none such. -/
def needs (op : Int) : Nat := if op = 1 then 1 else if op = 5 then 3 else if op = 2 ∨ op = 3 ∨ op = 4 ∨ op = 6 ∨ op = 7 then 2 else 0
def initC (i x n : Int) : Bool := bw 0 x 10006 && (decide (i ≤ n) || decide (x = 0))
def initB (v : Vv) (n : Int) : Bool := initC 0 v.i0 n && (initC 1 v.i1 n && (initC 2 v.i2 n && initC 3 v.i3 n))
def argC (vars n : Int) (a : Ar) : Bool := flatB a.p n 3 && bw 0 a.v (vars - 1)
/-- A name is one small letter. -/
def nameB (s : ByteArray) : Bool := decide (s.size = 1) && (decide (97 ≤ (s.get! 0).toNat) && decide ((s.get! 0).toNat ≤ 122))
def varB (vars n : Int) (v : Vv) : Bool := decide (needs v.op ≠ 0) && (nameB v.name && (decide (v.args.length = needs v.op) && (initB v n && v.args.all (argC vars n))))
/-- Each name stands once. -/
def onceB : List Vv → Bool
  | [] => true
  | v :: k => onceB k && k.all fun u => !decide (u.name = v.name)
def recB (n : Int) (l : List Iq) (k : List Vv) : Bool := validB n l && (decide ((pts n l).length ≤ 1000) && (bw 1 k.length 4 && (k.all (varB k.length n) && onceB k)))
end Go.Proofs.YtakbpjgnjfigcaaGreat

/- Recurrences: valid, one variable at a time; and the map of names. -/
namespace Go.Proofs.YtakbpjgnjfigcaaGreat
open Go.RowKit Go.Maps

theorem onceB_pair : ∀ K : List Vv, onceB K = true ↔ K.Pairwise (fun v u => ¬ u.name = v.name)
  | [] => by simp [onceB]
  | v :: K => by simp [onceB, onceB_pair K, List.pairwise_cons, and_comm]
/-- Whether one of the first j bears this name. -/
def hasN (K : List Vv) (j : Nat) (s : ByteArray) : Bool := (K.take j).any fun u => decide (u.name = s)
/-- What is wrong with variable j. -/
def badV (n : Int) (K : List Vv) (j : Nat) : Bool :=
  match K[j]? with
  | some v => !varB K.length n v || hasN K j v.name
  | none => false
theorem badV_at {n : Int} {K : List Vv} {j : Nat} (h : j < K.length) : badV n K j = (!varB K.length n K[j] || hasN K j K[j].name) := by
  unfold badV; rw [List.getElem?_eq_getElem h]
def recS (n : Int) (K : List Vv) : Bool := K.all (varB K.length n) && onceB K
theorem mem_names {K : List Vv} {j : Nat} {s : ByteArray} : hasN K j s = true ↔ ∃ i, ∃ (h : i < K.length), i < j ∧ K[i].name = s := by
  unfold hasN
  rw [List.any_eq_true]
  constructor
  · rintro ⟨v, hv, h⟩
    obtain ⟨i, hi, rfl⟩ := List.getElem_of_mem hv
    have h1 : i < j ∧ i < K.length := by rw [List.length_take] at hi; omega
    exact ⟨i, h1.2, h1.1, by rw [List.getElem_take] at h; exact of_decide_eq_true h⟩
  · rintro ⟨i, h, hij, rfl⟩
    exact ⟨K[i], List.mem_take_iff_getElem.2 ⟨i, by omega, rfl⟩, decide_eq_true rfl⟩
theorem recS_false {n : Int} {K : List Vv} {j : Nat} (h : j < K.length) (hb : badV n K j = true) : recS n K = false := by
  rw [badV_at h, Bool.or_eq_true] at hb
  cases hr : recS n K
  · rfl
  · unfold recS at hr
    rw [Bool.and_eq_true, List.all_eq_true, onceB_pair] at hr
    rcases hb with hb | hb
    · have := hr.1 _ (List.getElem_mem h)
      rw [this] at hb; cases hb
    · obtain ⟨i, hi, hij, e⟩ := mem_names.1 hb
      exact absurd e.symm (List.pairwise_iff_getElem.1 hr.2 i j hi h hij)
theorem recS_true {n : Int} {K : List Vv} (hb : ∀ j, j < K.length → badV n K j = false) : recS n K = true := by
  unfold recS
  rw [Bool.and_eq_true, List.all_eq_true, onceB_pair]
  constructor
  · intro v hv
    obtain ⟨i, hi, rfl⟩ := List.getElem_of_mem hv
    have h1 := hb i hi
    rw [badV_at hi, Bool.or_eq_false_iff, Bool.not_eq_false'] at h1
    exact h1.1
  · rw [List.pairwise_iff_getElem]
    intro i j hi hj hij e
    have h1 := hb j hj
    rw [badV_at hj, Bool.or_eq_false_iff] at h1
    rw [mem_names.2 ⟨i, hi, hij, e.symm⟩] at h1; cases h1.2
theorem recB_eq (n : Int) (l : List Iq) (K : List Vv) : recB n l K = (validB n l && (decide ((pts n l).length ≤ 1000) && (bw 1 K.length 4 && recS n K))) := rfl

/-! ### The map of names -/
def seenN (K : List Vv) : Nat → DataW Unit
  | 0 => .map []
  | k + 1 => (seenN K k).put (.string (K.getD k ⟨⟨#[]⟩, 0, [], 0, 0, 0, 0⟩).name.data.toList) (.lit (.bool true))
theorem seenN_isMap (K : List Vv) : ∀ k, IsMap (seenN K k)
  | 0 => isMap_empty
  | k + 1 => (seenN_isMap K k).put _ _
theorem name_inj {a b : ByteArray} (h : Lit.string a.data.toList = Lit.string b.data.toList) : a = b := by
  injection h with h
  rcases a with ⟨⟨a⟩⟩; rcases b with ⟨⟨b⟩⟩
  simp at h; subst h; rfl
theorem hasN_succ {K : List Vv} {k : Nat} (hk : k < K.length) (s : ByteArray) : hasN K (k + 1) s = (hasN K k s || decide (K[k].name = s)) := by
  unfold hasN
  rw [List.take_succ_eq_append_getElem hk, List.any_append]; simp
theorem seenN_at {K : List Vv} (s : ByteArray) : ∀ {k : Nat}, k ≤ K.length →
    (seenN K k).atKey (.string s.data.toList) (.lit (.bool false)) = .lit (.bool (hasN K k s))
  | 0, _ => by simp [seenN, hasN]; rfl
  | k + 1, hk => by
    have ih := seenN_at (K := K) s (k := k) (by omega)
    have hk' : k < K.length := by omega
    have e : K.getD k ⟨⟨#[]⟩, 0, [], 0, 0, 0, 0⟩ = K[k] := by simp [List.getElem?_eq_getElem hk']
    rw [seenN, e, hasN_succ hk']
    by_cases h : K[k].name = s
    · subst h
      rw [atKey_put_same (seenN_isMap K k) (k := .string K[k].name.data.toList) trivial]; simp
    · rw [atKey_put_other (fun e => h (name_inj e).symm), ih]; simp [h]
theorem seenN_put {K : List Vv} {k : Nat} (hk : k < K.length) : seenN K (k + 1) = (seenN K k).put (.string K[k].name.data.toList) (.lit (.bool true)) := by
  simp [seenN, List.getElem?_eq_getElem hk]
end Go.Proofs.YtakbpjgnjfigcaaGreat

/- Valid variables: rec's small functions. -/
namespace Go.Proofs.YtakbpjgnjfigcaaGreat
open Go.RowKit

set_option maxRecDepth 100000 in
theorem recBetween_c (a b c : Int) (w : World) :
    Calls Tryz.prog 70 #[.int .i64 a, .int .i64 b, .int .i64 c] w fun e w' => e = .returned (.bool (bw a b c)) ∧ w = w' := by
  by_cases h1 : a ≤ b
  all_goals
    by_cases h2 : b ≤ c
    all_goals
    go_enter Tryz.func70, Tryz.ntmps70
    go_wp2
    go_ret
    exact ⟨ret_bool (by simp [bw, h1, h2] <;> omega), rfl⟩
theorem res_cs {fn : Func} {p u : Tmp} {tp : TypeId} {tmps : Array Value} {P : Program} {w : World} {a : Addr} {va vb : Value} (h : fn.results = #[.cell p tp, .tmp u])
    (hp : tmps.getD p undef = .pointer (some a)) (hu : tmps.getD u undef = vb) (la : (loadVar tp a).run P w = .ok va w) : (results fn tmps).run P w = .ok (.tuple #[va, vb]) w := by
  simp only [results, h]
  simp only [Array.getD_eq_getD_getElem?] at hp hu
  simp [Result.andThen, hp, hu, asAddr, la]
theorem load_kind {X : World} {b : Nat} {u v x : Value} (h0 : X.cell? ⟨b, 0, none⟩ = some u) (h1 : X.cell? ⟨b, 1, none⟩ = some v) (h2 : X.cell? ⟨b, 2, none⟩ = some x) : (loadVar 146 ⟨b, 0, none⟩).run Tryz.prog X = .ok (.agg #[u, v, x]) X := by
  simp [go_sem, loadVar, h0, h1, h2]
/-- What an operation's function is. -/
def kF (op : Int) : Nat := if op = 1 then 123 else if op = 2 then 124 else if op = 3 then 125 else if op = 4 then 126 else if op = 5 then 127 else if op = 6 then 128 else 129
/-- What kindOf tells: how many arguments. -/
def KindRet (op : Int) (w : World) (e : Ending) (w' : World) : Prop := (∃ (a : ByteArray) (b : Value), e = .returned (.tuple #[.agg #[.string a, .int .i64 (needs op : Nat), b], .bool (decide (needs op ≠ 0))]) ∧ if needs op = 0 then b = .nilFunc else b = .func (.func (kF op)) #[] #[]) ∧ Below w.heap.size w w'
theorem kind_end {fn : Func} (hr : fn.results = #[.cell 2 146, .tmp 3]) {op : Int} {a : ByteArray} {b : Value} {n : Nat} {ok : Bool} {tmps : Array Value} {w X : World} {b1 : Nat} (hn : needs op = n) (ho : decide (n ≠ 0) = ok)
    (h2 : tmps.getD 2 undef = .pointer (some ⟨b1, 0, none⟩)) (h3 : tmps.getD 3 undef = .bool ok)
    (rl : Row X b1 146 #[.string a, .int .i64 n, b]) (hB : Below w.heap.size w X) (hb : if n = 0 then b = .nilFunc else b = .func (.func (kF op)) #[] #[]) :
    bodyPost Tryz.prog fn (KindRet op w) .ret { tmps := tmps, defers := [] } X := by
  subst hn ho
  exact bodyPost_ret (res_cs hr h2 h3 (load_kind (rl.cell rfl) (rl.cell rfl) (rl.cell rfl))) rfl ⟨⟨a, b, rfl, hb⟩, hB⟩
theorem needs_out {op : Int} (h : ¬ (1 ≤ op ∧ op ≤ 7)) : needs op = 0 := by
  unfold needs
  rw [if_neg (by omega), if_neg (by omega), if_neg (by omega)]
def kindOne (s : ByteArray) (n : Int) (f : Nat) : Value := .agg #[.string s, .int .i64 n, .func (.func f) #[] #[]]
/-- The table of operations. -/
noncomputable def kindsA : Array Value := (Tryz.prog.built 174 [(1, kindOne ⟨#[99, 111, 112, 121]⟩ 1 123), (2, kindOne ⟨#[97, 100, 100]⟩ 2 124), (3, kindOne ⟨#[115, 117, 98]⟩ 2 125), (4, kindOne ⟨#[109, 117, 108]⟩ 2 126), (5, kindOne ⟨#[102, 109, 97]⟩ 3 127), (6, kindOne ⟨#[109, 97, 120]⟩ 2 128), (7, kindOne ⟨#[109, 105, 110]⟩ 2 129)]).getD #[]
set_option maxRecDepth 100000 in
set_option maxHeartbeats 2000000 in
theorem kindOf_c (op : Int) (w : World) : Calls Tryz.prog 90 #[.int .i64 op] w (KindRet op w) := by
  have hbt := fun V => recBetween_c 1 op 7 V
  obtain ⟨B, hB0⟩ : ∃ b, bw 1 op 7 = b := ⟨_, rfl⟩
  rw [hB0] at hbt
  replace hbt := Lib.hid hbt; replace hB0 := Lib.hid hB0
  go_enter Tryz.func90, Tryz.ntmps90
  go_upto_region 1 with (fail)
  refine wp_world fun W HW => ?_
  have hB : Below w.heap.size w W := by rw [HW.out]; (repeat (first | exact Below.refl _ _ | refine Below.alloc ?_ (by simp; try omega) _ | refine Below.setCell ?_ (by simp) _ | refine Below.drew ?_))
  have xB : Row W (w.heap.size) 146 #[.string ⟨#[]⟩, .int .i64 0, .nilFunc] := (by rw [HW.out]; (repeat (first | (refine blk_new ?_; simp; done) | refine blk_old ?_ _)) : W.heap[w.heap.size]? = some (.cells #[.string ⟨#[]⟩, .int .i64 0, .nilFunc] 146 (0, 0)))
  have x0 : W.cell? ⟨w.heap.size, 0, none⟩ = some (.string ⟨#[]⟩) := by rw [HW.out]; simp [go_sem]
  have x1 : W.cell? ⟨w.heap.size, 1, none⟩ = some (.int .i64 0) := by rw [HW.out]; simp [go_sem]
  have x2 : W.cell? ⟨w.heap.size, 2, none⟩ = some (.nilFunc) := by rw [HW.out]; simp [go_sem]
  have xl : w.heap.size < W.heap.size := World.block_lt_of_cell? W _ x0
  go_upto_region 2 with (first | (refine wpList_build rfl _ _ rfl (by kernel_rfl) ?_) | (refine wpList_store_row rfl 174 _ _ rfl W.heap.size kindsA rfl (by kernel_rfl) 174 _ (Row.new W _ _) (by kernel_rfl) (by kernel_rfl) (by kernel_rfl) ?_))
  refine wp_world fun X HX => ?_
  have kc : ∀ j, X.cell? ⟨W.heap.size, j, none⟩ = kindsA[j]? := fun j => by rw [HX.out]; exact cell_setRow_same _ _ _ _ _ _ _ (Row.new W _ _)
  have hWX : Below W.heap.size W X := by
    rw [HX.out]
    exact ((Below.refl _ W).alloc (Nat.le_refl _) _).trans ⟨rfl, rfl, rfl, by simp [World.setRow], fun k hk => setRow_other _ _ k _ (by omega)⟩
  have hBX := hB.trans (hWX.mono hB.size)
  have xX := Up.block hWX xB
  clear HX
  replace xX : Row X w.heap.size 146 #[.string ⟨#[]⟩, .int .i64 0, .nilFunc] := xX
  have hxl := xX.lt
  have hwl : w.heap.size < W.heap.size := xl
  have hfin : ∀ cs, Below w.heap.size w (X.setRow w.heap.size cs) := fun cs => hBX.trans ⟨rfl, rfl, rfl, by simp [World.setRow], fun k hk => setRow_other _ _ k _ (by omega)⟩
  have hrow : ∀ u v x, Row (X.setRow w.heap.size #[u, v, x]) w.heap.size 146 #[u, v, x] := fun u v x => setRow_heap X w.heap.size _ _ _ _ xX
  replace hfin := Lib.hid hfin; replace hrow := Lib.hid hrow; have hxX := Lib.hid xX
  replace kc := Lib.hid kc
  cases B
  · have hn : needs op = 0 := needs_out fun h => by have := hB0.out; rw [bw_iff.2 h] at this; cases this
    replace hn := Lib.hid hn
    clear xX xB xl
    go_wp2_with (first | (go_at_call 70; refine (hbt.out _).mono ?_; rintro e w' ⟨rfl, rfl⟩) | (refine wpList_build rfl _ _ rfl (by kernel_rfl) ?_) | (refine wpList_store_row rfl 146 _ _ rfl w.heap.size #[.string ⟨#[]⟩, .int .i64 0, .nilFunc] rfl (by kernel_rfl) 146 _ hxX.out (by kernel_rfl) (by kernel_rfl) (by kernel_rfl) ?_))
    exact kind_end rfl (n := 0) (ok := false) hn.out rfl rfl rfl (hrow.out _ _ _) (hfin.out _) rfl
  have hop := bw_iff.1 hB0.out
  have hcs : op = 1 ∨ op = 2 ∨ op = 3 ∨ op = 4 ∨ op = 5 ∨ op = 6 ∨ op = 7 := by omega
  clear xX xB xl hB0 hop
  rcases hcs with rfl | rfl | rfl | rfl | rfl | rfl | rfl
  · have c0 := (kc.out 3).trans (show kindsA[3]? = some (.string ⟨#[99, 111, 112, 121]⟩) by kernel_rfl)
    have c1 := (kc.out 4).trans (show kindsA[4]? = some (.int .i64 1) by kernel_rfl)
    have c2 := (kc.out 5).trans (show kindsA[5]? = some (.func (.func 123) #[] #[]) by kernel_rfl)
    go_wp2_with (first | (go_at_call 70; refine (hbt.out _).mono ?_; rintro e w' ⟨rfl, rfl⟩) | (refine wpList_store_row rfl 146 _ _ rfl w.heap.size #[.string ⟨#[99, 111, 112, 121]⟩, .int .i64 1, .func (.func 123) #[] #[]] rfl rfl 146 _ hxX.out (by kernel_rfl) (by kernel_rfl) (by kernel_rfl) ?_))
    exact kind_end rfl (n := 1) (ok := true) rfl rfl rfl rfl (hrow.out _ _ _) (hfin.out _) rfl
  · have c0 := (kc.out 6).trans (show kindsA[6]? = some (.string ⟨#[97, 100, 100]⟩) by kernel_rfl)
    have c1 := (kc.out 7).trans (show kindsA[7]? = some (.int .i64 2) by kernel_rfl)
    have c2 := (kc.out 8).trans (show kindsA[8]? = some (.func (.func 124) #[] #[]) by kernel_rfl)
    go_wp2_with (first | (go_at_call 70; refine (hbt.out _).mono ?_; rintro e w' ⟨rfl, rfl⟩) | (refine wpList_store_row rfl 146 _ _ rfl w.heap.size #[.string ⟨#[97, 100, 100]⟩, .int .i64 2, .func (.func 124) #[] #[]] rfl rfl 146 _ hxX.out (by kernel_rfl) (by kernel_rfl) (by kernel_rfl) ?_))
    exact kind_end rfl (n := 2) (ok := true) rfl rfl rfl rfl (hrow.out _ _ _) (hfin.out _) rfl
  · have c0 := (kc.out 9).trans (show kindsA[9]? = some (.string ⟨#[115, 117, 98]⟩) by kernel_rfl)
    have c1 := (kc.out 10).trans (show kindsA[10]? = some (.int .i64 2) by kernel_rfl)
    have c2 := (kc.out 11).trans (show kindsA[11]? = some (.func (.func 125) #[] #[]) by kernel_rfl)
    go_wp2_with (first | (go_at_call 70; refine (hbt.out _).mono ?_; rintro e w' ⟨rfl, rfl⟩) | (refine wpList_store_row rfl 146 _ _ rfl w.heap.size #[.string ⟨#[115, 117, 98]⟩, .int .i64 2, .func (.func 125) #[] #[]] rfl rfl 146 _ hxX.out (by kernel_rfl) (by kernel_rfl) (by kernel_rfl) ?_))
    exact kind_end rfl (n := 2) (ok := true) rfl rfl rfl rfl (hrow.out _ _ _) (hfin.out _) rfl
  · have c0 := (kc.out 12).trans (show kindsA[12]? = some (.string ⟨#[109, 117, 108]⟩) by kernel_rfl)
    have c1 := (kc.out 13).trans (show kindsA[13]? = some (.int .i64 2) by kernel_rfl)
    have c2 := (kc.out 14).trans (show kindsA[14]? = some (.func (.func 126) #[] #[]) by kernel_rfl)
    go_wp2_with (first | (go_at_call 70; refine (hbt.out _).mono ?_; rintro e w' ⟨rfl, rfl⟩) | (refine wpList_store_row rfl 146 _ _ rfl w.heap.size #[.string ⟨#[109, 117, 108]⟩, .int .i64 2, .func (.func 126) #[] #[]] rfl rfl 146 _ hxX.out (by kernel_rfl) (by kernel_rfl) (by kernel_rfl) ?_))
    exact kind_end rfl (n := 2) (ok := true) rfl rfl rfl rfl (hrow.out _ _ _) (hfin.out _) rfl
  · have c0 := (kc.out 15).trans (show kindsA[15]? = some (.string ⟨#[102, 109, 97]⟩) by kernel_rfl)
    have c1 := (kc.out 16).trans (show kindsA[16]? = some (.int .i64 3) by kernel_rfl)
    have c2 := (kc.out 17).trans (show kindsA[17]? = some (.func (.func 127) #[] #[]) by kernel_rfl)
    go_wp2_with (first | (go_at_call 70; refine (hbt.out _).mono ?_; rintro e w' ⟨rfl, rfl⟩) | (refine wpList_store_row rfl 146 _ _ rfl w.heap.size #[.string ⟨#[102, 109, 97]⟩, .int .i64 3, .func (.func 127) #[] #[]] rfl rfl 146 _ hxX.out (by kernel_rfl) (by kernel_rfl) (by kernel_rfl) ?_))
    exact kind_end rfl (n := 3) (ok := true) rfl rfl rfl rfl (hrow.out _ _ _) (hfin.out _) rfl
  · have c0 := (kc.out 18).trans (show kindsA[18]? = some (.string ⟨#[109, 97, 120]⟩) by kernel_rfl)
    have c1 := (kc.out 19).trans (show kindsA[19]? = some (.int .i64 2) by kernel_rfl)
    have c2 := (kc.out 20).trans (show kindsA[20]? = some (.func (.func 128) #[] #[]) by kernel_rfl)
    go_wp2_with (first | (go_at_call 70; refine (hbt.out _).mono ?_; rintro e w' ⟨rfl, rfl⟩) | (refine wpList_store_row rfl 146 _ _ rfl w.heap.size #[.string ⟨#[109, 97, 120]⟩, .int .i64 2, .func (.func 128) #[] #[]] rfl rfl 146 _ hxX.out (by kernel_rfl) (by kernel_rfl) (by kernel_rfl) ?_))
    exact kind_end rfl (n := 2) (ok := true) rfl rfl rfl rfl (hrow.out _ _ _) (hfin.out _) rfl
  · have c0 := (kc.out 21).trans (show kindsA[21]? = some (.string ⟨#[109, 105, 110]⟩) by kernel_rfl)
    have c1 := (kc.out 22).trans (show kindsA[22]? = some (.int .i64 2) by kernel_rfl)
    have c2 := (kc.out 23).trans (show kindsA[23]? = some (.func (.func 129) #[] #[]) by kernel_rfl)
    go_wp2_with (first | (go_at_call 70; refine (hbt.out _).mono ?_; rintro e w' ⟨rfl, rfl⟩) | (refine wpList_store_row rfl 146 _ _ rfl w.heap.size #[.string ⟨#[109, 105, 110]⟩, .int .i64 2, .func (.func 129) #[] #[]] rfl rfl 146 _ hxX.out (by kernel_rfl) (by kernel_rfl) (by kernel_rfl) ?_))
    exact kind_end rfl (n := 2) (ok := true) rfl rfl rfl rfl (hrow.out _ _ _) (hfin.out _) rfl
end Go.Proofs.YtakbpjgnjfigcaaGreat

/- Valid variables: the program's arguments and variables. -/
namespace Go.Proofs.YtakbpjgnjfigcaaGreat
open Go.RowKit

set_option maxRecDepth 100000 in
set_option maxHeartbeats 400000 in
theorem int_indexf (f : Nat) (cs : Array Value) (hf : ∀ args w, (callFunc f args).run Tryz.prog w = .ok (.enter f args) w) (s : Option Addr) (cap : Nat) (l : List Int) (pr : Int → Bool) (w : World)
    (hs : SlS intE w s l) (hl : l.length ≤ 9223372036854775807)
    (hc : ∀ q ∈ l, ∀ W, Below w.heap.size w W → Calls Tryz.prog f (#[.int .i64 q] ++ cs) W fun e w' => e = .returned (.bool (pr q)) ∧ Below W.heap.size W w') :
    Calls Tryz.prog 36 #[.slice s l.length cap, .func (.func f) #[] cs] w fun e w' => e = .returned (.int .i64 (fidx pr l)) ∧ Below w.heap.size w w' := by
  go_enter Tryz.func36, Tryz.ntmps36
  go_wp2
  go_loopw [8] (fun i wr => ∃ k : Nat, k ≤ l.length ∧ i = .int .i64 k ∧ Below w.heap.size w wr ∧ Hid (∀ j (hj : j < l.length), j < k → pr l[j] = false)) (fun i _ => l.length - (intOf i).toNat)
  case atStart => exact ⟨0, by omega, rfl, Below.refl _ _, fun j _ h => absurd h (by omega)⟩
  case round =>
    obtain ⟨k, hk, rfl, hB, hno⟩ := hrel
    by_cases hlt : k < l.length
    · obtain ⟨b, off, rfl, hb, hcl⟩ := (up_of hB hs).at hlt
      have h0 := hcl 0 _ rfl
      simp only [intE, Nat.mul_one, Nat.add_zero] at h0
      have hcall := hc l[k] (List.getElem_mem hlt) wr hB
      have Hc := Lib.hid hcall
      clear hc hcall hs hcl
      cases hp : pr l[k] with
      | true =>
        go_wp2_with (refine Hc.out.mono ?_; rintro e W1 ⟨rfl, hb1⟩; rw [hp])
        go_ret
        exact ⟨ret_int (fidx_at hlt (fun j hj => hno j _ hj) hp).symm, Up.to hB hb1 hB.size⟩
      | false =>
        go_wp2_with (refine Hc.out.mono ?_; rintro e W1 ⟨rfl, hb1⟩; rw [hp])
        go_roundw
        case rel => exact ⟨k + 1, by omega, by go_num, Up.to hB hb1 hB.size, fun j hj h => by rcases Nat.lt_succ_iff_lt_or_eq.1 h with h | rfl; exact hno j hj h; exact hp⟩
        case measure => simp [intOf]; omega
    · obtain rfl : k = l.length := by omega
      clear hc hs
      go_wp2
      go_ret
      exact ⟨ret_int (fidx_none fun j hj => hno j hj hj).symm, hB⟩

set_option maxRecDepth 100000 in
set_option maxHeartbeats 400000 in
theorem int_containsf (f : Nat) (cs : Array Value) (hf : ∀ args w, (callFunc f args).run Tryz.prog w = .ok (.enter f args) w) (s : Option Addr) (cap : Nat) (l : List Int) (pr : Int → Bool) (w : World)
    (hs : SlS intE w s l) (hl : l.length ≤ 9223372036854775807)
    (hc : ∀ q ∈ l, ∀ W, Below w.heap.size w W → Calls Tryz.prog f (#[.int .i64 q] ++ cs) W fun e w' => e = .returned (.bool (pr q)) ∧ Below W.heap.size W w') :
    Calls Tryz.prog 72 #[.slice s l.length cap, .func (.func f) #[] cs] w fun e w' => e = .returned (.bool (l.any pr)) ∧ Below w.heap.size w w' := by
  have H := Lib.hid (int_indexf f cs hf s cap l pr w hs hl hc)
  clear hc hs hf
  go_enter Tryz.func72, Tryz.ntmps72
  go_wp2_with (go_at_call 36; refine H.out.mono ?_; rintro e W1 ⟨rfl, hb⟩)
  go_ret
  exact ⟨ret_bool (fidx_any pr l), hb⟩

set_option maxRecDepth 100000 in
set_option maxHeartbeats 400000 in
theorem arg_indexf (f : Nat) (cs : Array Value) (hf : ∀ args w, (callFunc f args).run Tryz.prog w = .ok (.enter f args) w) (s : Option Addr) (cap : Nat) (l : List Ar) (pr : Ar → Bool) (w : World)
    (hs : SlS arE w s l) (hl : l.length ≤ 9223372036854775807)
    (hc : ∀ q ∈ l, ∀ W, Below w.heap.size w W → Calls Tryz.prog f (#[.agg #[.int .i64 q.v, .int .i64 q.p.x, .int .i64 q.p.y, .int .i64 q.p.z]] ++ cs) W fun e w' => e = .returned (.bool (pr q)) ∧ Below W.heap.size W w') :
    Calls Tryz.prog 145 #[.slice s l.length cap, .func (.func f) #[] cs] w fun e w' => e = .returned (.int .i64 (fidx pr l)) ∧ Below w.heap.size w w' := by
  go_enter Tryz.func145, Tryz.ntmps145
  go_wp2
  go_loopw [8] (fun i wr => ∃ k : Nat, k ≤ l.length ∧ i = .int .i64 k ∧ Below w.heap.size w wr ∧ Hid (∀ j (hj : j < l.length), j < k → pr l[j] = false)) (fun i _ => l.length - (intOf i).toNat)
  case atStart => exact ⟨0, by omega, rfl, Below.refl _ _, fun j _ h => absurd h (by omega)⟩
  case round =>
    obtain ⟨k, hk, rfl, hB, hno⟩ := hrel
    by_cases hlt : k < l.length
    · obtain ⟨b, off, rfl, hb, h0, h1, h2, h3⟩ := (up_of hB hs).ar_at hlt
      have hcall := hc l[k] (List.getElem_mem hlt) wr hB
      have Hc := Lib.hid hcall
      clear hc hcall hs
      cases hp : pr l[k] with
      | true =>
        go_wp2_with (refine Hc.out.mono ?_; rintro e W1 ⟨rfl, hb1⟩; rw [hp])
        go_ret
        exact ⟨ret_int (fidx_at hlt (fun j hj => hno j _ hj) hp).symm, Up.to hB hb1 hB.size⟩
      | false =>
        go_wp2_with (refine Hc.out.mono ?_; rintro e W1 ⟨rfl, hb1⟩; rw [hp])
        go_roundw
        case rel => exact ⟨k + 1, by omega, by go_num, Up.to hB hb1 hB.size, fun j hj h => by rcases Nat.lt_succ_iff_lt_or_eq.1 h with h | rfl; exact hno j hj h; exact hp⟩
        case measure => simp [intOf]; omega
    · obtain rfl : k = l.length := by omega
      clear hc hs
      go_wp2
      go_ret
      exact ⟨ret_int (fidx_none fun j hj => hno j hj hj).symm, hB⟩

set_option maxRecDepth 100000 in
set_option maxHeartbeats 400000 in
theorem arg_containsf (f : Nat) (cs : Array Value) (hf : ∀ args w, (callFunc f args).run Tryz.prog w = .ok (.enter f args) w) (s : Option Addr) (cap : Nat) (l : List Ar) (pr : Ar → Bool) (w : World)
    (hs : SlS arE w s l) (hl : l.length ≤ 9223372036854775807)
    (hc : ∀ q ∈ l, ∀ W, Below w.heap.size w W → Calls Tryz.prog f (#[.agg #[.int .i64 q.v, .int .i64 q.p.x, .int .i64 q.p.y, .int .i64 q.p.z]] ++ cs) W fun e w' => e = .returned (.bool (pr q)) ∧ Below W.heap.size W w') :
    Calls Tryz.prog 140 #[.slice s l.length cap, .func (.func f) #[] cs] w fun e w' => e = .returned (.bool (l.any pr)) ∧ Below w.heap.size w w' := by
  have H := Lib.hid (arg_indexf f cs hf s cap l pr w hs hl hc)
  clear hc hs hf
  go_enter Tryz.func140, Tryz.ntmps140
  go_wp2_with (go_at_call 145; refine H.out.mono ?_; rintro e W1 ⟨rfl, hb⟩)
  go_ret
  exact ⟨ret_bool (fidx_any pr l), hb⟩

theorem sl_ints {W : World} {b o : Nat} {l : List Int} (hb : b < W.heap.size) (h : ∀ j (hj : j < l.length), W.cell? ⟨b, o + j, none⟩ = some (.int .i64 l[j])) : SlS intE W (some ⟨b, o, none⟩) l := by
  refine .inr ⟨b, o, rfl, hb, fun j u hj => ?_⟩
  have hl := (List.getElem?_eq_some_iff.1 hj).1
  rw [Elt.all_len] at hl
  have hl2 : j < l.length := by simpa [intE] using hl
  have h2 := intE.all_at l j 0 hl2 (by decide)
  have h3 : (intE.all l)[j]? = some (.int .i64 l[j]) := by simpa [intE] using h2
  rw [h3] at hj
  cases hj
  exact h j hl2
set_option maxRecDepth 100000 in
theorem beyond1_c (x : Int) (w : World) : Calls Tryz.prog 116 #[.int .i64 x] w fun e w' => e = .returned (.bool (x != 0)) ∧ Below w.heap.size w w' := by
  go_enter Tryz.func116, Tryz.ntmps116
  go_wp2
  go_ret
  exact ⟨rfl, Below.refl _ _⟩
set_option maxRecDepth 100000 in
theorem valid11_c (x : Int) (w : World) : Calls Tryz.prog 142 #[.int .i64 x] w fun e w' => e = .returned (.bool (!bw (-3) x 3)) ∧ Below w.heap.size w w' := by
  go_enter Tryz.func142, Tryz.ntmps142
  go_wp2_with (first | (go_at_call 70; refine (recBetween_c _ _ _ _).mono ?_; rintro e w' ⟨rfl, rfl⟩))
  go_ret
  exact ⟨rfl, Below.refl _ _⟩
def beyB (p : Pt) (n : Nat) : Bool := ([p.x, p.y, p.z].drop n).any fun x => x != 0
set_option maxRecDepth 100000 in
set_option maxHeartbeats 1000000 in
theorem beyond_c (p : Pt) (n : Nat) (w : World) (hn : 1 ≤ n ∧ n ≤ 3) :
    Calls Tryz.prog 71 #[.agg #[.int .i64 p.x, .int .i64 p.y, .int .i64 p.z], .int .i64 n] w fun e w' => e = .returned (.bool (beyB p n)) ∧ Below w.heap.size w w' := by
  have hcs : n = 1 ∨ n = 2 ∨ n = 3 := by omega
  have H := Lib.hid fun V s c (l : List Int) (h : SlS intE V s l) (hl : l.length ≤ 3) => int_containsf 116 #[] (fun _ _ => rfl) s c l (fun x => x != 0) V h (by omega) (fun q _ W _ => beyond1_c q W)
  rcases hcs with rfl | rfl | rfl
  · have H1 := Lib.hid fun V b (hb : b < V.heap.size) (h1 : V.cell? ⟨b, 1, none⟩ = some (.int .i64 p.y)) (h2 : V.cell? ⟨b, 2, none⟩ = some (.int .i64 p.z)) => H.out V (some ⟨b, 1, none⟩) 2 [p.y, p.z] (sl_ints hb fun j hj => by
      simp only [List.length_cons, List.length_nil] at hj
      have : j = 0 ∨ j = 1 := by omega
      rcases this with rfl | rfl
      · exact h1
      · exact h2) (by simp)
    go_enter Tryz.func71, Tryz.ntmps71
    go_upto_region 1 with (fail)
    refine wp_world fun W HW => ?_
    have hB : Below w.heap.size w W := by rw [HW.out]; (repeat (first | exact Below.refl _ _ | refine Below.alloc ?_ (by simp; try omega) _ | refine Below.setCell ?_ (by simp) _ | refine Below.drew ?_))
    have b0 : W.cell? ⟨w.heap.size, 0, none⟩ = some (.int .i64 p.x) := by rw [HW.out]; simp [go_sem]
    have b1 : W.cell? ⟨w.heap.size, 1, none⟩ = some (.int .i64 p.y) := by rw [HW.out]; simp [go_sem]
    have b2 : W.cell? ⟨w.heap.size, 2, none⟩ = some (.int .i64 p.z) := by rw [HW.out]; simp [go_sem]
    have bl : w.heap.size < W.heap.size := World.block_lt_of_cell? W _ b0
    go_wp2_with (first | (go_at_call 72; refine (H1.out _ _ bl b1 b2).mono ?_; rintro e W2 ⟨rfl, hb2⟩))
    go_ret
    exact ⟨ret_bool (by simp [beyB]), hB.trans (hb2.mono hB.size)⟩
  · have H1 := Lib.hid fun V b (hb : b < V.heap.size) (h2 : V.cell? ⟨b, 2, none⟩ = some (.int .i64 p.z)) => H.out V (some ⟨b, 2, none⟩) 1 [p.z] (sl_ints hb fun j hj => by
      simp only [List.length_cons, List.length_nil] at hj
      obtain rfl : j = 0 := by omega
      exact h2) (by simp)
    go_enter Tryz.func71, Tryz.ntmps71
    go_upto_region 1 with (fail)
    refine wp_world fun W HW => ?_
    have hB : Below w.heap.size w W := by rw [HW.out]; (repeat (first | exact Below.refl _ _ | refine Below.alloc ?_ (by simp; try omega) _ | refine Below.setCell ?_ (by simp) _ | refine Below.drew ?_))
    have b0 : W.cell? ⟨w.heap.size, 0, none⟩ = some (.int .i64 p.x) := by rw [HW.out]; simp [go_sem]
    have b1 : W.cell? ⟨w.heap.size, 1, none⟩ = some (.int .i64 p.y) := by rw [HW.out]; simp [go_sem]
    have b2 : W.cell? ⟨w.heap.size, 2, none⟩ = some (.int .i64 p.z) := by rw [HW.out]; simp [go_sem]
    have bl : w.heap.size < W.heap.size := World.block_lt_of_cell? W _ b0
    go_wp2_with (first | (go_at_call 72; refine (H1.out _ _ bl b2).mono ?_; rintro e W2 ⟨rfl, hb2⟩))
    go_ret
    exact ⟨ret_bool (by simp [beyB]), hB.trans (hb2.mono hB.size)⟩
  · have H1 := Lib.hid fun V s => H.out V s 0 [] SlS.nil (by simp)
    go_enter Tryz.func71, Tryz.ntmps71
    go_upto_region 1 with (fail)
    refine wp_world fun W HW => ?_
    have hB : Below w.heap.size w W := by rw [HW.out]; (repeat (first | exact Below.refl _ _ | refine Below.alloc ?_ (by simp; try omega) _ | refine Below.setCell ?_ (by simp) _ | refine Below.drew ?_))
    have b0 : W.cell? ⟨w.heap.size, 0, none⟩ = some (.int .i64 p.x) := by rw [HW.out]; simp [go_sem]
    have b1 : W.cell? ⟨w.heap.size, 1, none⟩ = some (.int .i64 p.y) := by rw [HW.out]; simp [go_sem]
    have b2 : W.cell? ⟨w.heap.size, 2, none⟩ = some (.int .i64 p.z) := by rw [HW.out]; simp [go_sem]
    have bl : w.heap.size < W.heap.size := World.block_lt_of_cell? W _ b0
    go_wp2_with (first | (go_at_call 72; refine (H1.out _ _).mono ?_; rintro e W2 ⟨rfl, hb2⟩))
    go_ret
    exact ⟨ret_bool (by simp [beyB]), hB.trans (hb2.mono hB.size)⟩
theorem argC_eq {vars : Int} {n : Nat} {a : Ar} (hn : 1 ≤ n ∧ n ≤ 3) : argC vars n a = !(([a.p.x, a.p.y, a.p.z].any fun x => !bw (-3) x 3) || (beyB a.p n || !bw 0 a.v (vars - 1))) := by
  have hcs : n = 1 ∨ n = 2 ∨ n = 3 := by omega
  unfold argC flatB flatC beyB
  rcases hcs with rfl | rfl | rfl
  all_goals
    cases h1 : bw (-3) a.p.x 3 <;> cases h2 : bw (-3) a.p.y 3 <;> cases h3 : bw (-3) a.p.z 3 <;> simp [h1, h2, h3]
  all_goals
    try (cases h4 : bw 0 a.v (vars - 1) <;> by_cases h5 : a.p.y = 0 <;> by_cases h6 : a.p.z = 0 <;> simp [h5, h6])
set_option maxRecDepth 100000 in
set_option maxHeartbeats 2000000 in
theorem validVar1_c (bn bv : Nat) (n : Nat) (vars : Int) (a : Ar) (w : World) (hn : 1 ≤ n ∧ n ≤ 3) (hv : 1 ≤ vars ∧ vars ≤ 1000) (gn0 : w.cell? ⟨bn, 0, none⟩ = some (.int .i64 n)) (gv0 : w.cell? ⟨bv, 0, none⟩ = some (.int .i64 vars)) :
    Calls Tryz.prog 141 #[.agg #[.int .i64 a.v, .int .i64 a.p.x, .int .i64 a.p.y, .int .i64 a.p.z], .pointer (some ⟨bn, 0, none⟩), .pointer (some ⟨bv, 0, none⟩)] w fun e w' => e = .returned (.bool (!argC vars n a)) ∧ Below w.heap.size w w' := by
  rw [argC_eq hn, Bool.not_not]
  have hgn := World.block_lt_of_cell? w _ gn0
  have hgv := World.block_lt_of_cell? w _ gv0
  have w1 : IntKind.i64.wrap (vars - 1) = vars - 1 := i64_small (by omega)
  have H := Lib.hid fun V b (hb : b < V.heap.size) (h1 : V.cell? ⟨b, 1, none⟩ = some (.int .i64 a.p.x)) (h2 : V.cell? ⟨b, 2, none⟩ = some (.int .i64 a.p.y)) (h3 : V.cell? ⟨b, 3, none⟩ = some (.int .i64 a.p.z)) => int_containsf 142 #[] (fun _ _ => rfl) (some ⟨b, 1, none⟩) 3 [a.p.x, a.p.y, a.p.z] (fun x => !bw (-3) x 3) V (sl_ints hb fun j hj => by
      simp only [List.length_cons, List.length_nil] at hj
      have : j = 0 ∨ j = 1 ∨ j = 2 := by omega
      rcases this with rfl | rfl | rfl
      · exact h1
      · exact h2
      · exact h3) (by simp) (fun q _ W _ => valid11_c q W)
  have Hb := fun V => beyond_c a.p n V hn
  have Hv := fun V => recBetween_c 0 a.v (vars - 1) V
  obtain ⟨A, hA⟩ : ∃ x, ([a.p.x, a.p.y, a.p.z].any fun x => !bw (-3) x 3) = x := ⟨_, rfl⟩
  obtain ⟨B, hB0⟩ : ∃ x, beyB a.p n = x := ⟨_, rfl⟩
  obtain ⟨C, hC⟩ : ∃ x, bw 0 a.v (vars - 1) = x := ⟨_, rfl⟩
  have H2 := H.out
  simp only [hA] at H2 ⊢
  rw [hB0] at Hb ⊢
  rw [hC] at Hv ⊢
  replace H2 := Lib.hid H2; replace Hb := Lib.hid Hb; replace Hv := Lib.hid Hv
  clear H hA hB0 hC
  go_enter Tryz.func141, Tryz.ntmps141
  go_upto_region 1 with (fail)
  refine wp_world fun W HW => ?_
  have hB : Below w.heap.size w W := by rw [HW.out]; (repeat (first | exact Below.refl _ _ | refine Below.alloc ?_ (by simp; try omega) _ | refine Below.setCell ?_ (by simp) _ | refine Below.drew ?_))
  have b0 : W.cell? ⟨w.heap.size, 0, none⟩ = some (.int .i64 a.v) := by rw [HW.out]; simp [go_sem]
  have b1 : W.cell? ⟨w.heap.size, 1, none⟩ = some (.int .i64 a.p.x) := by rw [HW.out]; simp [go_sem]
  have b2 : W.cell? ⟨w.heap.size, 2, none⟩ = some (.int .i64 a.p.y) := by rw [HW.out]; simp [go_sem]
  have b3 : W.cell? ⟨w.heap.size, 3, none⟩ = some (.int .i64 a.p.z) := by rw [HW.out]; simp [go_sem]
  have bl : w.heap.size < W.heap.size := World.block_lt_of_cell? W _ b0
  try replace gn0 := up_of hB gn0
  try replace gv0 := up_of hB gv0
  cases A <;> cases B <;> cases C
  all_goals
    go_wp2_with (first | (go_at_call 72; refine (H2.out _ _ bl b1 b2 b3).mono ?_; rintro e W1 ⟨rfl, hb⟩; (try replace gn0 := up_of hb gn0); (try replace gv0 := up_of hb gv0); (try replace hB := up_of hb hB); (try replace b0 := up_of hb b0); (try replace b1 := up_of hb b1); (try replace b2 := up_of hb b2); (try replace b3 := up_of hb b3); (try replace bl := up_of hb bl)) | (go_at_call 71; refine (Hb.out _).mono ?_; rintro e W1 ⟨rfl, hb⟩; (try replace gn0 := up_of hb gn0); (try replace gv0 := up_of hb gv0); (try replace hB := up_of hb hB); (try replace b0 := up_of hb b0); (try replace b1 := up_of hb b1); (try replace b2 := up_of hb b2); (try replace b3 := up_of hb b3); (try replace bl := up_of hb bl)) | (go_at_call 70; refine (Hv.out _).mono ?_; rintro e w' ⟨rfl, rfl⟩))
    go_ret
    exact ⟨rfl, hB⟩
end Go.Proofs.YtakbpjgnjfigcaaGreat

/- Valid variables: the program's validVar. -/
namespace Go.Proofs.YtakbpjgnjfigcaaGreat
open Go.RowKit

theorem one_byte {s : ByteArray} (h : s.size = 1) : ∃ b : UInt8, s = ⟨#[b]⟩ := by
  rcases s with ⟨⟨l⟩⟩
  have h2 : l.length = 1 := h
  match l, h2 with
  | [b], _ => exact ⟨b, rfl⟩
theorem nameB_size {s : ByteArray} (h : ¬ s.size = 1) : nameB s = false := by unfold nameB; rw [decide_eq_false h]; rfl
theorem nameB_one (b : UInt8) : nameB ⟨#[b]⟩ = (decide (97 ≤ b.toNat) && decide (b.toNat ≤ 122)) := rfl
/-- The ways a variable's head can be. -/
theorem var_ways (vars n : Int) (v : Vv) : (needs v.op = 0 ∧ varB vars n v = false) ∨ (needs v.op ≠ 0 ∧ ¬ v.name.size = 1 ∧ varB vars n v = false) ∨ (needs v.op ≠ 0 ∧ ∃ b : UInt8, v.name = ⟨#[b]⟩ ∧ ((b.toNat < 97 ∧ varB vars n v = false) ∨ (97 ≤ b.toNat ∧ 122 < b.toNat ∧ varB vars n v = false) ∨ (97 ≤ b.toNat ∧ b.toNat ≤ 122 ∧ v.args.length ≠ needs v.op ∧ varB vars n v = false) ∨ (97 ≤ b.toNat ∧ b.toNat ≤ 122 ∧ v.args.length = needs v.op ∧ varB vars n v = (initB v n && v.args.all (argC vars n))))) := by
  unfold varB
  by_cases h1 : needs v.op = 0
  · exact .inl ⟨h1, by simp [h1]⟩
  · by_cases h2 : v.name.size = 1
    · obtain ⟨b, hb⟩ := one_byte h2
      refine .inr (.inr ⟨h1, b, hb, ?_⟩)
      rw [hb, nameB_one]
      by_cases h3 : 97 ≤ b.toNat
      · by_cases h4 : b.toNat ≤ 122
        · by_cases h5 : v.args.length = needs v.op
          · exact .inr (.inr (.inr ⟨h3, h4, h5, by simp [h1, h3, h4, h5]⟩))
          · exact .inr (.inr (.inl ⟨h3, h4, h5, by simp [h5]⟩))
        · exact .inr (.inl ⟨h3, by omega, by simp [h4]⟩)
      · exact .inl ⟨by omega, by simp [h3]⟩
    · exact .inr (.inl ⟨h1, h2, by rw [nameB_size h2]; simp⟩)
def initV (v : Vv) (i : Nat) : Int := if i = 0 then v.i0 else if i = 1 then v.i1 else if i = 2 then v.i2 else v.i3
theorem init_no {v : Vv} {n : Int} {i : Nat} (hi : i < 4) (h : initC i (initV v i) n = false) : initB v n = false := by
  have : i = 0 ∨ i = 1 ∨ i = 2 ∨ i = 3 := by omega
  rcases this with rfl | rfl | rfl | rfl
  all_goals
    simp [initV] at h
    simp [initB, h]
theorem init_yes {v : Vv} {n : Int} (h : ∀ i : Nat, i < 4 → initC i (initV v i) n = true) : initB v n = true := by
  have h0 := h 0 (by omega); have h1 := h 1 (by omega); have h2 := h 2 (by omega); have h3 := h 3 (by omega)
  simp [initV] at h0 h1 h2 h3
  simp [initB, h0, h1, h2, h3]
theorem ix4 (a b c d : Value) (w : World) : (Instr.index 64 (.agg #[a, b, c, d]) (.int .i64 0)).run Tryz.prog w = .ok a w ∧ (Instr.index 64 (.agg #[a, b, c, d]) (.int .i64 1)).run Tryz.prog w = .ok b w ∧ (Instr.index 64 (.agg #[a, b, c, d]) (.int .i64 2)).run Tryz.prog w = .ok c w ∧ (Instr.index 64 (.agg #[a, b, c, d]) (.int .i64 3)).run Tryz.prog w = .ok d w := ⟨by kernel_rfl, by kernel_rfl, by kernel_rfl, by kernel_rfl⟩
theorem ixI {name : ByteArray} {op : Int} {args : List Ar} {i0 i1 i2 i3 : Int} {i : Nat} (hi : i < 4) (w : World) : (Instr.index 64 (.agg #[.int .i64 i0, .int .i64 i1, .int .i64 i2, .int .i64 i3]) (.int .i64 (i : Int))).run Tryz.prog w = .ok (.int .i64 (initV ⟨name, op, args, i0, i1, i2, i3⟩ i)) w := by
  have h := ix4 (.int .i64 i0) (.int .i64 i1) (.int .i64 i2) (.int .i64 i3) w
  have : i = 0 ∨ i = 1 ∨ i = 2 ∨ i = 3 := by omega
  rcases this with rfl | rfl | rfl | rfl
  · exact h.1
  · exact h.2.1
  · exact h.2.2.1
  · exact h.2.2.2
set_option maxRecDepth 100000 in
set_option maxHeartbeats 4000000 in
theorem validVar_c (v : Vv) (sa : Option Addr) (ca : Nat) (vars : Nat) (n : Nat) (w : World) (hs : SlS arE w sa v.args) (hl : v.args.length ≤ 9223372036854775807) (hn : 1 ≤ n ∧ n ≤ 3) (hv : 1 ≤ vars ∧ vars ≤ 4) :
    Calls Tryz.prog 115 #[.agg #[.string v.name, .int .i64 v.op, .slice sa v.args.length ca, .int .i64 v.i0, .int .i64 v.i1, .int .i64 v.i2, .int .i64 v.i3], .int .i64 vars, .int .i64 n] w fun e w' => e = .returned (.bool (varB vars n v)) ∧ Below w.heap.size w w' := by
  have hk := fun V => kindOf_c v.op V
  unfold KindRet at hk
  have hw := var_ways vars n v
  obtain ⟨name, op, args, i0, i1, i2, i3⟩ := v
  simp only at hs hl hk hw ⊢
  have hk0 := fun V (h : needs op = 0) => (hk V).mono (R' := fun e w' => (∃ a : ByteArray, e = .returned (.tuple #[.agg #[.string a, .int .i64 (needs op : Nat), .nilFunc], .bool (decide (needs op ≠ 0))])) ∧ Below V.heap.size V w') (fun e w' ⟨⟨a, b, he, hb⟩, hB⟩ => by rw [if_pos h] at hb; subst hb; exact ⟨⟨a, he⟩, hB⟩)
  have hk1 := fun V (h : needs op ≠ 0) => (hk V).mono (R' := fun e w' => (∃ (a : ByteArray) (f : Nat), e = .returned (.tuple #[.agg #[.string a, .int .i64 (needs op : Nat), .func (.func f) #[] #[]], .bool (decide (needs op ≠ 0))])) ∧ Below V.heap.size V w') (fun e w' ⟨⟨a, b, he, hb⟩, hB⟩ => by rw [if_neg h] at hb; subst hb; exact ⟨⟨a, _, he⟩, hB⟩)
  clear hk
  obtain ⟨nd, hnd⟩ : ∃ x, needs op = x := ⟨_, rfl⟩
  obtain ⟨B, hB0⟩ : ∃ x, varB vars n ⟨name, op, args, i0, i1, i2, i3⟩ = x := ⟨_, rfl⟩
  simp only [hnd] at hk0 hk1 hw
  simp only [hB0] at hw ⊢
  obtain ⟨ok, hok⟩ : ∃ x, decide (nd ≠ 0) = x := ⟨_, rfl⟩
  simp only [hok] at hk0 hk1
  have hz0 : nd = 0 → ok = false := fun h => by rw [← hok, h]; rfl
  have hz1 : nd ≠ 0 → ok = true := fun h => by rw [← hok]; exact decide_eq_true h
  clear hnd hB0 hok
  have hwl : ∀ W2 : World, Below w.heap.size w W2 → Below w.heap.size w W2 := fun _ h => h
  rcases hw with ⟨h1, rfl⟩ | ⟨h1, h2, rfl⟩ | ⟨h1, b, rfl, h3⟩
  · obtain rfl := hz0 h1
    have hk := fun V => hk0 V h1
    replace hk := Lib.hid hk
    clear hz0 hz1 h1 hk0 hk1
    go_enter Tryz.func115, Tryz.ntmps115
    go_upto_region 1 with (fail)
    refine wp_world fun W HW => ?_
    have hB : Below w.heap.size w W := by rw [HW.out]; (repeat (first | exact Below.refl _ _ | refine Below.alloc ?_ (by simp; try omega) _ | refine Below.setCell ?_ (by simp) _ | refine Below.drew ?_))
    have vb0 : W.cell? ⟨w.heap.size, 0, none⟩ = some (.string name) := by rw [HW.out]; simp [go_sem]
    have vb1 : W.cell? ⟨w.heap.size, 1, none⟩ = some (.int .i64 op) := by rw [HW.out]; simp [go_sem]
    have vb2 : W.cell? ⟨w.heap.size, 2, none⟩ = some (.slice sa args.length ca) := by rw [HW.out]; simp [go_sem]
    have vb3 : W.cell? ⟨w.heap.size, 3, none⟩ = some (.int .i64 i0) := by rw [HW.out]; simp [go_sem]
    have vb4 : W.cell? ⟨w.heap.size, 4, none⟩ = some (.int .i64 i1) := by rw [HW.out]; simp [go_sem]
    have vb5 : W.cell? ⟨w.heap.size, 5, none⟩ = some (.int .i64 i2) := by rw [HW.out]; simp [go_sem]
    have vb6 : W.cell? ⟨w.heap.size, 6, none⟩ = some (.int .i64 i3) := by rw [HW.out]; simp [go_sem]
    have vbl : w.heap.size < W.heap.size := World.block_lt_of_cell? W _ vb0
    have ub0 : W.cell? ⟨w.heap.size + 1, 0, none⟩ = some (.int .i64 vars) := by rw [HW.out]; simp [go_sem]
    have ubl : w.heap.size + 1 < W.heap.size := World.block_lt_of_cell? W _ ub0
    have nb0 : W.cell? ⟨w.heap.size + 2, 0, none⟩ = some (.int .i64 n) := by rw [HW.out]; simp [go_sem]
    have nbl : w.heap.size + 2 < W.heap.size := World.block_lt_of_cell? W _ nb0
    try replace hs := up_of hB hs
    go_upto_region 2 with (first | (go_at_call 90; refine (hk.out _).mono ?_; rintro e W2 ⟨⟨ka, rfl⟩, hb⟩; (try replace hs := up_of hb hs); (try replace hB := up_of hb hB); (try replace vb0 := up_of hb vb0); (try replace vb1 := up_of hb vb1); (try replace vb2 := up_of hb vb2); (try replace vb3 := up_of hb vb3); (try replace vb4 := up_of hb vb4); (try replace vb5 := up_of hb vb5); (try replace vb6 := up_of hb vb6); (try replace vbl := up_of hb vbl); (try replace ub0 := up_of hb ub0); (try replace ubl := up_of hb ubl); (try replace nb0 := up_of hb nb0); (try replace nbl := up_of hb nbl)) | (refine wpList_store_row rfl 146 _ _ rfl W2.heap.size #[.string ka, .int .i64 nd, .nilFunc] rfl (by kernel_rfl) 146 _ (Row.new W2 _ _) (by kernel_rfl) (by kernel_rfl) (by kernel_rfl) ?_))
    refine wp_world fun W3 HW3 => ?_
    have h3 : Below W2.heap.size W2 W3 := by
      rw [HW3.out]
      exact ((Below.refl _ W2).alloc (Nat.le_refl _) _).trans ⟨rfl, rfl, rfl, by simp [World.setRow], fun k hk => setRow_other _ _ k _ (by omega)⟩
    have kxN : Row (W2.alloc (.cells #[.string ⟨#[]⟩, .int .i64 0, .nilFunc] 146)) W2.heap.size 146 _ := Row.new W2 _ _
    have kxR : Row W3 W2.heap.size 146 #[.string ka, .int .i64 nd, .nilFunc] := by rw [HW3.out]; exact setRow_heap _ _ _ _ _ _ kxN
    have kx1 : W3.cell? ⟨W2.heap.size, 1, none⟩ = some (.int .i64 nd) := kxR.cell rfl
    have kxl := World.block_lt_of_cell? _ _ kx1
    try replace hs := up_of h3 hs
    try replace hB := up_of h3 hB
    try replace vb0 := up_of h3 vb0
    try replace vb1 := up_of h3 vb1
    try replace vb2 := up_of h3 vb2
    try replace vb3 := up_of h3 vb3
    try replace vb4 := up_of h3 vb4
    try replace vb5 := up_of h3 vb5
    try replace vb6 := up_of h3 vb6
    try replace vbl := up_of h3 vbl
    try replace ub0 := up_of h3 ub0
    try replace ubl := up_of h3 ubl
    try replace nb0 := up_of h3 nb0
    try replace nbl := up_of h3 nbl
    clear HW3
    go_wp2
    go_ret
    exact ⟨rfl, hB⟩
  · obtain rfl := hz1 h1
    have hk := fun V => hk1 V h1
    have h4 : ((name.size : Int) != 1) = true := by rw [bne_iff_ne]; omega
    replace hk := Lib.hid hk
    clear hz0 hz1 h1 hk0 hk1
    go_enter Tryz.func115, Tryz.ntmps115
    go_upto_region 1 with (fail)
    refine wp_world fun W HW => ?_
    have hB : Below w.heap.size w W := by rw [HW.out]; (repeat (first | exact Below.refl _ _ | refine Below.alloc ?_ (by simp; try omega) _ | refine Below.setCell ?_ (by simp) _ | refine Below.drew ?_))
    have vb0 : W.cell? ⟨w.heap.size, 0, none⟩ = some (.string name) := by rw [HW.out]; simp [go_sem]
    have vb1 : W.cell? ⟨w.heap.size, 1, none⟩ = some (.int .i64 op) := by rw [HW.out]; simp [go_sem]
    have vb2 : W.cell? ⟨w.heap.size, 2, none⟩ = some (.slice sa args.length ca) := by rw [HW.out]; simp [go_sem]
    have vb3 : W.cell? ⟨w.heap.size, 3, none⟩ = some (.int .i64 i0) := by rw [HW.out]; simp [go_sem]
    have vb4 : W.cell? ⟨w.heap.size, 4, none⟩ = some (.int .i64 i1) := by rw [HW.out]; simp [go_sem]
    have vb5 : W.cell? ⟨w.heap.size, 5, none⟩ = some (.int .i64 i2) := by rw [HW.out]; simp [go_sem]
    have vb6 : W.cell? ⟨w.heap.size, 6, none⟩ = some (.int .i64 i3) := by rw [HW.out]; simp [go_sem]
    have vbl : w.heap.size < W.heap.size := World.block_lt_of_cell? W _ vb0
    have ub0 : W.cell? ⟨w.heap.size + 1, 0, none⟩ = some (.int .i64 vars) := by rw [HW.out]; simp [go_sem]
    have ubl : w.heap.size + 1 < W.heap.size := World.block_lt_of_cell? W _ ub0
    have nb0 : W.cell? ⟨w.heap.size + 2, 0, none⟩ = some (.int .i64 n) := by rw [HW.out]; simp [go_sem]
    have nbl : w.heap.size + 2 < W.heap.size := World.block_lt_of_cell? W _ nb0
    try replace hs := up_of hB hs
    go_upto_region 2 with (first | (go_at_call 90; refine (hk.out _).mono ?_; rintro e W2 ⟨⟨ka, kf, rfl⟩, hb⟩; (try replace hs := up_of hb hs); (try replace hB := up_of hb hB); (try replace vb0 := up_of hb vb0); (try replace vb1 := up_of hb vb1); (try replace vb2 := up_of hb vb2); (try replace vb3 := up_of hb vb3); (try replace vb4 := up_of hb vb4); (try replace vb5 := up_of hb vb5); (try replace vb6 := up_of hb vb6); (try replace vbl := up_of hb vbl); (try replace ub0 := up_of hb ub0); (try replace ubl := up_of hb ubl); (try replace nb0 := up_of hb nb0); (try replace nbl := up_of hb nbl)) | (refine wpList_store_row rfl 146 _ _ rfl W2.heap.size #[.string ka, .int .i64 nd, .func (.func kf) #[] #[]] rfl (by kernel_rfl) 146 _ (Row.new W2 _ _) (by kernel_rfl) (by kernel_rfl) (by kernel_rfl) ?_))
    refine wp_world fun W3 HW3 => ?_
    have h3 : Below W2.heap.size W2 W3 := by
      rw [HW3.out]
      exact ((Below.refl _ W2).alloc (Nat.le_refl _) _).trans ⟨rfl, rfl, rfl, by simp [World.setRow], fun k hk => setRow_other _ _ k _ (by omega)⟩
    have kxN : Row (W2.alloc (.cells #[.string ⟨#[]⟩, .int .i64 0, .nilFunc] 146)) W2.heap.size 146 _ := Row.new W2 _ _
    have kxR : Row W3 W2.heap.size 146 #[.string ka, .int .i64 nd, .func (.func kf) #[] #[]] := by rw [HW3.out]; exact setRow_heap _ _ _ _ _ _ kxN
    have kx1 : W3.cell? ⟨W2.heap.size, 1, none⟩ = some (.int .i64 nd) := kxR.cell rfl
    have kxl := World.block_lt_of_cell? _ _ kx1
    try replace hs := up_of h3 hs
    try replace hB := up_of h3 hB
    try replace vb0 := up_of h3 vb0
    try replace vb1 := up_of h3 vb1
    try replace vb2 := up_of h3 vb2
    try replace vb3 := up_of h3 vb3
    try replace vb4 := up_of h3 vb4
    try replace vb5 := up_of h3 vb5
    try replace vb6 := up_of h3 vb6
    try replace vbl := up_of h3 vbl
    try replace ub0 := up_of h3 ub0
    try replace ubl := up_of h3 ubl
    try replace nb0 := up_of h3 nb0
    try replace nbl := up_of h3 nbl
    clear HW3
    go_wp2
    go_ret
    exact ⟨rfl, hB⟩
  obtain rfl := hz1 h1
  have h8 : b.toNat < 256 := b.toNat_lt
  have hk := fun V => hk1 V h1
  clear hz0 hz1 h1 hk0 hk1
  rcases h3 with ⟨h4, rfl⟩ | ⟨h4, h5, rfl⟩ | ⟨h4, h5, h6, rfl⟩ | ⟨h4, h5, h6, h7⟩
  · replace hk := Lib.hid hk
    have k1 : ((((⟨#[b]⟩ : ByteArray)[0]'Nat.zero_lt_one).toNat : Nat) : Int) < 97 := by show (b.toNat : Int) < 97; omega
    go_enter Tryz.func115, Tryz.ntmps115
    go_upto_region 1 with (fail)
    refine wp_world fun W HW => ?_
    have hB : Below w.heap.size w W := by rw [HW.out]; (repeat (first | exact Below.refl _ _ | refine Below.alloc ?_ (by simp; try omega) _ | refine Below.setCell ?_ (by simp) _ | refine Below.drew ?_))
    have vb0 : W.cell? ⟨w.heap.size, 0, none⟩ = some (.string ⟨#[b]⟩) := by rw [HW.out]; simp [go_sem]
    have vb1 : W.cell? ⟨w.heap.size, 1, none⟩ = some (.int .i64 op) := by rw [HW.out]; simp [go_sem]
    have vb2 : W.cell? ⟨w.heap.size, 2, none⟩ = some (.slice sa args.length ca) := by rw [HW.out]; simp [go_sem]
    have vb3 : W.cell? ⟨w.heap.size, 3, none⟩ = some (.int .i64 i0) := by rw [HW.out]; simp [go_sem]
    have vb4 : W.cell? ⟨w.heap.size, 4, none⟩ = some (.int .i64 i1) := by rw [HW.out]; simp [go_sem]
    have vb5 : W.cell? ⟨w.heap.size, 5, none⟩ = some (.int .i64 i2) := by rw [HW.out]; simp [go_sem]
    have vb6 : W.cell? ⟨w.heap.size, 6, none⟩ = some (.int .i64 i3) := by rw [HW.out]; simp [go_sem]
    have vbl : w.heap.size < W.heap.size := World.block_lt_of_cell? W _ vb0
    have ub0 : W.cell? ⟨w.heap.size + 1, 0, none⟩ = some (.int .i64 vars) := by rw [HW.out]; simp [go_sem]
    have ubl : w.heap.size + 1 < W.heap.size := World.block_lt_of_cell? W _ ub0
    have nb0 : W.cell? ⟨w.heap.size + 2, 0, none⟩ = some (.int .i64 n) := by rw [HW.out]; simp [go_sem]
    have nbl : w.heap.size + 2 < W.heap.size := World.block_lt_of_cell? W _ nb0
    try replace hs := up_of hB hs
    go_upto_region 2 with (first | (go_at_call 90; refine (hk.out _).mono ?_; rintro e W2 ⟨⟨ka, kf, rfl⟩, hb⟩; (try replace hs := up_of hb hs); (try replace hB := up_of hb hB); (try replace vb0 := up_of hb vb0); (try replace vb1 := up_of hb vb1); (try replace vb2 := up_of hb vb2); (try replace vb3 := up_of hb vb3); (try replace vb4 := up_of hb vb4); (try replace vb5 := up_of hb vb5); (try replace vb6 := up_of hb vb6); (try replace vbl := up_of hb vbl); (try replace ub0 := up_of hb ub0); (try replace ubl := up_of hb ubl); (try replace nb0 := up_of hb nb0); (try replace nbl := up_of hb nbl)) | (refine wpList_store_row rfl 146 _ _ rfl W2.heap.size #[.string ka, .int .i64 nd, .func (.func kf) #[] #[]] rfl (by kernel_rfl) 146 _ (Row.new W2 _ _) (by kernel_rfl) (by kernel_rfl) (by kernel_rfl) ?_))
    refine wp_world fun W3 HW3 => ?_
    have h3 : Below W2.heap.size W2 W3 := by
      rw [HW3.out]
      exact ((Below.refl _ W2).alloc (Nat.le_refl _) _).trans ⟨rfl, rfl, rfl, by simp [World.setRow], fun k hk => setRow_other _ _ k _ (by omega)⟩
    have kxN : Row (W2.alloc (.cells #[.string ⟨#[]⟩, .int .i64 0, .nilFunc] 146)) W2.heap.size 146 _ := Row.new W2 _ _
    have kxR : Row W3 W2.heap.size 146 #[.string ka, .int .i64 nd, .func (.func kf) #[] #[]] := by rw [HW3.out]; exact setRow_heap _ _ _ _ _ _ kxN
    have kx1 : W3.cell? ⟨W2.heap.size, 1, none⟩ = some (.int .i64 nd) := kxR.cell rfl
    have kxl := World.block_lt_of_cell? _ _ kx1
    try replace hs := up_of h3 hs
    try replace hB := up_of h3 hB
    try replace vb0 := up_of h3 vb0
    try replace vb1 := up_of h3 vb1
    try replace vb2 := up_of h3 vb2
    try replace vb3 := up_of h3 vb3
    try replace vb4 := up_of h3 vb4
    try replace vb5 := up_of h3 vb5
    try replace vb6 := up_of h3 vb6
    try replace vbl := up_of h3 vbl
    try replace ub0 := up_of h3 ub0
    try replace ubl := up_of h3 ubl
    try replace nb0 := up_of h3 nb0
    try replace nbl := up_of h3 nbl
    clear HW3
    go_wp2
    go_ret
    exact ⟨rfl, hB⟩
  · replace hk := Lib.hid hk
    have k1 : ¬ ((((⟨#[b]⟩ : ByteArray)[0]'Nat.zero_lt_one).toNat : Nat) : Int) < 97 := by show ¬ (b.toNat : Int) < 97; omega
    have k2 : (122 : Int) < ((((⟨#[b]⟩ : ByteArray)[0]'Nat.zero_lt_one).toNat : Nat) : Int) := by show (122 : Int) < (b.toNat : Int); omega
    go_enter Tryz.func115, Tryz.ntmps115
    go_upto_region 1 with (fail)
    refine wp_world fun W HW => ?_
    have hB : Below w.heap.size w W := by rw [HW.out]; (repeat (first | exact Below.refl _ _ | refine Below.alloc ?_ (by simp; try omega) _ | refine Below.setCell ?_ (by simp) _ | refine Below.drew ?_))
    have vb0 : W.cell? ⟨w.heap.size, 0, none⟩ = some (.string ⟨#[b]⟩) := by rw [HW.out]; simp [go_sem]
    have vb1 : W.cell? ⟨w.heap.size, 1, none⟩ = some (.int .i64 op) := by rw [HW.out]; simp [go_sem]
    have vb2 : W.cell? ⟨w.heap.size, 2, none⟩ = some (.slice sa args.length ca) := by rw [HW.out]; simp [go_sem]
    have vb3 : W.cell? ⟨w.heap.size, 3, none⟩ = some (.int .i64 i0) := by rw [HW.out]; simp [go_sem]
    have vb4 : W.cell? ⟨w.heap.size, 4, none⟩ = some (.int .i64 i1) := by rw [HW.out]; simp [go_sem]
    have vb5 : W.cell? ⟨w.heap.size, 5, none⟩ = some (.int .i64 i2) := by rw [HW.out]; simp [go_sem]
    have vb6 : W.cell? ⟨w.heap.size, 6, none⟩ = some (.int .i64 i3) := by rw [HW.out]; simp [go_sem]
    have vbl : w.heap.size < W.heap.size := World.block_lt_of_cell? W _ vb0
    have ub0 : W.cell? ⟨w.heap.size + 1, 0, none⟩ = some (.int .i64 vars) := by rw [HW.out]; simp [go_sem]
    have ubl : w.heap.size + 1 < W.heap.size := World.block_lt_of_cell? W _ ub0
    have nb0 : W.cell? ⟨w.heap.size + 2, 0, none⟩ = some (.int .i64 n) := by rw [HW.out]; simp [go_sem]
    have nbl : w.heap.size + 2 < W.heap.size := World.block_lt_of_cell? W _ nb0
    try replace hs := up_of hB hs
    go_upto_region 2 with (first | (go_at_call 90; refine (hk.out _).mono ?_; rintro e W2 ⟨⟨ka, kf, rfl⟩, hb⟩; (try replace hs := up_of hb hs); (try replace hB := up_of hb hB); (try replace vb0 := up_of hb vb0); (try replace vb1 := up_of hb vb1); (try replace vb2 := up_of hb vb2); (try replace vb3 := up_of hb vb3); (try replace vb4 := up_of hb vb4); (try replace vb5 := up_of hb vb5); (try replace vb6 := up_of hb vb6); (try replace vbl := up_of hb vbl); (try replace ub0 := up_of hb ub0); (try replace ubl := up_of hb ubl); (try replace nb0 := up_of hb nb0); (try replace nbl := up_of hb nbl)) | (refine wpList_store_row rfl 146 _ _ rfl W2.heap.size #[.string ka, .int .i64 nd, .func (.func kf) #[] #[]] rfl (by kernel_rfl) 146 _ (Row.new W2 _ _) (by kernel_rfl) (by kernel_rfl) (by kernel_rfl) ?_))
    refine wp_world fun W3 HW3 => ?_
    have h3 : Below W2.heap.size W2 W3 := by
      rw [HW3.out]
      exact ((Below.refl _ W2).alloc (Nat.le_refl _) _).trans ⟨rfl, rfl, rfl, by simp [World.setRow], fun k hk => setRow_other _ _ k _ (by omega)⟩
    have kxN : Row (W2.alloc (.cells #[.string ⟨#[]⟩, .int .i64 0, .nilFunc] 146)) W2.heap.size 146 _ := Row.new W2 _ _
    have kxR : Row W3 W2.heap.size 146 #[.string ka, .int .i64 nd, .func (.func kf) #[] #[]] := by rw [HW3.out]; exact setRow_heap _ _ _ _ _ _ kxN
    have kx1 : W3.cell? ⟨W2.heap.size, 1, none⟩ = some (.int .i64 nd) := kxR.cell rfl
    have kxl := World.block_lt_of_cell? _ _ kx1
    try replace hs := up_of h3 hs
    try replace hB := up_of h3 hB
    try replace vb0 := up_of h3 vb0
    try replace vb1 := up_of h3 vb1
    try replace vb2 := up_of h3 vb2
    try replace vb3 := up_of h3 vb3
    try replace vb4 := up_of h3 vb4
    try replace vb5 := up_of h3 vb5
    try replace vb6 := up_of h3 vb6
    try replace vbl := up_of h3 vbl
    try replace ub0 := up_of h3 ub0
    try replace ubl := up_of h3 ubl
    try replace nb0 := up_of h3 nb0
    try replace nbl := up_of h3 nbl
    clear HW3
    go_wp2
    go_ret
    exact ⟨rfl, hB⟩
  · replace hk := Lib.hid hk
    have k1 : ¬ ((((⟨#[b]⟩ : ByteArray)[0]'Nat.zero_lt_one).toNat : Nat) : Int) < 97 := by show ¬ (b.toNat : Int) < 97; omega
    have k2 : ¬ (122 : Int) < ((((⟨#[b]⟩ : ByteArray)[0]'Nat.zero_lt_one).toNat : Nat) : Int) := by show ¬ (122 : Int) < (b.toNat : Int); omega
    have k3 : ((args.length : Int) != (nd : Int)) = true := by rw [bne_iff_ne]; omega
    clear h6
    go_enter Tryz.func115, Tryz.ntmps115
    go_upto_region 1 with (fail)
    refine wp_world fun W HW => ?_
    have hB : Below w.heap.size w W := by rw [HW.out]; (repeat (first | exact Below.refl _ _ | refine Below.alloc ?_ (by simp; try omega) _ | refine Below.setCell ?_ (by simp) _ | refine Below.drew ?_))
    have vb0 : W.cell? ⟨w.heap.size, 0, none⟩ = some (.string ⟨#[b]⟩) := by rw [HW.out]; simp [go_sem]
    have vb1 : W.cell? ⟨w.heap.size, 1, none⟩ = some (.int .i64 op) := by rw [HW.out]; simp [go_sem]
    have vb2 : W.cell? ⟨w.heap.size, 2, none⟩ = some (.slice sa args.length ca) := by rw [HW.out]; simp [go_sem]
    have vb3 : W.cell? ⟨w.heap.size, 3, none⟩ = some (.int .i64 i0) := by rw [HW.out]; simp [go_sem]
    have vb4 : W.cell? ⟨w.heap.size, 4, none⟩ = some (.int .i64 i1) := by rw [HW.out]; simp [go_sem]
    have vb5 : W.cell? ⟨w.heap.size, 5, none⟩ = some (.int .i64 i2) := by rw [HW.out]; simp [go_sem]
    have vb6 : W.cell? ⟨w.heap.size, 6, none⟩ = some (.int .i64 i3) := by rw [HW.out]; simp [go_sem]
    have vbl : w.heap.size < W.heap.size := World.block_lt_of_cell? W _ vb0
    have ub0 : W.cell? ⟨w.heap.size + 1, 0, none⟩ = some (.int .i64 vars) := by rw [HW.out]; simp [go_sem]
    have ubl : w.heap.size + 1 < W.heap.size := World.block_lt_of_cell? W _ ub0
    have nb0 : W.cell? ⟨w.heap.size + 2, 0, none⟩ = some (.int .i64 n) := by rw [HW.out]; simp [go_sem]
    have nbl : w.heap.size + 2 < W.heap.size := World.block_lt_of_cell? W _ nb0
    try replace hs := up_of hB hs
    go_upto_region 2 with (first | (go_at_call 90; refine (hk.out _).mono ?_; rintro e W2 ⟨⟨ka, kf, rfl⟩, hb⟩; (try replace hs := up_of hb hs); (try replace hB := up_of hb hB); (try replace vb0 := up_of hb vb0); (try replace vb1 := up_of hb vb1); (try replace vb2 := up_of hb vb2); (try replace vb3 := up_of hb vb3); (try replace vb4 := up_of hb vb4); (try replace vb5 := up_of hb vb5); (try replace vb6 := up_of hb vb6); (try replace vbl := up_of hb vbl); (try replace ub0 := up_of hb ub0); (try replace ubl := up_of hb ubl); (try replace nb0 := up_of hb nb0); (try replace nbl := up_of hb nbl)) | (refine wpList_store_row rfl 146 _ _ rfl W2.heap.size #[.string ka, .int .i64 nd, .func (.func kf) #[] #[]] rfl (by kernel_rfl) 146 _ (Row.new W2 _ _) (by kernel_rfl) (by kernel_rfl) (by kernel_rfl) ?_))
    refine wp_world fun W3 HW3 => ?_
    have h3 : Below W2.heap.size W2 W3 := by
      rw [HW3.out]
      exact ((Below.refl _ W2).alloc (Nat.le_refl _) _).trans ⟨rfl, rfl, rfl, by simp [World.setRow], fun k hk => setRow_other _ _ k _ (by omega)⟩
    have kxN : Row (W2.alloc (.cells #[.string ⟨#[]⟩, .int .i64 0, .nilFunc] 146)) W2.heap.size 146 _ := Row.new W2 _ _
    have kxR : Row W3 W2.heap.size 146 #[.string ka, .int .i64 nd, .func (.func kf) #[] #[]] := by rw [HW3.out]; exact setRow_heap _ _ _ _ _ _ kxN
    have kx1 : W3.cell? ⟨W2.heap.size, 1, none⟩ = some (.int .i64 nd) := kxR.cell rfl
    have kxl := World.block_lt_of_cell? _ _ kx1
    try replace hs := up_of h3 hs
    try replace hB := up_of h3 hB
    try replace vb0 := up_of h3 vb0
    try replace vb1 := up_of h3 vb1
    try replace vb2 := up_of h3 vb2
    try replace vb3 := up_of h3 vb3
    try replace vb4 := up_of h3 vb4
    try replace vb5 := up_of h3 vb5
    try replace vb6 := up_of h3 vb6
    try replace vbl := up_of h3 vbl
    try replace ub0 := up_of h3 ub0
    try replace ubl := up_of h3 ubl
    try replace nb0 := up_of h3 nb0
    try replace nbl := up_of h3 nbl
    clear HW3
    go_wp2
    go_ret
    exact ⟨rfl, hB⟩
  · have k1 : ¬ ((((⟨#[b]⟩ : ByteArray)[0]'Nat.zero_lt_one).toNat : Nat) : Int) < 97 := by show ¬ (b.toNat : Int) < 97; omega
    have k2 : ¬ (122 : Int) < ((((⟨#[b]⟩ : ByteArray)[0]'Nat.zero_lt_one).toNat : Nat) : Int) := by show ¬ (122 : Int) < (b.toNat : Int); omega
    have k3 : ((args.length : Int) != (nd : Int)) = false := by rw [h6]; simp
    have hno := fun (i : Nat) (hi : i < 4) hh => init_no (v := ⟨⟨#[b]⟩, op, args, i0, i1, i2, i3⟩) (n := n) hi hh
    have hyes := fun hh => init_yes (v := ⟨⟨#[b]⟩, op, args, i0, i1, i2, i3⟩) (n := n) hh
    obtain ⟨IB, hIB⟩ : ∃ x, initB ⟨⟨#[b]⟩, op, args, i0, i1, i2, i3⟩ n = x := ⟨_, rfl⟩
    obtain ⟨AB, hAB⟩ : ∃ x, args.all (argC vars n) = x := ⟨_, rfl⟩
    rw [hIB, hAB] at h7
    simp only [hIB] at hno hyes
    have hiv : ∀ i : Nat, initV ⟨⟨#[b]⟩, op, args, i0, i1, i2, i3⟩ i = if i = 0 then i0 else if i = 1 then i1 else if i = 2 then i2 else i3 := fun i => rfl
    subst h7
    have hcont := fun V bn bv (gn : V.cell? ⟨bn, 0, none⟩ = some (.int .i64 n)) (gv : V.cell? ⟨bv, 0, none⟩ = some (.int .i64 vars)) (hs : SlS arE V sa args) => arg_containsf 141 #[.pointer (some ⟨bn, 0, none⟩), .pointer (some ⟨bv, 0, none⟩)] (fun _ _ => by simp [go_sem]) sa ca args (fun a => !argC vars n a) V hs hl (fun q _ W hW => validVar1_c bn bv n vars q W hn (by omega) (Up.cell hW gn) (Up.cell hW gv))
    have han : (args.any fun a => !argC vars n a) = !AB := by rw [← hAB, ← any_not]; simp
    simp only [han] at hcont
    replace hk := Lib.hid hk; replace hno := Lib.hid hno; replace hyes := Lib.hid hyes; replace hIB := Lib.hid hIB; replace hAB := Lib.hid hAB; replace hcont := Lib.hid hcont; replace h6 := Lib.hid h6; replace hiv := Lib.hid hiv
    clear han
    go_enter Tryz.func115, Tryz.ntmps115
    go_upto_region 1 with (fail)
    refine wp_world fun W HW => ?_
    have hB : Below w.heap.size w W := by rw [HW.out]; (repeat (first | exact Below.refl _ _ | refine Below.alloc ?_ (by simp; try omega) _ | refine Below.setCell ?_ (by simp) _ | refine Below.drew ?_))
    have vb0 : W.cell? ⟨w.heap.size, 0, none⟩ = some (.string ⟨#[b]⟩) := by rw [HW.out]; simp [go_sem]
    have vb1 : W.cell? ⟨w.heap.size, 1, none⟩ = some (.int .i64 op) := by rw [HW.out]; simp [go_sem]
    have vb2 : W.cell? ⟨w.heap.size, 2, none⟩ = some (.slice sa args.length ca) := by rw [HW.out]; simp [go_sem]
    have vb3 : W.cell? ⟨w.heap.size, 3, none⟩ = some (.int .i64 i0) := by rw [HW.out]; simp [go_sem]
    have vb4 : W.cell? ⟨w.heap.size, 4, none⟩ = some (.int .i64 i1) := by rw [HW.out]; simp [go_sem]
    have vb5 : W.cell? ⟨w.heap.size, 5, none⟩ = some (.int .i64 i2) := by rw [HW.out]; simp [go_sem]
    have vb6 : W.cell? ⟨w.heap.size, 6, none⟩ = some (.int .i64 i3) := by rw [HW.out]; simp [go_sem]
    have vbl : w.heap.size < W.heap.size := World.block_lt_of_cell? W _ vb0
    have ub0 : W.cell? ⟨w.heap.size + 1, 0, none⟩ = some (.int .i64 vars) := by rw [HW.out]; simp [go_sem]
    have ubl : w.heap.size + 1 < W.heap.size := World.block_lt_of_cell? W _ ub0
    have nb0 : W.cell? ⟨w.heap.size + 2, 0, none⟩ = some (.int .i64 n) := by rw [HW.out]; simp [go_sem]
    have nbl : w.heap.size + 2 < W.heap.size := World.block_lt_of_cell? W _ nb0
    try replace hs := up_of hB hs
    go_upto_region 2 with (first | (go_at_call 90; refine (hk.out _).mono ?_; rintro e W2 ⟨⟨ka, kf, rfl⟩, hb⟩; (try replace hs := up_of hb hs); (try replace hB := up_of hb hB); (try replace vb0 := up_of hb vb0); (try replace vb1 := up_of hb vb1); (try replace vb2 := up_of hb vb2); (try replace vb3 := up_of hb vb3); (try replace vb4 := up_of hb vb4); (try replace vb5 := up_of hb vb5); (try replace vb6 := up_of hb vb6); (try replace vbl := up_of hb vbl); (try replace ub0 := up_of hb ub0); (try replace ubl := up_of hb ubl); (try replace nb0 := up_of hb nb0); (try replace nbl := up_of hb nbl)) | (refine wpList_store_row rfl 146 _ _ rfl W2.heap.size #[.string ka, .int .i64 nd, .func (.func kf) #[] #[]] rfl (by kernel_rfl) 146 _ (Row.new W2 _ _) (by kernel_rfl) (by kernel_rfl) (by kernel_rfl) ?_))
    refine wp_world fun W3 HW3 => ?_
    have h3 : Below W2.heap.size W2 W3 := by
      rw [HW3.out]
      exact ((Below.refl _ W2).alloc (Nat.le_refl _) _).trans ⟨rfl, rfl, rfl, by simp [World.setRow], fun k hk => setRow_other _ _ k _ (by omega)⟩
    have kxN : Row (W2.alloc (.cells #[.string ⟨#[]⟩, .int .i64 0, .nilFunc] 146)) W2.heap.size 146 _ := Row.new W2 _ _
    have kxR : Row W3 W2.heap.size 146 #[.string ka, .int .i64 nd, .func (.func kf) #[] #[]] := by rw [HW3.out]; exact setRow_heap _ _ _ _ _ _ kxN
    have kx1 : W3.cell? ⟨W2.heap.size, 1, none⟩ = some (.int .i64 nd) := kxR.cell rfl
    have kxl := World.block_lt_of_cell? _ _ kx1
    try replace hs := up_of h3 hs
    try replace hB := up_of h3 hB
    try replace vb0 := up_of h3 vb0
    try replace vb1 := up_of h3 vb1
    try replace vb2 := up_of h3 vb2
    try replace vb3 := up_of h3 vb3
    try replace vb4 := up_of h3 vb4
    try replace vb5 := up_of h3 vb5
    try replace vb6 := up_of h3 vb6
    try replace vbl := up_of h3 vbl
    try replace ub0 := up_of h3 ub0
    try replace ubl := up_of h3 ubl
    try replace nb0 := up_of h3 nb0
    try replace nbl := up_of h3 nbl
    clear HW3
    have hix := fun (i : Nat) (hi : i < 4) => ixI (name := ⟨#[b]⟩) (op := op) (args := args) (i0 := i0) (i1 := i1) (i2 := i2) (i3 := i3) hi W3
    replace hix := Lib.hid hix
    clear hb h3 hwl hiv
    go_wp2
    clear kxN kxR kx1 kxl
    go_loop [47] (fun ii => ∃ i : Nat, i ≤ 4 ∧ ii = .int .i64 i ∧ Hid (∀ j, j < i → initC j (initV ⟨⟨#[b]⟩, op, args, i0, i1, i2, i3⟩ j) n = true)) (fun ii => 4 - (intOf ii).toNat)
    case atStart => exact ⟨0, by omega, rfl, fun j h => absurd h (by omega)⟩
    case round =>
      obtain ⟨i, hi, rfl, hall⟩ := hrel
      by_cases hlt : i < 4
      · have gix := hix.out i hlt
        have hbad := hno.out i hlt
        have hgood : initC i (initV ⟨⟨#[b]⟩, op, args, i0, i1, i2, i3⟩ i) n = true → ∀ j, j < i + 1 → initC j (initV ⟨⟨#[b]⟩, op, args, i0, i1, i2, i3⟩ j) n = true := fun h j hj => by
          by_cases hj2 : j < i
          · exact hall.out j hj2
          · obtain rfl : j = i := by omega
            exact h
        obtain ⟨x, hx⟩ : ∃ x, initV ⟨⟨#[b]⟩, op, args, i0, i1, i2, i3⟩ i = x := ⟨_, rfl⟩
        rw [hx] at gix hbad hgood
        clear hx
        unfold initC at hbad hgood
        have i1 : (i : Int) < 4 := by omega
        have hbt := fun V => recBetween_c 0 x 10006 V
        cases hb2 : bw 0 x 10006
        · rw [hb2] at hbt hbad
          obtain rfl := hbad rfl
          replace hbt := Lib.hid hbt
          clear hgood hall hb2
          go_wp2_with (first | (go_at_call 70; refine (hbt.out _).mono ?_; rintro e w' ⟨rfl, rfl⟩))
          go_ret
          exact ⟨rfl, hB⟩
        rw [hb2] at hbt hbad hgood
        replace hbt := Lib.hid hbt
        by_cases hin : (i : Int) ≤ (n : Int)
        · have hok := hgood (by rw [decide_eq_true hin]; rfl)
          have i2 : ¬ (n : Int) < (i : Int) := by omega
          replace hok := Lib.hid hok
          clear hbad hgood hall hb2 hin
          go_wp2_with (first | (go_at_call 70; refine (hbt.out _).mono ?_; rintro e w' ⟨rfl, rfl⟩))
          go_round
          case rel => exact ⟨i + 1, by omega, by go_num, hok⟩
          case measure => exact meas hlt
        · have i2 : (n : Int) < (i : Int) := by omega
          by_cases hx0 : x = 0
          · have hok := hgood (by rw [decide_eq_true hx0]; simp)
            have hz : (x != 0) = false := by rw [hx0]; rfl
            replace hok := Lib.hid hok
            clear hbad hgood hall hb2 hin hx0
            go_wp2_with (first | (go_at_call 70; refine (hbt.out _).mono ?_; rintro e w' ⟨rfl, rfl⟩))
            go_round
            case rel => exact ⟨i + 1, by omega, by go_num, hok⟩
            case measure => exact meas hlt
          · obtain rfl := hbad (by rw [decide_eq_false hx0, decide_eq_false hin]; rfl)
            have hz : (x != 0) = true := bne_iff_ne.2 hx0
            clear hgood hall hb2 hin hx0
            go_wp2_with (first | (go_at_call 70; refine (hbt.out _).mono ?_; rintro e w' ⟨rfl, rfl⟩))
            go_ret
            exact ⟨rfl, hB⟩
      · obtain rfl : i = 4 := by omega
        obtain rfl := hyes.out hall.out
        clear hall
        go_wp2_with (first | (go_at_call 140; refine (hcont.out _ _ _ nb0 ub0 hs).mono ?_; rintro e W1 ⟨rfl, hb⟩; (try replace hs := up_of hb hs); (try replace hB := up_of hb hB); (try replace vb0 := up_of hb vb0); (try replace vb1 := up_of hb vb1); (try replace vb2 := up_of hb vb2); (try replace vb3 := up_of hb vb3); (try replace vb4 := up_of hb vb4); (try replace vb5 := up_of hb vb5); (try replace vb6 := up_of hb vb6); (try replace vbl := up_of hb vbl); (try replace ub0 := up_of hb ub0); (try replace ubl := up_of hb ubl); (try replace nb0 := up_of hb nb0); (try replace nbl := up_of hb nbl)))
        go_ret
        exact ⟨ret_bool (by simp), hB⟩
end Go.Proofs.YtakbpjgnjfigcaaGreat

/- Valid recurrences: the program's Valid. -/
namespace Go.Proofs.YtakbpjgnjfigcaaGreat
open Go.RowKit Go.Maps

theorem upto_succ {p : Nat → Prop} {k : Nat} (h : ∀ j, j < k → p j) (hk : p k) : ∀ j, j < k + 1 → p j := fun j hj => by
  rcases Nat.lt_succ_iff_lt_or_eq.1 hj with h' | rfl
  · exact h j h'
  · exact hk
instance {W W' : World} {H : Type} {P : Program} {k : TypeId} {R : Value → Option (DataW H × List MemPlace)} {b n : Nat} {D : DataW H} : UpF W W' (W.ownsMap P k R b n D) (W'.ownsMap P k R b n D) :=
  ⟨fun h c => c.kept (grownBy_of_below h) (by simp)⟩
instance {W W' : World} {s : Option Addr} {l : List Iq} : UpF W W' (Dom W s l) (Dom W' s l) := ⟨fun h c => Up.dom h c⟩
theorem zero_bool (w : World) : (zeroValue 4).run Tryz.prog w = .ok (.bool false) w := by kernel_rfl
theorem key_str : Keyed Tryz.prog 9 := string_keyed Tryz.underlying9

/-- The ways a recurrence's head can be. -/
theorem rec_ways (n : Int) (l : List Iq) (K : List Vv) : (validB n l = false ∧ recB n l K = false) ∨
    (validB n l = true ∧ 1000 < cntN n l ∧ recB n l K = false) ∨
    (validB n l = true ∧ cntN n l ≤ 1000 ∧ bw 1 K.length 4 = false ∧ recB n l K = false) ∨
    (validB n l = true ∧ cntN n l ≤ 1000 ∧ bw 1 K.length 4 = true ∧ recB n l K = recS n K) := by
  rw [recB_eq]
  unfold cntN
  cases hv : validB n l
  · exact .inl ⟨rfl, rfl⟩
  · rw [if_pos rfl]
    by_cases hp : (pts n l).length ≤ 1000
    · rw [decide_eq_true hp]
      cases hb : bw 1 K.length 4
      · exact .inr (.inr (.inl ⟨rfl, by omega, rfl, rfl⟩))
      · exact .inr (.inr (.inr ⟨rfl, by omega, rfl, by simp⟩))
    · rw [decide_eq_false hp]
      exact .inr (.inl ⟨rfl, by omega, rfl⟩)
theorem valid_n {n : Int} {l : List Iq} (h : validB n l = true) : 1 ≤ n ∧ n ≤ 3 := by
  simp only [validB, Bool.and_eq_true] at h
  have := h
  first | exact bw_iff.1 h.1 | exact bw_iff.1 h.1.1 | (simp [bw] at h; omega)

set_option maxRecDepth 100000 in
set_option maxHeartbeats 2000000 in
theorem recValid_c (n : Int) (s : Option Addr) (cap : Nat) (l : List Iq) (s2 : Option Addr) (cq : Nat) (K : List Vv) (w : World) (hd : Dom w s l) (hk : VarsM w s2 K) (hkl : K.length ≤ 9223372036854775807) :
    Calls Tryz.prog 69 #[.agg #[.int .i64 n, .slice s l.length cap, .slice s2 K.length cq]] w fun e w' => e = .returned (.bool (recB n l K)) ∧ Below w.heap.size w w' := by
  have hct := fun V (h : Dom V s l) => Count_t n s cap l V h
  have hbt := fun V => recBetween_c 1 K.length 4 V
  have hw := rec_ways n l K
  have hve : vE n l = if validB n l then 0 else 10 := rfl
  have hn := valid_n (n := n) (l := l)
  obtain ⟨B, hB0⟩ : ∃ x, recB n l K = x := ⟨_, rfl⟩
  obtain ⟨m, hm⟩ : ∃ x, cntN n l = x := ⟨_, rfl⟩
  obtain ⟨ve, hv0⟩ : ∃ x, vE n l = x := ⟨_, rfl⟩
  rw [hv0] at hve
  simp only [hB0, hm] at hw ⊢
  simp only [hm, hv0] at hct
  clear hB0 hm hv0
  replace hct := Lib.hid hct
  have hmm := @run_makeMap Tryz.prog
  rcases hw with ⟨h1, rfl⟩ | ⟨h1, h2, rfl⟩ | ⟨h1, h2, h3, rfl⟩ | ⟨h1, h2, h3, rfl⟩
  · rw [h1, if_neg (by simp)] at hve
    subst hve
    clear hbt hn h1
    go_enter Tryz.func69, Tryz.ntmps69
    go_upto_region 1 with (fail)
    refine wp_world fun W HW => ?_
    have hB : Below w.heap.size w W := by rw [HW.out]; (repeat (first | exact Below.refl _ _ | refine Below.alloc ?_ (by simp; try omega) _ | refine Below.setCell ?_ (by simp) _ | refine Below.drew ?_))
    have d0 : W.cell? ⟨w.heap.size, 0, none⟩ = some (.int .i64 n) := by rw [HW.out]; simp [go_sem]
    have d1 : W.cell? ⟨w.heap.size, 1, none⟩ = some (.slice s l.length cap) := by rw [HW.out]; simp [go_sem]
    have d2 : W.cell? ⟨w.heap.size, 2, none⟩ = some (.slice s2 K.length cq) := by rw [HW.out]; simp [go_sem]
    have dl : w.heap.size < W.heap.size := World.block_lt_of_cell? W _ d0
    try replace hd := up_of hB hd
    try replace hk := up_of hB hk
    go_wp2_with (first | (go_at_call 17; refine (hct.out _ hd).mono ?_; rintro e W1 ⟨rfl, hb⟩; (try replace hd := up_of hb hd); (try replace hk := up_of hb hk); (try replace hB := up_of hb hB); (try replace d0 := up_of hb d0); (try replace d1 := up_of hb d1); (try replace d2 := up_of hb d2); (try replace dl := up_of hb dl)))
    go_ret
    exact ⟨rfl, hB⟩
  · rw [h1, if_pos rfl] at hve
    subst hve
    clear hbt hn h1
    go_enter Tryz.func69, Tryz.ntmps69
    go_upto_region 1 with (fail)
    refine wp_world fun W HW => ?_
    have hB : Below w.heap.size w W := by rw [HW.out]; (repeat (first | exact Below.refl _ _ | refine Below.alloc ?_ (by simp; try omega) _ | refine Below.setCell ?_ (by simp) _ | refine Below.drew ?_))
    have d0 : W.cell? ⟨w.heap.size, 0, none⟩ = some (.int .i64 n) := by rw [HW.out]; simp [go_sem]
    have d1 : W.cell? ⟨w.heap.size, 1, none⟩ = some (.slice s l.length cap) := by rw [HW.out]; simp [go_sem]
    have d2 : W.cell? ⟨w.heap.size, 2, none⟩ = some (.slice s2 K.length cq) := by rw [HW.out]; simp [go_sem]
    have dl : w.heap.size < W.heap.size := World.block_lt_of_cell? W _ d0
    try replace hd := up_of hB hd
    try replace hk := up_of hB hk
    go_wp2_with (first | (go_at_call 17; refine (hct.out _ hd).mono ?_; rintro e W1 ⟨rfl, hb⟩; (try replace hd := up_of hb hd); (try replace hk := up_of hb hk); (try replace hB := up_of hb hB); (try replace d0 := up_of hb d0); (try replace d1 := up_of hb d1); (try replace d2 := up_of hb d2); (try replace dl := up_of hb dl)))
    go_ret
    exact ⟨rfl, hB⟩
  · rw [h1, if_pos rfl] at hve
    subst hve
    rw [h3] at hbt
    replace hbt := Lib.hid hbt
    clear hn h1 h3
    have h4 : ¬ (1000 : Int) < m := by omega
    go_enter Tryz.func69, Tryz.ntmps69
    go_upto_region 1 with (fail)
    refine wp_world fun W HW => ?_
    have hB : Below w.heap.size w W := by rw [HW.out]; (repeat (first | exact Below.refl _ _ | refine Below.alloc ?_ (by simp; try omega) _ | refine Below.setCell ?_ (by simp) _ | refine Below.drew ?_))
    have d0 : W.cell? ⟨w.heap.size, 0, none⟩ = some (.int .i64 n) := by rw [HW.out]; simp [go_sem]
    have d1 : W.cell? ⟨w.heap.size, 1, none⟩ = some (.slice s l.length cap) := by rw [HW.out]; simp [go_sem]
    have d2 : W.cell? ⟨w.heap.size, 2, none⟩ = some (.slice s2 K.length cq) := by rw [HW.out]; simp [go_sem]
    have dl : w.heap.size < W.heap.size := World.block_lt_of_cell? W _ d0
    try replace hd := up_of hB hd
    try replace hk := up_of hB hk
    go_wp2_with (first | (go_at_call 17; refine (hct.out _ hd).mono ?_; rintro e W1 ⟨rfl, hb⟩; (try replace hd := up_of hb hd); (try replace hk := up_of hb hk); (try replace hB := up_of hb hB); (try replace d0 := up_of hb d0); (try replace d1 := up_of hb d1); (try replace d2 := up_of hb d2); (try replace dl := up_of hb dl)) | (go_at_call 70; refine (hbt.out _).mono ?_; rintro e w' ⟨rfl, rfl⟩))
    go_ret
    exact ⟨rfl, hB⟩
  rw [h1, if_pos rfl] at hve
  subst hve
  rw [h3] at hbt
  replace hbt := Lib.hid hbt
  have h4 : ¬ (1000 : Int) < m := by omega
  have hk4 := bw_iff.1 h3
  have hn3 := hn h1
  obtain ⟨nn, rfl⟩ : ∃ k : Nat, n = k := ⟨n.toNat, by omega⟩
  clear hn h1 h3
  have hbad := fun (j : Nat) (h : j < K.length) => recS_false (n := nn) (K := K) (j := j) h
  have hgood := recS_true (n := nn) (K := K)
  obtain ⟨B, hB0⟩ : ∃ x, recS nn K = x := ⟨_, rfl⟩
  simp only [hB0] at hbad hgood ⊢
  clear hB0
  replace hbad := Lib.hid hbad; replace hgood := Lib.hid hgood; replace hk4 := Lib.hid hk4; replace hn3 := Lib.hid hn3
  have hk0 := Lib.hid hk
  go_enter Tryz.func69, Tryz.ntmps69
  go_upto_region 1 with (fail)
  refine wp_world fun W HW => ?_
  have hB : Below w.heap.size w W := by rw [HW.out]; (repeat (first | exact Below.refl _ _ | refine Below.alloc ?_ (by simp; try omega) _ | refine Below.setCell ?_ (by simp) _ | refine Below.drew ?_))
  have d0 : W.cell? ⟨w.heap.size, 0, none⟩ = some (.int .i64 nn) := by rw [HW.out]; simp [go_sem]
  have d1 : W.cell? ⟨w.heap.size, 1, none⟩ = some (.slice s l.length cap) := by rw [HW.out]; simp [go_sem]
  have d2 : W.cell? ⟨w.heap.size, 2, none⟩ = some (.slice s2 K.length cq) := by rw [HW.out]; simp [go_sem]
  have dl : w.heap.size < W.heap.size := World.block_lt_of_cell? W _ d0
  try replace hd := up_of hB hd
  try replace hk := up_of hB hk
  go_upto_region 4 with (first | (go_at_call 17; refine (hct.out _ hd).mono ?_; rintro e W2 ⟨rfl, hb⟩; (try replace hd := up_of hb hd); (try replace hk := up_of hb hk); (try replace hB := up_of hb hB); (try replace d0 := up_of hb d0); (try replace d1 := up_of hb d1); (try replace d2 := up_of hb d2); (try replace dl := up_of hb dl)) | (go_at_call 70; refine (hbt.out _).mono ?_; rintro e w' ⟨rfl, rfl⟩))
  go_wp2
  go_loopw [31] (fun i V => ∃ k : Nat, k ≤ K.length ∧ i = .int .i64 k ∧ V.ownsMap Tryz.prog 9 (plainElem Tryz.prog 4) W2.heap.size k (seenN K k) ∧ Below W2.heap.size W2 V ∧ Hid (∀ j, j < k → badV nn K j = false)) (fun i _ => K.length - (intOf i).toNat)
  case atStart => exact ⟨0, by omega, rfl, World.ownsMap_made _ _ _ _, (Below.refl _ W2).alloc (Nat.le_refl _) _, fun j h => absurd h (by omega)⟩
  case round =>
    obtain ⟨k, hkk, rfl, hown, hBV, hall⟩ := hrel
    try replace hd := up_of hBV hd
    try replace hk := up_of hBV hk
    try replace hB := up_of hBV hB
    try replace d0 := up_of hBV d0
    try replace d1 := up_of hBV d1
    try replace d2 := up_of hBV d2
    try replace dl := up_of hBV dl
    by_cases hlt : k < K.length
    · obtain ⟨b, off, sa, ca, rfl, hb, q0, q1, q2, q3, q4, q5, q6, hsa, hal, -, -⟩ := hk.at hlt
      have hbk := badV_at (n := nn) hlt
      have hput := seenN_put hlt
      have hS := seenN_at (K := K) K[k].name hkk
      have hF := hbad.out k hlt
      obtain ⟨v, hv⟩ : ∃ v, K[k] = v := ⟨_, rfl⟩
      rw [hv] at q0 q1 q2 q3 q4 q5 q6 hsa hal hbk hput hS
      have hvv := fun V h => validVar_c v sa ca K.length nn V h hal (by have := hn3.out; omega) (by have := hk4.out; omega)
      have hnm : varB K.length nn v = true → v.name.size = 1 := fun h => by
        by_cases h1 : v.name.size = 1
        · exact h1
        · unfold varB at h; rw [nameB_size h1] at h; simp at h
      replace hput := Lib.hid hput; replace hv := Lib.hid hv
      have g1 : (0 : Int) ≤ (k : Int) := by omega
      have g2 : (k : Int) < (K.length : Int) := by omega
      go_upto_region 8 with (fail)
      refine wp_world fun Y HY => ?_
      have hY : Below wr.heap.size wr Y := by rw [HY.out]; (repeat (first | exact Below.refl _ _ | refine Below.alloc ?_ (by simp; try omega) _ | refine Below.setCell ?_ (by simp) _ | refine Below.drew ?_))
      have c0 : Y.cell? ⟨wr.heap.size, 0, none⟩ = some (.string v.name) := by rw [HY.out]; simp [go_sem]
      have c1 : Y.cell? ⟨wr.heap.size, 1, none⟩ = some (.int .i64 v.op) := by rw [HY.out]; simp [go_sem]
      have c2 : Y.cell? ⟨wr.heap.size, 2, none⟩ = some (.slice sa v.args.length ca) := by rw [HY.out]; simp [go_sem]
      have c3 : Y.cell? ⟨wr.heap.size, 3, none⟩ = some (.int .i64 v.i0) := by rw [HY.out]; simp [go_sem]
      have c4 : Y.cell? ⟨wr.heap.size, 4, none⟩ = some (.int .i64 v.i1) := by rw [HY.out]; simp [go_sem]
      have c5 : Y.cell? ⟨wr.heap.size, 5, none⟩ = some (.int .i64 v.i2) := by rw [HY.out]; simp [go_sem]
      have c6 : Y.cell? ⟨wr.heap.size, 6, none⟩ = some (.int .i64 v.i3) := by rw [HY.out]; simp [go_sem]
      have cl : wr.heap.size < Y.heap.size := World.block_lt_of_cell? Y _ c0
      try replace hd := up_of hY hd
      try replace hk := up_of hY hk
      try replace hB := up_of hY hB
      try replace d0 := up_of hY d0
      try replace d1 := up_of hY d1
      try replace d2 := up_of hY d2
      try replace dl := up_of hY dl
      try replace hown := up_of hY hown
      try replace hBV := up_of hY hBV
      try replace hsa := up_of hY hsa
      cases hvb : varB K.length nn v
      · rw [hvb] at hvv hbk
        obtain rfl := hF (by rw [hbk]; rfl)
        replace hvv := Lib.hid hvv
        clear hbk hnm hS hF hall hvb
        go_wp2_with (first | (go_at_call 115; refine (hvv.out _ hsa).mono ?_; rintro e W1 ⟨rfl, hb⟩; (try replace hd := up_of hb hd); (try replace hk := up_of hb hk); (try replace hB := up_of hb hB); (try replace d0 := up_of hb d0); (try replace d1 := up_of hb d1); (try replace d2 := up_of hb d2); (try replace dl := up_of hb dl); (try replace hown := up_of hb hown); (try replace hBV := up_of hb hBV); (try replace hsa := up_of hb hsa); (try replace hY := up_of hb hY); (try replace c0 := up_of hb c0); (try replace c1 := up_of hb c1); (try replace c2 := up_of hb c2); (try replace c3 := up_of hb c3); (try replace c4 := up_of hb c4); (try replace c5 := up_of hb c5); (try replace c6 := up_of hb c6); (try replace cl := up_of hb cl)))
        go_ret
        exact ⟨rfl, hB⟩
      have hkey : keyOf Tryz.prog 9 (.string v.name) = some (.string v.name.data.toList) := WideMaps.keyOf_string_mk (P := Tryz.prog) Tryz.underlying9 (by rw [hnm hvb]; unfold maxLen; omega)
      have hlk := fun (V : World) (h : V.ownsMap Tryz.prog 9 (plainElem Tryz.prog 4) W2.heap.size k (seenN K k)) => lookup_bool h key_str Tryz.underlying169 Tryz.underlying4 (zero_bool _) hkey
      rw [hvb] at hvv hbk
      rw [hS] at hlk
      obtain ⟨x, hx⟩ : ∃ x, hasN K k v.name = x := ⟨_, rfl⟩
      rw [hx] at hlk hbk
      have hlk2 : ∀ V : World, V.ownsMap Tryz.prog 9 (plainElem Tryz.prog 4) W2.heap.size k (seenN K k) → (Instr.lookup 169 (.map (some W2.heap.size)) (.string v.name) false).run Tryz.prog V = .ok (.bool x) V := fun V h => by
        obtain ⟨c, hr, e⟩ := hlk V h
        injection e with e; injection e with e; subst e; exact hr
      clear hlk hS hx
      replace hvv := Lib.hid hvv; replace hlk2 := Lib.hid hlk2
      cases x
      · have hok := Lib.hid (upto_succ hall.out hbk)
        clear hbk hnm hF hall hvb
        go_wp2_with (first | (go_at_call 115; refine (hvv.out _ hsa).mono ?_; rintro e W5 ⟨rfl, hb⟩; (try replace hd := up_of hb hd); (try replace hk := up_of hb hk); (try replace hB := up_of hb hB); (try replace d0 := up_of hb d0); (try replace d1 := up_of hb d1); (try replace d2 := up_of hb d2); (try replace dl := up_of hb dl); (try replace hown := up_of hb hown); (try replace hBV := up_of hb hBV); (try replace hsa := up_of hb hsa); (try replace hY := up_of hb hY); (try replace c0 := up_of hb c0); (try replace c1 := up_of hb c1); (try replace c2 := up_of hb c2); (try replace c3 := up_of hb c3); (try replace c4 := up_of hb c4); (try replace c5 := up_of hb c5); (try replace c6 := up_of hb c6); (try replace cl := up_of hb cl); have hrun := hlk2.out _ hown) | (at_mapUpdate; refine wpList_mapUpdate_own _ rfl _ _ _ 169 rfl 9 4 key_str Tryz.underlying169 _ W2.heap.size k (seenN K k) rfl hown (by have := hk4.out; unfold maxLen; omega) _ _ _ rfl rfl hkey (.lit (.bool true)) [] (plainElem_bool Tryz.underlying4 true) ?_; intro w1 hown1 hgrow1))
        go_roundw
        case rel => exact ⟨k + 1, by omega, rfl, by rw [hput.out]; exact hown1, hBV.grown hgrow1 (by have := hBV.size; omega) (fun j e => by cases e; omega), hok⟩
        case measure => exact meas hlt
      · obtain rfl := hF (by rw [hbk]; rfl)
        clear hbk hnm hF hall hvb
        go_wp2_with (first | (go_at_call 115; refine (hvv.out _ hsa).mono ?_; rintro e W5 ⟨rfl, hb⟩; (try replace hd := up_of hb hd); (try replace hk := up_of hb hk); (try replace hB := up_of hb hB); (try replace d0 := up_of hb d0); (try replace d1 := up_of hb d1); (try replace d2 := up_of hb d2); (try replace dl := up_of hb dl); (try replace hown := up_of hb hown); (try replace hBV := up_of hb hBV); (try replace hsa := up_of hb hsa); (try replace hY := up_of hb hY); (try replace c0 := up_of hb c0); (try replace c1 := up_of hb c1); (try replace c2 := up_of hb c2); (try replace c3 := up_of hb c3); (try replace c4 := up_of hb c4); (try replace c5 := up_of hb c5); (try replace c6 := up_of hb c6); (try replace cl := up_of hb cl); have hrun := hlk2.out _ hown))
        go_ret
        exact ⟨rfl, hB⟩
    · obtain rfl : k = K.length := by omega
      obtain rfl := hgood.out hall.out
      clear hall
      go_wp2
      go_ret
      exact ⟨rfl, hB⟩
end Go.Proofs.YtakbpjgnjfigcaaGreat

/- Valid variables: the reference's isVar. -/
namespace Go.Proofs.YtakbpjgnjfigcaaGreat
open Go.RowKit Go.Maps

set_option maxRecDepth 100000 in
set_option maxHeartbeats 2000000 in
theorem arity_c (op : Int) (w : World) : Calls Tryz.prog 134 #[.int .i64 op] w fun e w' => e = .returned (.int .i64 (needs op : Nat)) ∧ w = w' := by
  by_cases h : op = 1 ∨ op = 2 ∨ op = 3 ∨ op = 4 ∨ op = 5 ∨ op = 6 ∨ op = 7
  · rcases h with rfl | rfl | rfl | rfl | rfl | rfl | rfl
    all_goals
      go_enter Tryz.func134, Tryz.ntmps134
      go_wp2
      go_ret
      exact ⟨rfl, rfl⟩
  · have hn : needs op = 0 := needs_out (by omega)
    rw [hn]
    clear hn
    have h1 : (op == 1) = false := by simp; omega
    have h2 : (op == 2) = false := by simp; omega
    have h3 : (op == 3) = false := by simp; omega
    have h4 : (op == 4) = false := by simp; omega
    have h5 : (op == 5) = false := by simp; omega
    have h6 : (op == 6) = false := by simp; omega
    have h7 : (op == 7) = false := by simp; omega
    go_enter Tryz.func134, Tryz.ntmps134
    go_wp2
    go_ret
    exact ⟨rfl, rfl⟩
/-- The ways a variable's head can be, in the reference's order. -/
theorem var_ways2 (vars n : Int) (v : Vv) : (¬ v.name.size = 1 ∧ varB vars n v = false) ∨ (∃ b : UInt8, v.name = ⟨#[b]⟩ ∧ ((b.toNat < 97 ∧ varB vars n v = false) ∨ (97 ≤ b.toNat ∧ 122 < b.toNat ∧ varB vars n v = false) ∨ (97 ≤ b.toNat ∧ b.toNat ≤ 122 ∧ needs v.op = 0 ∧ varB vars n v = false) ∨ (97 ≤ b.toNat ∧ b.toNat ≤ 122 ∧ needs v.op ≠ 0 ∧ v.args.length ≠ needs v.op ∧ varB vars n v = false) ∨ (97 ≤ b.toNat ∧ b.toNat ≤ 122 ∧ needs v.op ≠ 0 ∧ v.args.length = needs v.op ∧ varB vars n v = (initB v n && v.args.all (argC vars n))))) := by
  by_cases h2 : v.name.size = 1
  · obtain ⟨b, hb⟩ := one_byte h2
    refine .inr ⟨b, hb, ?_⟩
    unfold varB
    rw [hb, nameB_one]
    by_cases h3 : 97 ≤ b.toNat
    · by_cases h4 : b.toNat ≤ 122
      · by_cases h1 : needs v.op = 0
        · exact .inr (.inr (.inl ⟨h3, h4, h1, by simp [h1]⟩))
        · by_cases h5 : v.args.length = needs v.op
          · exact .inr (.inr (.inr (.inr ⟨h3, h4, h1, h5, by simp [h1, h3, h4, h5]⟩)))
          · exact .inr (.inr (.inr (.inl ⟨h3, h4, h1, h5, by simp [h5]⟩)))
      · exact .inr (.inl ⟨h3, by omega, by simp [h4]⟩)
    · exact .inl ⟨by omega, by simp [h3]⟩
  · exact .inl ⟨h2, by unfold varB; rw [nameB_size h2]; simp⟩
theorem all_no {f : Ar → Bool} {l : List Ar} {j : Nat} (h : j < l.length) (hf : f l[j] = false) : l.all f = false := by
  cases hh : l.all f
  · rfl
  · rw [List.all_eq_true] at hh; rw [hh _ (List.getElem_mem h)] at hf; cases hf
theorem all_yes {f : Ar → Bool} {l : List Ar} (h : ∀ j (hj : j < l.length), f l[j] = true) : l.all f = true := by
  rw [List.all_eq_true]; intro x hx; obtain ⟨i, hi, rfl⟩ := List.getElem_of_mem hx; exact h i hi
set_option maxRecDepth 100000 in
set_option maxHeartbeats 4000000 in
theorem isVar_c (v : Vv) (sa : Option Addr) (ca : Nat) (vars : Nat) (n : Nat) (w : World) (hs : SlS arE w sa v.args) (hl : v.args.length ≤ 9223372036854775807) (_hn : 1 ≤ n ∧ n ≤ 3) (_hv : 1 ≤ vars ∧ vars ≤ 4) :
    Calls Tryz.prog 101 #[.agg #[.string v.name, .int .i64 v.op, .slice sa v.args.length ca, .int .i64 v.i0, .int .i64 v.i1, .int .i64 v.i2, .int .i64 v.i3], .int .i64 vars, .int .i64 n] w fun e w' => e = .returned (.bool (varB vars n v)) ∧ Below w.heap.size w w' := by
  have har := fun V => arity_c v.op V
  have hw := var_ways2 vars n v
  obtain ⟨name, op, args, i0, i1, i2, i3⟩ := v
  simp only at hs hl har hw ⊢
  obtain ⟨nd, hnd⟩ : ∃ x, needs op = x := ⟨_, rfl⟩
  obtain ⟨B, hB0⟩ : ∃ x, varB vars n ⟨name, op, args, i0, i1, i2, i3⟩ = x := ⟨_, rfl⟩
  simp only [hnd] at har hw
  simp only [hB0] at hw ⊢
  clear hnd hB0
  replace har := Lib.hid har
  rcases hw with ⟨h2, rfl⟩ | ⟨b, rfl, h3⟩
  · have h4 : ((name.size : Int) != 1) = true := by rw [bne_iff_ne]; omega
    clear h2
    go_enter Tryz.func101, Tryz.ntmps101
    go_upto_region 1 with (fail)
    refine wp_world fun W HW => ?_
    have hB : Below w.heap.size w W := by rw [HW.out]; (repeat (first | exact Below.refl _ _ | refine Below.alloc ?_ (by simp; try omega) _ | refine Below.setCell ?_ (by simp) _ | refine Below.drew ?_))
    have vb0 : W.cell? ⟨w.heap.size, 0, none⟩ = some (.string name) := by rw [HW.out]; simp [go_sem]
    have vb1 : W.cell? ⟨w.heap.size, 1, none⟩ = some (.int .i64 op) := by rw [HW.out]; simp [go_sem]
    have vb2 : W.cell? ⟨w.heap.size, 2, none⟩ = some (.slice sa args.length ca) := by rw [HW.out]; simp [go_sem]
    have vb3 : W.cell? ⟨w.heap.size, 3, none⟩ = some (.int .i64 i0) := by rw [HW.out]; simp [go_sem]
    have vb4 : W.cell? ⟨w.heap.size, 4, none⟩ = some (.int .i64 i1) := by rw [HW.out]; simp [go_sem]
    have vb5 : W.cell? ⟨w.heap.size, 5, none⟩ = some (.int .i64 i2) := by rw [HW.out]; simp [go_sem]
    have vb6 : W.cell? ⟨w.heap.size, 6, none⟩ = some (.int .i64 i3) := by rw [HW.out]; simp [go_sem]
    have vbl : w.heap.size < W.heap.size := World.block_lt_of_cell? W _ vb0
    try replace hs := up_of hB hs
    try have ld_vb0 := World.block_lt_of_cell? _ _ vb0
    refine region_q (by kernel_rfl) (by kernel_rfl) ?_
    dsimp only [List.toList_toArray]
    repeat (first
     | go_big_quiet_skip
     | (go_big_quiet_want
        first
        | (refine qq_det ?_
           apply Exists.intro; refine ⟨fun W' hW' => ?_, ?_⟩
           (· have hk := cellB hW'; go_simp; try (first | rfl | rw [if_pos (by omega)]))
           simp only [Act.put, List.setIfInBounds_toArray, List.set_cons_zero, List.set_cons_succ]; go_big_quiet_on)
        | (refine qq_call ?_
           apply Exists.intro; apply Exists.intro; refine ⟨fun W' hW' => ?_, ?_⟩
           (· have hk := cellB hW'; go_simp; exact ⟨rfl, rfl⟩)
           apply Exists.intro; refine ⟨fun W' hW' => ?_, ?_⟩
           (· first | (go_at_call 134; exact qs hW' (har.out _)))
           simp only [Act.put, List.setIfInBounds_toArray, List.set_cons_zero, List.set_cons_succ]; go_big_quiet_on)))
    refine wpQuiet_nil ?_
    intro W1 hb
    try replace hs := up_of hb hs
    try replace hB := up_of hb hB
    try replace vb0 := up_of hb vb0
    try replace vb1 := up_of hb vb1
    try replace vb2 := up_of hb vb2
    try replace vb3 := up_of hb vb3
    try replace vb4 := up_of hb vb4
    try replace vb5 := up_of hb vb5
    try replace vb6 := up_of hb vb6
    try replace vbl := up_of hb vbl
    go_wp2
    go_ret
    exact ⟨rfl, hB⟩
  have h8 : b.toNat < 256 := b.toNat_lt
  rcases h3 with ⟨h4, rfl⟩ | ⟨h4, h5, rfl⟩ | ⟨h4, h5, h1, rfl⟩ | ⟨h4, h5, h1, h6, rfl⟩ | ⟨h4, h5, h1, h6, h7⟩
  · have k1 : ((((⟨#[b]⟩ : ByteArray)[0]'Nat.zero_lt_one).toNat : Nat) : Int) < 97 := by show (b.toNat : Int) < 97; omega
    go_enter Tryz.func101, Tryz.ntmps101
    go_upto_region 1 with (fail)
    refine wp_world fun W HW => ?_
    have hB : Below w.heap.size w W := by rw [HW.out]; (repeat (first | exact Below.refl _ _ | refine Below.alloc ?_ (by simp; try omega) _ | refine Below.setCell ?_ (by simp) _ | refine Below.drew ?_))
    have vb0 : W.cell? ⟨w.heap.size, 0, none⟩ = some (.string ⟨#[b]⟩) := by rw [HW.out]; simp [go_sem]
    have vb1 : W.cell? ⟨w.heap.size, 1, none⟩ = some (.int .i64 op) := by rw [HW.out]; simp [go_sem]
    have vb2 : W.cell? ⟨w.heap.size, 2, none⟩ = some (.slice sa args.length ca) := by rw [HW.out]; simp [go_sem]
    have vb3 : W.cell? ⟨w.heap.size, 3, none⟩ = some (.int .i64 i0) := by rw [HW.out]; simp [go_sem]
    have vb4 : W.cell? ⟨w.heap.size, 4, none⟩ = some (.int .i64 i1) := by rw [HW.out]; simp [go_sem]
    have vb5 : W.cell? ⟨w.heap.size, 5, none⟩ = some (.int .i64 i2) := by rw [HW.out]; simp [go_sem]
    have vb6 : W.cell? ⟨w.heap.size, 6, none⟩ = some (.int .i64 i3) := by rw [HW.out]; simp [go_sem]
    have vbl : w.heap.size < W.heap.size := World.block_lt_of_cell? W _ vb0
    try replace hs := up_of hB hs
    try have ld_vb0 := World.block_lt_of_cell? _ _ vb0
    refine region_q (by kernel_rfl) (by kernel_rfl) ?_
    dsimp only [List.toList_toArray]
    repeat (first
     | go_big_quiet_skip
     | (go_big_quiet_want
        first
        | (refine qq_det ?_
           apply Exists.intro; refine ⟨fun W' hW' => ?_, ?_⟩
           (· have hk := cellB hW'; go_simp; try (first | rfl | rw [if_pos (by omega)]))
           simp only [Act.put, List.setIfInBounds_toArray, List.set_cons_zero, List.set_cons_succ]; go_big_quiet_on)
        | (refine qq_call ?_
           apply Exists.intro; apply Exists.intro; refine ⟨fun W' hW' => ?_, ?_⟩
           (· have hk := cellB hW'; go_simp; exact ⟨rfl, rfl⟩)
           apply Exists.intro; refine ⟨fun W' hW' => ?_, ?_⟩
           (· first | (go_at_call 134; exact qs hW' (har.out _)))
           simp only [Act.put, List.setIfInBounds_toArray, List.set_cons_zero, List.set_cons_succ]; go_big_quiet_on)))
    refine wpQuiet_nil ?_
    intro W1 hb
    try replace hs := up_of hb hs
    try replace hB := up_of hb hB
    try replace vb0 := up_of hb vb0
    try replace vb1 := up_of hb vb1
    try replace vb2 := up_of hb vb2
    try replace vb3 := up_of hb vb3
    try replace vb4 := up_of hb vb4
    try replace vb5 := up_of hb vb5
    try replace vb6 := up_of hb vb6
    try replace vbl := up_of hb vbl
    go_wp2
    go_ret
    exact ⟨rfl, hB⟩
  · have k1 : ¬ ((((⟨#[b]⟩ : ByteArray)[0]'Nat.zero_lt_one).toNat : Nat) : Int) < 97 := by show ¬ (b.toNat : Int) < 97; omega
    have k2 : (122 : Int) < ((((⟨#[b]⟩ : ByteArray)[0]'Nat.zero_lt_one).toNat : Nat) : Int) := by show (122 : Int) < (b.toNat : Int); omega
    go_enter Tryz.func101, Tryz.ntmps101
    go_upto_region 1 with (fail)
    refine wp_world fun W HW => ?_
    have hB : Below w.heap.size w W := by rw [HW.out]; (repeat (first | exact Below.refl _ _ | refine Below.alloc ?_ (by simp; try omega) _ | refine Below.setCell ?_ (by simp) _ | refine Below.drew ?_))
    have vb0 : W.cell? ⟨w.heap.size, 0, none⟩ = some (.string ⟨#[b]⟩) := by rw [HW.out]; simp [go_sem]
    have vb1 : W.cell? ⟨w.heap.size, 1, none⟩ = some (.int .i64 op) := by rw [HW.out]; simp [go_sem]
    have vb2 : W.cell? ⟨w.heap.size, 2, none⟩ = some (.slice sa args.length ca) := by rw [HW.out]; simp [go_sem]
    have vb3 : W.cell? ⟨w.heap.size, 3, none⟩ = some (.int .i64 i0) := by rw [HW.out]; simp [go_sem]
    have vb4 : W.cell? ⟨w.heap.size, 4, none⟩ = some (.int .i64 i1) := by rw [HW.out]; simp [go_sem]
    have vb5 : W.cell? ⟨w.heap.size, 5, none⟩ = some (.int .i64 i2) := by rw [HW.out]; simp [go_sem]
    have vb6 : W.cell? ⟨w.heap.size, 6, none⟩ = some (.int .i64 i3) := by rw [HW.out]; simp [go_sem]
    have vbl : w.heap.size < W.heap.size := World.block_lt_of_cell? W _ vb0
    try replace hs := up_of hB hs
    try have ld_vb0 := World.block_lt_of_cell? _ _ vb0
    refine region_q (by kernel_rfl) (by kernel_rfl) ?_
    dsimp only [List.toList_toArray]
    repeat (first
     | go_big_quiet_skip
     | (go_big_quiet_want
        first
        | (refine qq_det ?_
           apply Exists.intro; refine ⟨fun W' hW' => ?_, ?_⟩
           (· have hk := cellB hW'; go_simp; try (first | rfl | rw [if_pos (by omega)]))
           simp only [Act.put, List.setIfInBounds_toArray, List.set_cons_zero, List.set_cons_succ]; go_big_quiet_on)
        | (refine qq_call ?_
           apply Exists.intro; apply Exists.intro; refine ⟨fun W' hW' => ?_, ?_⟩
           (· have hk := cellB hW'; go_simp; exact ⟨rfl, rfl⟩)
           apply Exists.intro; refine ⟨fun W' hW' => ?_, ?_⟩
           (· first | (go_at_call 134; exact qs hW' (har.out _)))
           simp only [Act.put, List.setIfInBounds_toArray, List.set_cons_zero, List.set_cons_succ]; go_big_quiet_on)))
    refine wpQuiet_nil ?_
    intro W1 hb
    try replace hs := up_of hb hs
    try replace hB := up_of hb hB
    try replace vb0 := up_of hb vb0
    try replace vb1 := up_of hb vb1
    try replace vb2 := up_of hb vb2
    try replace vb3 := up_of hb vb3
    try replace vb4 := up_of hb vb4
    try replace vb5 := up_of hb vb5
    try replace vb6 := up_of hb vb6
    try replace vbl := up_of hb vbl
    go_wp2
    go_ret
    exact ⟨rfl, hB⟩
  · have k1 : ¬ ((((⟨#[b]⟩ : ByteArray)[0]'Nat.zero_lt_one).toNat : Nat) : Int) < 97 := by show ¬ (b.toNat : Int) < 97; omega
    have k2 : ¬ (122 : Int) < ((((⟨#[b]⟩ : ByteArray)[0]'Nat.zero_lt_one).toNat : Nat) : Int) := by show ¬ (122 : Int) < (b.toNat : Int); omega
    subst h1
    go_enter Tryz.func101, Tryz.ntmps101
    go_upto_region 1 with (fail)
    refine wp_world fun W HW => ?_
    have hB : Below w.heap.size w W := by rw [HW.out]; (repeat (first | exact Below.refl _ _ | refine Below.alloc ?_ (by simp; try omega) _ | refine Below.setCell ?_ (by simp) _ | refine Below.drew ?_))
    have vb0 : W.cell? ⟨w.heap.size, 0, none⟩ = some (.string ⟨#[b]⟩) := by rw [HW.out]; simp [go_sem]
    have vb1 : W.cell? ⟨w.heap.size, 1, none⟩ = some (.int .i64 op) := by rw [HW.out]; simp [go_sem]
    have vb2 : W.cell? ⟨w.heap.size, 2, none⟩ = some (.slice sa args.length ca) := by rw [HW.out]; simp [go_sem]
    have vb3 : W.cell? ⟨w.heap.size, 3, none⟩ = some (.int .i64 i0) := by rw [HW.out]; simp [go_sem]
    have vb4 : W.cell? ⟨w.heap.size, 4, none⟩ = some (.int .i64 i1) := by rw [HW.out]; simp [go_sem]
    have vb5 : W.cell? ⟨w.heap.size, 5, none⟩ = some (.int .i64 i2) := by rw [HW.out]; simp [go_sem]
    have vb6 : W.cell? ⟨w.heap.size, 6, none⟩ = some (.int .i64 i3) := by rw [HW.out]; simp [go_sem]
    have vbl : w.heap.size < W.heap.size := World.block_lt_of_cell? W _ vb0
    try replace hs := up_of hB hs
    try have ld_vb0 := World.block_lt_of_cell? _ _ vb0
    refine region_q (by kernel_rfl) (by kernel_rfl) ?_
    dsimp only [List.toList_toArray]
    repeat (first
     | go_big_quiet_skip
     | (go_big_quiet_want
        first
        | (refine qq_det ?_
           apply Exists.intro; refine ⟨fun W' hW' => ?_, ?_⟩
           (· have hk := cellB hW'; go_simp; try (first | rfl | rw [if_pos (by omega)]))
           simp only [Act.put, List.setIfInBounds_toArray, List.set_cons_zero, List.set_cons_succ]; go_big_quiet_on)
        | (refine qq_call ?_
           apply Exists.intro; apply Exists.intro; refine ⟨fun W' hW' => ?_, ?_⟩
           (· have hk := cellB hW'; go_simp; exact ⟨rfl, rfl⟩)
           apply Exists.intro; refine ⟨fun W' hW' => ?_, ?_⟩
           (· first | (go_at_call 134; exact qs hW' (har.out _)))
           simp only [Act.put, List.setIfInBounds_toArray, List.set_cons_zero, List.set_cons_succ]; go_big_quiet_on)))
    refine wpQuiet_nil ?_
    intro W1 hb
    try replace hs := up_of hb hs
    try replace hB := up_of hb hB
    try replace vb0 := up_of hb vb0
    try replace vb1 := up_of hb vb1
    try replace vb2 := up_of hb vb2
    try replace vb3 := up_of hb vb3
    try replace vb4 := up_of hb vb4
    try replace vb5 := up_of hb vb5
    try replace vb6 := up_of hb vb6
    try replace vbl := up_of hb vbl
    go_wp2
    go_ret
    exact ⟨rfl, hB⟩
  · have k1 : ¬ ((((⟨#[b]⟩ : ByteArray)[0]'Nat.zero_lt_one).toNat : Nat) : Int) < 97 := by show ¬ (b.toNat : Int) < 97; omega
    have k2 : ¬ (122 : Int) < ((((⟨#[b]⟩ : ByteArray)[0]'Nat.zero_lt_one).toNat : Nat) : Int) := by show ¬ (122 : Int) < (b.toNat : Int); omega
    have k3 : ((nd : Int) == 0) = false := by simp; omega
    have k4 : ((args.length : Int) != (nd : Int)) = true := by rw [bne_iff_ne]; omega
    clear h1 h6
    go_enter Tryz.func101, Tryz.ntmps101
    go_upto_region 1 with (fail)
    refine wp_world fun W HW => ?_
    have hB : Below w.heap.size w W := by rw [HW.out]; (repeat (first | exact Below.refl _ _ | refine Below.alloc ?_ (by simp; try omega) _ | refine Below.setCell ?_ (by simp) _ | refine Below.drew ?_))
    have vb0 : W.cell? ⟨w.heap.size, 0, none⟩ = some (.string ⟨#[b]⟩) := by rw [HW.out]; simp [go_sem]
    have vb1 : W.cell? ⟨w.heap.size, 1, none⟩ = some (.int .i64 op) := by rw [HW.out]; simp [go_sem]
    have vb2 : W.cell? ⟨w.heap.size, 2, none⟩ = some (.slice sa args.length ca) := by rw [HW.out]; simp [go_sem]
    have vb3 : W.cell? ⟨w.heap.size, 3, none⟩ = some (.int .i64 i0) := by rw [HW.out]; simp [go_sem]
    have vb4 : W.cell? ⟨w.heap.size, 4, none⟩ = some (.int .i64 i1) := by rw [HW.out]; simp [go_sem]
    have vb5 : W.cell? ⟨w.heap.size, 5, none⟩ = some (.int .i64 i2) := by rw [HW.out]; simp [go_sem]
    have vb6 : W.cell? ⟨w.heap.size, 6, none⟩ = some (.int .i64 i3) := by rw [HW.out]; simp [go_sem]
    have vbl : w.heap.size < W.heap.size := World.block_lt_of_cell? W _ vb0
    try replace hs := up_of hB hs
    try have ld_vb0 := World.block_lt_of_cell? _ _ vb0
    refine region_q (by kernel_rfl) (by kernel_rfl) ?_
    dsimp only [List.toList_toArray]
    repeat (first
     | go_big_quiet_skip
     | (go_big_quiet_want
        first
        | (refine qq_det ?_
           apply Exists.intro; refine ⟨fun W' hW' => ?_, ?_⟩
           (· have hk := cellB hW'; go_simp; try (first | rfl | rw [if_pos (by omega)]))
           simp only [Act.put, List.setIfInBounds_toArray, List.set_cons_zero, List.set_cons_succ]; go_big_quiet_on)
        | (refine qq_call ?_
           apply Exists.intro; apply Exists.intro; refine ⟨fun W' hW' => ?_, ?_⟩
           (· have hk := cellB hW'; go_simp; exact ⟨rfl, rfl⟩)
           apply Exists.intro; refine ⟨fun W' hW' => ?_, ?_⟩
           (· first | (go_at_call 134; exact qs hW' (har.out _)))
           simp only [Act.put, List.setIfInBounds_toArray, List.set_cons_zero, List.set_cons_succ]; go_big_quiet_on)))
    refine wpQuiet_nil ?_
    intro W1 hb
    try replace hs := up_of hb hs
    try replace hB := up_of hb hB
    try replace vb0 := up_of hb vb0
    try replace vb1 := up_of hb vb1
    try replace vb2 := up_of hb vb2
    try replace vb3 := up_of hb vb3
    try replace vb4 := up_of hb vb4
    try replace vb5 := up_of hb vb5
    try replace vb6 := up_of hb vb6
    try replace vbl := up_of hb vbl
    go_wp2
    go_ret
    exact ⟨rfl, hB⟩
  · have k1 : ¬ ((((⟨#[b]⟩ : ByteArray)[0]'Nat.zero_lt_one).toNat : Nat) : Int) < 97 := by show ¬ (b.toNat : Int) < 97; omega
    have k2 : ¬ (122 : Int) < ((((⟨#[b]⟩ : ByteArray)[0]'Nat.zero_lt_one).toNat : Nat) : Int) := by show ¬ (122 : Int) < (b.toNat : Int); omega
    have k3 : ((nd : Int) == 0) = false := by simp; omega
    have k4 : ((args.length : Int) != (nd : Int)) = false := by rw [h6]; simp
    clear h1 h6
    have hno := fun (i : Nat) (hi : i < 4) hh => init_no (v := ⟨⟨#[b]⟩, op, args, i0, i1, i2, i3⟩) (n := n) hi hh
    have hyes := fun hh => init_yes (v := ⟨⟨#[b]⟩, op, args, i0, i1, i2, i3⟩) (n := n) hh
    have ano := fun (j : Nat) (hj : j < args.length) => all_no (f := argC vars n) hj
    have ayes := all_yes (f := argC vars n) (l := args)
    obtain ⟨IB, hIB⟩ : ∃ x, initB ⟨⟨#[b]⟩, op, args, i0, i1, i2, i3⟩ n = x := ⟨_, rfl⟩
    obtain ⟨AB, hAB⟩ : ∃ x, args.all (argC vars n) = x := ⟨_, rfl⟩
    rw [hIB, hAB] at h7
    simp only [hIB] at hno hyes
    simp only [hAB] at ano ayes
    clear hIB hAB
    subst h7
    replace hno := Lib.hid hno; replace hyes := Lib.hid hyes; replace ano := Lib.hid ano; replace ayes := Lib.hid ayes
    go_enter Tryz.func101, Tryz.ntmps101
    go_upto_region 1 with (fail)
    refine wp_world fun W HW => ?_
    have hB : Below w.heap.size w W := by rw [HW.out]; (repeat (first | exact Below.refl _ _ | refine Below.alloc ?_ (by simp; try omega) _ | refine Below.setCell ?_ (by simp) _ | refine Below.drew ?_))
    have vb0 : W.cell? ⟨w.heap.size, 0, none⟩ = some (.string ⟨#[b]⟩) := by rw [HW.out]; simp [go_sem]
    have vb1 : W.cell? ⟨w.heap.size, 1, none⟩ = some (.int .i64 op) := by rw [HW.out]; simp [go_sem]
    have vb2 : W.cell? ⟨w.heap.size, 2, none⟩ = some (.slice sa args.length ca) := by rw [HW.out]; simp [go_sem]
    have vb3 : W.cell? ⟨w.heap.size, 3, none⟩ = some (.int .i64 i0) := by rw [HW.out]; simp [go_sem]
    have vb4 : W.cell? ⟨w.heap.size, 4, none⟩ = some (.int .i64 i1) := by rw [HW.out]; simp [go_sem]
    have vb5 : W.cell? ⟨w.heap.size, 5, none⟩ = some (.int .i64 i2) := by rw [HW.out]; simp [go_sem]
    have vb6 : W.cell? ⟨w.heap.size, 6, none⟩ = some (.int .i64 i3) := by rw [HW.out]; simp [go_sem]
    have vbl : w.heap.size < W.heap.size := World.block_lt_of_cell? W _ vb0
    try replace hs := up_of hB hs
    try have ld_vb0 := World.block_lt_of_cell? _ _ vb0
    refine region_q (by kernel_rfl) (by kernel_rfl) ?_
    dsimp only [List.toList_toArray]
    repeat (first
     | go_big_quiet_skip
     | (go_big_quiet_want
        first
        | (refine qq_det ?_
           apply Exists.intro; refine ⟨fun W' hW' => ?_, ?_⟩
           (· have hk := cellB hW'; go_simp; try (first | rfl | rw [if_pos (by omega)]))
           simp only [Act.put, List.setIfInBounds_toArray, List.set_cons_zero, List.set_cons_succ]; go_big_quiet_on)
        | (refine qq_call ?_
           apply Exists.intro; apply Exists.intro; refine ⟨fun W' hW' => ?_, ?_⟩
           (· have hk := cellB hW'; go_simp; exact ⟨rfl, rfl⟩)
           apply Exists.intro; refine ⟨fun W' hW' => ?_, ?_⟩
           (· first | (go_at_call 134; exact qs hW' (har.out _)))
           simp only [Act.put, List.setIfInBounds_toArray, List.set_cons_zero, List.set_cons_succ]; go_big_quiet_on)))
    refine wpQuiet_nil ?_
    intro W1 hb
    try replace hs := up_of hb hs
    try replace hB := up_of hb hB
    try replace vb0 := up_of hb vb0
    try replace vb1 := up_of hb vb1
    try replace vb2 := up_of hb vb2
    try replace vb3 := up_of hb vb3
    try replace vb4 := up_of hb vb4
    try replace vb5 := up_of hb vb5
    try replace vb6 := up_of hb vb6
    try replace vbl := up_of hb vbl
    have hix := fun (V : World) (i : Nat) (hi : i < 4) => ixI (name := ⟨#[b]⟩) (op := op) (args := args) (i0 := i0) (i1 := i1) (i2 := i2) (i3 := i3) hi V
    replace hix := Lib.hid hix
    go_wp2
    go_loopw [45] (fun i V => ∃ j : Nat, j ≤ args.length ∧ i = .int .i64 j ∧ Below W1.heap.size W1 V ∧ Hid (∀ k (hk : k < args.length), k < j → argC vars n args[k] = true)) (fun i _ => args.length - (intOf i).toNat)
    case atStart => exact ⟨0, by omega, rfl, Below.refl _ _, fun k hk h => absurd h (by omega)⟩
    case round =>
      obtain ⟨j, hj, rfl, hBV, hall⟩ := hrel
      try replace hs := up_of hBV hs
      try replace hB := up_of hBV hB
      try replace vb0 := up_of hBV vb0
      try replace vb1 := up_of hBV vb1
      try replace vb2 := up_of hBV vb2
      try replace vb3 := up_of hBV vb3
      try replace vb4 := up_of hBV vb4
      try replace vb5 := up_of hBV vb5
      try replace vb6 := up_of hBV vb6
      try replace vbl := up_of hBV vbl
      by_cases hlt : j < args.length
      · obtain ⟨bk, off, rfl, hbk, q0, q1, q2, q3⟩ := hs.ar_at hlt
        have hbad := ano.out j hlt
        have hgood : argC vars n args[j] = true → ∀ k (hk : k < args.length), k < j + 1 → argC vars n args[k] = true := fun h k hk hk2 => by
          by_cases hk3 : k < j
          · exact hall.out k hk hk3
          · obtain rfl : k = j := by omega
            exact h
        obtain ⟨a, ha⟩ : ∃ a, args[j] = a := ⟨_, rfl⟩
        rw [ha] at q0 q1 q2 q3 hbad hgood
        have hfl := fun V => Flat_c a.p n 3 V (by omega) (by omega)
        have har2 : argC vars n a = (flatB a.p n 3 && bw 0 a.v (vars - 1)) := rfl
        rw [har2] at hbad hgood
        clear ha har2
        have g1 : (0 : Int) ≤ (j : Int) := by omega
        have g2 : (j : Int) < (args.length : Int) := by omega
        go_upto_region 6 with (fail)
        refine wp_world fun Y HY => ?_
        have hY : Below wr.heap.size wr Y := by rw [HY.out]; (repeat (first | exact Below.refl _ _ | refine Below.alloc ?_ (by simp; try omega) _ | refine Below.setCell ?_ (by simp) _ | refine Below.drew ?_))
        have c0 : Y.cell? ⟨wr.heap.size, 0, none⟩ = some (.int .i64 a.v) := by rw [HY.out]; simp [go_sem]
        have c1 : Y.cell? ⟨wr.heap.size, 1, none⟩ = some (.int .i64 a.p.x) := by rw [HY.out]; simp [go_sem]
        have c2 : Y.cell? ⟨wr.heap.size, 2, none⟩ = some (.int .i64 a.p.y) := by rw [HY.out]; simp [go_sem]
        have c3 : Y.cell? ⟨wr.heap.size, 3, none⟩ = some (.int .i64 a.p.z) := by rw [HY.out]; simp [go_sem]
        have cl : wr.heap.size < Y.heap.size := World.block_lt_of_cell? Y _ c0
        try replace hs := up_of hY hs
        try replace hB := up_of hY hB
        try replace vb0 := up_of hY vb0
        try replace vb1 := up_of hY vb1
        try replace vb2 := up_of hY vb2
        try replace vb3 := up_of hY vb3
        try replace vb4 := up_of hY vb4
        try replace vb5 := up_of hY vb5
        try replace vb6 := up_of hY vb6
        try replace vbl := up_of hY vbl
        try replace hBV := up_of hY hBV
        obtain ⟨fb, hfb⟩ : ∃ x, flatB a.p n 3 = x := ⟨_, rfl⟩
        rw [hfb] at hbad hgood
        simp only [hfb] at hfl
        replace hfl := Lib.hid hfl
        clear hfb hall
        by_cases hv0 : a.v < 0
        · obtain rfl := hbad (by rw [show bw 0 a.v (vars - 1) = false by simp [bw]; omega]; simp)
          clear hgood
          go_wp2_with (first | (go_at_call 135; refine (hfl.out _).mono ?_; rintro e W1 ⟨rfl, hb⟩; (try replace hs := up_of hb hs); (try replace hB := up_of hb hB); (try replace vb0 := up_of hb vb0); (try replace vb1 := up_of hb vb1); (try replace vb2 := up_of hb vb2); (try replace vb3 := up_of hb vb3); (try replace vb4 := up_of hb vb4); (try replace vb5 := up_of hb vb5); (try replace vb6 := up_of hb vb6); (try replace vbl := up_of hb vbl); (try replace hBV := up_of hb hBV); (try replace hY := up_of hb hY); (try replace c0 := up_of hb c0); (try replace c1 := up_of hb c1); (try replace c2 := up_of hb c2); (try replace c3 := up_of hb c3); (try replace cl := up_of hb cl)))
          go_ret
          exact ⟨ret_bool (by simp), hB⟩
        by_cases hv1 : (vars : Int) ≤ a.v
        · obtain rfl := hbad (by rw [show bw 0 a.v (vars - 1) = false by simp [bw]; omega]; simp)
          clear hgood
          go_wp2_with (first | (go_at_call 135; refine (hfl.out _).mono ?_; rintro e W1 ⟨rfl, hb⟩; (try replace hs := up_of hb hs); (try replace hB := up_of hb hB); (try replace vb0 := up_of hb vb0); (try replace vb1 := up_of hb vb1); (try replace vb2 := up_of hb vb2); (try replace vb3 := up_of hb vb3); (try replace vb4 := up_of hb vb4); (try replace vb5 := up_of hb vb5); (try replace vb6 := up_of hb vb6); (try replace vbl := up_of hb vbl); (try replace hBV := up_of hb hBV); (try replace hY := up_of hb hY); (try replace c0 := up_of hb c0); (try replace c1 := up_of hb c1); (try replace c2 := up_of hb c2); (try replace c3 := up_of hb c3); (try replace cl := up_of hb cl)))
          go_ret
          exact ⟨ret_bool (by simp), hB⟩
        rw [show bw 0 a.v (vars - 1) = true by rw [bw_iff]; omega] at hbad hgood
        cases fb
        · obtain rfl := hbad rfl
          clear hgood
          go_wp2_with (first | (go_at_call 135; refine (hfl.out _).mono ?_; rintro e W1 ⟨rfl, hb⟩; (try replace hs := up_of hb hs); (try replace hB := up_of hb hB); (try replace vb0 := up_of hb vb0); (try replace vb1 := up_of hb vb1); (try replace vb2 := up_of hb vb2); (try replace vb3 := up_of hb vb3); (try replace vb4 := up_of hb vb4); (try replace vb5 := up_of hb vb5); (try replace vb6 := up_of hb vb6); (try replace vbl := up_of hb vbl); (try replace hBV := up_of hb hBV); (try replace hY := up_of hb hY); (try replace c0 := up_of hb c0); (try replace c1 := up_of hb c1); (try replace c2 := up_of hb c2); (try replace c3 := up_of hb c3); (try replace cl := up_of hb cl)))
          go_ret
          exact ⟨ret_bool (by simp), hB⟩
        · have hok := Lib.hid (hgood rfl)
          clear hgood hbad
          go_wp2_with (first | (go_at_call 135; refine (hfl.out _).mono ?_; rintro e W1 ⟨rfl, hb⟩; (try replace hs := up_of hb hs); (try replace hB := up_of hb hB); (try replace vb0 := up_of hb vb0); (try replace vb1 := up_of hb vb1); (try replace vb2 := up_of hb vb2); (try replace vb3 := up_of hb vb3); (try replace vb4 := up_of hb vb4); (try replace vb5 := up_of hb vb5); (try replace vb6 := up_of hb vb6); (try replace vbl := up_of hb vbl); (try replace hBV := up_of hb hBV); (try replace hY := up_of hb hY); (try replace c0 := up_of hb c0); (try replace c1 := up_of hb c1); (try replace c2 := up_of hb c2); (try replace c3 := up_of hb c3); (try replace cl := up_of hb cl)))
          go_roundw
          case rel => exact ⟨j + 1, by omega, rfl, hBV, hok⟩
          case measure => exact meas hlt
      · obtain rfl : j = args.length := by omega
        obtain rfl := ayes.out (fun k hk => hall.out k hk hk)
        clear hall
        have hix2 := hix.out wr
        replace hix2 := Lib.hid hix2
        go_wp2
        go_loop [68] (fun ii => ∃ i : Nat, i ≤ 4 ∧ ii = .int .i64 i ∧ Hid (∀ j, j < i → initC j (initV ⟨⟨#[b]⟩, op, args, i0, i1, i2, i3⟩ j) n = true)) (fun ii => 4 - (intOf ii).toNat)
        case atStart => exact ⟨0, by omega, rfl, fun j h => absurd h (by omega)⟩
        case round =>
          obtain ⟨i, hi, rfl, hall⟩ := hrel
          by_cases hlt : i < 4
          · have gix := hix2.out i hlt
            have hbad := hno.out i hlt
            have hgood : initC i (initV ⟨⟨#[b]⟩, op, args, i0, i1, i2, i3⟩ i) n = true → ∀ j, j < i + 1 → initC j (initV ⟨⟨#[b]⟩, op, args, i0, i1, i2, i3⟩ j) n = true := fun h j hj => by
              by_cases hj2 : j < i
              · exact hall.out j hj2
              · obtain rfl : j = i := by omega
                exact h
            obtain ⟨x, hx⟩ : ∃ x, initV ⟨⟨#[b]⟩, op, args, i0, i1, i2, i3⟩ i = x := ⟨_, rfl⟩
            rw [hx] at gix hbad hgood
            clear hx hall
            unfold initC at hbad hgood
            have i1 : (i : Int) < 4 := by omega
            by_cases hx0 : x < 0
            · obtain rfl := hbad (by rw [show bw 0 x 10006 = false by simp [bw]; omega]; rfl)
              clear hgood
              go_wp2
              go_ret
              exact ⟨rfl, hB⟩
            by_cases hx1 : 10007 ≤ x
            · obtain rfl := hbad (by rw [show bw 0 x 10006 = false by simp [bw]; omega]; rfl)
              clear hgood
              go_wp2
              go_ret
              exact ⟨rfl, hB⟩
            rw [show bw 0 x 10006 = true by rw [bw_iff]; omega] at hbad hgood
            by_cases hin : (i : Int) ≤ (n : Int)
            · have hok := hgood (by rw [decide_eq_true hin]; rfl)
              have i2 : ¬ (n : Int) < (i : Int) := by omega
              replace hok := Lib.hid hok
              clear hbad hgood hin
              go_wp2
              go_round
              case rel => exact ⟨i + 1, by omega, by go_num, hok⟩
              case measure => exact meas hlt
            · have i2 : (n : Int) < (i : Int) := by omega
              by_cases hxz : x = 0
              · have hok := hgood (by rw [decide_eq_true hxz]; simp)
                have hz : (x != 0) = false := by rw [hxz]; rfl
                replace hok := Lib.hid hok
                clear hbad hgood hin hxz
                go_wp2
                go_round
                case rel => exact ⟨i + 1, by omega, by go_num, hok⟩
                case measure => exact meas hlt
              · obtain rfl := hbad (by rw [decide_eq_false hxz, decide_eq_false hin]; rfl)
                have hz : (x != 0) = true := bne_iff_ne.2 hxz
                clear hgood hin hxz
                go_wp2
                go_ret
                exact ⟨rfl, hB⟩
          · obtain rfl : i = 4 := by omega
            obtain rfl := hyes.out hall.out
            clear hall
            go_wp2
            go_ret
            exact ⟨rfl, hB⟩
end Go.Proofs.YtakbpjgnjfigcaaGreat

/- Valid recurrences: the reference's IsRec. -/
namespace Go.Proofs.YtakbpjgnjfigcaaGreat
open Go.RowKit Go.Maps

/-- The ways a recurrence's head can be, in the reference's order. -/
theorem rec_ways2 (n : Int) (l : List Iq) (K : List Vv) : (validB n l = false ∧ recB n l K = false) ∨
    (validB n l = true ∧ K.length < 1 ∧ recB n l K = false) ∨
    (validB n l = true ∧ 1 ≤ K.length ∧ 4 < K.length ∧ recB n l K = false) ∨
    (validB n l = true ∧ 1 ≤ K.length ∧ K.length ≤ 4 ∧ recB n l K = (recS n K && decide ((pts n l).length ≤ 1000))) := by
  rw [recB_eq]
  cases hv : validB n l
  · exact .inl ⟨rfl, rfl⟩
  · by_cases h1 : K.length < 1
    · exact .inr (.inl ⟨rfl, h1, by rw [show bw 1 K.length 4 = false by simp [bw]; omega]; simp⟩)
    · by_cases h2 : 4 < K.length
      · exact .inr (.inr (.inl ⟨rfl, by omega, h2, by rw [show bw 1 K.length 4 = false by simp [bw]; omega]; simp⟩))
      · exact .inr (.inr (.inr ⟨rfl, by omega, by omega, by rw [show bw 1 K.length 4 = true by rw [bw_iff]; omega]; simp [Bool.and_comm]⟩))
theorem toList_loop (bs : ByteArray) : ∀ (m i : Nat) (r : List UInt8), bs.size - i = m → ByteArray.toList.loop bs i r = r.reverse ++ bs.data.toList.drop i := by
  intro m
  induction m with
  | zero =>
    intro i r h
    rw [ByteArray.toList.loop]
    have h1 : ¬ i < bs.size := by omega
    rw [if_neg h1, List.drop_eq_nil_of_le]
    · simp
    · have : bs.data.toList.length = bs.size := rfl
      omega
  | succ m ih =>
    intro i r h
    rw [ByteArray.toList.loop]
    have h1 : i < bs.size := by omega
    rw [if_pos h1, ih (i+1) _ (by omega)]
    have h2 : i < bs.data.toList.length := h1
    rw [List.drop_eq_getElem_cons h2]
    have h3 : bs.get! i = bs.data.toList[i] := by
      show bs.data[i]! = _
      rw [getElem!_pos bs.data i h1]; rfl
    rw [h3]; simp
theorem toList_inj {a b : ByteArray} : a.toList = b.toList ↔ a = b := by
  have h : ∀ a : ByteArray, a.toList = a.data.toList := fun a => by
    unfold ByteArray.toList; rw [toList_loop a _ 0 [] rfl]; simp
  rw [h, h]
  constructor
  · intro e
    rcases a with ⟨⟨a⟩⟩; rcases b with ⟨⟨b⟩⟩
    simp at e; subst e; rfl
  · rintro rfl; rfl
theorem hasN_no {K : List Vv} {k : Nat} {s : ByteArray} (_hk : k ≤ K.length) (h : ∀ j (hj : j < K.length), j < k → ¬ K[j].name = s) : hasN K k s = false := by
  cases hh : hasN K k s
  · rfl
  · obtain ⟨i, hi, hij, e⟩ := mem_names.1 hh
    exact absurd e (h i hi hij)
set_option maxRecDepth 100000 in
set_option maxHeartbeats 4000000 in
theorem IsRec_c (n : Int) (s : Option Addr) (cap : Nat) (l : List Iq) (s2 : Option Addr) (cq : Nat) (K : List Vv) (w : World) (hd : Dom w s l) (hk : VarsM w s2 K) (hkl : K.length ≤ 9223372036854775807) (hcq : K.length ≤ cq) (hcm : cq ≤ 9223372036854775807) :
    Calls Tryz.prog 56 #[.agg #[.int .i64 n, .slice s l.length cap, .slice s2 K.length cq]] w fun e w' => e = .returned (.bool (recB n l K)) ∧ Below w.heap.size w w' := by
  have hct := fun V (h : Dom V s l) => rValid_t n s cap l V h
  have hw := rec_ways2 n l K
  have hn := valid_n (n := n) (l := l)
  obtain ⟨B, hB0⟩ : ∃ x, recB n l K = x := ⟨_, rfl⟩
  simp only [hB0] at hw ⊢
  clear hB0
  rcases hw with ⟨h1, rfl⟩ | ⟨h1, h2, rfl⟩ | ⟨h1, h2, h3, rfl⟩ | ⟨h1, h2, h3, rfl⟩
  · rw [h1] at hct
    replace hct := Lib.hid hct
    clear hn h1 hcq
    go_enter Tryz.func56, Tryz.ntmps56
    go_upto_region 1 with (fail)
    refine wp_world fun W HW => ?_
    have hB : Below w.heap.size w W := by rw [HW.out]; (repeat (first | exact Below.refl _ _ | refine Below.alloc ?_ (by simp; try omega) _ | refine Below.setCell ?_ (by simp) _ | refine Below.drew ?_))
    have d0 : W.cell? ⟨w.heap.size, 0, none⟩ = some (.int .i64 n) := by rw [HW.out]; simp [go_sem]
    have d1 : W.cell? ⟨w.heap.size, 1, none⟩ = some (.slice s l.length cap) := by rw [HW.out]; simp [go_sem]
    have d2 : W.cell? ⟨w.heap.size, 2, none⟩ = some (.slice s2 K.length cq) := by rw [HW.out]; simp [go_sem]
    have dl : w.heap.size < W.heap.size := World.block_lt_of_cell? W _ d0
    try replace hd := up_of hB hd
    try replace hk := up_of hB hk
    go_wp2_with (first | (go_at_call 27; refine (hct.out _ hd).mono ?_; rintro e W1 ⟨rfl, hb⟩; (try replace hd := up_of hb hd); (try replace hk := up_of hb hk); (try replace hB := up_of hb hB); (try replace d0 := up_of hb d0); (try replace d1 := up_of hb d1); (try replace d2 := up_of hb d2); (try replace dl := up_of hb dl)))
    go_ret
    exact ⟨rfl, hB⟩
  · rw [h1] at hct
    replace hct := Lib.hid hct
    clear hn h1 hcq
    have h4 : (K.length : Int) < 1 := by omega
    go_enter Tryz.func56, Tryz.ntmps56
    go_upto_region 1 with (fail)
    refine wp_world fun W HW => ?_
    have hB : Below w.heap.size w W := by rw [HW.out]; (repeat (first | exact Below.refl _ _ | refine Below.alloc ?_ (by simp; try omega) _ | refine Below.setCell ?_ (by simp) _ | refine Below.drew ?_))
    have d0 : W.cell? ⟨w.heap.size, 0, none⟩ = some (.int .i64 n) := by rw [HW.out]; simp [go_sem]
    have d1 : W.cell? ⟨w.heap.size, 1, none⟩ = some (.slice s l.length cap) := by rw [HW.out]; simp [go_sem]
    have d2 : W.cell? ⟨w.heap.size, 2, none⟩ = some (.slice s2 K.length cq) := by rw [HW.out]; simp [go_sem]
    have dl : w.heap.size < W.heap.size := World.block_lt_of_cell? W _ d0
    try replace hd := up_of hB hd
    try replace hk := up_of hB hk
    go_wp2_with (first | (go_at_call 27; refine (hct.out _ hd).mono ?_; rintro e W1 ⟨rfl, hb⟩; (try replace hd := up_of hb hd); (try replace hk := up_of hb hk); (try replace hB := up_of hb hB); (try replace d0 := up_of hb d0); (try replace d1 := up_of hb d1); (try replace d2 := up_of hb d2); (try replace dl := up_of hb dl)))
    go_ret
    exact ⟨rfl, hB⟩
  · rw [h1] at hct
    replace hct := Lib.hid hct
    clear hn h1 hcq
    have h4 : ¬ (K.length : Int) < 1 := by omega
    have h5 : (4 : Int) < (K.length : Int) := by omega
    go_enter Tryz.func56, Tryz.ntmps56
    go_upto_region 1 with (fail)
    refine wp_world fun W HW => ?_
    have hB : Below w.heap.size w W := by rw [HW.out]; (repeat (first | exact Below.refl _ _ | refine Below.alloc ?_ (by simp; try omega) _ | refine Below.setCell ?_ (by simp) _ | refine Below.drew ?_))
    have d0 : W.cell? ⟨w.heap.size, 0, none⟩ = some (.int .i64 n) := by rw [HW.out]; simp [go_sem]
    have d1 : W.cell? ⟨w.heap.size, 1, none⟩ = some (.slice s l.length cap) := by rw [HW.out]; simp [go_sem]
    have d2 : W.cell? ⟨w.heap.size, 2, none⟩ = some (.slice s2 K.length cq) := by rw [HW.out]; simp [go_sem]
    have dl : w.heap.size < W.heap.size := World.block_lt_of_cell? W _ d0
    try replace hd := up_of hB hd
    try replace hk := up_of hB hk
    go_wp2_with (first | (go_at_call 27; refine (hct.out _ hd).mono ?_; rintro e W1 ⟨rfl, hb⟩; (try replace hd := up_of hb hd); (try replace hk := up_of hb hk); (try replace hB := up_of hb hB); (try replace d0 := up_of hb d0); (try replace d1 := up_of hb d1); (try replace d2 := up_of hb d2); (try replace dl := up_of hb dl)))
    go_ret
    exact ⟨rfl, hB⟩
  rw [h1] at hct
  replace hct := Lib.hid hct
  have h4 : ¬ (K.length : Int) < 1 := by omega
  have h5 : ¬ (4 : Int) < (K.length : Int) := by omega
  have hn3 := hn h1
  obtain ⟨nn, rfl⟩ : ∃ k : Nat, n = k := ⟨n.toNat, by omega⟩
  have hall0 := fun (V : World) (h : Dom V s l) => All_c nn s cap l V hn3 h.iq h.len h.wf
  have hpl := pts_len nn l
  have hall0 := fun (V : World) (h : Dom V s l) => (hall0 V h).mono (R' := fun e w' => (∃ s' cap', e = .returned (.slice s' (pts nn l).length cap')) ∧ Below V.heap.size V w') (fun e w' ⟨s', c', he, _, hb⟩ => ⟨⟨s', c', he⟩, hb⟩)
  clear hn h1
  have hbad := fun (j : Nat) (h : j < K.length) => recS_false (n := nn) (K := K) (j := j) h
  have hgood := recS_true (n := nn) (K := K)
  obtain ⟨B, hB0⟩ : ∃ x, recS nn K = x := ⟨_, rfl⟩
  obtain ⟨m, hm⟩ : ∃ x, (pts nn l).length = x := ⟨_, rfl⟩
  simp only [hB0] at hbad hgood ⊢
  simp only [hm] at hall0 hpl ⊢
  clear hB0
  replace hbad := Lib.hid hbad; replace hgood := Lib.hid hgood; replace hn3 := Lib.hid hn3; replace hall0 := Lib.hid hall0; replace hm := Lib.hid hm
  have hk14 : Hid (1 ≤ K.length ∧ K.length ≤ 4) := Lib.hid ⟨h2, h3⟩
  clear h2 h3
  go_enter Tryz.func56, Tryz.ntmps56
  go_upto_region 1 with (fail)
  refine wp_world fun W HW => ?_
  have hB : Below w.heap.size w W := by rw [HW.out]; (repeat (first | exact Below.refl _ _ | refine Below.alloc ?_ (by simp; try omega) _ | refine Below.setCell ?_ (by simp) _ | refine Below.drew ?_))
  have d0 : W.cell? ⟨w.heap.size, 0, none⟩ = some (.int .i64 nn) := by rw [HW.out]; simp [go_sem]
  have d1 : W.cell? ⟨w.heap.size, 1, none⟩ = some (.slice s l.length cap) := by rw [HW.out]; simp [go_sem]
  have d2 : W.cell? ⟨w.heap.size, 2, none⟩ = some (.slice s2 K.length cq) := by rw [HW.out]; simp [go_sem]
  have dl : w.heap.size < W.heap.size := World.block_lt_of_cell? W _ d0
  try replace hd := up_of hB hd
  try replace hk := up_of hB hk
  go_upto_region 3 with (first | (go_at_call 27; refine (hct.out _ hd).mono ?_; rintro e W2 ⟨rfl, hb⟩; (try replace hd := up_of hb hd); (try replace hk := up_of hb hk); (try replace hB := up_of hb hB); (try replace d0 := up_of hb d0); (try replace d1 := up_of hb d1); (try replace d2 := up_of hb d2); (try replace dl := up_of hb dl)))
  go_wp2
  go_loopw [26] (fun i V => ∃ k : Nat, k ≤ K.length ∧ i = .int .i64 k ∧ Below W2.heap.size W2 V ∧ Hid (∀ j, j < k → badV nn K j = false)) (fun i _ => K.length - (intOf i).toNat)
  case atStart => exact ⟨0, by omega, rfl, Below.refl _ _, fun j h => absurd h (by omega)⟩
  case round =>
    obtain ⟨k, hkk, rfl, hBV, hall⟩ := hrel
    try replace hd := up_of hBV hd
    try replace hk := up_of hBV hk
    try replace hB := up_of hBV hB
    try replace d0 := up_of hBV d0
    try replace d1 := up_of hBV d1
    try replace d2 := up_of hBV d2
    try replace dl := up_of hBV dl
    by_cases hlt : k < K.length
    · obtain ⟨b, off, sa, ca, rfl, hb, q0, q1, q2, q3, q4, q5, q6, hsa, hal, -, -⟩ := hk.at hlt
      have hbk := badV_at (n := nn) hlt
      have hF := hbad.out k hlt
      have hN := fun (h : ∀ j (hj : j < K.length), j < k → ¬ K[j].name = K[k].name) => hasN_no (K := K) (k := k) (s := K[k].name) hkk h
      have hM := fun (h : ∃ i, ∃ (h : i < K.length), i < k ∧ K[i].name = K[k].name) => mem_names.2 h
      obtain ⟨v, hv⟩ : ∃ v, K[k] = v := ⟨_, rfl⟩
      rw [hv] at q0 q1 q2 q3 q4 q5 q6 hsa hal hbk hM
      simp only [hv] at hN
      have hvv := fun V h => isVar_c v sa ca K.length nn V h hal (by have := hn3.out; omega) (by have := hk14.out; omega)
      replace hv := Lib.hid hv; replace hN := Lib.hid hN; replace hM := Lib.hid hM
      have g1 : (0 : Int) ≤ (k : Int) := by omega
      have g2 : (k : Int) < (K.length : Int) := by omega
      go_upto_region 6 with (fail)
      refine wp_world fun Y HY => ?_
      have hY : Below wr.heap.size wr Y := by rw [HY.out]; (repeat (first | exact Below.refl _ _ | refine Below.alloc ?_ (by simp; try omega) _ | refine Below.setCell ?_ (by simp) _ | refine Below.drew ?_))
      have c0 : Y.cell? ⟨wr.heap.size, 0, none⟩ = some (.string v.name) := by rw [HY.out]; simp [go_sem]
      have c1 : Y.cell? ⟨wr.heap.size, 1, none⟩ = some (.int .i64 v.op) := by rw [HY.out]; simp [go_sem]
      have c2 : Y.cell? ⟨wr.heap.size, 2, none⟩ = some (.slice sa v.args.length ca) := by rw [HY.out]; simp [go_sem]
      have c3 : Y.cell? ⟨wr.heap.size, 3, none⟩ = some (.int .i64 v.i0) := by rw [HY.out]; simp [go_sem]
      have c4 : Y.cell? ⟨wr.heap.size, 4, none⟩ = some (.int .i64 v.i1) := by rw [HY.out]; simp [go_sem]
      have c5 : Y.cell? ⟨wr.heap.size, 5, none⟩ = some (.int .i64 v.i2) := by rw [HY.out]; simp [go_sem]
      have c6 : Y.cell? ⟨wr.heap.size, 6, none⟩ = some (.int .i64 v.i3) := by rw [HY.out]; simp [go_sem]
      have cl : wr.heap.size < Y.heap.size := World.block_lt_of_cell? Y _ c0
      try replace hd := up_of hY hd
      try replace hk := up_of hY hk
      try replace hB := up_of hY hB
      try replace d0 := up_of hY d0
      try replace d1 := up_of hY d1
      try replace d2 := up_of hY d2
      try replace dl := up_of hY dl
      try replace hBV := up_of hY hBV
      try replace hsa := up_of hY hsa
      cases hvb : varB K.length nn v
      · rw [hvb] at hvv hbk
        obtain rfl := hF (by rw [hbk]; rfl)
        replace hvv := Lib.hid hvv
        clear hbk hN hM hF hall hvb
        go_wp2_with (first | (go_at_call 101; refine (hvv.out _ hsa).mono ?_; rintro e W1 ⟨rfl, hb⟩; (try replace hd := up_of hb hd); (try replace hk := up_of hb hk); (try replace hB := up_of hb hB); (try replace d0 := up_of hb d0); (try replace d1 := up_of hb d1); (try replace d2 := up_of hb d2); (try replace dl := up_of hb dl); (try replace hBV := up_of hb hBV); (try replace hsa := up_of hb hsa); (try replace hY := up_of hb hY); (try replace c0 := up_of hb c0); (try replace c1 := up_of hb c1); (try replace c2 := up_of hb c2); (try replace c3 := up_of hb c3); (try replace c4 := up_of hb c4); (try replace c5 := up_of hb c5); (try replace c6 := up_of hb c6); (try replace cl := up_of hb cl)))
        go_ret
        exact ⟨rfl, hB⟩
      rw [hvb] at hvv hbk
      replace hvv := Lib.hid hvv; replace hbk := Lib.hid hbk; replace hF := Lib.hid hF
      clear hvb
      have g3 : (k : Int) ≤ (cq : Int) := by omega
      go_upto_region 8 with (first | (go_at_call 101; refine (hvv.out _ hsa).mono ?_; rintro e W5 ⟨rfl, hb⟩; (try replace hd := up_of hb hd); (try replace hk := up_of hb hk); (try replace hB := up_of hb hB); (try replace d0 := up_of hb d0); (try replace d1 := up_of hb d1); (try replace d2 := up_of hb d2); (try replace dl := up_of hb dl); (try replace hBV := up_of hb hBV); (try replace hsa := up_of hb hsa); (try replace hY := up_of hb hY); (try replace c0 := up_of hb c0); (try replace c1 := up_of hb c1); (try replace c2 := up_of hb c2); (try replace c3 := up_of hb c3); (try replace c4 := up_of hb c4); (try replace c5 := up_of hb c5); (try replace c6 := up_of hb c6); (try replace cl := up_of hb cl)))
      go_wp2
      go_loopw [45] (fun i V => ∃ j : Nat, j ≤ k ∧ i = .int .i64 j ∧ Below W5.heap.size W5 V ∧ Hid (∀ i (hi : i < K.length), i < j → ¬ K[i].name = v.name)) (fun i _ => k - (intOf i).toNat)
      case atStart => exact ⟨0, by omega, rfl, Below.refl _ _, fun i hi h => absurd h (by omega)⟩
      case round =>
        obtain ⟨j, hjk, rfl, hBX, hnm⟩ := hrel
        try replace hd := up_of hBX hd
        try replace hk := up_of hBX hk
        try replace hB := up_of hBX hB
        try replace d0 := up_of hBX d0
        try replace d1 := up_of hBX d1
        try replace d2 := up_of hBX d2
        try replace dl := up_of hBX dl
        try replace hBV := up_of hBX hBV
        try replace hsa := up_of hBX hsa
        try replace hY := up_of hBX hY
        try replace c0 := up_of hBX c0
        try replace c1 := up_of hBX c1
        try replace c2 := up_of hBX c2
        try replace c3 := up_of hBX c3
        try replace c4 := up_of hBX c4
        try replace c5 := up_of hBX c5
        try replace c6 := up_of hBX c6
        try replace cl := up_of hBX cl
        by_cases hlj : j < k
        · have hlK : j < K.length := by omega
          obtain ⟨b', off', sa', ca', e', hb', x0, x1, x2, x3, x4, x5, x6, hsa', hal', -, -⟩ := hk.at hlK
          cases e'
          have hy : ¬ K[j].name = v.name → ∀ i (hi : i < K.length), i < j + 1 → ¬ K[i].name = v.name := fun h i hi hij => by
            by_cases h3 : i < j
            · exact hnm.out i hi h3
            · obtain rfl : i = j := by omega
              exact h
          have hz : K[j].name = v.name → hasN K k v.name = true := fun h => hM.out ⟨j, hlK, hlj, h⟩
          obtain ⟨u, hu⟩ : ∃ u, K[j] = u := ⟨_, rfl⟩
          rw [hu] at x0 x1 x2 x3 x4 x5 x6 hsa' hal' hy hz
          replace hu := Lib.hid hu
          have g4 : (0 : Int) ≤ (j : Int) := by omega
          have g5 : (j : Int) < (k : Int) := by omega
          go_upto_region 11 with (fail)
          refine wp_world fun Z HZ => ?_
          have hZ : Below wr.heap.size wr Z := by rw [HZ.out]; (repeat (first | exact Below.refl _ _ | refine Below.alloc ?_ (by simp; try omega) _ | refine Below.setCell ?_ (by simp) _ | refine Below.drew ?_))
          have z0 : Z.cell? ⟨wr.heap.size, 0, none⟩ = some (.string u.name) := by rw [HZ.out]; simp [go_sem]
          have z1 : Z.cell? ⟨wr.heap.size, 1, none⟩ = some (.int .i64 u.op) := by rw [HZ.out]; simp [go_sem]
          have z2 : Z.cell? ⟨wr.heap.size, 2, none⟩ = some (.slice sa' u.args.length ca') := by rw [HZ.out]; simp [go_sem]
          have z3 : Z.cell? ⟨wr.heap.size, 3, none⟩ = some (.int .i64 u.i0) := by rw [HZ.out]; simp [go_sem]
          have z4 : Z.cell? ⟨wr.heap.size, 4, none⟩ = some (.int .i64 u.i1) := by rw [HZ.out]; simp [go_sem]
          have z5 : Z.cell? ⟨wr.heap.size, 5, none⟩ = some (.int .i64 u.i2) := by rw [HZ.out]; simp [go_sem]
          have z6 : Z.cell? ⟨wr.heap.size, 6, none⟩ = some (.int .i64 u.i3) := by rw [HZ.out]; simp [go_sem]
          have zl : wr.heap.size < Z.heap.size := World.block_lt_of_cell? Z _ z0
          try replace hd := up_of hZ hd
          try replace hk := up_of hZ hk
          try replace hB := up_of hZ hB
          try replace d0 := up_of hZ d0
          try replace d1 := up_of hZ d1
          try replace d2 := up_of hZ d2
          try replace dl := up_of hZ dl
          try replace hBV := up_of hZ hBV
          try replace hsa := up_of hZ hsa
          try replace hY := up_of hZ hY
          try replace c0 := up_of hZ c0
          try replace c1 := up_of hZ c1
          try replace c2 := up_of hZ c2
          try replace c3 := up_of hZ c3
          try replace c4 := up_of hZ c4
          try replace c5 := up_of hZ c5
          try replace c6 := up_of hZ c6
          try replace cl := up_of hZ cl
          try replace hBX := up_of hZ hBX
          by_cases hnn : u.name = v.name
          · have hh := hz hnn
            obtain rfl := hF.out (by rw [hbk.out, hh]; rfl)
            clear hy hz hh hnm hall
            have hdd : (u.name.toList == v.name.toList) = true := by rw [hnn]; exact beq_self_eq_true _
            go_wp2
            go_ret
            exact ⟨rfl, hB⟩
          · have hok := Lib.hid (hy hnn)
            have hdd : (u.name.toList == v.name.toList) = false := by rw [Bool.eq_false_iff]; exact fun h => hnn (toList_inj.1 (eq_of_beq h))
            clear hy hz hnm
            go_wp2
            go_roundw
            case rel => exact ⟨j + 1, by omega, rfl, hBX, hok⟩
            case measure => exact meas hlj
        · obtain rfl : j = k := by omega
          have hok := Lib.hid (upto_succ hall.out (by rw [hbk.out, hN.out (fun i hi hij => hnm.out i hi hij)]; rfl))
          clear hall hnm
          go_wp2
          go_roundw
          case rel => exact ⟨j + 1, by omega, rfl, hBV, hok⟩
          case measure => exact meas hlt
    · obtain rfl : k = K.length := by omega
      obtain rfl := hgood.out hall.out
      clear hall
      go_wp2_with (first | (go_at_call 28; refine (hall0.out _ hd).mono ?_; rintro e W1 ⟨⟨s', c', rfl⟩, hb⟩; (try replace hd := up_of hb hd); (try replace hk := up_of hb hk); (try replace hB := up_of hb hB); (try replace d0 := up_of hb d0); (try replace d1 := up_of hb d1); (try replace d2 := up_of hb d2); (try replace dl := up_of hb dl); (try replace hBV := up_of hb hBV); (try replace hsa := up_of hb hsa); (try replace hY := up_of hb hY); (try replace c0 := up_of hb c0); (try replace c1 := up_of hb c1); (try replace c2 := up_of hb c2); (try replace c3 := up_of hb c3); (try replace c4 := up_of hb c4); (try replace c5 := up_of hb c5); (try replace c6 := up_of hb c6); (try replace cl := up_of hb cl); (try replace hBX := up_of hb hBX); (try replace hZ := up_of hb hZ); (try replace z0 := up_of hb z0); (try replace z1 := up_of hb z1); (try replace z2 := up_of hb z2); (try replace z3 := up_of hb z3); (try replace z4 := up_of hb z4); (try replace z5 := up_of hb z5); (try replace z6 := up_of hb z6); (try replace zl := up_of hb zl)))
      go_ret
      exact ⟨ret_bool (by rw [Bool.true_and]; exact decide_eq_decide.2 (by omega)), hB⟩
end Go.Proofs.YtakbpjgnjfigcaaGreat

/- Recurrences that came in. -/
namespace Go.Proofs.YtakbpjgnjfigcaaGreat
open Go.RowKit

/-- A recurrence that came in. -/
structure RecM (w : World) (s : Option Addr) (l : List Iq) (s2 : Option Addr) (cq : Nat) (K : List Vv) : Prop where
  dom : Dom w s l
  vars : VarsM w s2 K
  len : K.length ≤ 9223372036854775807
  cap : K.length ≤ cq
  capm : cq ≤ 9223372036854775807
theorem RecM.up {W W' : World} (h : Below W.heap.size W W') {s : Option Addr} {l : List Iq} {s2 : Option Addr} {cq : Nat} {K : List Vv} (c : RecM W s l s2 cq K) : RecM W' s l s2 cq K := ⟨Up.dom h c.dom, VarsM.up h c.vars, c.len, c.cap, c.capm⟩
instance {W W' : World} {s : Option Addr} {l : List Iq} {s2 : Option Addr} {cq : Nat} {K : List Vv} : UpF W W' (RecM W s l s2 cq K) (RecM W' s l s2 cq K) := ⟨fun h c => RecM.up h c⟩
theorem RecM.valid {w : World} {s : Option Addr} {l : List Iq} {s2 : Option Addr} {cq : Nat} {K : List Vv} (c : RecM w s l s2 cq K) (n : Int) (cap : Nat) :
    Calls Tryz.prog 69 #[.agg #[.int .i64 n, .slice s l.length cap, .slice s2 K.length cq]] w fun e w' => e = .returned (.bool (recB n l K)) ∧ Below w.heap.size w w' := recValid_c n s cap l s2 cq K w c.dom c.vars c.len
theorem RecM.isRec {w : World} {s : Option Addr} {l : List Iq} {s2 : Option Addr} {cq : Nat} {K : List Vv} (c : RecM w s l s2 cq K) (n : Int) (cap : Nat) :
    Calls Tryz.prog 56 #[.agg #[.int .i64 n, .slice s l.length cap, .slice s2 K.length cq]] w fun e w' => e = .returned (.bool (recB n l K)) ∧ Below w.heap.size w w' := IsRec_c n s cap l s2 cq K w c.dom c.vars c.len c.cap c.capm

end Go.Proofs.YtakbpjgnjfigcaaGreat
