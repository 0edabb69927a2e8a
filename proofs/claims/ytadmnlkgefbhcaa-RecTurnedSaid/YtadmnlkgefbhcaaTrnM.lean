/- Variables that are built one by one, with arguments of their own. -/
import Derived.Test.YtadmnlkgefbhcaaTrnK
import Derived.Test.YtadmnlkgefbhcaaB7
import Derived.Test.YtadmnlkgefbhcaaB3
namespace Go.Proofs.Ytadmnlkgefbhcaa
open Go.RowKit

theorem info_ar : (Try.prog.info? 78).map (fun i => (i.zero, i.size, i.bytes)) = some (some (.agg #[.int .i64 0, .int .i64 0, .int .i64 0, .int .i64 0]), 4, 32) := by kernel_rfl
set_option maxRecDepth 100000 in
set_option maxHeartbeats 400000 in
theorem ar_clone (s : Option Addr) (cap : Nat) (l : List Ar) (w : World) (hs : SlS arE w s l) (hc : s = none → cap = 0) (hl : l.length ≤ 1099511627776) :
    Calls Try.prog 51 #[.slice s l.length cap] w (RetS arE 78 l w) := by
  have hml : l.length ≤ maxLen := by unfold maxLen; omega
  have hin := hs
  cases s with
  | none =>
    obtain rfl := hs.none_nil
    obtain rfl := hc rfl
    clear hs hin hml hc
    have hq : ∀ w : World, (binOp .eql 54 (.slice none 0 0) (.slice none 0 0)).run Try.prog w = .ok (.bool true) w := fun w => Lib.run_eql_slice_nil w 54 78 _ _ _ _ _ Try.underlying54
    go_enter Try.func51, Try.ntmps51
    go_wp2
    go_ret
    exact ⟨none, 0, rfl, World.ownsRow_nil _ _ _ _, Below.refl _ _⟩
  | some a =>
    have hs2 := Lib.hid (up_of ((Below.refl w.heap.size w).alloc (Nat.le_refl _) (.cells #[] 78)) hs)
    replace hs := Lib.hid hs
    clear hin hc
    have hq : ∀ w : World, (binOp .eql 54 (.slice (some a) l.length cap) (.slice none 0 0)).run Try.prog w = .ok (.bool false) w := fun w => Lib.run_eql_slice_nil w 54 78 _ _ _ _ _ Try.underlying54
    go_enter Try.func51, Try.ntmps51
    obtain ⟨i0, hi, hz0, hz1, hz2⟩ := info_parts info_ar
    go_wp2_with (first | (at_builtin; refine wpList_append_own _ rfl _ _ 54 rfl w.heap.size 78 i0 (.agg #[.int .i64 0, .int .i64 0, .int .i64 0, .int .i64 0]) 4 32 Try.underlying54 hi hz0 hz1 hz2 rfl (by decide) _ _ _ rfl (owns_built w 78 4) a l.length cap (Elt.all arE l) rfl (Elt.all_len _ _) (SlS.news hs2.out) (Elt.all_one _ _) (by unfold maxLen; omega) (by omega) (by simp) ?_; intro v1 w1 hown1 hgrow hnil))
    simp only [Nat.zero_add, List.nil_append] at hown1
    obtain ⟨s', c', rfl, _⟩ := owns_shape hown1
    go_wp2
    go_ret
    exact ⟨s', c', rfl, hown1, ((Below.refl _ w).alloc (Nat.le_refl _) _).grown hgrow (by simp) (fun k hk => by cases hk; exact Nat.le_refl _)⟩

def Vs.row (x : Vs) : Sv := ⟨x.s, x.n, x.cap⟩
def Vs.like (x : Vs) (v : Vv) : Prop := x.name = v.name ∧ x.op = v.op ∧ x.i0 = v.i0 ∧ x.i1 = v.i1 ∧ x.i2 = v.i2 ∧ x.i3 = v.i3
/-- The variables so far: rows of one's own, from block B on. -/
structure TV (B : Nat) (V : World) (out : Value) (ss : List Vs) (R : List Vv) : Prop where
  own : V.ownsRow B 57 7 out R.length (vsE.all ss)
  inn : Inn arE V out (ss.map Vs.row) (R.map Vv.args)
  len : ss.length = R.length
  like : ∀ i (h : i < R.length) (h' : i < ss.length), ss[i].like R[i]
  le : B ≤ V.heap.size
  lo : ∀ x ∈ ss, ∀ b o, x.s = some ⟨b, o, none⟩ → B ≤ b
theorem TV.nil {B : Nat} {V : World} (h : B ≤ V.heap.size) : TV B V (.slice none 0 0) [] [] := ⟨World.ownsRow_nil _ _ _ _, Inn.nil, rfl, fun i h => absurd h (by simp), h, fun x hx => by simp at hx⟩
theorem TV.up {B : Nat} {V V' : World} {out : Value} {ss : List Vs} {R : List Vv} (hb : Below V.heap.size V V') (h : TV B V out ss R) : TV B V' out ss R := ⟨up_of hb h.own, up_of hb h.inn, h.len, h.like, Nat.le_trans h.le hb.size, h.lo⟩
instance {B : Nat} {V V' : World} {out : Value} {ss : List Vs} {R : List Vv} : UpF V V' (TV B V out ss R) (TV B V' out ss R) := ⟨fun h c => TV.up h c⟩
/-- A block below B may change. -/
theorem TV.keep {B : Nat} {V V' : World} {out : Value} {ss : List Vs} {R : List Vv} (h : TV B V out ss R) (hs : V.heap.size ≤ V'.heap.size) (hk : ∀ k, B ≤ k → k < V.heap.size → V'.heap[k]? = V.heap[k]?) : TV B V' out ss R := by
  refine ⟨own_upto h.own fun b e => hk b (h.own.lt b e).1 (h.own.lt b e).2, ⟨h.inn.len, fun i h1 h2 => ?_, fun x hx b o e => ⟨Nat.lt_of_lt_of_le (h.inn.apart x hx b o e).1 hs, (h.inn.apart x hx b o e).2⟩⟩, h.len, h.like, Nat.le_trans h.le hs, h.lo⟩
  obtain ⟨r1, r2, r3⟩ := h.inn.row i h1 h2
  refine ⟨r1, r2.block hs fun b o e hb => ?_, r3⟩
  refine hk b ?_ hb
  have hi : i < ss.length := by simpa using h2
  refine h.lo ss[i] (List.getElem_mem hi) b o ?_
  simpa [Vs.row] using e
theorem vsE_snoc (ss : List Vs) (x : Vs) : vsE.all (ss ++ [x]) = vsE.all ss ++ x.cells := by simp [Elt.all, vsE]
/-- One more variable: its arguments lie above V, in W1. -/
theorem TV.push {B : Nat} {V W1 w1 : World} {out v1 : Value} {ss : List Vs} {R : List Vv} {x : Vs} {v : Vv} (h : TV B V out ss R) (hv : Below V.heap.size V W1)
    (hs : SlS arE W1 x.s v.args) (hn : x.n = v.args.length) (hc : v.args.length ≤ x.cap) (hz : x.s = none → x.cap = 0) (hlo : ∀ b o, x.s = some ⟨b, o, none⟩ → V.heap.size ≤ b ∧ b < W1.heap.size) (hl : x.like v)
    (g1 : W1.grownBy w1 out.ownBlock) (g2 : v1.ownBlock = out.ownBlock ∨ v1.ownBlock = some W1.heap.size)
    (g3 : w1.ownsRow B 57 7 v1 (R.length + 1) (vsE.all ss ++ x.cells)) : TV B w1 v1 (ss ++ [x]) (R ++ [v]) := by
  have hAs := h.le
  have hne : ∀ b, out.ownBlock = some b → B ≤ b ∧ b < V.heap.size := fun b e => h.own.lt b e
  refine ⟨by rw [List.length_append, vsE_snoc]; exact g3, ?_, by simp [h.len], fun i h1 h2 => ?_, Nat.le_trans hAs (Nat.le_trans hv.size g1.size), fun y hy b o e => ?_⟩
  · rw [List.map_append, List.map_append]
    have hp := Inn.push (up_of hv h.inn) g1 g2 hs hz hc (fun b o e => ⟨(hlo b o e).2, fun e2 => by have := hne b e2; have := (hlo b o e).1; omega⟩)
    have e : (⟨x.s, v.args.length, x.cap⟩ : Sv) = x.row := by unfold Vs.row; rw [hn]
    rw [e] at hp
    exact hp
  · by_cases hi : i < R.length
    · have hi2 : i < ss.length := by rw [h.len]; exact hi
      rw [List.getElem_append_left hi, List.getElem_append_left hi2]
      exact h.like i hi hi2
    · have hiR : i = R.length := by simp at h1; omega
      subst hiR
      have e1 : (R ++ [v])[R.length] = v := by simp
      have e2 : (ss ++ [x])[R.length] = x := by simp [← h.len]
      rw [e1, e2]; exact hl
  · rcases List.mem_append.1 hy with hy | hy
    · exact h.lo y hy b o e
    · obtain rfl := List.mem_singleton.1 hy
      exact Nat.le_trans hAs (hlo b o e).1
theorem TV.view {B : Nat} {V : World} {out : Value} {ss : List Vs} {R : List Vv} (h : TV B V out ss R) (hR : ∀ v ∈ R, v.args.length ≤ 9223372036854775807) : ∃ s c, out = .slice s R.length c ∧ VarsM V s R := by
  obtain ⟨s, c, e, -⟩ := owns_shape h.own
  subst e
  have hsl := h.own
  rw [← h.len] at hsl
  refine ⟨s, c, rfl, ss, SlS.of_own (E := vsE) (by rw [h.len] at hsl ⊢; exact hsl), h.len, fun i hi hi' => ?_⟩
  have hr := h.inn.row i (by simpa using hi) (by simpa using hi')
  simp only [List.getElem_map] at hr
  obtain ⟨l1, l2, l3, l4, l5, l6⟩ := h.like i hi hi'
  exact ⟨l1, l2, hr.1, hr.2.1, hR _ (List.getElem_mem hi), hr.2.2.1, hr.2.2.2, l3, l4, l5, l6⟩
/-! ### Arguments that are turned one by one -/
def mixA (n : Int) (o : Pt) (l : List Ar) : Nat → List Ar
  | 0 => l
  | k + 1 => (mixA n o l k).set k (turnA n o (l.getD k ⟨0, ⟨0, 0, 0⟩⟩))
theorem mixA_len (n : Int) (o : Pt) (l : List Ar) : ∀ k, (mixA n o l k).length = l.length
  | 0 => rfl
  | k + 1 => by rw [mixA, List.length_set, mixA_len]
theorem mixA_at (n : Int) (o : Pt) (l : List Ar) : ∀ k j, (mixA n o l k)[j]? = if j < k then (l[j]?).map (turnA n o) else l[j]?
  | 0, j => by simp [mixA]
  | k + 1, j => by
    rw [mixA, List.getElem?_set, mixA_len]
    by_cases hkj : k = j
    · subst hkj
      rw [if_pos rfl]
      by_cases hl : k < l.length
      · rw [if_pos hl, if_pos (Nat.lt_succ_self k), List.getElem?_eq_getElem hl, List.getD_eq_getElem?_getD, List.getElem?_eq_getElem hl]; rfl
      · rw [if_neg hl, if_pos (Nat.lt_succ_self k), List.getElem?_eq_none (by omega)]; rfl
    · rw [if_neg hkj, mixA_at]
      by_cases h : j < k
      · rw [if_pos h, if_pos (by omega)]
      · rw [if_neg h, if_neg (by omega)]
theorem mixA_all (n : Int) (o : Pt) (l : List Ar) : mixA n o l l.length = l.map (turnA n o) := by
  apply List.ext_getElem?
  intro j
  rw [mixA_at, List.getElem?_map]
  by_cases h : j < l.length
  · rw [if_pos h]
  · rw [if_neg h, List.getElem?_eq_none (by omega)]; rfl
theorem arAll_set (l : List Ar) : ∀ (k : Nat) (hk : k < l.length) (a : Pt), (((arE.all l).set (k * 4 + 1) (.int .i64 a.x)).set (k * 4 + 2) (.int .i64 a.y)).set (k * 4 + 3) (.int .i64 a.z) = arE.all (l.set k ⟨l[k].v, a⟩) := by
  induction l with
  | nil => intro k hk; simp at hk
  | cons q l ih =>
    intro k hk a
    have e : ∀ (q : Ar) (l : List Ar), arE.all (q :: l) = .int .i64 q.v :: .int .i64 q.p.x :: .int .i64 q.p.y :: .int .i64 q.p.z :: arE.all l := fun q l => by simp [Elt.all, arE, Ar.cells]
    cases k with
    | zero => simp [e]
    | succ k =>
      have h := ih k (by simpa using hk) a
      simp only [List.getElem_cons_succ]
      rw [show ∀ x : Ar, (q :: l).set (k + 1) x = q :: l.set k x from fun _ => rfl, e, e, ← h]
      have e1 : (k + 1) * 4 + 1 = k * 4 + 1 + 1 + 1 + 1 + 1 := by omega
      have e2 : (k + 1) * 4 + 2 = k * 4 + 2 + 1 + 1 + 1 + 1 := by omega
      have e3 : (k + 1) * 4 + 3 = k * 4 + 3 + 1 + 1 + 1 + 1 := by omega
      rw [e1, e2, e3]
      simp only [List.set_cons_succ]
theorem mixA_cells (n : Int) (o : Pt) (l : List Ar) (k : Nat) (hk : k < l.length) {a : Pt} (ha : turnP n o l[k].p = a) :
    (((arE.all (mixA n o l k)).set (k * 4 + 1) (.int .i64 a.x)).set (k * 4 + 2) (.int .i64 a.y)).set (k * 4 + 3) (.int .i64 a.z) = arE.all (mixA n o l (k + 1)) := by
  have hk2 : k < (mixA n o l k).length := by rw [mixA_len]; exact hk
  rw [arAll_set _ k hk2, mixA]
  congr 2
  have h1 := mixA_at n o l k k
  rw [if_neg (by omega), List.getElem?_eq_getElem hk2, List.getElem?_eq_getElem hk] at h1
  have h2 := Option.some.inj h1
  rw [h2, List.getD_eq_getElem?_getD, List.getElem?_eq_getElem hk]
  show (⟨l[k].v, a⟩ : Ar) = turnA n o l[k]
  unfold turnA; rw [ha]
end Go.Proofs.Ytadmnlkgefbhcaa
