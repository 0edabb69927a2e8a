/- Several texts in one: each says what it proves. -/
import Derived.Test.YtakbpjgnjfigcaaGreatC2
import Derived.Test.YtakbpjgnjfigcaaGreatC1
import Derived.Test.YtakbpjgnjfigcaaGreatB4
import Derived.Test.YtakbpjgnjfigcaaGreatB1
import Derived.Test.YtakbpjgnjfigcaaGreatB7
import Derived.Test.YtakbpjgnjfigcaaGreatB5
/- Circles of uses: what they are. -/

namespace Go.Proofs.YtakbpjgnjfigcaaGreat
open Go.RowKit Go.Maps

/-- A use: a variable, and which of its arguments. -/
structure Us where
  v : Int
  a : Int
instance : Inhabited Us := ⟨⟨0, 0⟩⟩
def usE : Elt Us := ⟨2, fun u => [.int .i64 u.v, .int .i64 u.a], by decide, fun _ => rfl, fun _ u h => by simp at h; rcases h with rfl | rfl <;> rfl⟩
theorem SlS.us_at {w : World} {s : Option Addr} {l : List Us} (c : SlS usE w s l) {i : Nat} (h : i < l.length) :
    ∃ b off, s = some ⟨b, off, none⟩ ∧ b < w.heap.size ∧ w.cell? ⟨b, off + i * 2, none⟩ = some (.int .i64 l[i].v) ∧ w.cell? ⟨b, off + i * 2 + 1, none⟩ = some (.int .i64 l[i].a) := by
  obtain ⟨b, off, e, hb, hc⟩ := c.at h
  have h0 := hc 0 _ rfl
  have h1 := hc 1 _ rfl
  simp only [usE, Nat.add_zero] at h0 h1
  exact ⟨b, off, e, hb, h0, h1⟩
def argsA (K : List Vv) (v : Int) : List Ar := match K[v.toNat]? with
  | some x => x.args
  | none => []
def inU (K : List Vv) (u : Us) : Bool := bw 0 u.v (K.length - 1) && bw 0 u.a ((argsA K u.v).length - 1)
/-- The argument that a use names. -/
def usA (K : List Vv) (u : Us) : Ar := (argsA K u.v).getD u.a.toNat ⟨0, ⟨0, 0, 0⟩⟩
def seenU (l : List Us) (i : Nat) (x : Int) : Bool := (l.take i).any fun u => decide (u.v = x)
/-- What is wrong with use i. -/
def badU (K : List Vv) (l : List Us) (i : Nat) : Bool := match l[i]? with
  | some u => !inU K u || (seenU l i u.v || !decide ((usA K u).v = (l.getD ((i + 1) % l.length) default).v))
  | none => false
def wtU (K : List Vv) (f : Pt) (u : Us) : Int := 1 + dotZ f (usA K u).p
def sumU (K : List Vv) (f : Pt) (l : List Us) : Int := (l.map (wtU K f)).sum
/-- Whether uses are a circle. -/
def circB (K : List Vv) (f : Pt) (l : List Us) : Bool := (List.range l.length).all (fun i => !badU K l i) && decide (0 < sumU K f l)
theorem badU_at {K : List Vv} {l : List Us} {i : Nat} (h : i < l.length) : badU K l i = (!inU K l[i] || (seenU l i l[i].v || !decide ((usA K l[i]).v = (l[(i + 1) % l.length]'(Nat.mod_lt _ (by omega))).v))) := by
  unfold badU
  rw [List.getElem?_eq_getElem h]
  simp only [List.getD_eq_getElem?_getD, List.getElem?_eq_getElem (Nat.mod_lt (i + 1) (show 0 < l.length by omega)), Option.getD_some]
theorem circ_no {K : List Vv} {f : Pt} {l : List Us} {i : Nat} (h : i < l.length) (hb : badU K l i = true) : circB K f l = false := by
  unfold circB
  have : (List.range l.length).all (fun i => !badU K l i) = false := by
    rw [List.all_eq_false]; exact ⟨i, List.mem_range.2 h, by rw [hb]; simp⟩
  rw [this]; rfl
theorem circ_yes {K : List Vv} {f : Pt} {l : List Us} (h : ∀ i, i < l.length → badU K l i = false) : circB K f l = decide (0 < sumU K f l) := by
  unfold circB
  have : (List.range l.length).all (fun i => !badU K l i) = true := by
    rw [List.all_eq_true]; intro i hi; rw [h i (List.mem_range.1 hi)]; rfl
  rw [this]; rfl
theorem sumU_succ {K : List Vv} {f : Pt} {l : List Us} {i : Nat} (h : i < l.length) : sumU K f (l.take (i + 1)) = sumU K f (l.take i) + wtU K f l[i] := by
  unfold sumU
  rw [List.take_succ_eq_append_getElem h, List.map_append, List.sum_append]; simp
theorem seenU_succ {l : List Us} {k : Nat} (hk : k < l.length) (x : Int) : seenU l (k + 1) x = (seenU l k x || decide (l[k].v = x)) := by
  unfold seenU
  rw [List.take_succ_eq_append_getElem hk, List.any_append]; simp
theorem seenU_iff {l : List Us} {k : Nat} {x : Int} : seenU l k x = true ↔ ∃ i, ∃ (h : i < l.length), i < k ∧ l[i].v = x := by
  unfold seenU
  rw [List.any_eq_true]
  constructor
  · rintro ⟨v, hv, h⟩
    obtain ⟨i, hi, rfl⟩ := List.getElem_of_mem hv
    have h1 : i < k ∧ i < l.length := by rw [List.length_take] at hi; omega
    exact ⟨i, h1.2, h1.1, by rw [List.getElem_take] at h; exact of_decide_eq_true h⟩
  · rintro ⟨i, h, hij, rfl⟩
    exact ⟨l[i], List.mem_take_iff_getElem.2 ⟨i, by omega, rfl⟩, decide_eq_true rfl⟩
theorem argsA_at {K : List Vv} {k : Nat} (h : k < K.length) : argsA K (k : Int) = K[k].args := by
  unfold argsA; rw [Int.toNat_natCast, List.getElem?_eq_getElem h]
theorem inU_parts {K : List Vv} {u : Us} (h : inU K u = true) : ∃ (k j : Nat) (hk : k < K.length) (hj : j < K[k].args.length), u.v = k ∧ u.a = j ∧ usA K u = K[k].args[j] := by
  unfold inU at h
  rw [Bool.and_eq_true, bw_iff, bw_iff] at h
  obtain ⟨k, hk⟩ : ∃ k : Nat, u.v = k := ⟨u.v.toNat, by omega⟩
  obtain ⟨j, hj⟩ : ∃ j : Nat, u.a = j := ⟨u.a.toNat, by omega⟩
  have hkl : k < K.length := by omega
  have h2 := h.2
  rw [hk, argsA_at hkl] at h2
  have hjl : j < K[k].args.length := by omega
  refine ⟨k, j, hkl, hjl, hk, hj, ?_⟩
  unfold usA
  rw [hk, hj, argsA_at hkl, Int.toNat_natCast, List.getD_eq_getElem?_getD, List.getElem?_eq_getElem hjl]; rfl
/-- Arguments of valid recurrences are near. -/
def NearK (K : List Vv) : Prop := ∀ v ∈ K, ∀ a ∈ v.args, a.p.x.natAbs ≤ 3 ∧ a.p.y.natAbs ≤ 3 ∧ a.p.z.natAbs ≤ 3
theorem rec_near {n : Int} {l : List Iq} {K : List Vv} (h : recB n l K = true) : NearK K := by
  intro v hv a ha
  unfold recB at h
  rw [Bool.and_eq_true, Bool.and_eq_true, Bool.and_eq_true, Bool.and_eq_true] at h
  have h2 := List.all_eq_true.1 h.2.2.2.1 v hv
  simp only [varB, Bool.and_eq_true, decide_eq_true_eq] at h2
  have h3 := List.all_eq_true.1 h2.2.2.2.2 a ha
  simp only [argC, Bool.and_eq_true] at h3
  exact flat_abs h3.1
theorem wt_small {f p : Pt} (hf : f.x.natAbs ≤ 9 ∧ f.y.natAbs ≤ 9 ∧ f.z.natAbs ≤ 9) (hp : p.x.natAbs ≤ 3 ∧ p.y.natAbs ≤ 3 ∧ p.z.natAbs ≤ 3) : wrap64 (dotZ f p) = dotZ f p ∧ -81 ≤ dotZ f p ∧ dotZ f p ≤ 81 := by
  have h := dot_bd hf hp
  refine ⟨?_, by omega, by omega⟩
  unfold wrap64; omega
theorem wtU_small {K : List Vv} {f : Pt} {u : Us} (hN : NearK K) (hf : f.x.natAbs ≤ 9 ∧ f.y.natAbs ≤ 9 ∧ f.z.natAbs ≤ 9) (h : inU K u = true) : wrap64 (dotZ f (usA K u).p) = wtU K f u - 1 ∧ -80 ≤ wtU K f u ∧ wtU K f u ≤ 82 := by
  obtain ⟨k, j, hk, hj, -, -, e⟩ := inU_parts h
  have h1 := wt_small hf (hN _ (List.getElem_mem hk) _ (List.getElem_mem hj))
  rw [← e] at h1
  unfold wtU
  omega
theorem wf_mk {n : Int} (h : -9223372036854775808 ≤ n ∧ n ≤ 9223372036854775807) : (Lit.int .i64 n).wf = true := by simp [Lit.wf]; exact h
/-! ### The map of variables that were seen -/
def mapU (l : List Us) : Nat → DataW Unit
  | 0 => .map []
  | k + 1 => (mapU l k).put (.int .i64 (l.getD k default).v) (.lit (.bool true))
theorem mapU_isMap (l : List Us) : ∀ k, IsMap (mapU l k)
  | 0 => isMap_empty
  | k + 1 => (mapU_isMap l k).put _ _
theorem mapU_put {l : List Us} {k : Nat} (hk : k < l.length) : mapU l (k + 1) = (mapU l k).put (.int .i64 l[k].v) (.lit (.bool true)) := by
  simp [mapU, List.getElem?_eq_getElem hk]
theorem mapU_at {l : List Us} (x : Int) : ∀ {k : Nat}, k ≤ l.length → (mapU l k).atKey (.int .i64 x) (.lit (.bool false)) = .lit (.bool (seenU l k x))
  | 0, _ => by simp [mapU, seenU]; rfl
  | k + 1, hk => by
    have ih := mapU_at (l := l) x (k := k) (by omega)
    have hk' : k < l.length := by omega
    rw [mapU_put hk', seenU_succ hk']
    by_cases h : l[k].v = x
    · subst h
      rw [atKey_put_same (mapU_isMap l k) (k := .int .i64 l[k].v) trivial]; simp
    · rw [atKey_put_other (fun e => h (by injection e with _ e; exact e.symm)), ih]; simp [h]
end Go.Proofs.YtakbpjgnjfigcaaGreat

/- Delays of sums. -/
namespace Go.Proofs.YtakbpjgnjfigcaaGreat
open Go.RowKit

def delP (q : Sd) (v : Nat) (a : Ar) : Int := q.off.getD v 0 - q.off.getD a.v.toNat 0 - dotZ q.f a.p
theorem getD_mem {l : List Int} {v : Nat} (h : v < l.length) : l.getD v 0 = l[v] := by
  rw [List.getD_eq_getElem?_getD, List.getElem?_eq_getElem h]; rfl
theorem delW_small {n : Int} {l : List Iq} {K : List Vv} {q : Sd} (hc : chkE n l K [q] = 0) {v : Nat} (hv : v < K.length) {a : Ar} (ha : a ∈ K[v].args) : delW q v a = delP q v a ∧ -1081 ≤ delP q v a ∧ delP q v a ≤ 1081 := by
  obtain ⟨hrb, -, -, hk4, -, -, hf, hol, hob⟩ := chk_ok hc
  have h1 := wt_small (flat_abs hf) (rec_near hrb _ (List.getElem_mem hv) _ ha)
  have h2 := bw_iff.1 ((rec_args hrb _ (List.getElem_mem hv)).2 a ha)
  have hvo : v < q.off.length := by omega
  have hao : a.v.toNat < q.off.length := by omega
  have b1 := off_bd hob (List.getElem_mem hvo)
  have b2 := off_bd hob (List.getElem_mem hao)
  unfold delW delP
  rw [h1.1, getD_mem hvo, getD_mem hao]
  have e1 : IntKind.i64.wrap (q.off[v] - q.off[a.v.toNat]) = q.off[v] - q.off[a.v.toNat] := i64_small (by omega)
  have e2 : IntKind.i64.wrap (q.off[v] - q.off[a.v.toNat] - dotZ q.f a.p) = q.off[v] - q.off[a.v.toNat] - dotZ q.f a.p := i64_small (by omega)
  rw [e1, e2]
  exact ⟨rfl, by omega, by omega⟩
/-- q' is a times q and b times r. -/
structure Lin (nv : Nat) (a b : Int) (q' q r : Sd) : Prop where
  f : ∀ x : Pt, dotZ q'.f x = a * dotZ q.f x + b * dotZ r.f x
  off : ∀ v, v < nv → q'.off.getD v 0 = a * q.off.getD v 0 + b * r.off.getD v 0
theorem lin_del {n : Int} {l : List Iq} {K : List Vv} {a b : Int} {q' q r : Sd} (h' : chkE n l K [q'] = 0) (h1 : chkE n l K [q] = 0) (h2 : chkE n l K [r] = 0) (hl : Lin K.length a b q' q r) {v : Nat} (hv : v < K.length) {x : Ar} (hx : x ∈ K[v].args) : delW q' v x = a * delW q v x + b * delW r v x := by
  obtain ⟨hrb, -⟩ := chk_ok h'
  have h3 := bw_iff.1 ((rec_args hrb _ (List.getElem_mem hv)).2 x hx)
  rw [(delW_small h' hv hx).1, (delW_small h1 hv hx).1, (delW_small h2 hv hx).1]
  unfold delP
  rw [hl.f, hl.off v hv, hl.off x.v.toNat (by omega), Int.mul_sub, Int.mul_sub, Int.mul_sub, Int.mul_sub]
  omega
theorem lin_tab {n : Int} {l : List Iq} {K : List Vv} {a b : Int} {q' q r : Sd} (h' : chkE n l K [q'] = 0) (h1 : chkE n l K [q] = 0) (h2 : chkE n l K [r] = 0) (hl : Lin K.length a b q' q r) :
    ∃ T' T1 T2, delT K q' = T' ∧ delT K q = T1 ∧ delT K r = T2 ∧ T1.length = T'.length ∧ T2.length = T'.length ∧ T'.length ≤ 4 ∧ (∀ i (h : i < T'.length) (h1 : i < T1.length) (h2 : i < T2.length), T1[i].length = T'[i].length ∧ T2[i].length = T'[i].length ∧ T'[i].length ≤ 3 ∧
      ∀ j (g : j < T'[i].length) (g1 : j < T1[i].length) (g2 : j < T2[i].length), T'[i][j] = a * T1[i][j] + b * T2[i][j] ∧ (-1081 ≤ T'[i][j] ∧ T'[i][j] ≤ 1081) ∧ (-1081 ≤ T1[i][j] ∧ T1[i][j] ≤ 1081) ∧ (-1081 ≤ T2[i][j] ∧ T2[i][j] ≤ 1081)) := by
  obtain ⟨hrb, -, -, hk4, -⟩ := chk_ok h'
  refine ⟨_, _, _, rfl, rfl, rfl, by rw [delT_len, delT_len], by rw [delT_len, delT_len], by rw [delT_len]; exact hk4, fun i h g1 g2 => ?_⟩
  have hi : i < K.length := by rw [delT_len] at h; exact h
  have e0 := delT_row hi h; have e1 := delT_row hi g1; have e2 := delT_row hi g2
  refine ⟨by rw [e0, e1, List.length_map, List.length_map], by rw [e0, e2, List.length_map, List.length_map], by rw [e0, List.length_map]; exact (rec_args hrb _ (List.getElem_mem hi)).1, fun j g g1 g2 => ?_⟩
  have hj : j < K[i].args.length := by simpa [e0] using g
  have k0 : (delT K q')[i][j] = delW q' i K[i].args[j] := by simp only [e0, List.getElem_map]
  have k1 : (delT K q)[i][j] = delW q i K[i].args[j] := by simp only [e1, List.getElem_map]
  have k2 : (delT K r)[i][j] = delW r i K[i].args[j] := by simp only [e2, List.getElem_map]
  rw [k0, k1, k2]
  have m := List.getElem_mem hj
  obtain ⟨p0, p1, p2⟩ := delW_small h' hi m
  obtain ⟨q0, q1, q2⟩ := delW_small h1 hi m
  obtain ⟨r0, r1, r2⟩ := delW_small h2 hi m
  refine ⟨lin_del h' h1 h2 hl hi m, by rw [p0]; exact ⟨p1, p2⟩, by rw [q0]; exact ⟨q1, q2⟩, by rw [r0]; exact ⟨r1, r2⟩⟩
theorem leg_at {K : List Vv} {q : Sd} (h : legB K q = true) {i j : Nat} (hi : i < (delT K q).length) (hj : j < (delT K q)[i].length) : 1 ≤ (delT K q)[i][j] := by
  unfold legB at h
  have h1 := List.all_eq_true.1 (List.all_eq_true.1 h _ (List.getElem_mem hi)) _ (List.getElem_mem hj)
  simp [lt1] at h1; omega
theorem lin_leg {n : Int} {l : List Iq} {K : List Vv} {a b : Int} {q' q r : Sd} (h' : chkE n l K [q'] = 0) (h1 : chkE n l K [q] = 0) (h2 : chkE n l K [r] = 0) (hl : Lin K.length a b q' q r) (ha : 1 ≤ a) (hb : 0 ≤ b) (g1 : legB K q = true) (g2 : legB K r = true) : legB K q' = true := by
  refine leg_yes fun i hi j hj => ?_
  obtain ⟨T', T1, T2, e0, e1, e2, l1, l2, -, hrow⟩ := lin_tab h' h1 h2 hl
  subst e0; subst e1; subst e2
  obtain ⟨m1, m2, -, hel⟩ := hrow i hi (by omega) (by omega)
  obtain ⟨e, -⟩ := hel j hj (by omega) (by omega)
  have k1 := leg_at g1 (i := i) (j := j) (by omega) (by omega)
  have k2 := leg_at g2 (i := i) (j := j) (by omega) (by omega)
  rw [e]
  have p1 := Int.mul_le_mul ha k1 (by omega) (by omega)
  have p2 := Int.mul_nonneg hb (show 0 ≤ (delT K r)[i][j] by omega)
  omega
theorem chk_one {n : Int} {l : List Iq} {K : List Vv} {q : Sd} (hr : recB n l K = true) (hf : fitB n K.length q.f q.off = true) : chkE n l K [q] = 0 := by
  unfold chkE; rw [if_pos hr]; simp [Sd.fit, hf]
theorem chk_pair {n : Int} {l : List Iq} {K : List Vv} {q r : Sd} (h : chkE n l K [q, r] = 0) : chkE n l K [q] = 0 ∧ chkE n l K [r] = 0 := by
  unfold chkE at h ⊢
  by_cases hr : recB n l K = true
  · rw [if_pos hr] at h ⊢
    rw [if_pos hr]
    by_cases hf : ([q, r].all (Sd.fit n K.length)) = true
    · simp only [List.all_cons, List.all_nil, Bool.and_true, Bool.and_eq_true] at hf
      simp [hf.1, hf.2]
    · rw [if_neg hf] at h; cases h
  · rw [if_neg hr] at h; cases h
end Go.Proofs.YtakbpjgnjfigcaaGreat

/- What is asked of a recurrence and a form: the program and the reference. -/
namespace Go.Proofs.YtakbpjgnjfigcaaGreat
open Go.RowKit

def frmE (n : Int) (l : List Iq) (K : List Vv) (f : Pt) : Int := if recB n l K then (if flatB f n 9 then 0 else 30) else 20
theorem frm_ok {n : Int} {l : List Iq} {K : List Vv} {f : Pt} (h : frmE n l K f = 0) : recB n l K = true ∧ flatB f n 9 = true := by
  unfold frmE at h
  by_cases h1 : recB n l K = true
  · by_cases h2 : flatB f n 9 = true
    · exact ⟨h1, h2⟩
    · rw [if_pos h1, if_neg h2] at h; cases h
  · rw [if_neg h1] at h; cases h
set_option maxRecDepth 100000 in
set_option maxHeartbeats 1000000 in
theorem formed_c (n : Int) (s : Option Addr) (cap : Nat) (l : List Iq) (s2 : Option Addr) (cq : Nat) (K : List Vv) (f : Pt) (w : World) (hr : RecM w s l s2 cq K) :
    Calls Tryz.prog 59 #[.agg #[.int .i64 n, .slice s l.length cap, .slice s2 K.length cq], .agg #[.int .i64 f.x, .int .i64 f.y, .int .i64 f.z]] w fun e w' => e = .returned (.int .i64 (frmE n l K f)) ∧ Below w.heap.size w w' := by
  have hv := fun V (h : RecM V s l s2 cq K) => h.valid n cap
  have hf := fun V => isForm_c f n V
  unfold frmE
  obtain ⟨B, hB0⟩ : ∃ x, recB n l K = x := ⟨_, rfl⟩
  obtain ⟨C, hC0⟩ : ∃ x, flatB f n 9 = x := ⟨_, rfl⟩
  simp only [hB0] at hv ⊢
  simp only [hC0] at hf ⊢
  clear hB0 hC0
  replace hv := Lib.hid hv; replace hf := Lib.hid hf
  cases B
  all_goals
    cases C
    all_goals
      go_enter Tryz.func59, Tryz.ntmps59
      go_upto_region 1 with (fail)
      refine wp_world fun W HW => ?_
      have hB : Below w.heap.size w W := by rw [HW.out]; (repeat (first | exact Below.refl _ _ | refine Below.alloc ?_ (by simp; try omega) _ | refine Below.setCell ?_ (by simp) _ | refine Below.drew ?_))
      have d0 : W.cell? ⟨w.heap.size, 0, none⟩ = some (.int .i64 n) := by rw [HW.out]; simp [go_sem]
      have d1 : W.cell? ⟨w.heap.size, 1, none⟩ = some (.slice s l.length cap) := by rw [HW.out]; simp [go_sem]
      have d2 : W.cell? ⟨w.heap.size, 2, none⟩ = some (.slice s2 K.length cq) := by rw [HW.out]; simp [go_sem]
      have dl : w.heap.size < W.heap.size := World.block_lt_of_cell? W _ d0
      have g0 : W.cell? ⟨w.heap.size + 1, 0, none⟩ = some (.int .i64 f.x) := by rw [HW.out]; simp [go_sem]
      have g1 : W.cell? ⟨w.heap.size + 1, 1, none⟩ = some (.int .i64 f.y) := by rw [HW.out]; simp [go_sem]
      have g2 : W.cell? ⟨w.heap.size + 1, 2, none⟩ = some (.int .i64 f.z) := by rw [HW.out]; simp [go_sem]
      have gl : w.heap.size + 1 < W.heap.size := World.block_lt_of_cell? W _ g0
      try replace hr := up_of hB hr
      go_wp2_with (first | (go_at_call 69; refine (hv.out _ hr).mono ?_; rintro e W1 ⟨rfl, hb⟩; (try replace hr := up_of hb hr); (try replace hB := up_of hb hB); (try replace d0 := up_of hb d0); (try replace d1 := up_of hb d1); (try replace d2 := up_of hb d2); (try replace dl := up_of hb dl); (try replace g0 := up_of hb g0); (try replace g1 := up_of hb g1); (try replace g2 := up_of hb g2); (try replace gl := up_of hb gl)) | (go_at_call 103; refine (hf.out _).mono ?_; rintro e W1 ⟨rfl, hb⟩; (try replace hr := up_of hb hr); (try replace hB := up_of hb hB); (try replace d0 := up_of hb d0); (try replace d1 := up_of hb d1); (try replace d2 := up_of hb d2); (try replace dl := up_of hb dl); (try replace g0 := up_of hb g0); (try replace g1 := up_of hb g1); (try replace g2 := up_of hb g2); (try replace gl := up_of hb gl)))
      go_ret
      exact ⟨rfl, hB⟩
end Go.Proofs.YtakbpjgnjfigcaaGreat

/- Least offsets: the graph of a form; one look at a way. -/
namespace Go.Proofs.YtakbpjgnjfigcaaGreat
open Go.RowKit

/-- The graph of a form: for each variable, what its arguments use, and how much later it must be. -/
def grG (K : List Vv) (f : Pt) : Gr := K.map fun v => v.args.map fun a => (a.v.toNat, 1 + dotZ f a.p)
theorem gr_len (K : List Vv) (f : Pt) : (grG K f).length = K.length := List.length_map ..
theorem gr_row {K : List Vv} (f : Pt) {v : Nat} (h : v < K.length) : (grG K f).getD v [] = K[v].args.map fun a => (a.v.toNat, 1 + dotZ f a.p) := by
  unfold grG
  rw [List.getD_eq_getElem?_getD, List.getElem?_map, List.getElem?_eq_getElem h]; rfl
theorem gr_wf {K : List Vv} {f : Pt} (h : ∀ v ∈ K, v.args.length ≤ 3 ∧ ∀ a ∈ v.args, bw 0 a.v (K.length - 1) = true) : (grG K f).Wf := by
  intro v e he
  rw [gr_len]
  by_cases hv : v < K.length
  · rw [gr_row f hv] at he
    obtain ⟨a, ha, rfl⟩ := List.mem_map.1 he
    have := bw_iff.1 ((h _ (List.getElem_mem hv)).2 a ha)
    show a.v.toNat < K.length
    omega
  · rw [List.getD_eq_getElem?_getD, List.getElem?_eq_none (by rw [gr_len]; omega)] at he; cases he
/-- A row, its first j ways looked at. -/
def rxPart (G : Gr) (v : Nat) (st : List Int × Bool) (j : Nat) : List Int × Bool := rxRow st v ((G.getD v []).take j)
theorem part_zero (G : Gr) (v : Nat) (st : List Int × Bool) : rxPart G v st 0 = st := by simp [rxPart, rxRow]
theorem part_succ {G : Gr} {v : Nat} (st : List Int × Bool) {j : Nat} (h : j < (G.getD v []).length) : rxPart G v st (j + 1) = rx v (rxPart G v st j) (G.getD v [])[j] := by
  unfold rxPart rxRow
  rw [List.take_succ_eq_append_getElem h, List.foldl_append]; rfl
theorem part_all (G : Gr) (v : Nat) (st : List Int × Bool) : rxPart G v st (G.getD v []).length = rxRow st v (G.getD v []) := by
  unfold rxPart; rw [List.take_length]
theorem offPart_len (G : Gr) (v : Nat) (st : List Int × Bool) (j : Nat) : (rxPart G v st j).1.length = st.1.length := row_len _ _ _
/-- All numbers are between 0 and B. -/
def BetB (off : List Int) (B : Int) : Prop := ∀ x, 0 ≤ off.getD x 0 ∧ off.getD x 0 ≤ B
theorem BetB.mono {off : List Int} {B C : Int} (h : BetB off B) (hc : B ≤ C) : BetB off C := fun x => ⟨(h x).1, Int.le_trans (h x).2 hc⟩
theorem rx_bet {v : Nat} {st : List Int × Bool} (hv : v < st.1.length) {e : Nat × Int} {B : Int} (h : BetB st.1 B) (he : e.2 ≤ 82) : BetB (rx v st e).1 (B + 82) := by
  unfold rx
  split
  · rename_i hlt
    intro x
    rw [getD_set hv]
    have h1 := h v; have h2 := h e.1; have h3 := h x
    split
    · constructor <;> omega
    · constructor <;> omega
  · exact h.mono (by omega)
theorem bet_zeros (n : Nat) : BetB (zeros n) 0 := fun x => by rw [zeros_at]; omega
theorem bf_step (G : Gr) (k : Nat) (off : List Int) : bf G (k + 1) off = if (rxRound G off).2 then bf G k (rxRound G off).1 else some (rxRound G off).1 := rfl
/-- The least offsets of a form; none: there are none. -/
def bfR (K : List Vv) (f : Pt) : Option (List Int) := bf (grG K f) (K.length + 1) (zeros K.length)
/-- One argument's edge. -/
theorem edge_facts {K : List Vv} {f : Pt} (hA : ∀ v ∈ K, v.args.length ≤ 3 ∧ ∀ a ∈ v.args, bw 0 a.v (K.length - 1) = true) (hN : NearK K) (hf : f.x.natAbs ≤ 9 ∧ f.y.natAbs ≤ 9 ∧ f.z.natAbs ≤ 9) {v j : Nat} (hv : v < K.length) (hj : j < K[v].args.length) :
    ∃ (u : Nat) (d : Int), K[v].args[j].v = u ∧ u < K.length ∧ wrap64 (dotZ f K[v].args[j].p) = d ∧ -81 ≤ d ∧ d ≤ 81 ∧ ∀ st, rxPart (grG K f) v st (j + 1) = rx v (rxPart (grG K f) v st j) (u, 1 + d) := by
  have h1 := bw_iff.1 ((hA _ (List.getElem_mem hv)).2 _ (List.getElem_mem hj))
  have h2 := wt_small hf (hN _ (List.getElem_mem hv) _ (List.getElem_mem hj))
  refine ⟨K[v].args[j].v.toNat, _, by omega, by omega, h2.1, h2.2.1, h2.2.2, fun st => ?_⟩
  have hl : j < ((grG K f).getD v []).length := by rw [gr_row f hv, List.length_map]; exact hj
  rw [part_succ st hl]
  congr 1
  simp only [gr_row f hv, List.getElem_map]
end Go.Proofs.YtakbpjgnjfigcaaGreat

/- Least offsets make a form legal, and are below all legal ones: the law. -/
namespace Go.Proofs.YtakbpjgnjfigcaaGreat
open Go.RowKit

theorem del_eq {n : Int} {l : List Iq} {K : List Vv} {q : Sd} (hrb : recB n l K = true) {v : Nat} (hv : v < K.length) {a : Ar} (ha : a ∈ K[v].args) : ∃ u : Nat, a.v = u ∧ u < K.length := by
  have h2 := bw_iff.1 ((rec_args hrb _ (List.getElem_mem hv)).2 a ha)
  exact ⟨a.v.toNat, by omega, by omega⟩
theorem legal_feas {n : Int} {l : List Iq} {K : List Vv} {q : Sd} (hc : chkE n l K [q] = 0) (h : legB K q = true) : Feas (grG K q.f) q.off := by
  intro v hv e he
  rw [gr_len] at hv
  rw [gr_row q.f hv] at he
  obtain ⟨a, ha, rfl⟩ := List.mem_map.1 he
  obtain ⟨j, hj, rfl⟩ := List.getElem_of_mem ha
  have hd := (delW_small hc hv ha).1
  have hk : v < (delT K q).length := by rw [delT_len]; exact hv
  have er := delT_row hv hk
  have h1 := leg_at h hk (j := j) (by rw [er, List.length_map]; exact hj)
  have h2 : (delT K q)[v][j]'(by rw [er, List.length_map]; exact hj) = delW q v K[v].args[j] := by simp only [er, List.getElem_map]
  rw [h2, hd] at h1
  unfold delP at h1
  show q.off.getD K[v].args[j].v.toNat 0 + (1 + dotZ q.f K[v].args[j].p) ≤ q.off.getD v 0
  omega
theorem feas_legal {n : Int} {l : List Iq} {K : List Vv} {q : Sd} (hc : chkE n l K [q] = 0) (h : Feas (grG K q.f) q.off) : legB K q = true := by
  refine leg_yes fun v hk j hj => ?_
  have hv : v < K.length := by rw [delT_len] at hk; exact hk
  have er := delT_row hv hk
  have hja : j < K[v].args.length := by rw [er, List.length_map] at hj; exact hj
  have h2 : (delT K q)[v][j] = delW q v K[v].args[j] := by simp only [er, List.getElem_map]
  have ha := List.getElem_mem hja
  rw [h2, (delW_small hc hv ha).1]
  have h1 := h v (by rw [gr_len]; exact hv) (K[v].args[j].v.toNat, 1 + dotZ q.f K[v].args[j].p) (by rw [gr_row q.f hv]; exact List.mem_map.2 ⟨_, ha, rfl⟩)
  simp only at h1
  unfold delP
  omega
theorem pth_wt {K : List Vv} {f : Pt} (hN : NearK K) (hf : f.x.natAbs ≤ 9 ∧ f.y.natAbs ≤ 9 ∧ f.z.natAbs ≤ 9) {v z : Nat} {l : List (Nat × Nat)} {W : Int} (h : Pth (grG K f) v l z W) : W ≤ 82 * l.length := by
  induction h with
  | nil v => simp
  | @cons v i u z w W l e h ih =>
    have hv := edge_lt e
    rw [gr_len] at hv
    rw [gr_row f hv, List.getElem?_map] at e
    cases ha : K[v].args[i]? with
    | none => rw [ha] at e; cases e
    | some a =>
      rw [ha] at e
      simp only [Option.map_some, Option.some.injEq, Prod.mk.injEq] at e
      obtain ⟨hj, hja⟩ := List.getElem?_eq_some_iff.1 ha
      have hw := (wt_small hf (hN _ (List.getElem_mem hv) a (hja ▸ List.getElem_mem hj))).2.2
      have := e.2
      simp only [List.length_cons]
      omega
/-- What the rounds find fits, is legal, and is below every legal one. -/
theorem bf_prf {n : Int} {l : List Iq} {K : List Vv} {q : Sd} (hc : chkE n l K [q] = 0) {o : List Int} (hb : bfR K q.f = some o) (s : Option Addr) (c : Nat) :
    chkE n l K [⟨q.f, o, s, c⟩] = 0 ∧ legB K ⟨q.f, o, s, c⟩ = true ∧ o.length = K.length ∧ q.off.length = K.length ∧ K.length ≤ 4 ∧ (legB K q = true → ∀ i (h : i < o.length) (h2 : i < q.off.length), o[i] ≤ q.off[i]) := by
  obtain ⟨hrb, -, -, hk4, -, -, hf, hol, hob⟩ := chk_ok hc
  have h1 : bf (grG K q.f) (K.length + 1) (zeros (grG K q.f).length) = some o := by rw [gr_len]; exact hb
  have hW := gr_wf (f := q.f) (rec_args hrb)
  obtain ⟨e1, e2, e3⟩ := bf_ok h1
  rw [gr_len] at e1
  have hun := bf_under hW h1
  have hoff : offB o = true := by
    unfold offB
    rw [List.all_eq_true]
    intro x hx
    obtain ⟨i, hi, rfl⟩ := List.getElem_of_mem hx
    rw [bw_iff, ← getD_mem hi]
    obtain ⟨m, z, W, hs, hle⟩ := hun i (by rw [gr_len]; omega)
    have h2 := pth_wt (rec_near hrb) (flat_abs hf) hs.1
    have h3 := hs.len hW (by rw [gr_len]; omega)
    rw [gr_len] at h3
    have := e3 i
    omega
  have hfit : fitB n K.length q.f o = true := by
    unfold fitB
    rw [hf, hoff, decide_eq_true e1]; rfl
  have hc2 : chkE n l K [⟨q.f, o, s, c⟩] = 0 := chk_one hrb hfit
  refine ⟨hc2, feas_legal hc2 e2, e1, hol, hk4, fun hl i h h2 => ?_⟩
  rw [← getD_mem h, ← getD_mem h2]
  refine bf_least hW h1 (legal_feas hc hl) (fun j hj => ?_) i (by rw [gr_len]; omega)
  rw [gr_len] at hj
  rw [getD_mem (by omega)]
  exact (off_bd hob (List.getElem_mem (by omega))).1
theorem bf_nolegal {n : Int} {l : List Iq} {K : List Vv} {q : Sd} (hc : chkE n l K [q] = 0) (hb : bfR K q.f = none) : legB K q = false := by
  cases hl : legB K q
  · rfl
  · obtain ⟨hrb, -⟩ := chk_ok hc
    have := bf_some (gr_wf (f := q.f) (rec_args hrb)) (legal_feas hc hl).noCirc
    rw [gr_len] at this
    exact absurd hb this
theorem chk_frm {n : Int} {l : List Iq} {K : List Vv} {q : Sd} (hc : chkE n l K [q] = 0) : frmE n l K q.f = 0 := by
  obtain ⟨hrb, -, -, hk4, -, -, hf, hol, hob⟩ := chk_ok hc
  unfold frmE
  rw [if_pos hrb, if_pos hf]
theorem chk_vld {n : Int} {l : List Iq} {K : List Vv} {q : Sd} (h : (recB n l K && q.fit n K.length) = true) : chkE n l K [q] = 0 := by
  rw [Bool.and_eq_true] at h
  unfold chkE
  rw [if_pos h.1, if_pos (by simp [h.2])]
end Go.Proofs.YtakbpjgnjfigcaaGreat

/- The best schedule: what is looked for, and that it is the best. -/
namespace Go.Proofs.YtakbpjgnjfigcaaGreat
open Go.RowKit

/-- How far a coefficient goes. -/
def fa (n m : Int) (i : Nat) : Int := if (i : Int) < n then m else 0
def frZ (n m x y : Int) (l : List Int) : List Pt := l.map fun z => ⟨x, y, z⟩
def frY (n m x : Int) (l : List Int) : List Pt := l.flatMap fun y => frZ n m x y (up (-fa n m 2) (fa n m 2))
def frX (n m : Int) (l : List Int) : List Pt := l.flatMap fun x => frY n m x (up (-fa n m 1) (fa n m 1))
/-- All forms, in order. -/
def frm (n m : Int) : List Pt := frX n m (up (-fa n m 0) (fa n m 0))
theorem snoc_ind {α : Type} {P : List α → Prop} (h0 : P []) (h1 : ∀ l a, P l → P (l ++ [a])) (l : List α) : P l := by
  have h : ∀ m : List α, P m.reverse := fun m => by
    induction m with
    | nil => exact h0
    | cons a m ih => rw [List.reverse_cons]; exact h1 _ _ ih
  have := h l.reverse
  rwa [List.reverse_reverse] at this
theorem rec_vars {n : Int} {l : List Iq} {K : List Vv} (h : recB n l K = true) : 1 ≤ K.length ∧ K.length ≤ 4 := by
  unfold recB at h
  rw [Bool.and_eq_true, Bool.and_eq_true, Bool.and_eq_true] at h
  have := bw_iff.1 h.2.2.1
  omega
theorem frm_mem {n m : Int} {f : Pt} : f ∈ frm n m ↔ (-fa n m 0 ≤ f.x ∧ f.x ≤ fa n m 0) ∧ (-fa n m 1 ≤ f.y ∧ f.y ≤ fa n m 1) ∧ (-fa n m 2 ≤ f.z ∧ f.z ≤ fa n m 2) := by
  simp only [frm, frX, frY, frZ, List.mem_flatMap, List.mem_map, mem_up]
  constructor
  · rintro ⟨x, hx, y, hy, z, hz, rfl⟩
    exact ⟨hx, hy, hz⟩
  · rintro ⟨hx, hy, hz⟩
    exact ⟨f.x, hx, f.y, hy, f.z, hz, rfl⟩
/-- The latency of a form with offsets. -/
def latF (P : List Pt) (f : Pt) (o : List Int) : Int := hiL (P.map (tmP f)) - loL (P.map (tmP f)) + (hiL o - loL o) + 1
/-- The best up to now, and one more form. -/
def bstS (K : List Vv) (P : List Pt) (b : Option (Pt × List Int)) (f : Pt) : Option (Pt × List Int) :=
  match bfR K f with
  | none => b
  | some o => match b with
    | none => some (f, o)
    | some (g, u) => if latF P f o < latF P g u then some (f, o) else some (g, u)
def bstL (K : List Vv) (P : List Pt) (L : List Pt) : Option (Pt × List Int) := L.foldl (bstS K P) none
theorem bst_snoc (K : List Vv) (P L : List Pt) (f : Pt) : bstL K P (L ++ [f]) = bstS K P (bstL K P L) f := by simp [bstL]
theorem bst_none {K : List Vv} {P L : List Pt} : bstL K P L = none → ∀ f ∈ L, bfR K f = none := by
  refine snoc_ind (P := fun L => bstL K P L = none → ∀ f ∈ L, bfR K f = none) ?_ ?_ L
  · intro _ f hf; cases hf
  · intro L f ih h
    rw [bst_snoc] at h
    unfold bstS at h
    cases hb : bfR K f with
    | some o =>
      rw [hb] at h
      simp only at h
      cases hc : bstL K P L with
      | none => rw [hc] at h; cases h
      | some x => rw [hc] at h; simp only at h; split at h <;> cases h
    | none =>
      rw [hb] at h
      simp only at h
      intro g hg
      rcases List.mem_append.1 hg with hg | hg
      · exact ih h g hg
      · simp at hg; subst hg; exact hb
theorem bst_some {K : List Vv} {P L : List Pt} : ∀ {g : Pt} {u : List Int}, bstL K P L = some (g, u) → g ∈ L ∧ bfR K g = some u ∧ ∀ f ∈ L, ∀ o, bfR K f = some o → latF P g u ≤ latF P f o := by
  refine snoc_ind (P := fun L => ∀ {g : Pt} {u : List Int}, bstL K P L = some (g, u) → g ∈ L ∧ bfR K g = some u ∧ ∀ f ∈ L, ∀ o, bfR K f = some o → latF P g u ≤ latF P f o) ?_ ?_ L
  · intro g u h; cases h
  · intro L f ih g u h
    rw [bst_snoc] at h
    unfold bstS at h
    cases hb : bfR K f with
    | none =>
      rw [hb] at h
      simp only at h
      obtain ⟨h1, h2, h3⟩ := ih h
      refine ⟨List.mem_append_left _ h1, h2, fun x hx o ho => ?_⟩
      rcases List.mem_append.1 hx with hx | hx
      · exact h3 x hx o ho
      · simp at hx; subst hx; rw [hb] at ho; cases ho
    | some o =>
      rw [hb] at h
      simp only at h
      cases hc : bstL K P L with
      | none =>
        rw [hc] at h
        cases h
        refine ⟨by simp, hb, fun x hx o' ho => ?_⟩
        rcases List.mem_append.1 hx with hx | hx
        · rw [bst_none hc x hx] at ho; cases ho
        · simp at hx; subst hx; rw [hb] at ho; cases ho; exact Int.le_refl _
      | some x =>
        obtain ⟨g', u'⟩ := x
        rw [hc] at h
        simp only at h
        obtain ⟨h1, h2, h3⟩ := ih hc
        split at h
        · rename_i hlt
          cases h
          refine ⟨by simp, hb, fun x hx o' ho => ?_⟩
          rcases List.mem_append.1 hx with hx | hx
          · have := h3 x hx o' ho; omega
          · simp at hx; subst hx; rw [hb] at ho; cases ho; exact Int.le_refl _
        · rename_i hlt
          cases h
          refine ⟨List.mem_append_left _ h1, h2, fun x hx o' ho => ?_⟩
          rcases List.mem_append.1 hx with hx | hx
          · exact h3 x hx o' ho
          · simp at hx; subst hx; rw [hb] at ho; cases ho; omega
/-- Least offsets have the least spread among the legal ones. -/
theorem least_spread {n : Int} {l : List Iq} {K : List Vv} {q : Sd} (hc : chkE n l K [q] = 0) (hl : legB K q = true) {o : List Int} (hb : bfR K q.f = some o) (P : List Pt) : latF P q.f o ≤ latF P q.f q.off := by
  obtain ⟨hrb, -, hk1, hk4, -, -, hf, hol, hob⟩ := chk_ok hc
  have h1 : bf (grG K q.f) (K.length + 1) (zeros (grG K q.f).length) = some o := by rw [gr_len]; exact hb
  have hW := gr_wf (f := q.f) (rec_args hrb)
  obtain ⟨e1, e2, e3⟩ := bf_ok h1
  rw [gr_len] at e1
  have hone : o ≠ [] := by rintro rfl; simp at e1; omega
  have hqne : q.off ≠ [] := by intro e; rw [e] at hol; simp at hol; omega
  have hlo := loL_spec hqne
  have hhi := hiL_spec hqne
  have olo := loL_spec hone
  have ohi := hiL_spec hone
  have hfe := legal_feas hc hl
  obtain ⟨c, hcc⟩ : ∃ c, loL q.off = c := ⟨_, rfl⟩
  have hat : ∀ j, j < K.length → (q.off.map (· - c)).getD j 0 = q.off.getD j 0 - c := fun j hj => by
    rw [List.getD_eq_getElem?_getD, List.getElem?_map, List.getElem?_eq_getElem (by omega), List.getD_eq_getElem?_getD, List.getElem?_eq_getElem (by omega)]
    rfl
  have hle : ∀ j, j < K.length → o.getD j 0 ≤ q.off.getD j 0 - c := fun j hj => by
    have := bf_least hW h1 (s := q.off.map (· - c)) (fun v hv e he => by
      have h2 := hfe v hv e he
      have h3 := hW v e he
      rw [gr_len] at hv h3
      rw [hat v hv, hat e.1 h3]
      omega) (fun j hj => by
      rw [gr_len] at hj
      rw [hat j hj]
      have h4 : j < q.off.length := by omega
      have := hlo.2 _ (List.getElem_mem h4)
      rw [getD_mem h4]; omega) j (by rw [gr_len]; exact hj)
    rw [hat j hj] at this
    exact this
  have k1 : hiL o ≤ hiL q.off - c := by
    obtain ⟨i, hi, e⟩ := List.getElem_of_mem ohi.1
    have h4 : i < q.off.length := by omega
    have h5 := hle i (by omega)
    have h6 := hhi.2 _ (List.getElem_mem h4)
    rw [getD_mem hi, getD_mem h4] at h5
    omega
  have k2 : 0 ≤ loL o := by
    obtain ⟨i, hi, e⟩ := List.getElem_of_mem olo.1
    have h5 := e3 i
    rw [getD_mem hi] at h5
    omega
  unfold latF
  omega
/-- No legal schedule with such a form has a lesser latency than the best. -/
theorem bst_least {n m : Int} {l : List Iq} {K : List Vv} {q : Sd} (hc : chkE n l K [q] = 0) (hl : legB K q = true) (hq : q.f ∈ frm n m) (P : List Pt) : ∃ g u, bstL K P (frm n m) = some (g, u) ∧ latF P g u ≤ latF P q.f q.off := by
  cases hb : bfR K q.f with
  | none => rw [bf_nolegal hc hb] at hl; cases hl
  | some o =>
    cases hc2 : bstL K P (frm n m) with
    | none => rw [bst_none hc2 _ hq] at hb; cases hb
    | some x =>
      obtain ⟨g, u⟩ := x
      exact ⟨g, u, rfl, Int.le_trans ((bst_some hc2).2.2 _ hq _ hb) (least_spread hc hl hb P)⟩
/-- The best one is legal. -/
theorem bst_legal {n m : Int} {l : List Iq} {K : List Vv} (hrb : recB n l K = true) (hn : 1 ≤ n ∧ n ≤ 3) (hm : 0 ≤ m ∧ m ≤ 3) {P : List Pt} {g : Pt} {u : List Int} (h : bstL K P (frm n m) = some (g, u)) (s : Option Addr) (c : Nat) : chkE n l K [⟨g, u, s, c⟩] = 0 ∧ legB K ⟨g, u, s, c⟩ = true ∧ u.length = K.length := by
  obtain ⟨h1, h2, -⟩ := bst_some h
  have hfm := frm_mem.1 h1
  have hf : flatB g n 9 = true := by
    simp only [flatB, flatC, Bool.and_eq_true, bw_iff, fa] at hfm ⊢
    repeat' split at hfm
    all_goals simp only [decide_eq_true_eq, Bool.or_eq_true]
    all_goals omega
  have hk := rec_vars hrb
  have h0 : chkE n l K [⟨g, zeros K.length, none, 0⟩] = 0 := chk_one hrb (by
    unfold fitB
    rw [hf, decide_eq_true (zeros_len _)]
    show offB _ = true
    unfold offB
    rw [List.all_eq_true]
    intro x hx
    rw [zeros, List.mem_replicate] at hx
    rw [hx.2]; decide)
  obtain ⟨c1, c2, c3, -⟩ := bf_prf h0 h2 s c
  exact ⟨c1, c2, c3⟩
end Go.Proofs.YtakbpjgnjfigcaaGreat

/- The best schedule: its numbers are small. -/
namespace Go.Proofs.YtakbpjgnjfigcaaGreat
open Go.RowKit

theorem frm_abs {n m : Int} (hm : 0 ≤ m ∧ m ≤ 3) {f : Pt} (h : f ∈ frm n m) : f.x.natAbs ≤ 9 ∧ f.y.natAbs ≤ 9 ∧ f.z.natAbs ≤ 9 := by
  have hfm := frm_mem.1 h
  simp only [fa] at hfm
  repeat' split at hfm
  all_goals omega
theorem bf_small {n : Int} {l : List Iq} {K : List Vv} (hrb : recB n l K = true) {m : Int} (hn : 1 ≤ n ∧ n ≤ 3) (hm : 0 ≤ m ∧ m ≤ 3) {f : Pt} (hf : f ∈ frm n m) {o : List Int} (hb : bfR K f = some o) : o.length = K.length ∧ ∀ x ∈ o, 0 ≤ x ∧ x ≤ 1000 := by
  have h1 : bstL K [] (frm n m) = bstL K [] (frm n m) := rfl
  have hk := rec_vars hrb
  have hfl : flatB f n 9 = true := by
    have hfm := frm_mem.1 hf
    simp only [flatB, flatC, Bool.and_eq_true, bw_iff, fa] at hfm ⊢
    repeat' split at hfm
    all_goals simp only [decide_eq_true_eq, Bool.or_eq_true]
    all_goals omega
  have h0 : chkE n l K [⟨f, zeros K.length, none, 0⟩] = 0 := chk_one hrb (by
    unfold fitB
    rw [hfl, decide_eq_true (zeros_len _)]
    show offB _ = true
    unfold offB
    rw [List.all_eq_true]
    intro x hx
    rw [zeros, List.mem_replicate] at hx
    rw [hx.2]; decide)
  obtain ⟨c1, c2, c3, -⟩ := bf_prf h0 hb none 0
  obtain ⟨-, -, -, -, -, -, -, -, hob⟩ := chk_ok c1
  exact ⟨c3, fun x hx => off_bd hob hx⟩
theorem lat_parts {n : Int} {l : List Iq} {f : Pt} {o : List Int} (hf : f.x.natAbs ≤ 9 ∧ f.y.natAbs ≤ 9 ∧ f.z.natAbs ≤ 9) (hP : pts n l ≠ []) (ho : o ≠ []) (hob : ∀ x ∈ o, 0 ≤ x ∧ x ≤ 1000) :
    ∃ a b c d, loL ((pts n l).map (tmP f)) = a ∧ hiL ((pts n l).map (tmP f)) = b ∧ loL o = c ∧ hiL o = d ∧ latF (pts n l) f o = b - a + (d - c) + 1 ∧ (-540 ≤ a ∧ a ≤ b ∧ b ≤ 540) ∧ (0 ≤ c ∧ c ≤ d ∧ d ≤ 1000) := by
  have hPm : (pts n l).map (tmP f) ≠ [] := by simpa using hP
  obtain ⟨l1, l2⟩ := loL_spec hPm
  obtain ⟨u1, u2⟩ := hiL_spec hPm
  obtain ⟨c1, c2⟩ := loL_spec ho
  obtain ⟨d1, d2⟩ := hiL_spec ho
  have hb : ∀ x ∈ (pts n l).map (tmP f), -540 ≤ x ∧ x ≤ 540 := fun x hx => by
    obtain ⟨p, hp, rfl⟩ := List.mem_map.1 hx
    have := tm_small hf (pts_abs hp)
    unfold tmP
    omega
  refine ⟨_, _, _, _, rfl, rfl, rfl, rfl, rfl, ⟨(hb _ l1).1, u2 _ l1, (hb _ u1).2⟩, (hob _ c1).1, d2 _ c1, (hob _ d1).2⟩
end Go.Proofs.YtakbpjgnjfigcaaGreat
