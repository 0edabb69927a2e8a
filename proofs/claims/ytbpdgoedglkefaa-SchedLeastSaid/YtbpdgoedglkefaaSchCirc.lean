/- Circles of uses: what they are. -/
import Derived.Test.YtbpdgoedglkefaaSchLaw2
import Derived.Test.YtbpdgoedglkefaaSchArg
import Derived.Test.YtbpdgoedglkefaaB4
import Derived.Test.YtbpdgoedglkefaaB1

namespace Go.Proofs.Ytbpdgoedglkefaa
open Go.RowKit Go.Maps

/-- A use: a variable, and which of its arguments. -/
structure Us where
  v : Int
  a : Int
instance : Inhabited Us := ⟨⟨0, 0⟩⟩
def usE : Elt Us := ⟨2, fun u => [.int .i64 u.v, .int .i64 u.a], by decide, fun _ => rfl, fun _ u h => by simp at h; rcases h with rfl | rfl <;> rfl⟩
theorem SlS.us_at {w : World} {s : Option Addr} {l : List Us} (c : SlS usE w s l) {i : Nat} (h : i < l.length) :
    ∃ b off, s = some ⟨b, off, none⟩ ∧ b < w.heap.size ∧ w.cell? ⟨b, off + i * 2, none⟩ = some (.int .i64 l[i].v) ∧ w.cell? ⟨b, off + i * 2 + 1, none⟩ = some (.int .i64 l[i].a) := by
  obtain ⟨b, off, e, hb, hc⟩ := c.at h
  have h0 := hc 0 _ rfl
  have h1 := hc 1 _ rfl
  simp only [usE, Nat.add_zero] at h0 h1
  exact ⟨b, off, e, hb, h0, h1⟩
def argsA (K : List Vv) (v : Int) : List Ar := match K[v.toNat]? with
  | some x => x.args
  | none => []
def inU (K : List Vv) (u : Us) : Bool := bw 0 u.v (K.length - 1) && bw 0 u.a ((argsA K u.v).length - 1)
/-- The argument that a use names. -/
def usA (K : List Vv) (u : Us) : Ar := (argsA K u.v).getD u.a.toNat ⟨0, ⟨0, 0, 0⟩⟩
def seenU (l : List Us) (i : Nat) (x : Int) : Bool := (l.take i).any fun u => decide (u.v = x)
/-- What is wrong with use i. -/
def badU (K : List Vv) (l : List Us) (i : Nat) : Bool := match l[i]? with
  | some u => !inU K u || (seenU l i u.v || !decide ((usA K u).v = (l.getD ((i + 1) % l.length) default).v))
  | none => false
def wtU (K : List Vv) (f : Pt) (u : Us) : Int := 1 + dotZ f (usA K u).p
def sumU (K : List Vv) (f : Pt) (l : List Us) : Int := (l.map (wtU K f)).sum
/-- Whether uses are a circle. -/
def circB (K : List Vv) (f : Pt) (l : List Us) : Bool := (List.range l.length).all (fun i => !badU K l i) && decide (0 < sumU K f l)
theorem badU_at {K : List Vv} {l : List Us} {i : Nat} (h : i < l.length) : badU K l i = (!inU K l[i] || (seenU l i l[i].v || !decide ((usA K l[i]).v = (l[(i + 1) % l.length]'(Nat.mod_lt _ (by omega))).v))) := by
  unfold badU
  rw [List.getElem?_eq_getElem h]
  simp only [List.getD_eq_getElem?_getD, List.getElem?_eq_getElem (Nat.mod_lt (i + 1) (show 0 < l.length by omega)), Option.getD_some]
theorem circ_no {K : List Vv} {f : Pt} {l : List Us} {i : Nat} (h : i < l.length) (hb : badU K l i = true) : circB K f l = false := by
  unfold circB
  have : (List.range l.length).all (fun i => !badU K l i) = false := by
    rw [List.all_eq_false]; exact ⟨i, List.mem_range.2 h, by rw [hb]; simp⟩
  rw [this]; rfl
theorem circ_yes {K : List Vv} {f : Pt} {l : List Us} (h : ∀ i, i < l.length → badU K l i = false) : circB K f l = decide (0 < sumU K f l) := by
  unfold circB
  have : (List.range l.length).all (fun i => !badU K l i) = true := by
    rw [List.all_eq_true]; intro i hi; rw [h i (List.mem_range.1 hi)]; rfl
  rw [this]; rfl
theorem sumU_succ {K : List Vv} {f : Pt} {l : List Us} {i : Nat} (h : i < l.length) : sumU K f (l.take (i + 1)) = sumU K f (l.take i) + wtU K f l[i] := by
  unfold sumU
  rw [List.take_succ_eq_append_getElem h, List.map_append, List.sum_append]; simp
theorem seenU_succ {l : List Us} {k : Nat} (hk : k < l.length) (x : Int) : seenU l (k + 1) x = (seenU l k x || decide (l[k].v = x)) := by
  unfold seenU
  rw [List.take_succ_eq_append_getElem hk, List.any_append]; simp
theorem seenU_iff {l : List Us} {k : Nat} {x : Int} : seenU l k x = true ↔ ∃ i, ∃ (h : i < l.length), i < k ∧ l[i].v = x := by
  unfold seenU
  rw [List.any_eq_true]
  constructor
  · rintro ⟨v, hv, h⟩
    obtain ⟨i, hi, rfl⟩ := List.getElem_of_mem hv
    have h1 : i < k ∧ i < l.length := by rw [List.length_take] at hi; omega
    exact ⟨i, h1.2, h1.1, by rw [List.getElem_take] at h; exact of_decide_eq_true h⟩
  · rintro ⟨i, h, hij, rfl⟩
    exact ⟨l[i], List.mem_take_iff_getElem.2 ⟨i, by omega, rfl⟩, decide_eq_true rfl⟩
theorem argsA_at {K : List Vv} {k : Nat} (h : k < K.length) : argsA K (k : Int) = K[k].args := by
  unfold argsA; rw [Int.toNat_natCast, List.getElem?_eq_getElem h]
theorem inU_parts {K : List Vv} {u : Us} (h : inU K u = true) : ∃ (k j : Nat) (hk : k < K.length) (hj : j < K[k].args.length), u.v = k ∧ u.a = j ∧ usA K u = K[k].args[j] := by
  unfold inU at h
  rw [Bool.and_eq_true, bw_iff, bw_iff] at h
  obtain ⟨k, hk⟩ : ∃ k : Nat, u.v = k := ⟨u.v.toNat, by omega⟩
  obtain ⟨j, hj⟩ : ∃ j : Nat, u.a = j := ⟨u.a.toNat, by omega⟩
  have hkl : k < K.length := by omega
  have h2 := h.2
  rw [hk, argsA_at hkl] at h2
  have hjl : j < K[k].args.length := by omega
  refine ⟨k, j, hkl, hjl, hk, hj, ?_⟩
  unfold usA
  rw [hk, hj, argsA_at hkl, Int.toNat_natCast, List.getD_eq_getElem?_getD, List.getElem?_eq_getElem hjl]; rfl
/-- Arguments of valid recurrences are near. -/
def NearK (K : List Vv) : Prop := ∀ v ∈ K, ∀ a ∈ v.args, a.p.x.natAbs ≤ 3 ∧ a.p.y.natAbs ≤ 3 ∧ a.p.z.natAbs ≤ 3
theorem rec_near {n : Int} {l : List Iq} {K : List Vv} (h : recB n l K = true) : NearK K := by
  intro v hv a ha
  unfold recB at h
  rw [Bool.and_eq_true, Bool.and_eq_true, Bool.and_eq_true, Bool.and_eq_true] at h
  have h2 := List.all_eq_true.1 h.2.2.2.1 v hv
  simp only [varB, Bool.and_eq_true, decide_eq_true_eq] at h2
  have h3 := List.all_eq_true.1 h2.2.2.2.2 a ha
  simp only [argC, Bool.and_eq_true] at h3
  exact flat_abs h3.1
theorem wt_small {f p : Pt} (hf : f.x.natAbs ≤ 9 ∧ f.y.natAbs ≤ 9 ∧ f.z.natAbs ≤ 9) (hp : p.x.natAbs ≤ 3 ∧ p.y.natAbs ≤ 3 ∧ p.z.natAbs ≤ 3) : wrap64 (dotZ f p) = dotZ f p ∧ -81 ≤ dotZ f p ∧ dotZ f p ≤ 81 := by
  have h := dot_bd hf hp
  refine ⟨?_, by omega, by omega⟩
  unfold wrap64; omega
theorem wtU_small {K : List Vv} {f : Pt} {u : Us} (hN : NearK K) (hf : f.x.natAbs ≤ 9 ∧ f.y.natAbs ≤ 9 ∧ f.z.natAbs ≤ 9) (h : inU K u = true) : wrap64 (dotZ f (usA K u).p) = wtU K f u - 1 ∧ -80 ≤ wtU K f u ∧ wtU K f u ≤ 82 := by
  obtain ⟨k, j, hk, hj, -, -, e⟩ := inU_parts h
  have h1 := wt_small hf (hN _ (List.getElem_mem hk) _ (List.getElem_mem hj))
  rw [← e] at h1
  unfold wtU
  omega
theorem wf_mk {n : Int} (h : -9223372036854775808 ≤ n ∧ n ≤ 9223372036854775807) : (Lit.int .i64 n).wf = true := by simp [Lit.wf]; exact h
/-! ### The map of variables that were seen -/
def mapU (l : List Us) : Nat → DataW Unit
  | 0 => .map []
  | k + 1 => (mapU l k).put (.int .i64 (l.getD k default).v) (.lit (.bool true))
theorem mapU_isMap (l : List Us) : ∀ k, IsMap (mapU l k)
  | 0 => isMap_empty
  | k + 1 => (mapU_isMap l k).put _ _
theorem mapU_put {l : List Us} {k : Nat} (hk : k < l.length) : mapU l (k + 1) = (mapU l k).put (.int .i64 l[k].v) (.lit (.bool true)) := by
  simp [mapU, List.getElem?_eq_getElem hk]
theorem mapU_at {l : List Us} (x : Int) : ∀ {k : Nat}, k ≤ l.length → (mapU l k).atKey (.int .i64 x) (.lit (.bool false)) = .lit (.bool (seenU l k x))
  | 0, _ => by simp [mapU, seenU]; rfl
  | k + 1, hk => by
    have ih := mapU_at (l := l) x (k := k) (by omega)
    have hk' : k < l.length := by omega
    rw [mapU_put hk', seenU_succ hk']
    by_cases h : l[k].v = x
    · subst h
      rw [atKey_put_same (mapU_isMap l k) (k := .int .i64 l[k].v) trivial]; simp
    · rw [atKey_put_other (fun e => h (by injection e with _ e; exact e.symm)), ih]; simp [h]
end Go.Proofs.Ytbpdgoedglkefaa
