/- Delays of sums. -/
import Derived.Test.YtbpdgoedglkefaaSch22
import Derived.Test.YtbpdgoedglkefaaSchCirc
namespace Go.Proofs.Ytbpdgoedglkefaa
open Go.RowKit

def delP (q : Sd) (v : Nat) (a : Ar) : Int := q.off.getD v 0 - q.off.getD a.v.toNat 0 - dotZ q.f a.p
theorem getD_mem {l : List Int} {v : Nat} (h : v < l.length) : l.getD v 0 = l[v] := by
  rw [List.getD_eq_getElem?_getD, List.getElem?_eq_getElem h]; rfl
theorem delW_small {n : Int} {l : List Iq} {K : List Vv} {q : Sd} (hc : chkE n l K [q] = 0) {v : Nat} (hv : v < K.length) {a : Ar} (ha : a ∈ K[v].args) : delW q v a = delP q v a ∧ -1081 ≤ delP q v a ∧ delP q v a ≤ 1081 := by
  obtain ⟨hrb, -, -, hk4, -, -, hf, hol, hob⟩ := chk_ok hc
  have h1 := wt_small (flat_abs hf) (rec_near hrb _ (List.getElem_mem hv) _ ha)
  have h2 := bw_iff.1 ((rec_args hrb _ (List.getElem_mem hv)).2 a ha)
  have hvo : v < q.off.length := by omega
  have hao : a.v.toNat < q.off.length := by omega
  have b1 := off_bd hob (List.getElem_mem hvo)
  have b2 := off_bd hob (List.getElem_mem hao)
  unfold delW delP
  rw [h1.1, getD_mem hvo, getD_mem hao]
  have e1 : IntKind.i64.wrap (q.off[v] - q.off[a.v.toNat]) = q.off[v] - q.off[a.v.toNat] := i64_small (by omega)
  have e2 : IntKind.i64.wrap (q.off[v] - q.off[a.v.toNat] - dotZ q.f a.p) = q.off[v] - q.off[a.v.toNat] - dotZ q.f a.p := i64_small (by omega)
  rw [e1, e2]
  exact ⟨rfl, by omega, by omega⟩
/-- q' is a times q and b times r. -/
structure Lin (nv : Nat) (a b : Int) (q' q r : Sd) : Prop where
  f : ∀ x : Pt, dotZ q'.f x = a * dotZ q.f x + b * dotZ r.f x
  off : ∀ v, v < nv → q'.off.getD v 0 = a * q.off.getD v 0 + b * r.off.getD v 0
theorem lin_del {n : Int} {l : List Iq} {K : List Vv} {a b : Int} {q' q r : Sd} (h' : chkE n l K [q'] = 0) (h1 : chkE n l K [q] = 0) (h2 : chkE n l K [r] = 0) (hl : Lin K.length a b q' q r) {v : Nat} (hv : v < K.length) {x : Ar} (hx : x ∈ K[v].args) : delW q' v x = a * delW q v x + b * delW r v x := by
  obtain ⟨hrb, -⟩ := chk_ok h'
  have h3 := bw_iff.1 ((rec_args hrb _ (List.getElem_mem hv)).2 x hx)
  rw [(delW_small h' hv hx).1, (delW_small h1 hv hx).1, (delW_small h2 hv hx).1]
  unfold delP
  rw [hl.f, hl.off v hv, hl.off x.v.toNat (by omega), Int.mul_sub, Int.mul_sub, Int.mul_sub, Int.mul_sub]
  omega
theorem lin_tab {n : Int} {l : List Iq} {K : List Vv} {a b : Int} {q' q r : Sd} (h' : chkE n l K [q'] = 0) (h1 : chkE n l K [q] = 0) (h2 : chkE n l K [r] = 0) (hl : Lin K.length a b q' q r) :
    ∃ T' T1 T2, delT K q' = T' ∧ delT K q = T1 ∧ delT K r = T2 ∧ T1.length = T'.length ∧ T2.length = T'.length ∧ T'.length ≤ 4 ∧ (∀ i (h : i < T'.length) (h1 : i < T1.length) (h2 : i < T2.length), T1[i].length = T'[i].length ∧ T2[i].length = T'[i].length ∧ T'[i].length ≤ 3 ∧
      ∀ j (g : j < T'[i].length) (g1 : j < T1[i].length) (g2 : j < T2[i].length), T'[i][j] = a * T1[i][j] + b * T2[i][j] ∧ (-1081 ≤ T'[i][j] ∧ T'[i][j] ≤ 1081) ∧ (-1081 ≤ T1[i][j] ∧ T1[i][j] ≤ 1081) ∧ (-1081 ≤ T2[i][j] ∧ T2[i][j] ≤ 1081)) := by
  obtain ⟨hrb, -, -, hk4, -⟩ := chk_ok h'
  refine ⟨_, _, _, rfl, rfl, rfl, by rw [delT_len, delT_len], by rw [delT_len, delT_len], by rw [delT_len]; exact hk4, fun i h g1 g2 => ?_⟩
  have hi : i < K.length := by rw [delT_len] at h; exact h
  have e0 := delT_row hi h; have e1 := delT_row hi g1; have e2 := delT_row hi g2
  refine ⟨by rw [e0, e1, List.length_map, List.length_map], by rw [e0, e2, List.length_map, List.length_map], by rw [e0, List.length_map]; exact (rec_args hrb _ (List.getElem_mem hi)).1, fun j g g1 g2 => ?_⟩
  have hj : j < K[i].args.length := by simpa [e0] using g
  have k0 : (delT K q')[i][j] = delW q' i K[i].args[j] := by simp only [e0, List.getElem_map]
  have k1 : (delT K q)[i][j] = delW q i K[i].args[j] := by simp only [e1, List.getElem_map]
  have k2 : (delT K r)[i][j] = delW r i K[i].args[j] := by simp only [e2, List.getElem_map]
  rw [k0, k1, k2]
  have m := List.getElem_mem hj
  obtain ⟨p0, p1, p2⟩ := delW_small h' hi m
  obtain ⟨q0, q1, q2⟩ := delW_small h1 hi m
  obtain ⟨r0, r1, r2⟩ := delW_small h2 hi m
  refine ⟨lin_del h' h1 h2 hl hi m, by rw [p0]; exact ⟨p1, p2⟩, by rw [q0]; exact ⟨q1, q2⟩, by rw [r0]; exact ⟨r1, r2⟩⟩
theorem leg_at {K : List Vv} {q : Sd} (h : legB K q = true) {i j : Nat} (hi : i < (delT K q).length) (hj : j < (delT K q)[i].length) : 1 ≤ (delT K q)[i][j] := by
  unfold legB at h
  have h1 := List.all_eq_true.1 (List.all_eq_true.1 h _ (List.getElem_mem hi)) _ (List.getElem_mem hj)
  simp [lt1] at h1; omega
theorem lin_leg {n : Int} {l : List Iq} {K : List Vv} {a b : Int} {q' q r : Sd} (h' : chkE n l K [q'] = 0) (h1 : chkE n l K [q] = 0) (h2 : chkE n l K [r] = 0) (hl : Lin K.length a b q' q r) (ha : 1 ≤ a) (hb : 0 ≤ b) (g1 : legB K q = true) (g2 : legB K r = true) : legB K q' = true := by
  refine leg_yes fun i hi j hj => ?_
  obtain ⟨T', T1, T2, e0, e1, e2, l1, l2, -, hrow⟩ := lin_tab h' h1 h2 hl
  subst e0; subst e1; subst e2
  obtain ⟨m1, m2, -, hel⟩ := hrow i hi (by omega) (by omega)
  obtain ⟨e, -⟩ := hel j hj (by omega) (by omega)
  have k1 := leg_at g1 (i := i) (j := j) (by omega) (by omega)
  have k2 := leg_at g2 (i := i) (j := j) (by omega) (by omega)
  rw [e]
  have p1 := Int.mul_le_mul ha k1 (by omega) (by omega)
  have p2 := Int.mul_nonneg hb (show 0 ≤ (delT K r)[i][j] by omega)
  omega
theorem chk_one {n : Int} {l : List Iq} {K : List Vv} {q : Sd} (hr : recB n l K = true) (hf : fitB n K.length q.f q.off = true) : chkE n l K [q] = 0 := by
  unfold chkE; rw [if_pos hr]; simp [Sd.fit, hf]
theorem chk_pair {n : Int} {l : List Iq} {K : List Vv} {q r : Sd} (h : chkE n l K [q, r] = 0) : chkE n l K [q] = 0 ∧ chkE n l K [r] = 0 := by
  unfold chkE at h ⊢
  by_cases hr : recB n l K = true
  · rw [if_pos hr] at h ⊢
    rw [if_pos hr]
    by_cases hf : ([q, r].all (Sd.fit n K.length)) = true
    · simp only [List.all_cons, List.all_nil, Bool.and_true, Bool.and_eq_true] at hf
      simp [hf.1, hf.2]
    · rw [if_neg hf] at h; cases h
  · rw [if_neg hr] at h; cases h
end Go.Proofs.Ytbpdgoedglkefaa
