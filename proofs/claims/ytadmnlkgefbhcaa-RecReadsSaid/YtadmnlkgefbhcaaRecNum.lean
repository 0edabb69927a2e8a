/- The elements of a recurrence by their numbers, and what they use; the map of the points' numbers. -/
import Derived.Test.YtadmnlkgefbhcaaPtKey
import Derived.Test.YtadmnlkgefbhcaaRecGr
import Derived.Test.YtadmnlkgefbhcaaB3
import Derived.Maps.OwnSet
namespace Go.Proofs.Ytadmnlkgefbhcaa
open Go.RowKit Go.Maps

/-! ### The number of a point -/
/-- The last place below k where p stands. -/
def pixU (P : List Pt) : Nat → Pt → Option Nat
  | 0, _ => none
  | k + 1, p => if P.getD k default = p then some k else pixU P k p
def pix (P : List Pt) (p : Pt) : Option Nat := pixU P P.length p
theorem pixU_some {P : List Pt} {p : Pt} {i : Nat} : ∀ {k : Nat}, pixU P k p = some i → i < k ∧ P.getD i default = p
  | 0, h => by cases h
  | k + 1, h => by
    unfold pixU at h
    split at h
    · rename_i e
      obtain rfl := Option.some.inj h
      exact ⟨by omega, e⟩
    · have := pixU_some h
      exact ⟨by omega, this.2⟩
theorem pixU_none {P : List Pt} {p : Pt} : ∀ {k : Nat}, pixU P k p = none → ∀ i, i < k → P.getD i default ≠ p
  | 0, _, i, h => by omega
  | k + 1, h, i, hi => by
    unfold pixU at h
    split at h
    · cases h
    · rename_i e
      by_cases hik : i = k
      · subst hik; exact e
      · exact pixU_none h i (by omega)
theorem pix_some {P : List Pt} {p : Pt} {i : Nat} (h : pix P p = some i) : ∃ h : i < P.length, P[i] = p := by
  have h1 := pixU_some h
  refine ⟨h1.1, ?_⟩
  have := h1.2
  rw [List.getD_eq_getElem?_getD, List.getElem?_eq_getElem h1.1] at this
  exact this
theorem pix_none {P : List Pt} {p : Pt} (h : pix P p = none) : p ∉ P := by
  intro hm
  obtain ⟨i, hi, e⟩ := List.getElem_of_mem hm
  refine pixU_none h i hi ?_
  rw [List.getD_eq_getElem?_getD, List.getElem?_eq_getElem hi]; exact e
theorem pix_mem {P : List Pt} {p : Pt} : (pix P p).isSome = true ↔ p ∈ P := by
  cases h : pix P p with
  | none => exact ⟨fun h2 => by simp at h2, fun hm => absurd hm (pix_none h)⟩
  | some i => exact ⟨fun _ => by obtain ⟨hi, e⟩ := pix_some h; rw [← e]; exact List.getElem_mem hi, fun _ => rfl⟩
theorem pix_at {P : List Pt} (hn : P.Nodup) {i : Nat} (hi : i < P.length) : pix P P[i] = some i := by
  cases h : pix P P[i] with
  | none => exact absurd (List.getElem_mem hi) (pix_none h)
  | some j =>
    obtain ⟨hj, e⟩ := pix_some h
    have := (List.nodup_iff_pairwise_ne.1 hn)
    rw [List.pairwise_iff_getElem] at this
    rcases Nat.lt_trichotomy i j with h1 | h1 | h1
    · exact absurd e.symm (this i j hi hj h1)
    · rw [h1]
    · exact absurd e (this j i hj hi h1)
/-! ### The map -/
theorem ptK_inj {a b : Pt} (ha : a.I64) (hb : b.I64) (h : ptK a = ptK b) : a = b := by
  have h1 := key_of_pt ha
  have h2 := key_of_pt hb
  rw [h] at h1
  have := key_ptk.inj h1 h2
  simp only [pvK, Value.agg.injEq, Array.mk.injEq, List.cons.injEq, Value.int.injEq, true_and, and_true] at this
  cases a; cases b; simp at this ⊢; exact this
def ptD (P : List Pt) : Nat → DataW Unit
  | 0 => .map []
  | k + 1 => (ptD P k).put (ptK (P.getD k default)) (.lit (.int .i64 (k : Int)))
theorem ptD_isMap (P : List Pt) : ∀ k, IsMap (ptD P k)
  | 0 => isMap_empty
  | k + 1 => (ptD_isMap P k).put _ _
theorem ptD_put {P : List Pt} {k : Nat} (hk : k < P.length) : ptD P (k + 1) = (ptD P k).put (ptK P[k]) (.lit (.int .i64 (k : Int))) := by
  simp [ptD, List.getElem?_eq_getElem hk]
theorem ptD_at {P : List Pt} {p : Pt} (hp : p.I64) : ∀ {k : Nat}, k ≤ P.length → (∀ q ∈ P, q.I64) →
    (ptD P k).atKey (ptK p) (.lit (.int .i64 0)) = .lit (.int .i64 (((pixU P k p).getD 0 : Nat) : Int)) ∧ has (ptD P k) (ptK p) = (pixU P k p).isSome
  | 0, _, _ => ⟨rfl, rfl⟩
  | k + 1, hk, hP => by
    have ih := ptD_at hp (k := k) (by omega) hP
    have hk' : k < P.length := by omega
    have e : P.getD k default = P[k] := by simp [List.getElem?_eq_getElem hk']
    have hq := hP _ (List.getElem_mem hk')
    unfold ptD pixU
    rw [e]
    by_cases h : P[k] = p
    · subst h
      rw [atKey_put_same (ptD_isMap P k) (k := ptK P[k]) trivial, has_put_same (ptD_isMap P k) (k := ptK P[k]) trivial, if_pos rfl]
      exact ⟨rfl, rfl⟩
    · have hne : ptK p ≠ ptK P[k] := fun e => h (ptK_inj hp hq e).symm
      rw [atKey_put_other hne, has_put_other hne, if_neg h]
      exact ih

/-! ### Elements -/
def ptP (p q : Pt) : Pt := ⟨p.x + q.x, p.y + q.y, p.z + q.z⟩
/-- The number of the element that an argument names at a point. -/
def argN (P : List Pt) (a : Ar) (p : Pt) : Option Nat := (pix P (ptP p a.p)).map fun i => a.v.toNat * P.length + i
def vOf (K : List Vv) (P : List Pt) (k : Nat) : Vv := K.getD (k / P.length) ⟨⟨#[]⟩, 0, [], 0, 0, 0, 0⟩
def pOf (P : List Pt) (k : Nat) : Pt := P.getD (k % P.length) default
/-- What an element uses, by the numbers. -/
def useN (K : List Vv) (P : List Pt) (k : Nat) : List Nat := (vOf K P k).args.filterMap fun a => argN P a (pOf P k)
theorem numb_lt {K P : Nat} {v i : Nat} (hv : v < K) (hi : i < P) : v * P + i < K * P := by
  have : (v + 1) * P ≤ K * P := Nat.mul_le_mul_right P (by omega)
  rw [Nat.succ_mul] at this
  omega
theorem argN_lt {K : List Vv} {P : List Pt} {a : Ar} {p : Pt} {u : Nat} (ha : bw 0 a.v (K.length - 1) = true) (h : argN P a p = some u) : u < K.length * P.length := by
  unfold argN at h
  cases hp : pix P (ptP p a.p) with
  | none => rw [hp] at h; cases h
  | some i =>
    rw [hp] at h
    obtain rfl := Option.some.inj h
    have := bw_iff.1 ha
    exact numb_lt (by omega) (pix_some hp).1
theorem useN_lt {K : List Vv} {P : List Pt} (hK : ∀ v ∈ K, ∀ a ∈ v.args, bw 0 a.v (K.length - 1) = true) {k : Nat} : ∀ u ∈ useN K P k, u < K.length * P.length := by
  intro u hu
  obtain ⟨a, ha, e⟩ := List.mem_filterMap.1 hu
  unfold vOf at ha
  rw [List.getD_eq_getElem?_getD] at ha
  cases hk : K[k / P.length]? with
  | none => rw [hk] at ha; simp at ha
  | some v =>
    rw [hk] at ha
    exact argN_lt (hK v (List.mem_of_getElem? hk) a ha) e
theorem useN_len {K : List Vv} {P : List Pt} (hK : ∀ v ∈ K, v.args.length ≤ 3) (k : Nat) : (useN K P k).length ≤ 3 := by
  refine Nat.le_trans (List.length_filterMap_le _ _) ?_
  unfold vOf
  rw [List.getD_eq_getElem?_getD]
  cases hk : K[k / P.length]? with
  | none => simp
  | some v => exact hK v (List.mem_of_getElem? hk)
theorem div_num {P v i : Nat} (hi : i < P) : (v * P + i) / P = v ∧ (v * P + i) % P = i := by
  have : 0 < P := by omega
  constructor
  · rw [Nat.mul_comm, Nat.mul_add_div this, Nat.div_eq_of_lt hi]; rfl
  · rw [Nat.mul_comm, Nat.mul_add_mod, Nat.mod_eq_of_lt hi]
theorem num_div {K P k : Nat} (h : k < K * P) : k / P < K ∧ k % P < P ∧ k / P * P + k % P = k := by
  have : 0 < P := Nat.pos_of_ne_zero fun h0 => by subst h0; simp at h
  exact ⟨(Nat.div_lt_iff_lt_mul this).2 h, Nat.mod_lt _ this, by rw [Nat.mul_comm]; exact Nat.div_add_mod k P⟩
end Go.Proofs.Ytadmnlkgefbhcaa
