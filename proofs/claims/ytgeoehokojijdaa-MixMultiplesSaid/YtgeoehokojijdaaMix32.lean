/- MixMultiples: the law. -/
import Derived.Test.YtgeoehokojijdaaMix30
import Derived.Test.YtgeoehokojijdaaMix9
import Derived.Test.YtgeoehokojijdaaMix12
namespace Go.Proofs.Ytgeoehokojijdaa
open Go.RowKit

theorem good_mul {k : List (List Clm)} {st : List Int} {p m : Nat} (hst : st.length = k.length) (h : goodB k p st = true) : goodB k ((p * m : Nat) : Int) st = true := by
  rw [good_iff hst] at h ⊢
  intro i a j b hh
  refine h i a j b ⟨hh.1, hh.2.1, hh.2.2.1, ?_⟩
  have e := hh.2.2.2
  have e2 : _ % (p : Int) = _ % (p : Int) := congrArg (fun z : Int => z % (p : Int)) e
  rwa [Int.emod_emod_of_dvd _ ⟨(m : Int), by simp⟩, Int.emod_emod_of_dvd _ ⟨(m : Int), by simp⟩] at e2
def valD (p : Nat) (l : List Int) : Nat := l.foldl (fun v d => v * p + d.toNat) 0
theorem valD_digs {p : Nat} (hp : 0 < p) : ∀ n i, i < p ^ n → valD p (digs p n i) = i
  | 0, i, h => by
    have : i = 0 := by simpa using h
    subst this; rfl
  | n + 1, i, h => by
    have ih := valD_digs hp n (i / p) (Nat.div_lt_of_lt_mul (by rw [Nat.pow_succ, Nat.mul_comm] at h; exact h))
    unfold valD at ih ⊢
    simp only [digs]
    rw [List.foldl_append, ih]
    simp only [List.foldl_cons, List.foldl_nil, Int.toNat_natCast]
    exact Nat.div_add_mod' i p
theorem digs_inj {p n i j : Nat} (hp : 0 < p) (hi : i < p ^ n) (hj : j < p ^ n) (h : digs p n i = digs p n j) : i = j := by
  rw [← valD_digs hp n i hi, h, valD_digs hp n j hj]
theorem digs_surj {p : Nat} (hp : 0 < p) : ∀ n (l : List Int), l.length = n → (∀ x ∈ l, 0 ≤ x ∧ x < (p : Int)) → ∃ j, j < p ^ n ∧ digs p n j = l
  | 0, l, h, _ => ⟨0, by simp, by rw [List.length_eq_zero_iff.1 h]; rfl⟩
  | n + 1, l, h, hl => by
    rcases List.eq_nil_or_concat l with rfl | ⟨l', x, rfl⟩
    · simp at h
    · rw [List.concat_eq_append] at h hl ⊢
      have hx := hl x (by simp)
      obtain ⟨j', hj', hd⟩ := digs_surj hp n l' (by simpa using h) fun y hy => hl y (by simp [hy])
      have hxp : x.toNat < p := by omega
      refine ⟨j' * p + x.toNat, ?_, ?_⟩
      · rw [Nat.pow_succ]
        have := Nat.mul_le_mul_right p (show j' + 1 ≤ p ^ n by omega)
        rw [Nat.add_mul] at this; omega
      · simp only [digs]
        rw [Nat.mul_comm j' p, Nat.mul_add_div hp, Nat.div_eq_of_lt hxp, Nat.add_zero, Nat.mul_add_mod, Nat.mod_eq_of_lt hxp, hd]
        congr 2; omega
theorem digs_at {p n i t : Nat} (hp : 0 < p) (ht : t < n) : (digs p n i).take t = digs p t (i / p ^ (n - t - 1) / p) ∧ (digs p n i)[t]? = some (((i / p ^ (n - t - 1) % p : Nat)) : Int) := by
  have e := digs_take p hp n (n - t - 1) i (by omega)
  rw [show n - (n - t - 1) = t + 1 by omega] at e
  rw [e, digs, List.append_assoc]
  refine ⟨by rw [List.take_append_of_le_length (by rw [digs_len]; exact Nat.le_refl _), List.take_of_length_le (by rw [digs_len]; exact Nat.le_refl _)], ?_⟩
  rw [List.getElem?_append_right (by rw [digs_len]; exact Nat.le_refl _), digs_len, Nat.sub_self]
  rfl
theorem first_lex {p n i j t : Nat} (hp : 0 < p) (hi : i ≤ j) (hj : j < p ^ n) (ht : t < n) (he : (digs p n i).take t = (digs p n j).take t) {a b : Int} (ha : (digs p n i)[t]? = some a) (hb : (digs p n j)[t]? = some b) : a ≤ b := by
  obtain ⟨e1, e2⟩ := digs_at (i := i) hp ht
  obtain ⟨e3, e4⟩ := digs_at (i := j) hp ht
  rw [e1, e3] at he
  rw [e2] at ha
  rw [e4] at hb
  have hIJ : i / p ^ (n - t - 1) ≤ j / p ^ (n - t - 1) := Nat.div_le_div_right hi
  have hJ : j / p ^ (n - t - 1) < p ^ (t + 1) := Nat.div_lt_of_lt_mul (by rw [← Nat.pow_add, show n - t - 1 + (t + 1) = n by omega]; exact hj)
  obtain ⟨I, hI⟩ : ∃ I, i / p ^ (n - t - 1) = I := ⟨_, rfl⟩
  obtain ⟨J, hJe⟩ : ∃ J, j / p ^ (n - t - 1) = J := ⟨_, rfl⟩
  rw [hI, hJe] at hIJ he
  rw [hJe] at hJ hb
  rw [hI] at ha
  have hJp : J / p < p ^ t := Nat.div_lt_of_lt_mul (by rw [Nat.pow_succ, Nat.mul_comm] at hJ; exact hJ)
  have hIp : I / p < p ^ t := Nat.lt_of_le_of_lt (Nat.div_le_div_right hIJ) hJp
  have heq := digs_inj hp hIp hJp he
  have d1 := Nat.div_add_mod I p
  have d2 := Nat.div_add_mod J p
  rw [heq] at d1
  cases ha; cases hb
  omega
theorem starts_le {k : List (List Clm)} {p : Nat} {st : List Int} (hp : 1 ≤ p ∧ p ≤ 20) (hst : st.length = k.length) (hsr : ∀ n ∈ st, 0 ≤ n ∧ n < (p : Int)) (hg : goodB k p st = true) :
    ∃ FL : List Int, firstG k p ≠ none ∧ startsL k p = FL ∧ FL.length = st.length ∧ ∀ u (h1 : u < FL.length) (h2 : u < st.length), FL.take u = st.take u → FL[u] ≤ st[u] := by
  have hp0 : 0 < p := by omega
  obtain ⟨j, hj, hd⟩ := digs_surj hp0 k.length st hst hsr
  obtain ⟨i, hi⟩ : ∃ i, firstG k p = some i := by
    cases hf : firstG k p with
    | some i => exact ⟨i, rfl⟩
    | none =>
      unfold firstG at hf
      rw [List.find?_eq_none] at hf
      have := hf j (by simpa using hj)
      rw [hd, hg] at this; simp at this
  have hij : i ≤ j := by
    have hi2 := hi
    unfold firstG at hi2
    rw [List.find?_range_eq_some] at hi2
    rcases Nat.lt_or_ge j i with h | h
    · have := hi2.2.2 j h
      rw [hd, hg] at this; simp at this
    · exact h
  refine ⟨digs p k.length i, by rw [hi]; simp, by simp [startsL, hi], by rw [digs_len, hst], fun u h1 h2 he => ?_⟩
  rw [← hd] at he
  have h3 : u < k.length := by omega
  refine first_lex hp0 hij hj h3 he (List.getElem?_eq_getElem h1) ?_
  rw [hd]; exact List.getElem?_eq_getElem h2
end Go.Proofs.Ytgeoehokojijdaa
