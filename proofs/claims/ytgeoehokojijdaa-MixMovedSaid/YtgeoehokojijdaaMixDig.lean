/- The digits of a number: each list of digits is one. -/
import Derived.Test.YtgeoehokojijdaaMixSpec
namespace Go.Proofs.Ytgeoehokojijdaa
open Go.RowKit

def valD (p : Nat) (l : List Int) : Nat := l.foldl (fun v d => v * p + d.toNat) 0
theorem valD_digs {p : Nat} (hp : 0 < p) : ∀ n i, i < p ^ n → valD p (digs p n i) = i
  | 0, i, h => by
    have : i = 0 := by simpa using h
    subst this; rfl
  | n + 1, i, h => by
    have ih := valD_digs hp n (i / p) (Nat.div_lt_of_lt_mul (by rw [Nat.pow_succ, Nat.mul_comm] at h; exact h))
    unfold valD at ih ⊢
    simp only [digs]
    rw [List.foldl_append, ih]
    simp only [List.foldl_cons, List.foldl_nil, Int.toNat_natCast]
    exact Nat.div_add_mod' i p
theorem digs_inj {p n i j : Nat} (hp : 0 < p) (hi : i < p ^ n) (hj : j < p ^ n) (h : digs p n i = digs p n j) : i = j := by
  rw [← valD_digs hp n i hi, h, valD_digs hp n j hj]
theorem digs_surj {p : Nat} (hp : 0 < p) : ∀ n (l : List Int), l.length = n → (∀ x ∈ l, 0 ≤ x ∧ x < (p : Int)) → ∃ j, j < p ^ n ∧ digs p n j = l
  | 0, l, h, _ => ⟨0, by simp, by rw [List.length_eq_zero_iff.1 h]; rfl⟩
  | n + 1, l, h, hl => by
    rcases List.eq_nil_or_concat l with rfl | ⟨l', x, rfl⟩
    · simp at h
    · rw [List.concat_eq_append] at h hl ⊢
      have hx := hl x (by simp)
      obtain ⟨j', hj', hd⟩ := digs_surj hp n l' (by simpa using h) fun y hy => hl y (by simp [hy])
      have hxp : x.toNat < p := by omega
      refine ⟨j' * p + x.toNat, ?_, ?_⟩
      · rw [Nat.pow_succ]
        have := Nat.mul_le_mul_right p (show j' + 1 ≤ p ^ n by omega)
        rw [Nat.add_mul] at this; omega
      · simp only [digs]
        rw [Nat.mul_comm j' p, Nat.mul_add_div hp, Nat.div_eq_of_lt hxp, Nat.add_zero, Nat.mul_add_mod, Nat.mod_eq_of_lt hxp, hd]
        congr 2; omega
end Go.Proofs.Ytgeoehokojijdaa
