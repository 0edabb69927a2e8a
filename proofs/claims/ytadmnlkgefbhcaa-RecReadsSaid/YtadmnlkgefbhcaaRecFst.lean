/- First values: what they are. -/
import Derived.Test.YtadmnlkgefbhcaaRecNum
namespace Go.Proofs.Ytadmnlkgefbhcaa
open Go.RowKit

theorem mod_law (n : Int) : (n.tmod 10007 + 10007).tmod 10007 = n % 10007 := by
  rcases Int.le_total 0 n with h | h
  · rw [Int.tmod_eq_emod_of_nonneg h, Int.tmod_eq_emod_of_nonneg (by omega)]; omega
  · have h1 : n.tmod 10007 = -((-n) % 10007) := by
      have : n = -(-n) := by omega
      conv => lhs; rw [this]
      rw [Int.neg_tmod, Int.tmod_eq_emod_of_nonneg (by omega)]
    rw [h1, Int.tmod_eq_emod_of_nonneg (by omega)]; omega
/-- The form of a variable's first values. -/
def frstZ (v : Vv) (p : Pt) : Int := v.i0 + v.i1 * p.x + v.i2 * p.y + v.i3 * p.z
def frst (v : Vv) (p : Pt) : Int := frstZ v p % 10007
def Vv.small (v : Vv) : Prop := (0 ≤ v.i0 ∧ v.i0 ≤ 10006) ∧ (0 ≤ v.i1 ∧ v.i1 ≤ 10006) ∧ (0 ≤ v.i2 ∧ v.i2 ≤ 10006) ∧ (0 ≤ v.i3 ∧ v.i3 ≤ 10006)
def Pt.small (p : Pt) (m : Nat) : Prop := p.x.natAbs ≤ m ∧ p.y.natAbs ≤ m ∧ p.z.natAbs ≤ m
theorem mul_bd2 {a b : Int} {A B : Nat} (ha : a.natAbs ≤ A) (hb : b.natAbs ≤ B) : (a * b).natAbs ≤ A * B := by
  rw [Int.natAbs_mul]; exact Nat.mul_le_mul ha hb
theorem frst_bds {v : Vv} {p : Pt} (hv : v.small) (hp : p.small 1000) : (v.i1 * p.x).natAbs ≤ 10006000 ∧ (v.i2 * p.y).natAbs ≤ 10006000 ∧ (v.i3 * p.z).natAbs ≤ 10006000 := by
  obtain ⟨h0, h1, h2, h3⟩ := hv
  exact ⟨mul_bd2 (A := 10006) (B := 1000) (by omega) hp.1, mul_bd2 (A := 10006) (B := 1000) (by omega) hp.2.1, mul_bd2 (A := 10006) (B := 1000) (by omega) hp.2.2⟩
theorem frst_bd (v : Vv) (p : Pt) : 0 ≤ frst v p ∧ frst v p ≤ 10006 := by unfold frst; omega
end Go.Proofs.Ytadmnlkgefbhcaa
