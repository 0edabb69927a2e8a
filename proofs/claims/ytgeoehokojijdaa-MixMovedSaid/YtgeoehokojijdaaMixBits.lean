/- Bits of 32-bit numbers, as the machine reckons them. -/
import Derived.Test.YtgeoehokojijdaaMix3
namespace Go.Proofs.Ytgeoehokojijdaa
open Go.RowKit

theorem u32_small {n : Int} (h : 0 ≤ n ∧ n < 4294967296) : IntKind.u32.wrap n = n := by
  have : IntKind.u32.bits = 32 := rfl
  have h2 : IntKind.u32.signed = false := rfl
  simp [IntKind.wrap, this, h2]; omega
theorem bv_small {n : Nat} (h : n < 4294967296) : (BitVec.ofInt 32 (n : Int)).toNat = n := by
  rw [BitVec.toNat_ofInt]; omega
theorem wrap_shl (t : Nat) (ht : t < 20) : IntKind.u32.wrap (2 ^ t) = ((2 ^ t : Nat) : Int) := by
  have h3 : 2 ^ t < 2 ^ 20 := Nat.pow_lt_pow_right (by decide) ht
  have h4 : (2 : Int) ^ t = ((2 ^ t : Nat) : Int) := by simp
  rw [h4]
  obtain ⟨x, hx⟩ : ∃ x : Nat, 2 ^ t = x := ⟨_, rfl⟩
  rw [hx] at h3 ⊢
  rw [u32_small (by omega)]
theorem bits_and32 (a b : Nat) (ha : a < 4294967296) (hb : b < 4294967296) : bits .and .u32 (a : Int) (b : Int) = ((a &&& b : Nat) : Int) := by
  have h1 : (BitVec.ofInt 32 (a : Int) &&& BitVec.ofInt 32 (b : Int)).toNat = a &&& b := by rw [BitVec.toNat_and, bv_small ha, bv_small hb]
  have h2 : a &&& b ≤ a := Nat.and_le_left
  have h5 := u32_small (n := ((a &&& b : Nat) : Int)) (by omega)
  show IntKind.u32.wrap ((BitVec.ofInt 32 (a : Int) &&& BitVec.ofInt 32 (b : Int)).toNat : Int) = _
  rw [h1, h5]
theorem bits_or32 (a b : Nat) (ha : a < 4294967296) (hb : b < 4294967296) : bits .or .u32 (a : Int) (b : Int) = ((a ||| b : Nat) : Int) := by
  have h1 : (BitVec.ofInt 32 (a : Int) ||| BitVec.ofInt 32 (b : Int)).toNat = a ||| b := by rw [BitVec.toNat_or, bv_small ha, bv_small hb]
  have h2 : a ||| b < 2 ^ 32 := Nat.or_lt_two_pow ha hb
  have h5 := u32_small (n := ((a ||| b : Nat) : Int)) (by omega)
  show IntKind.u32.wrap ((BitVec.ofInt 32 (a : Int) ||| BitVec.ofInt 32 (b : Int)).toNat : Int) = _
  rw [h1, h5]
theorem and_bit (m t : Nat) : (((m &&& 2 ^ t : Nat) : Int) != 0) = m.testBit t := by
  cases hb : m.testBit t
  · have : m &&& 2 ^ t = 0 := by
      apply Nat.eq_of_testBit_eq
      intro i
      rw [Nat.testBit_and, Nat.testBit_two_pow, Nat.zero_testBit]
      by_cases h : t = i
      · subst h; simp [hb]
      · simp [h]
    rw [this]; rfl
  · have h1 : (m &&& 2 ^ t).testBit t = true := by rw [Nat.testBit_and, Nat.testBit_two_pow]; simp [hb]
    have h2 : m &&& 2 ^ t ≠ 0 := fun e => by rw [e, Nat.zero_testBit] at h1; cases h1
    simpa using h2
end Go.Proofs.Ytgeoehokojijdaa
