/- Plain: masks of a word of 64 bits. Conditions: none beyond what each says. -/
import Derived.Test.YteophaobcebppaaGreatDoorNatF
set_option linter.unusedSimpArgs false
namespace Go.Proofs.YteophaobcebppaaGreatDoor.dg
open Go.RowKit
set_option linter.unusedVariables false

theorem ofInt_nat (a : Nat) : BitVec.ofInt 64 (a : Int) = BitVec.ofNat 64 a := BitVec.ofInt_natCast ..

/-- '&^' of words. -/
theorem bits_andNot_nat (a b : Nat) : bits .andNot .u64 (a : Int) (b : Int) = (((BitVec.ofNat 64 a &&& ~~~ BitVec.ofNat 64 b).toNat : Nat) : Int) := by
  show IntKind.u64.wrap ((BitVec.ofInt 64 (a : Int) &&& ~~~ BitVec.ofInt 64 (b : Int)).toNat : Int) = _
  rw [ofInt_nat, ofInt_nat, IntKind.wrap_u64]
  have := (BitVec.ofNat 64 a &&& ~~~ BitVec.ofNat 64 b).isLt
  omega

theorem andNot_testBit (a b i : Nat) : (BitVec.ofNat 64 a &&& ~~~ BitVec.ofNat 64 b).toNat.testBit i = (decide (i < 64) && (a.testBit i && !b.testBit i)) := by
  rw [BitVec.testBit_toNat, BitVec.getLsbD_and, BitVec.getLsbD_not, BitVec.getLsbD_ofNat, BitVec.getLsbD_ofNat]
  by_cases h : i < 64 <;> simp [h]

theorem andNot_top (a : Nat) (ha : a < B64) : bits .andNot .u64 (a : Int) 9223372036854775808 = ((a % 2 ^ 63 : Nat) : Int) := by
  rw [show (9223372036854775808 : Int) = ((2 ^ 63 : Nat) : Int) from by decide, bits_andNot_nat]
  congr 1
  apply Nat.eq_of_testBit_eq
  intro i
  rw [andNot_testBit, Nat.testBit_mod_two_pow, Nat.testBit_two_pow]
  by_cases h1 : i < 63
  · have : ¬ 63 = i := by omega
    have h2 : i < 64 := by omega
    simp [h1, h2, this]
  · by_cases h2 : i = 63
    · subst h2; simp
    · have h3 : ¬ i < 64 := by omega
      simp [h1, h3]

theorem and_top (a : Nat) (ha : a < B64) : bits .and .u64 (a : Int) 9223372036854775808 = ((2 ^ 63 * (a / 2 ^ 63) : Nat) : Int) := by
  rw [show (9223372036854775808 : Int) = ((2 ^ 63 : Nat) : Int) from by decide, bits_and_nat _ _ ha (by rw [B64_def]; decide)]
  congr 1
  apply Nat.eq_of_testBit_eq
  intro i
  rw [Nat.testBit_and, Nat.testBit_two_pow, Nat.testBit_two_pow_mul, Nat.testBit_div_two_pow]
  by_cases h1 : i < 63
  · have h2 : ¬ 63 = i := by omega
    have h3 : ¬ 63 ≤ i := by omega
    simp [h2, h3]
  · by_cases h2 : i = 63
    · subst h2; simp
    · have h3 : a.testBit i = false := Nat.testBit_lt_two_pow (Nat.lt_of_lt_of_le ha (by rw [B64_pow]; exact Nat.pow_le_pow_right (by omega) (by omega)))
      have h4 : 63 ≤ i := by omega
      have h5 : i - 63 + 63 = i := by omega
      simp [h3, h5]

/-- '&^' of the exponent's bits. -/
theorem andNot_exp (a : Nat) (ha : a < 2 ^ 63) : bits .andNot .u64 (a : Int) 9218868437227405312 = ((a % 2 ^ 52 : Nat) : Int) := by
  rw [show (9218868437227405312 : Int) = ((2 ^ 52 * (2 ^ 11 - 1) : Nat) : Int) from by decide, bits_andNot_nat]
  congr 1
  apply Nat.eq_of_testBit_eq
  intro i
  rw [andNot_testBit, Nat.testBit_mod_two_pow, Nat.testBit_two_pow_mul, Nat.testBit_two_pow_sub_one]
  by_cases h1 : i < 52
  · have h2 : i < 64 := by omega
    have h3 : ¬ 52 ≤ i := by omega
    simp [h1, h2, h3]
  · by_cases h2 : i < 63
    · have h3 : i < 64 := by omega
      have h4 : 52 ≤ i := by omega
      have h5 : i - 52 < 11 := by omega
      simp [h1, h4, h5]
    · have h6 : a.testBit i = false := Nat.testBit_lt_two_pow (Nat.lt_of_lt_of_le ha (Nat.pow_le_pow_right (by omega) (by omega)))
      simp [h1, h6]

theorem or_hi (k lo hi : Nat) (hlo : lo < 2 ^ k) (hl : lo < B64) (hhi : 2 ^ k * hi < B64) : bits .or .u64 (lo : Int) ((2 ^ k * hi : Nat) : Int) = ((2 ^ k * hi + lo : Nat) : Int) := by
  rw [bits_or_nat _ _ hl hhi, Nat.or_comm, ← Nat.two_pow_add_eq_or_of_lt hlo]

end Go.Proofs.YteophaobcebppaaGreatDoor.dg
