/- Numbers: masks, shifts, as the operations yield them. -/
import Derived.Test.YtinfmojbdaiogaaSlD
set_option linter.unusedVariables false
set_option linter.unusedSimpArgs false
set_option maxRecDepth 4000
namespace Go.Gh
open Go.RowKit

theorem two_pow_le {k n : Nat} (h : k ≤ n) : (2 : Int) ^ k ≤ 2 ^ n := by
  have := Nat.pow_le_pow_right (n := 2) (by decide) h
  exact_mod_cast this
theorem two_pow_pos (k : Nat) : (0 : Int) < 2 ^ k := Int.pow_pos (by decide)
theorem ofInt_toNat64 (v : Int) : ((BitVec.ofInt 64 v).toNat : Int) = v % 18446744073709551616 := by
  rw [BitVec.toNat_ofInt]
  omega
/-- 1<<k - 1 -/
theorem w_ones {k : Nat} (h : k ≤ 62) : IntKind.i64.wrap (IntKind.i64.wrap (1 * 2 ^ (min k IntKind.i64.bits)) - 1) = 2 ^ k - 1 := by
  have h1 := two_pow_le (k := k) (n := 62) h
  have h2 := two_pow_pos k
  rw [show (2 : Int) ^ 62 = 4611686018427387904 from rfl] at h1
  rw [show IntKind.i64.bits = 64 from rfl, Nat.min_eq_left (by omega), Int.one_mul, IntWalk.i64_in ((2 : Int) ^ k) (by omega), IntWalk.i64_in _ (by omega)]
/-- v & (1<<k - 1) -/
theorem w_mask (v : Int) {k : Nat} (h : k ≤ 62) : IntKind.i64.wrap ((BitVec.ofInt IntKind.i64.bits v &&& BitVec.ofInt IntKind.i64.bits (2 ^ k - 1)).toNat : Int) = v % 2 ^ k := by
  have h1 := two_pow_le (k := k) (n := 62) h
  have h2 := two_pow_pos k
  rw [show (2 : Int) ^ 62 = 4611686018427387904 from rfl] at h1
  have h3 := Int.emod_nonneg v (show (2 : Int) ^ k ≠ 0 by omega)
  have h4 := Int.emod_lt_of_pos v h2
  have hn : (BitVec.ofInt 64 ((2 : Int) ^ k - 1)).toNat = 2 ^ k - 1 := by
    have e : ((2 : Int) ^ k - 1) = ((2 ^ k - 1 : Nat) : Int) := by
      have : 0 < 2 ^ k := Nat.two_pow_pos k
      rw [Int.ofNat_sub (by omega)]; norm_cast
    have hle : 2 ^ k ≤ 2 ^ 62 := Nat.pow_le_pow_right (by decide) h
    rw [e, BitVec.ofInt_natCast, BitVec.toNat_ofNat, Nat.mod_eq_of_lt]
    have : (2 : Nat) ^ 62 < 2 ^ 64 := by decide
    omega
  rw [show IntKind.i64.bits = 64 from rfl, BitVec.toNat_and, hn, Nat.and_two_pow_sub_one_eq_mod]
  have e : (((BitVec.ofInt 64 v).toNat % 2 ^ k : Nat) : Int) = v % 2 ^ k := by
    rw [Int.natCast_emod, ofInt_toNat64]
    have : ((2 ^ k : Nat) : Int) = 2 ^ k := by norm_cast
    rw [this, Int.emod_emod_of_dvd]
    rw [show (18446744073709551616 : Int) = 2 ^ k * 2 ^ (64 - k) by rw [← Int.pow_add, show k + (64 - k) = 64 by omega]; rfl]
    exact Int.dvd_mul_right _ _
  rw [e, IntWalk.i64_in _ (by omega)]
end Go.Gh
