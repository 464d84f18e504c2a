/- Package varint: the number that lies ahead. -/
import Derived.Test.YtinfmojbdaiogaaMdP
set_option linter.unusedVariables false
set_option linter.unusedSimpArgs false
set_option maxRecDepth 4000
namespace Go.Proofs.Ytinfmojbdaiogaa
open Go.Gh Go.RowKit

def vb1 (f : Int) (i : Nat) : Int := ((BitVec.ofInt 8 f &&& BitVec.ofInt 8 (128 / 2 ^ i)).toNat : Int)
def vlow (f : Int) (k : Nat) : Int := ((BitVec.ofInt 8 f &&& BitVec.ofInt 8 (127 / 2 ^ k)).toNat : Int)
def vlead (f : Int) : Nat → Nat → Nat
  | 0, i => i
  | n + 1, i => if vb1 f i ≠ 0 then vlead f n (i + 1) else i
def vacc (l : List UInt8) : Nat → Nat → Int → Int
  | 0, _, v => v
  | n + 1, i, v => vacc l n (i + 1) (v * 256 + bat l (i : Int))
theorem vlead_le (f : Int) : ∀ n i, i ≤ vlead f n i ∧ vlead f n i ≤ i + n
  | 0, i => ⟨Nat.le_refl _, Nat.le_refl _⟩
  | n + 1, i => by
    have := vlead_le f n (i + 1)
    unfold vlead
    split <;> omega
theorem vlow_in (f : Int) {k : Nat} (hk : k ≤ 8) : 0 ≤ vlow f k ∧ vlow f k < 2 ^ (7 - k) := by
  unfold vlow
  refine ⟨Int.natCast_nonneg _, ?_⟩
  have h1 : (BitVec.ofInt 8 f &&& BitVec.ofInt 8 (127 / 2 ^ k)).toNat ≤ (BitVec.ofInt 8 (127 / 2 ^ k)).toNat := by
    rw [BitVec.toNat_and]; exact Nat.and_le_right
  have h2 : ((BitVec.ofInt 8 (127 / 2 ^ k)).toNat : Int) < 2 ^ (7 - k) := by
    have : k = 0 ∨ k = 1 ∨ k = 2 ∨ k = 3 ∨ k = 4 ∨ k = 5 ∨ k = 6 ∨ k = 7 ∨ k = 8 := by omega
    rcases this with rfl | rfl | rfl | rfl | rfl | rfl | rfl | rfl | rfl <;> decide
  omega
theorem pow_cap {k : Nat} (hk : k ≤ 8) : (2 : Int) ^ (7 - k) * 256 ^ k ≤ 18446744073709551616 := by
  have : k = 0 ∨ k = 1 ∨ k = 2 ∨ k = 3 ∨ k = 4 ∨ k = 5 ∨ k = 6 ∨ k = 7 ∨ k = 8 := by omega
  rcases this with rfl | rfl | rfl | rfl | rfl | rfl | rfl | rfl | rfl <;> decide
theorem or256 {v b : Int} (hv : 0 ≤ v ∧ v * 256 < 18446744073709551616) (hb : 0 ≤ b ∧ b < 256) : IntKind.u64.wrap ((BitVec.ofInt IntKind.u64.bits (v * 256) ||| BitVec.ofInt IntKind.u64.bits b).toNat : Int) = v * 256 + b := by
  obtain ⟨x, rfl⟩ := Int.eq_ofNat_of_zero_le hv.1
  obtain ⟨y, rfl⟩ := Int.eq_ofNat_of_zero_le hb.1
  have e : (BitVec.ofInt 64 ((x * 256 : Nat) : Int) ||| BitVec.ofInt 64 (y : Int)).toNat = x * 256 + y := by
    rw [BitVec.ofInt_natCast, BitVec.ofInt_natCast, BitVec.toNat_or, BitVec.toNat_ofNat, BitVec.toNat_ofNat, Nat.mod_eq_of_lt (by omega), Nat.mod_eq_of_lt (by omega), Nat.mul_comm x 256]
    have := Nat.two_pow_add_eq_or_of_lt (i := 8) (b := y) (by omega) x
    exact this.symm
  rw [show IntKind.u64.bits = 64 from rfl, show ((x : Int)) * 256 = ((x * 256 : Nat) : Int) by omega, e, IntWalk.u64_in _ (by omega)]
  omega
/-- The number ahead, its size, whether there is one. -/
def vpeek (l : List UInt8) : Int × Int × Bool :=
  if l.length = 0 then (0, 0, false) else
  if l.length < vlead (bat l 0) 8 0 + 1 then (0, 0, false) else
  if 9223372036854775807 - vbnd (vlead (bat l 0) 8 0) < vacc l (vlead (bat l 0) 8 0) 1 (vlow (bat l 0) (vlead (bat l 0) 8 0)) then (0, 0, false) else
  (vacc l (vlead (bat l 0) 8 0) 1 (vlow (bat l 0) (vlead (bat l 0) 8 0)) + vbnd (vlead (bat l 0) 8 0), (vlead (bat l 0) 8 0 : Int) + 1, true)
end Go.Proofs.Ytinfmojbdaiogaa
