/- Chapter 08: bytes are read. -/
import Derived.Test.YtinfmojbdaiogaaMdS
set_option linter.unusedVariables false
set_option linter.unusedSimpArgs false
set_option maxRecDepth 4000
namespace Go.Proofs.Ytinfmojbdaiogaa
open Go.Gh Go.RowKit

/-- k bytes, one after the other: the bytes, the decoder behind them. -/
def bdecN : Nat → List Int → Int → Dec → List UInt8 × Dec
  | 0, _, _, d => ([], d)
  | k + 1, P, c, d => (b8 (bdec P c d).2.2 :: (bdecN k (bdec P c d).1 (bdec P c d).2.2 (bdec P c d).2.1).1, (bdecN k (bdec P c d).1 (bdec P c d).2.2 (bdec P c d).2.1).2)
theorem bdec_ok {P : List Int} {c : Int} {d : Dec} (h : DecOk d) (hP : P.length = 2048) (hc : 0 ≤ c ∧ c ≤ 255) : DecOk (bdec P c d).2.1 ∧ (bdec P c d).1.length = 2048 ∧ 0 ≤ (bdec P c d).2.2 ∧ (bdec P c d).2.2 ≤ 255 := by
  have hk : (c / 32).toNat < 8 := by omega
  obtain ⟨h1, h2, h3⟩ := tdec_ok (k := 8) (t := bsel P (c / 32).toNat) (j := 1) h
  have h28 : (2 ^ 8 : Nat) = 256 := rfl
  rw [h28] at h3
  refine ⟨h1, bput_len hP hk (by rw [h2]; exact bsel_len hP hk), Int.natCast_nonneg _, ?_⟩
  show (((tdec 8 (bsel P (c / 32).toNat) d 1).2.2 - 256 : Nat) : Int) ≤ 255
  omega
end Go.Proofs.Ytinfmojbdaiogaa
