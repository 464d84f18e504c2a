/- The bits that a decoder reads behind an encoder. No program in sight. -/
import Derived.Test.YtmdhpbolbebflaaRcK
set_option linter.unusedVariables false
set_option linter.unusedSimpArgs false
namespace Go.Proofs.Ytmdhpbolbebflaa
open Go.Gh Go.RowKit

def pw (j : Nat) : Int := ((256 ^ j : Nat) : Int)
theorem pw_pos (j : Nat) : 0 < pw j := by
  have : 0 < 256 ^ j := Nat.pow_pos (by decide)
  unfold pw; omega
theorem pw_zero : pw 0 = 1 := rfl
theorem pw_succ (j : Nat) : pw (j + 1) = 256 * pw j := by unfold pw; rw [Nat.pow_succ]; omega
theorem pw_add (i j : Nat) : pw (i + j) = pw i * pw j := by unfold pw; rw [Nat.pow_add, Int.natCast_mul]
theorem norm_in (k : Nat) : ∀ {e : Enc}, (0 ≤ e.low ∧ e.low ≤ 4294967295) → ∃ j, (norm k e).out.length = e.out.length + j ∧ num' (norm k e) = num' e * pw j ∧ (norm k e).size = e.size * pw j := by
  induction k with
  | zero => intro e _; exact ⟨0, rfl, by rw [pw_zero, Int.mul_one]; rfl, by rw [pw_zero, Int.mul_one]; rfl⟩
  | succ k ih =>
    intro e hl
    unfold norm
    split
    · obtain ⟨h1, h2, h3⟩ := eshift_num hl
      obtain ⟨j, g1, g2, g3⟩ := ih (eshift_low e)
      exact ⟨j + 1, by rw [g1, h2]; omega, by rw [g2, h1, pw_succ, Int.mul_assoc], by rw [g3, h3, pw_succ, Int.mul_assoc]⟩
    · exact ⟨0, rfl, by rw [pw_zero, Int.mul_one], by rw [pw_zero, Int.mul_one]⟩
/-- One interval within another. -/
def Within (e e' : Enc) : Prop := ∃ j, e'.out.length = e.out.length + j ∧ num' e * pw j ≤ num' e' ∧ num' e' + e'.size ≤ (num' e + e.size) * pw j
theorem Within.refl (e : Enc) : Within e e := ⟨0, rfl, by rw [pw_zero, Int.mul_one]; exact Int.le_refl _, by rw [pw_zero, Int.mul_one]; exact Int.le_refl _⟩
theorem Within.trans {e f g : Enc} (a : Within e f) (b : Within f g) : Within e g := by
  obtain ⟨i, a1, a2, a3⟩ := a
  obtain ⟨j, b1, b2, b3⟩ := b
  refine ⟨i + j, by omega, ?_, ?_⟩
  · rw [pw_add, ← Int.mul_assoc]
    exact Int.le_trans (Int.mul_le_mul_of_nonneg_right a2 (Int.le_of_lt (pw_pos j))) b2
  · rw [pw_add, ← Int.mul_assoc]
    exact Int.le_trans b3 (Int.mul_le_mul_of_nonneg_right a3 (Int.le_of_lt (pw_pos j)))
theorem within_norm {k : Nat} {e : Enc} (hl : 0 ≤ e.low ∧ e.low ≤ 4294967295) : Within e (norm k e) := by
  obtain ⟨j, g1, g2, g3⟩ := norm_in k hl
  exact ⟨j, g1, by rw [g2]; exact Int.le_refl _, by rw [g2, g3, Int.add_mul]; exact Int.le_refl _⟩
theorem within_ebit {n : Nat} {e : Enc} (hok : EncOk n e) (hi : InB e) (z b : Int) : Within (estep e z b) (ebit e z b) := within_norm (estep_ok hok z b).2.1
theorem within_estep {n : Nat} {e : Enc} (hok : EncOk n e) (hi : InB e) (z b : Int) : Within e (estep e z b) := by
  obtain ⟨h1, h2, h3, h4⟩ := estep_num hok hi z b
  have hd := size_dvd hok.size z
  refine ⟨0, h3, ?_, ?_⟩
  · rw [pw_zero, Int.mul_one, h1]; split <;> omega
  · rw [pw_zero, Int.mul_one, h1, h4]; split <;> omega
/-- Where a number lies whose end lies within. -/
theorem within_at {e f : Enc} {D : List UInt8} (w : Within e f) (hD : D.length = f.out.length + 4) (hv : (val D : Int) = num' f) (hs : 0 < f.size) :
    num' e ≤ (val (D.take (e.out.length + 4)) : Int) ∧ (val (D.take (e.out.length + 4)) : Int) < num' e + e.size := by
  obtain ⟨j, h1, h2, h3⟩ := w
  have hsp : val D = val (D.take (e.out.length + 4)) * 256 ^ j + val (D.drop (e.out.length + 4)) := by
    have := val_app (D.take (e.out.length + 4)) (D.drop (e.out.length + 4))
    rw [List.take_append_drop, List.length_drop, show D.length - (e.out.length + 4) = j by omega] at this
    exact this
  have hlt := val_lt (D.drop (e.out.length + 4))
  rw [List.length_drop, show D.length - (e.out.length + 4) = j by omega] at hlt
  have hp := pw_pos j
  have e1 : (val D : Int) = (val (D.take (e.out.length + 4)) : Int) * pw j + (val (D.drop (e.out.length + 4)) : Int) := by rw [hsp]; unfold pw; rw [Int.natCast_add, Int.natCast_mul]
  have e2 : (val (D.drop (e.out.length + 4)) : Int) < pw j := by unfold pw; omega
  generalize (val (D.take (e.out.length + 4)) : Int) = V at *
  have e3 : num' e * pw j < (V + 1) * pw j := by rw [Int.add_mul, Int.one_mul]; omega
  have e4 : V * pw j < (num' e + e.size) * pw j := by omega
  have e5 := Int.lt_of_mul_lt_mul_right e3 (Int.le_of_lt hp)
  have e6 := Int.lt_of_mul_lt_mul_right e4 (Int.le_of_lt hp)
  omega
/-- The decoder reads the bit that was written. -/
theorem bit_read {D : List UInt8} {n : Nat} {e f : Enc} {d : Dec} (s : Syn D e d) (hok : EncOk n e) (hi : InB e) (z b : Int) (w : Within (ebit e z b) f) (hD : D.length = f.out.length + 4) (hv : (val D : Int) = num' f) (hs : 0 < f.size) :
    b = 0 ↔ (dbit d z).2 = 0 := by
  obtain ⟨h1, h2, h3, h4⟩ := estep_num hok hi z b
  have hw := within_at ((within_ebit hok hi z b).trans w) hD hv hs
  have hd := size_dvd hok.size z
  rw [h3, h1, h4] at hw
  have hc := s.code
  show b = 0 ↔ (dstep d z).2 = 0
  unfold dstep
  rw [s.size]
  split
  · rename_i hlt
    refine ⟨fun _ => rfl, fun _ => ?_⟩
    by_cases hb : b = 0
    · exact hb
    · rw [if_neg hb, if_neg hb] at hw; omega
  · rename_i hlt
    refine ⟨fun hb => ?_, fun h => by cases h⟩
    rw [if_pos hb, if_pos hb] at hw; omega
end Go.Proofs.Ytmdhpbolbebflaa
