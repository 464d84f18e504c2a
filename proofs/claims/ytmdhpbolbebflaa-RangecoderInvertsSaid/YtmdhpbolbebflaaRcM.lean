/- The numbers that a decoder reads behind an encoder. No program in sight. -/
import Derived.Test.YtmdhpbolbebflaaRcL
set_option linter.unusedVariables false
set_option linter.unusedSimpArgs false
namespace Go.Proofs.Ytmdhpbolbebflaa
open Go.Gh Go.RowKit

theorem within_len {e f : Enc} (w : Within e f) : e.out.length ≤ f.out.length := by obtain ⟨j, h, _⟩ := w; omega
theorem within_ebits {v : Int} (k : Nat) : ∀ {n : Nat} {e : Enc}, EncOk n e → InB e → Within e (ebits v k e) ∧ InB (ebits v k e) := by
  induction k with
  | zero => intro n e _ hi; exact ⟨.refl _, hi⟩
  | succ k ih =>
    intro n e hok hi
    obtain ⟨h1, h2⟩ := ih (ebit_ok hok 1024 (v / 2 ^ k % 2)) (ebit_InB hok hi 1024 (v / 2 ^ k % 2))
    exact ⟨((within_estep hok hi _ _).trans (within_ebit hok hi _ _)).trans h1, h2⟩
theorem bits_read {D : List UInt8} {f : Enc} {v : Int} (hD : D.length = f.out.length + 4) (hv : (val D : Int) = num' f) (hs : 0 < f.size) (k : Nat) : ∀ {n : Nat} {e : Enc} {d : Dec} {a : Int}, Syn D e d → EncOk n e → InB e → Within (ebits v k e) f →
    Syn D (ebits v k e) (dbits k d a).1 ∧ (dbits k d a).2 = a * 2 ^ k + v % 2 ^ k := by
  induction k with
  | zero => intro n e d a s _ _ _; exact ⟨s, by show a = a * 2 ^ 0 + v % 2 ^ 0; rw [Int.pow_zero, Int.mul_one, Int.emod_one, Int.add_zero]⟩
  | succ k ih =>
    intro n e d a s hok hi w
    have hb1 := ebit_ok hok 1024 (v / 2 ^ k % 2)
    have hb2 := ebit_InB hok hi 1024 (v / 2 ^ k % 2)
    have w1 : Within (ebit e 1024 (v / 2 ^ k % 2)) f := (within_ebits k hb1 hb2).1.trans w
    have hr := bit_read s hok hi 1024 (v / 2 ^ k % 2) w1 hD hv hs
    have hbd := dbit_01 d 1024
    have hval : (dbit d 1024).2 = v / 2 ^ k % 2 := by omega
    obtain ⟨g1, g2⟩ := ih (a := a * 2 + (dbit d 1024).2) (ebit_syn s hok hi 1024 _ hr (by have := within_len w1; omega)) hb1 hb2 w
    refine ⟨g1, ?_⟩
    show (dbits k _ _).2 = _
    rw [g2, hval]
    have h1 := Int.emod_add_mul_ediv v (2 ^ k)
    have h2 := Int.emod_add_mul_ediv (v / 2 ^ k) 2
    have h3 := Int.emod_add_mul_ediv v (2 ^ (k + 1))
    have h4 : v / 2 ^ k / 2 = v / (2 ^ k * 2) := by rw [Int.ediv_ediv_of_nonneg (Int.le_of_lt (Int.pow_pos (by decide)))]
    rw [h4] at h2
    rw [Int.pow_succ] at h3 ⊢
    generalize v / (2 ^ k * 2) = q at *
    generalize v / 2 ^ k = p at *
    generalize (2 : Int) ^ k = t at *
    have h5 : t * p = t * (p % 2) + 2 * (t * q) := by
      conv => lhs; rw [← h2]
      rw [Int.mul_add, Int.mul_left_comm]
    have h6 : t * 2 * q = 2 * (t * q) := by rw [Int.mul_comm t 2, Int.mul_assoc]
    have h7 : (a * 2 + p % 2) * t = a * (t * 2) + t * (p % 2) := by rw [Int.add_mul, Int.mul_assoc, Int.mul_comm 2 t, Int.mul_comm (p % 2) t]
    omega
end Go.Proofs.Ytmdhpbolbebflaa
