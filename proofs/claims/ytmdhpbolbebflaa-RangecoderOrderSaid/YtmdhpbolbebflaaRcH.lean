/- The range coder as numbers: the decoder beside the encoder. No program in sight. -/
import Derived.Test.YtmdhpbolbebflaaRcG
set_option linter.unusedVariables false
set_option linter.unusedSimpArgs false
namespace Go.Proofs.Ytmdhpbolbebflaa
open Go.Gh Go.RowKit

/-- The decoder of D stands where the encoder stands. -/
structure Syn (D : List UInt8) (e : Enc) (d : Dec) : Prop where
  size : d.size = e.size
  len : e.out.length + 4 ≤ D.length
  rest : d.rest = D.drop (e.out.length + 4)
  miss : d.missing = false
  code : d.code = (val (D.take (e.out.length + 4)) : Int) - num' e
  rng : 0 ≤ d.code ∧ d.code < d.size
theorem dstep_syn {D : List UInt8} {n : Nat} {e : Enc} {d : Dec} (s : Syn D e d) (hok : EncOk n e) (hi : InB e) (z b : Int) (hb : b = 0 ↔ (dstep d z).2 = 0) : Syn D (estep e z b) (dstep d z).1 := by
  obtain ⟨h1, h2, h3, h4⟩ := estep_num hok hi z b
  have hd := size_dvd hok.size z
  have hs := s.size
  have hr := s.rng
  have hc := s.code
  unfold dstep at hb ⊢
  rw [hs] at hb ⊢
  split at hb
  · rename_i hlt
    rw [if_pos hlt]
    have hb0 : b = 0 := hb.2 rfl
    rw [if_pos hb0] at h1 h4
    exact ⟨h4.symm, by rw [h3]; exact s.len, by rw [h3]; exact s.rest, s.miss, by rw [h3, h1]; dsimp only; omega, by dsimp only; omega⟩
  · rename_i hlt
    rw [if_neg hlt]
    have hb0 : ¬ b = 0 := fun h => by have := hb.1 h; cases this
    rw [if_neg hb0] at h1 h4
    exact ⟨h4.symm, by rw [h3]; exact s.len, by rw [h3]; exact s.rest, s.miss, by rw [h3, h1]; dsimp only; omega, by dsimp only; omega⟩
/-- A byte more. -/
theorem dnext_syn {D : List UInt8} {e : Enc} {d : Dec} (s : Syn D e d) (hl : 0 ≤ e.low ∧ e.low ≤ 4294967295) (hsz : e.size < 16777216) (hD : e.out.length + 5 ≤ D.length) : Syn D (eshift e) { dnext d with size := (dnext d).size * 256 } := by
  obtain ⟨h1, h2, h3⟩ := eshift_num hl
  have hlt : e.out.length + 4 < D.length := by omega
  have hr : d.rest = D[e.out.length + 4] :: D.drop (e.out.length + 4 + 1) := by rw [s.rest, List.drop_eq_getElem_cons hlt]
  have hc := (D[e.out.length + 4]).toNat_lt
  have hv : val (D.take (e.out.length + 5)) = val (D.take (e.out.length + 4)) * 256 + (D[e.out.length + 4]).toNat := by
    rw [← val_snoc, List.take_append_getElem hlt]
  have hsi := s.size
  have hrg := s.rng
  have hco := s.code
  obtain ⟨rest, code, size, missing, full⟩ := d
  dsimp only at hr hsi hrg hco
  subst hr
  have e5 : (eshift e).out.length + 4 = e.out.length + 5 := by omega
  refine ⟨by rw [h3, ← hsi]; rfl, by omega, ?_, s.miss, ?_, ?_⟩
  · show D.drop (e.out.length + 4 + 1) = _
    rw [e5]
  · show code * 256 % 4294967296 + ((D[e.out.length + 4]).toNat : Int) = _
    rw [e5, hv, h1]
    omega
  · show 0 ≤ code * 256 % 4294967296 + ((D[e.out.length + 4]).toNat : Int) ∧ code * 256 % 4294967296 + ((D[e.out.length + 4]).toNat : Int) < size * 256
    omega
theorem norm_len (k : Nat) (e : Enc) : e.out.length ≤ (norm k e).out.length := norm_out k e
theorem eshift_low (e : Enc) : 0 ≤ (eshift e).low ∧ (eshift e).low ≤ 4294967295 := by
  show 0 ≤ e.low * 256 % 4294967296 ∧ e.low * 256 % 4294967296 ≤ 4294967295; omega
theorem norm_syn {D : List UInt8} : ∀ (k : Nat) {e : Enc} {d : Dec}, Syn D e d → (0 ≤ e.low ∧ e.low ≤ 4294967295) → (norm k e).out.length + 4 ≤ D.length → Syn D (norm k e) (dnorm k d)
  | 0, _, _, s, _, _ => s
  | k + 1, e, d, s, hl, hD => by
    unfold norm at hD ⊢
    unfold dnorm
    rw [s.size]
    by_cases hc : e.size < 16777216
    · rw [if_pos hc] at hD ⊢
      rw [if_pos hc]
      have h2 : (eshift e).out.length = e.out.length + 1 := (eshift_num hl).2.1
      have h3 := norm_len k (eshift e)
      exact norm_syn k (dnext_syn s hl hc (by omega)) (eshift_low e) hD
    · rw [if_neg hc, if_neg hc]; exact s
/-- Once a byte is missing, it is missing. -/
theorem dnext_miss {d : Dec} (h : (dnext d).missing = false) : d.missing = false ∧ d.rest ≠ [] := by
  obtain ⟨rest, code, size, missing, full⟩ := d
  cases rest with
  | nil => cases h
  | cons c r => exact ⟨h, by simp⟩
theorem dnorm_miss : ∀ (k : Nat) {d : Dec}, (dnorm k d).missing = false → d.missing = false
  | 0, _, h => h
  | k + 1, d, h => by
    unfold dnorm at h
    split at h
    · have h0 := dnorm_miss k h
      exact (dnext_miss (d := d) h0).1
    · exact h
theorem norm_syn' {D : List UInt8} : ∀ (k : Nat) {e : Enc} {d : Dec}, Syn D e d → (0 ≤ e.low ∧ e.low ≤ 4294967295) → (dnorm k d).missing = false → Syn D (norm k e) (dnorm k d)
  | 0, _, _, s, _, _ => s
  | k + 1, e, d, s, hl, hm => by
    unfold norm
    unfold dnorm at hm ⊢
    rw [s.size] at hm ⊢
    by_cases hc : e.size < 16777216
    · rw [if_pos hc] at hm ⊢
      rw [if_pos hc]
      have h0 := dnorm_miss k hm
      have h1 := (dnext_miss (d := d) h0).2
      have h2 : e.out.length + 5 ≤ D.length := by
        rw [s.rest] at h1
        rcases Nat.lt_or_ge (e.out.length + 4) D.length with g | g
        · exact g
        · exact absurd (List.drop_of_length_le g) h1
      exact norm_syn' k (dnext_syn s hl hc h2) (eshift_low e) hm
    · rw [if_neg hc] at hm ⊢
      rw [if_neg hc]; exact s
theorem eshift_InB {e : Enc} (hl : 0 ≤ e.low ∧ e.low ≤ 4294967295) (h : InB e) : InB (eshift e) := by
  obtain ⟨h1, h2, h3⟩ := eshift_num hl
  unfold InB at h ⊢
  rw [h1, h2, h3, Nat.pow_succ]
  generalize 256 ^ e.out.length = w at *
  omega
theorem norm_InB (k : Nat) : ∀ {e : Enc}, (0 ≤ e.low ∧ e.low ≤ 4294967295) → InB e → InB (norm k e) := by
  induction k with
  | zero => intro e _ h; exact h
  | succ k ih =>
    intro e hl h
    unfold norm
    split
    · exact ih (eshift_low e) (eshift_InB hl h)
    · exact h
theorem ebit_InB {n : Nat} {e : Enc} (hok : EncOk n e) (hi : InB e) (z b : Int) : InB (ebit e z b) := norm_InB 2 (estep_ok hok z b).2.1 (estep_num hok hi z b).2.1
theorem ebit_syn {D : List UInt8} {n : Nat} {e : Enc} {d : Dec} (s : Syn D e d) (hok : EncOk n e) (hi : InB e) (z b : Int) (hb : b = 0 ↔ (dbit d z).2 = 0) (hD : (ebit e z b).out.length + 4 ≤ D.length) : Syn D (ebit e z b) (dbit d z).1 :=
  norm_syn 2 (dstep_syn s hok hi z b hb) (estep_ok hok z b).2.1 hD
theorem ebit_syn' {D : List UInt8} {n : Nat} {e : Enc} {d : Dec} (s : Syn D e d) (hok : EncOk n e) (hi : InB e) (z b : Int) (hb : b = 0 ↔ (dbit d z).2 = 0) (hm : (dbit d z).1.missing = false) : Syn D (ebit e z b) (dbit d z).1 :=
  norm_syn' 2 (dstep_syn s hok hi z b hb) (estep_ok hok z b).2.1 hm
theorem e00_InB : InB e00 := by unfold InB; decide
/-- The start. -/
theorem dnew_syn {D : List UInt8} (h4 : 4 ≤ D.length) (hf : (dnew D).full = false) : Syn D e00 (dnew D) := by
  match D, h4 with
  | a :: b :: c :: d :: r, _ =>
    have h1 := a.toNat_lt; have h2 := b.toNat_lt; have h3 := c.toNat_lt; have h5 := d.toNat_lt
    have hv : val [a, b, c, d] = ((a.toNat * 256 + b.toNat) * 256 + c.toNat) * 256 + d.toNat := by simp [val]
    have hcode : (dnew (a :: b :: c :: d :: r)).code = (val [a, b, c, d] : Int) := by
      rw [hv]
      show (((0 * 256 % 4294967296 + (a.toNat : Int)) * 256 % 4294967296 + (b.toNat : Int)) * 256 % 4294967296 + (c.toNat : Int)) * 256 % 4294967296 + (d.toNat : Int) = _
      omega
    have hne : (dnew (a :: b :: c :: d :: r)).code ≠ 4294967295 := fun h => by
      have : (dnew (a :: b :: c :: d :: r)).full = true := by
        show decide ((dnew (a :: b :: c :: d :: r)).code = 4294967295) = true
        rw [h]; rfl
      rw [hf] at this; cases this
    refine ⟨rfl, by simp, rfl, rfl, ?_, ?_⟩
    · rw [hcode]; show _ = (val [a, b, c, d] : Int) - num' e00
      show _ = (val [a, b, c, d] : Int) - ((0 : Nat) * 4294967296 + 0 : Int)
      omega
    · show 0 ≤ (dnew (a :: b :: c :: d :: r)).code ∧ (dnew (a :: b :: c :: d :: r)).code < 4294967295
      rw [hcode] at hne ⊢
      rw [hv] at hne ⊢
      omega
end Go.Proofs.Ytmdhpbolbebflaa
