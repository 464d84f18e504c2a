/- What Decode accepts, Encode returns. No program in sight. -/
import Derived.Test.YtmdhpbolbebflaaRcH
set_option linter.unusedVariables false
set_option linter.unusedSimpArgs false
namespace Go.Proofs.Ytmdhpbolbebflaa
open Go.Gh Go.RowKit

theorem dnext_full (d : Dec) : (dnext d).full = d.full := by
  obtain ⟨rest, code, size, missing, full⟩ := d
  cases rest <;> rfl
theorem dnorm_full (k : Nat) : ∀ (d : Dec), (dnorm k d).full = d.full := by
  induction k with
  | zero => intro d; rfl
  | succ k ih =>
    intro d
    unfold dnorm
    split
    · rw [ih]; exact dnext_full d
    · rfl
theorem dbit_full (d : Dec) (z : Int) : (dbit d z).1.full = d.full := by
  show (dnorm 2 (dstep d z).1).full = _
  rw [dnorm_full]; unfold dstep; split <;> rfl
theorem dbit_miss {d : Dec} {z : Int} (h : (dbit d z).1.missing = false) : d.missing = false := by
  have := dnorm_miss 2 h
  unfold dstep at this
  split at this <;> exact this
theorem drun_full (zs : List Int) : ∀ (d : Dec) (acc : List Int), (drun zs d acc).1.full = d.full := by
  induction zs with
  | nil => intro d acc; rfl
  | cons z r ih => intro d acc; rw [drun_cons, ih, dbit_full]
theorem drun_miss (zs : List Int) : ∀ {d : Dec} {acc : List Int}, (drun zs d acc).1.missing = false → d.missing = false := by
  induction zs with
  | nil => intro d acc h; exact h
  | cons z r ih => intro d acc h; rw [drun_cons] at h; exact dbit_miss (ih h)
theorem dbit_01 (d : Dec) (z : Int) : (dbit d z).2 = 0 ∨ (dbit d z).2 = 1 := by have := dbit_bit d z; omega
theorem strict_run {D : List UInt8} (zs : List Int) : ∀ {n : Nat} {e : Enc} {d : Dec} {acc : List Int}, Syn D e d → EncOk n e → InB e → (∀ z ∈ zs, vldP z) → (drun zs d acc).1.missing = false →
    ∃ bs e' m, (drun zs d acc).2 = acc ++ bs ∧ bs.length = zs.length ∧ (∀ b ∈ bs, b = 0 ∨ b = 1) ∧ erun (zs.zip bs) e = some e' ∧ Syn D e' (drun zs d acc).1 ∧ EncOk m e' := by
  induction zs with
  | nil => intro n e d acc s hok hi _ _; exact ⟨[], e, n, by simp [drun], rfl, by simp, rfl, s, hok⟩
  | cons z r ih =>
    intro n e d acc s hok hi hv hm
    rw [drun_cons] at hm ⊢
    have hb := dbit_01 d z
    have hm1 := drun_miss r hm
    have s1 := ebit_syn' s hok hi z (dbit d z).2 Iff.rfl hm1
    obtain ⟨bs, e', m, g1, g2, g3, g4, g5, g6⟩ := ih s1 (ebit_ok hok z _) (ebit_InB hok hi z _) (fun x hx => hv x (List.mem_cons_of_mem _ hx)) hm
    refine ⟨(dbit d z).2 :: bs, e', m, by rw [g1]; simp, by simp [g2], fun b hb' => ?_, ?_, g5, g6⟩
    · rcases List.mem_cons.1 hb' with rfl | hb'
      · exact hb
      · exact g3 b hb'
    · show (if vldS (z, (dbit d z).2) then erun (r.zip bs) (ebit e z (dbit d z).2) else none) = _
      rw [if_pos ⟨hv z List.mem_cons_self, hb⟩]; exact g4
theorem dnew_miss {D : List UInt8} (h : (dnew D).missing = false) : 4 ≤ D.length := by
  match D with
  | [] | [_] | [_, _] | [_, _, _] => cases h
  | _ :: _ :: _ :: _ :: _ => simp
theorem dend_zero {d : Dec} (h : dend d = 0) : d.missing = false ∧ d.full = false ∧ d.rest = [] ∧ d.code = 0 := by
  unfold dend at h
  split at h
  · cases h
  · rename_i hn
    simp only [not_or, Bool.not_eq_true, ne_eq, Classical.not_not] at hn
    exact hn
/-- What is accepted is what is written. -/
theorem strict_ok {D : List UInt8} {zs : List Int} (h : (dec D zs).2 = 0) : enc (zs.zip (dec D zs).1) = (D, 0) ∧ (∀ b ∈ (dec D zs).1, b = 0 ∨ b = 1) ∧ (∀ z ∈ zs, vldP z) := by
  unfold dec at h ⊢
  split at h
  · rename_i hv
    rw [if_pos hv]
    split at h
    · rename_i h0
      rw [if_pos h0]
      obtain ⟨k1, k2, k3, k4⟩ := dend_zero h0
      have hf : (dnew D).full = false := by rw [← drun_full zs (dnew D) []]; exact k2
      have h4 := dnew_miss (drun_miss zs k1)
      obtain ⟨bs, e', m, g1, g2, g3, g4, g5, g6⟩ := strict_run zs (acc := []) (dnew_syn h4 hf) e00_ok e00_InB hv k1
      rw [List.nil_append] at g1
      dsimp only
      rw [g1]
      refine ⟨?_, g3, hv⟩
      unfold enc
      rw [show erun (zs.zip bs) ⟨[], 0, 4294967295⟩ = some e' from g4]
      have hlen : D.length = e'.out.length + 4 := by
        have h1 := g5.len
        have h2 := g5.rest
        rw [k3] at h2
        have h3 := congrArg List.length h2
        simp only [List.length_nil, List.length_drop] at h3
        omega
      have hval : val D = val (fin e') := by
        have h1 := g5.code
        rw [k4, ← hlen, List.take_length] at h1
        have h2 := fin_val g6.low
        omega
      rw [val_inj (by rw [hlen, fin_len]) hval]
    · contradiction
  · cases h
end Go.Proofs.Ytmdhpbolbebflaa
