/- BitvectorExtends: plain facts. -/
import Derived.Test.YtoachkpkbgpmjaaBvH
set_option linter.unusedVariables false
set_option linter.unusedSimpArgs false
namespace Go.Proofs.Ytoachkpkbgpmjaa
open Go.Gh Go.RowKit

theorem b8_self (a : UInt8) : b8 (a.toNat : Int) = a := by unfold b8; rw [Int.toNat_natCast]; exact UInt8.ofNat_toNat
theorem fr_in (l : List UInt8) : 0 ≤ fr l ∧ fr l < 256 ∧ fr l ≠ 49 := by
  have := bat_lo l 0; have := bat_hi l 0; unfold fr; split <;> omega
theorem sc_front {a b : UInt8} {r : List UInt8} (h : sc (a :: b :: r)) : a = b8 (if b.toNat = 49 then 48 else b.toNat) := by
  have e0 : bat (a :: b :: r) 0 = a.toNat := rfl
  have e1 : bat (a :: b :: r) 1 = b.toNat := rfl
  unfold sc at h
  rw [e0, e1] at h
  rw [← b8_self a]
  congr 1
  split <;> omega
theorem shr_ext : ∀ v : List UInt8, ∃ k, v = List.replicate k (b8 (fr (shr v))) ++ shr v
  | [] => ⟨0, rfl⟩
  | [a] => ⟨0, rfl⟩
  | a :: b :: r => by
    by_cases h : sc (a :: b :: r)
    · obtain ⟨k, hk⟩ := shr_ext (b :: r)
      rw [show shr (a :: b :: r) = shr (b :: r) from if_pos h]
      refine ⟨k + 1, ?_⟩
      rw [List.replicate_succ, List.cons_append, ← hk]
      congr 1
      rw [sc_front h]
      cases k with
      | zero =>
        rw [List.replicate_zero, List.nil_append] at hk
        rw [← hk]
        congr 1
        show _ = if bat (b :: r) 0 = 49 then 48 else bat (b :: r) 0
        rw [show bat (b :: r) 0 = b.toNat from rfl]
        split <;> split <;> omega
      | succ k =>
        rw [List.replicate_succ, List.cons_append] at hk
        have hb := (List.cons.inj hk).1
        have hf := fr_in (shr (b :: r))
        have hv : (b.toNat : Int) = fr (shr (b :: r)) := by
          have := congrArg (fun x : UInt8 => (x.toNat : Int)) hb
          rw [b8_val ⟨hf.1, hf.2.1⟩] at this; exact this
        congr 1
        split <;> omega
    · exact ⟨0, by rw [show shr (a :: b :: r) = a :: b :: r from if_neg h]; rfl⟩
theorem shr_stop : ∀ v : List UInt8, 2 ≤ (shr v).length → ¬ sc (shr v)
  | [], h => by simp [shr] at h
  | [a], h => by simp [shr] at h
  | a :: b :: r, h => by
    by_cases hs : sc (a :: b :: r)
    · rw [show shr (a :: b :: r) = shr (b :: r) from if_pos hs] at h ⊢
      exact shr_stop (b :: r) h
    · rw [show shr (a :: b :: r) = a :: b :: r from if_neg hs]; exact hs
theorem shr_add (v : List UInt8) (hv : v ≠ []) : ∀ k, shr (List.replicate k (b8 (fr v)) ++ v) = shr v
  | 0 => rfl
  | k + 1 => by
    have hf := fr_in v
    obtain ⟨b, r, e⟩ : ∃ b r, List.replicate k (b8 (fr v)) ++ v = b :: r := by
      cases h : List.replicate k (b8 (fr v)) ++ v with
      | nil => rw [List.append_eq_nil_iff] at h; exact absurd h.2 hv
      | cons b r => exact ⟨b, r, rfl⟩
    have ih := shr_add v hv k
    rw [e] at ih
    rw [List.replicate_succ, List.cons_append, e]
    rw [show shr (b8 (fr v) :: b :: r) = shr (b :: r) from if_pos ?_]
    · exact ih
    · unfold sc
      rw [show bat (b8 (fr v) :: b :: r) 0 = ((b8 (fr v)).toNat : Int) from rfl, b8_val ⟨hf.1, hf.2.1⟩, show bat (b8 (fr v) :: b :: r) 1 = (b.toNat : Int) from rfl]
      cases k with
      | zero =>
        rw [List.replicate_zero, List.nil_append] at e
        have hfv : fr v = if (b.toNat : Int) = 49 then 48 else (b.toNat : Int) := by rw [e]; rfl
        split at hfv <;> omega
      | succ k =>
        rw [List.replicate_succ, List.cons_append] at e
        rw [← (List.cons.inj e).1, b8_val ⟨hf.1, hf.2.1⟩]
        exact .inl ⟨rfl, hf.2.2⟩
end Go.Proofs.Ytoachkpkbgpmjaa
