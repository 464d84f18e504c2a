/- A further byte is refused. No program in sight. -/
import Derived.Test.YtmdhpbolbebflaaRcI
set_option linter.unusedVariables false
set_option linter.unusedSimpArgs false
namespace Go.Proofs.Ytmdhpbolbebflaa
open Go.Gh Go.RowKit

def ext (d : Dec) (c : UInt8) : Dec := ⟨d.rest ++ [c], d.code, d.size, d.missing, d.full⟩
theorem dnext_ext {d : Dec} {c : UInt8} (h : (dnext d).missing = false) : dnext (ext d c) = ext (dnext d) c := by
  obtain ⟨rest, code, size, missing, full⟩ := d
  cases rest with
  | nil => cases h
  | cons x r => rfl
theorem dnorm_ext {c : UInt8} (k : Nat) : ∀ {d : Dec}, (dnorm k d).missing = false → dnorm k (ext d c) = ext (dnorm k d) c := by
  induction k with
  | zero => intro d _; rfl
  | succ k ih =>
    intro d h
    unfold dnorm at h ⊢
    rw [show (ext d c).size = d.size from rfl]
    split
    · rename_i hc
      rw [if_pos hc] at h
      have h0 := dnorm_miss k h
      rw [dnext_ext (d := d) h0]
      exact ih h
    · rfl
theorem dbit_ext {d : Dec} {c : UInt8} {z : Int} (h : (dbit d z).1.missing = false) : dbit (ext d c) z = (ext (dbit d z).1 c, (dbit d z).2) := by
  have e : dstep (ext d c) z = (ext (dstep d z).1 c, (dstep d z).2) := by
    unfold dstep
    rw [show (ext d c).size = d.size from rfl, show (ext d c).code = d.code from rfl]
    split <;> rfl
  unfold dbit
  rw [e]
  have := dnorm_ext (c := c) 2 (d := (dstep d z).1) h
  rw [this]
theorem drun_ext {c : UInt8} (zs : List Int) : ∀ {d : Dec} {acc : List Int}, (drun zs d acc).1.missing = false → drun zs (ext d c) acc = (ext (drun zs d acc).1 c, (drun zs d acc).2) := by
  induction zs with
  | nil => intro d acc _; rfl
  | cons z r ih =>
    intro d acc h
    rw [drun_cons] at h ⊢
    rw [drun_cons, dbit_ext (drun_miss r h)]
    exact ih h
theorem dnew_ext {D : List UInt8} {c : UInt8} (h : 4 ≤ D.length) : dnew (D ++ [c]) = ext (dnew D) c := by
  match D, h with
  | _ :: _ :: _ :: _ :: _, _ => rfl
theorem strict_more {D : List UInt8} {zs : List Int} (c : UInt8) (h : (dec D zs).2 = 0) : (dec (D ++ [c]) zs).2 = 12 := by
  unfold dec at h ⊢
  split at h
  · rename_i hv
    rw [if_pos hv]
    split at h
    · rename_i h0
      obtain ⟨k1, k2, k3, k4⟩ := dend_zero h0
      rw [dnew_ext (dnew_miss (drun_miss zs k1)), drun_ext zs k1]
      have : dend (ext (drun zs (dnew D) []).1 c) = 12 := by
        unfold dend
        rw [if_pos]
        exact .inr (.inr (.inl (by show (drun zs (dnew D) []).1.rest ++ [c] ≠ []; simp)))
      dsimp only
      rw [this]; rfl
    · contradiction
  · cases h
end Go.Proofs.Ytmdhpbolbebflaa
