/- All calls, and the end. No program in sight. -/
import Derived.Test.YtmdhpbolbebflaaRcN
set_option linter.unusedVariables false
set_option linter.unusedSimpArgs false
namespace Go.Proofs.Ytmdhpbolbebflaa
open Go.Gh Go.RowKit

theorem ecalls_ok (l : List (Bool × Int × Int)) : ∀ {n : Nat} {e : Enc}, EncOk n e → EncOk (n + 124 * l.length) (ecalls l e) := by
  induction l with
  | nil => intro n e h; exact h
  | cons c r ih => intro n e h; rw [List.length_cons, show n + 124 * (r.length + 1) = n + 124 + 124 * r.length by omega]; exact ih (ecall_ok h c)
theorem ecalls_in (l : List (Bool × Int × Int)) : ∀ {n : Nat} {e : Enc}, EncOk n e → InB e → Within e (ecalls l e) ∧ InB (ecalls l e) := by
  induction l with
  | nil => intro n e _ hi; exact ⟨.refl _, hi⟩
  | cons c r ih =>
    intro n e h hi
    obtain ⟨h1, h2⟩ := ecall_in h hi c
    obtain ⟨h3, h4⟩ := ih (ecall_ok h c) h2
    exact ⟨h1.trans h3, h4⟩
theorem four {D : List UInt8} (h : 4 ≤ D.length) : ∃ a b c d r, D = a :: b :: c :: d :: r := by
  match D, h with
  | a :: b :: c :: d :: r, _ => exact ⟨a, b, c, d, r, rfl⟩
/-- The start behind an encoder of calls. -/
theorem inv_full (l : List (Bool × Int × Int)) : (dnew (fin (ecalls l e00))).full = false := by
  have hok := ecalls_ok l e00_ok
  have hw := (ecalls_in l e00_ok e00_InB).1
  have hv := fin_val hok.low
  have ha := within_at hw (fin_len _) hv (by have := hok.size; omega)
  have hlen : 4 ≤ (fin (ecalls l e00)).length := by rw [fin_len]; omega
  generalize fin (ecalls l e00) = D at *
  obtain ⟨a, b, c, d, r, rfl⟩ := four hlen
  · have h1 := a.toNat_lt; have h2 := b.toNat_lt; have h3 := c.toNat_lt; have h5 := d.toNat_lt
    have hv4 : val [a, b, c, d] = ((a.toNat * 256 + b.toNat) * 256 + c.toNat) * 256 + d.toNat := by simp [val]
    have ha2 : (val [a, b, c, d] : Int) < 4294967295 := by
      have := ha.2
      rw [show num' e00 + e00.size = 4294967295 from rfl] at this
      exact this
    show decide ((((0 * 256 % 4294967296 + (a.toNat : Int)) * 256 % 4294967296 + (b.toNat : Int)) * 256 % 4294967296 + (c.toNat : Int)) * 256 % 4294967296 + (d.toNat : Int) = 4294967295) = false
    rw [decide_eq_false_iff_not]
    omega
theorem inv_start (l : List (Bool × Int × Int)) : Syn (fin (ecalls l e00)) e00 (dnew (fin (ecalls l e00))) :=
  dnew_syn (by rw [fin_len]; omega) (inv_full l)
theorem ddir_full (d : Dec) (x : Int) : (ddir d x).1.full = d.full := by
  have h : ∀ (k : Nat) (d : Dec) (a : Int), (dbits k d a).1.full = d.full := by
    intro k
    induction k with
    | zero => intro d a; rfl
    | succ k ih => intro d a; unfold dbits; rw [ih, dbit_full]
  unfold ddir
  split
  · rfl
  · exact h _ _ _
theorem dcall_full (d : Dec) (c : Bool × Int × Int) : (dcall d c).1.full = d.full := by
  unfold dcall; split
  · exact ddir_full _ _
  · exact dbit_full _ _
theorem dcall_ok {d : Dec} (h : DecOk d) (c : Bool × Int × Int) : DecOk (dcall d c).1 := by
  unfold dcall; split
  · exact ddir_ok h _
  · exact dbit_ok h _
/-- The end. -/
theorem inv_end {e : Enc} {d : Dec} (hl : 0 ≤ e.low ∧ e.low ≤ 4294967295) (s : Syn (fin e) e d) (hf : d.full = false) : dend d = 0 := by
  have h1 := s.rest
  have h2 := s.code
  rw [← fin_len] at h1 h2
  rw [List.drop_length] at h1
  rw [List.take_length, fin_val hl] at h2
  unfold dend
  rw [if_neg]
  rintro (h | h | h | h)
  · rw [s.miss] at h; cases h
  · rw [hf] at h; cases h
  · exact h h1
  · exact h (by omega)
end Go.Proofs.Ytmdhpbolbebflaa
