/- BitvectorExtends. -/
import Derived.Test.YtoachkpkbgpmjaaBvI
set_option linter.unusedVariables false
set_option linter.unusedSimpArgs false
namespace Go.Proofs.Ytoachkpkbgpmjaa
open Go.Gh Go.RowKit

theorem chs_iff (l : List UInt8) : chs l ↔ 1 ≤ l.length ∧ ∀ b ∈ l, 0 ≤ cd b.toNat := by
  unfold chs
  rw [cn_sum, List.countP_eq_length]
  simp only [decide_eq_true_eq]
theorem isV_chs {l : List UInt8} : isV l ↔ chs l ∧ l.length ≤ 128 := by
  rw [isV_iff]; unfold chs; omega
theorem chs_suf {p s : List UInt8} (h : chs (p ++ s)) (hs : 1 ≤ s.length) : chs s := by
  rw [chs_iff] at h ⊢
  exact ⟨hs, fun b hb => h.2 b (List.mem_append_right _ hb)⟩
theorem shr_ne {v : List UInt8} (h : v ≠ []) : shr v ≠ [] := by
  intro e
  induction v with
  | nil => exact h rfl
  | cons a v ih =>
    cases v with
    | nil => exact absurd e (by simp [shr])
    | cons b r =>
      by_cases hs : sc (a :: b :: r)
      · rw [show shr (a :: b :: r) = shr (b :: r) from if_pos hs] at e
        exact ih (by simp) e
      · rw [show shr (a :: b :: r) = a :: b :: r from if_neg hs] at e
        cases e
/-- The facts of Shorten. -/
theorem shr_facts {v : List UInt8} (hv : isV v) : 1 ≤ (shr v).length ∧ (shr v).length ≤ v.length ∧ ext v.length (shr v) = (v, 0) ∧ chs (shr v) := by
  obtain ⟨k, hk⟩ := shr_ext v
  have hne : v ≠ [] := fun e => by have := hv.1; rw [e] at this; simp at this
  have h1 : 1 ≤ (shr v).length := by
    have := shr_ne hne
    cases h : shr v with
    | nil => exact absurd h this
    | cons a r => simp
  have hlen : v.length = k + (shr v).length := by have := congrArg List.length hk; simpa using this
  have hc : chs (shr v) := chs_suf (p := List.replicate k (b8 (fr (shr v)))) (by rw [← hk]; exact (isV_chs.1 hv).1) h1
  have h128 := hv.2.1
  refine ⟨h1, by omega, ?_, hc⟩
  unfold ext
  rw [if_neg (fun g => g ⟨by omega, by omega⟩), if_neg (fun g => g hc), if_neg (by omega), show ((v.length : Int) - ((shr v).length : Int)).toNat = k by omega, ← hk]
/-- No shorter digits. -/
theorem shr_least {v : List UInt8} (hv : isV v) (h2 : 2 ≤ (shr v).length) : (ext v.length ((shr v).drop 1)).1 ≠ v := by
  obtain ⟨k, hk⟩ := shr_ext v
  obtain ⟨h1, hle, _, hc⟩ := shr_facts hv
  have hns := shr_stop v h2
  have hlen : v.length = k + (shr v).length := by have := congrArg List.length hk; simpa using this
  have h128 := hv.2.1
  intro e
  generalize shr v = s at *
  match s, h2, hns, hc, hk, hlen, e with
  | a :: b :: r, h2, hns, hc, hk, hlen, e =>
    have hc2 : chs (b :: r) := chs_suf (p := [a]) hc (by simp)
    have hl : (a :: b :: r).length = r.length + 2 := rfl
    rw [List.drop_succ_cons, List.drop_zero] at e
    have hl2 : (b :: r).length = r.length + 1 := rfl
    unfold ext at e
    rw [if_neg (fun g => g ⟨by omega, by omega⟩), if_neg (fun g => g hc2), if_neg (by omega), show ((v.length : Int) - ((b :: r).length : Int)).toNat = k + 1 by omega, hk, List.replicate_succ', List.append_assoc] at e
    have e2 := (List.append_inj e (by simp)).2
    have e3 := (List.cons.inj e2).1
    have hf := fr_in (b :: r)
    have e4 : fr (b :: r) = (a.toNat : Int) := by rw [← e3, b8_val ⟨hf.1, hf.2.1⟩]
    have e5 : fr (b :: r) = if (b.toNat : Int) = 49 then 48 else (b.toNat : Int) := rfl
    apply hns
    unfold sc
    rw [show bat (a :: b :: r) 0 = (a.toNat : Int) from rfl, show bat (a :: b :: r) 1 = (b.toNat : Int) from rfl]
    split at e5 <;> omega
end Go.Proofs.Ytoachkpkbgpmjaa
