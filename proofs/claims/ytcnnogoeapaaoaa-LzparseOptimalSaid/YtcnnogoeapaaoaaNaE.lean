/- Plain facts on records: the list of what is better than all nearer ones. -/
import Derived.Test.YtcnnogoeapaaoaaNaC
set_option linter.unusedVariables false
set_option linter.unusedSimpArgs false
namespace Go.Proofs.Ytcnnogoeapaaoaa
open Go.Gh Go.RowKit

/-- The greatest of the values from 1 to d, at least 0. -/
theorem rc_max (l : List UInt8) (i m : Int) : ∀ (d e : Nat), 1 ≤ e → e ≤ d → atd l i e m ≤ (rc l i m d).2
  | 0, e, h1, h2 => by omega
  | d + 1, e, h1, h2 => by
    rw [rc_succ]
    by_cases h : e = d + 1
    · subst h
      have : ((d + 1 : Nat) : Int) = (d : Int) + 1 := by omega
      rw [this]
      split
      · exact Int.le_refl _
      · omega
    · have := rc_max l i m d e h1 (by omega)
      split
      · show atd l i e m ≤ atd l i (d + 1) m; omega
      · exact this

/-- Each one found is a record. -/
theorem rc_mem (l : List UInt8) (i m : Int) (hm : 0 ≤ m) : ∀ (d : Nat) (c : Int × Int), c ∈ (rc l i m d).1 → ∃ e : Nat, 1 ≤ e ∧ e ≤ d ∧ c = (atd l i e m, (e : Int)) ∧ 2 ≤ c.1 ∧ ∀ k, 1 ≤ k → k < e → atd l i k m < c.1
  | 0, c, h => by cases h
  | d + 1, c, h => by
    rw [rc_succ] at h
    split at h
    · rename_i hlt
      rcases List.mem_append.1 h with h | h
      · obtain ⟨e, h1, h2, h3⟩ := rc_mem l i m hm d c h
        exact ⟨e, h1, by omega, h3⟩
      · simp only [List.mem_singleton] at h
        subst h
        have hp := rc_pos l i m hm d
        refine ⟨d + 1, by omega, Nat.le_refl _, by simp, ?_, fun k h1 h2 => ?_⟩
        · rcases atd_range l i ((d : Int) + 1) m with h | h
          · omega
          · exact h
        · have := rc_max l i m d k h1 (by omega)
          show atd l i k m < atd l i (d + 1) m; omega
    · obtain ⟨e, h1, h2, h3⟩ := rc_mem l i m hm d c h
      exact ⟨e, h1, by omega, h3⟩

/-- Strictly rising, both parts. -/
def rising : List (Int × Int) → Prop
  | [] => True
  | [_] => True
  | a :: b :: r => a.1 < b.1 ∧ a.2 < b.2 ∧ rising (b :: r)
theorem rising_snoc : ∀ {l : List (Int × Int)} {c : Int × Int}, rising l → (∀ x, l.getLast? = some x → x.1 < c.1 ∧ x.2 < c.2) → rising (l ++ [c])
  | [], c, _, _ => trivial
  | [a], c, _, h => ⟨(h a rfl).1, (h a rfl).2, trivial⟩
  | a :: b :: r, c, h1, h2 => ⟨h1.1, h1.2.1, rising_snoc (l := b :: r) h1.2.2 (fun x hx => h2 x (by rw [List.getLast?_cons_cons]; exact hx))⟩
theorem rising_get : ∀ {l : List (Int × Int)}, rising l → ∀ k, k + 1 < l.length → l[k]!.1 < l[k + 1]!.1 ∧ l[k]!.2 < l[k + 1]!.2
  | [], _, k, h => by simp at h
  | [_], _, k, h => by simp at h
  | a :: b :: r, h1, 0, _ => ⟨h1.1, h1.2.1⟩
  | a :: b :: r, h1, k + 1, h => rising_get (l := b :: r) h1.2.2 k (by simpa using h)

theorem rc_last (l : List UInt8) (i m : Int) : ∀ d x, (rc l i m d).1.getLast? = some x → x.1 = (rc l i m d).2 ∧ x.2 ≤ d
  | 0, x, h => by cases h
  | d + 1, x, h => by
    rw [rc_succ] at h ⊢
    split at h
    · rename_i hlt
      rw [if_pos hlt]
      simp only [List.getLast?_append, List.getLast?_singleton, Option.some_or, Option.some.injEq] at h
      subst h
      exact ⟨rfl, by simp⟩
    · rename_i hlt
      rw [if_neg hlt]
      have := rc_last l i m d x h
      exact ⟨this.1, by omega⟩
theorem rc_nil (l : List UInt8) (i m : Int) : ∀ d, (rc l i m d).1 = [] → (rc l i m d).2 = 0
  | 0, _ => rfl
  | d + 1, h => by
    rw [rc_succ] at h ⊢
    split at h
    · simp at h
    · rename_i hlt; rw [if_neg hlt]; exact rc_nil l i m d h
theorem rc_rising (l : List UInt8) (i m : Int) : ∀ d, rising (rc l i m d).1
  | 0 => trivial
  | d + 1 => by
    rw [rc_succ]
    split
    · rename_i hlt
      refine rising_snoc (rc_rising l i m d) fun x hx => ?_
      obtain ⟨h1, h2⟩ := rc_last l i m d x hx
      exact ⟨by rw [h1]; exact hlt, by simp only; omega⟩
    · exact rc_rising l i m d
theorem lastc_some {l : List (Int × Int)} (h : l ≠ []) : l.getLast? = some (lastc l) := by
  unfold lastc
  rw [List.getLastD_eq_getLast?]
  cases hl : l.getLast? with
  | none => exact absurd (List.getLast?_eq_none_iff.1 hl) h
  | some x => rfl
theorem lastc_mem {l : List (Int × Int)} (h : l ≠ []) : lastc l ∈ l := List.mem_of_getLast? (lastc_some h)
theorem rc_lastc (l : List UInt8) (i m : Int) (d : Nat) : (lastc (rc l i m d).1).1 = (rc l i m d).2 := by
  by_cases h : (rc l i m d).1 = []
  · rw [h, rc_nil l i m d h]; rfl
  · exact (rc_last l i m d _ (lastc_some h)).1

/-- The first that is long enough. -/
def firstAt (L : Int) : List (Int × Int) → Int
  | [] => 0
  | c :: r => if L ≤ c.1 then c.2 else firstAt L r
theorem firstAt_app (L : Int) : ∀ l c, firstAt L (l ++ [c]) = if ∃ x ∈ l, L ≤ x.1 then firstAt L l else if L ≤ c.1 then c.2 else 0
  | [], c => by simp [firstAt]
  | a :: r, c => by
    simp only [List.cons_append, firstAt]
    by_cases h : L ≤ a.1
    · rw [if_pos h, if_pos ⟨a, List.mem_cons_self, h⟩, if_pos h]
    · rw [if_neg h, firstAt_app L r c]
      by_cases h2 : ∃ x ∈ r, L ≤ x.1
      · obtain ⟨x, hx, hl⟩ := h2
        rw [if_pos ⟨x, hx, hl⟩, if_pos ⟨x, List.mem_cons_of_mem _ hx, hl⟩, if_neg h]
      · have h3 : ¬ ∃ x ∈ a :: r, L ≤ x.1 := by
          rintro ⟨x, hx, hl⟩
          rcases List.mem_cons.1 hx with rfl | hx
          · exact h hl
          · exact h2 ⟨x, hx, hl⟩
        rw [if_neg h2, if_neg h3]
/-- The least distance of a length, 0 if there is none. -/
def least (l : List UInt8) (i m L : Int) : Nat → Int
  | 0 => 0
  | d + 1 => if least l i m L d = 0 then (if L ≤ atd l i (d + 1) m then (d : Int) + 1 else 0) else least l i m L d
theorem least_pos (l : List UInt8) (i m L : Int) : ∀ d, 0 ≤ least l i m L d
  | 0 => Int.le_refl _
  | d + 1 => by have := least_pos l i m L d; unfold least; repeat' split <;> omega
theorem least_max (l : List UInt8) (i m L : Int) (hL : 0 < L) : ∀ d, least l i m L d = 0 ↔ (rc l i m d).2 < L
  | 0 => by simp [least, rc, hL]
  | d + 1 => by
    have ih := least_max l i m L hL d
    have hp := least_pos l i m L d
    rw [rc_succ]
    unfold least
    by_cases h : least l i m L d = 0
    · have h2 := ih.1 h
      rw [if_pos h]
      split
      · split
        · show (d : Int) + 1 = 0 ↔ atd l i (d + 1) m < L; omega
        · constructor <;> intro <;> omega
      · split
        · show 0 = 0 ↔ atd l i (d + 1) m < L; omega
        · constructor <;> intro <;> omega
    · have h2 : ¬ (rc l i m d).2 < L := fun h2 => h (ih.2 h2)
      rw [if_neg h]
      split
      · show least l i m L d = 0 ↔ atd l i (d + 1) m < L; constructor <;> intro <;> omega
      · constructor <;> intro <;> omega
theorem rc_any (l : List UInt8) (i m L : Int) (hL : 0 < L) : ∀ d, (∃ x ∈ (rc l i m d).1, L ≤ x.1) ↔ ¬ (rc l i m d).2 < L
  | 0 => by simp [rc]; omega
  | d + 1 => by
    have ih := rc_any l i m L hL d
    rw [rc_succ]
    split
    · rename_i hlt
      constructor
      · rintro ⟨x, hx, hl⟩
        rcases List.mem_append.1 hx with hx | hx
        · have := ih.1 ⟨x, hx, hl⟩
          show ¬ atd l i (d + 1) m < L; omega
        · simp only [List.mem_singleton] at hx; subst hx; exact fun h => by simp only at hl h; omega
      · intro h
        exact ⟨_, List.mem_append_right _ (List.mem_singleton.2 rfl), by simp only at h ⊢; omega⟩
    · exact ih
theorem firstAt_rc (l : List UInt8) (i m L : Int) (hL : 0 < L) : ∀ d, firstAt L (rc l i m d).1 = least l i m L d
  | 0 => rfl
  | d + 1 => by
    have ih := firstAt_rc l i m L hL d
    have hlm := least_max l i m L hL d
    have hany := rc_any l i m L hL d
    unfold least
    rw [rc_succ]
    by_cases h0 : least l i m L d = 0
    · have h1 := hlm.1 h0
      rw [if_pos h0]
      split
      · rename_i hlt
        rw [firstAt_app, if_neg (fun h => (hany.1 h) h1)]
      · rw [ih, h0, if_neg (by omega)]
    · have h1 : ¬ (rc l i m d).2 < L := fun h => h0 (hlm.2 h)
      rw [if_neg h0]
      split
      · rw [firstAt_app, if_pos (hany.2 h1), ih]
      · exact ih
end Go.Proofs.Ytcnnogoeapaaoaa
