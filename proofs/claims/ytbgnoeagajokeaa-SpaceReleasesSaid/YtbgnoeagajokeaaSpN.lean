/- SpaceReleases: how many sectors are free (plain). -/
import Derived.Test.YtbgnoeagajokeaaSpK
set_option linter.unusedVariables false
set_option linter.unusedSimpArgs false
namespace Go.Proofs.Ytbgnoeagajokeaa
open Go.Gh Go.RowKit

def sumc : List Rg → Int
  | [] => 0
  | x :: r => x.2 + sumc r
theorem sumc_app : ∀ a b : List Rg, sumc (a ++ b) = sumc a + sumc b
  | [], b => by simp [sumc]
  | x :: r, b => by
    show x.2 + sumc (r ++ b) = x.2 + sumc r + sumc b
    rw [sumc_app r b]; omega
theorem sumc_incr (l : List Rg) : sumc (incr l) = sumc l + 1 := by
  rcases List.eq_nil_or_concat l with rfl | ⟨init, x, rfl⟩
  · rfl
  · obtain ⟨a, c⟩ := x
    rw [List.concat_eq_append, incr_snoc, sumc_app, sumc_app]
    show sumc init + (c + 1 + 0) = sumc init + (c + 0) + 1
    omega
theorem sumc_runs (m : Int → Bool) (i : Nat) : sumc (runs m (i + 1)) = sumc (runs m i) + if m (i : Int) = true then 0 else 1 := by
  by_cases hm : m (i : Int) = true
  · rw [show runs m (i + 1) = runs m i from if_pos hm, if_pos hm]; omega
  · rw [if_neg hm]
    by_cases hp : 0 < i ∧ m ((i : Int) - 1) = false
    · rw [show runs m (i + 1) = incr (runs m i) by show (if _ then _ else _) = _; rw [if_neg hm, if_pos hp], sumc_incr]
    · rw [show runs m (i + 1) = runs m i ++ [((i : Int), 1)] by show (if _ then _ else _) = _; rw [if_neg hm, if_neg hp], sumc_app]
      show _ + (1 + 0) = _; omega
/-- Sectors that are taken: so many fewer are free. -/
theorem sumc_take {L : List Rg} {f n : Int} (hn : 0 ≤ n) (hf : 0 ≤ f) (hu : ∀ k : Int, f ≤ k → k < f + n → mkd L k = false) : ∀ i : Nat,
    sumc (runs (mkd ((f, n) :: L)) i) + (if (i : Int) ≤ f then 0 else if (i : Int) ≤ f + n then (i : Int) - f else n) = sumc (runs (mkd L) i)
  | 0 => by
    rw [if_pos (by omega)]
    show (0 : Int) + 0 = 0; omega
  | i + 1 => by
    have ih := sumc_take hn hf hu i
    rw [sumc_runs, sumc_runs]
    have hm : mkd ((f, n) :: L) (i : Int) = (decide (f ≤ (i : Int) ∧ (i : Int) < f + n) || mkd L (i : Int)) := rfl
    rw [hm]
    by_cases hin : f ≤ (i : Int) ∧ (i : Int) < f + n
    · rw [hu _ hin.1 hin.2, decide_eq_true hin]
      simp only [Bool.or_false, if_true, Bool.false_eq_true, if_false]
      have e1 : ¬ (((i + 1 : Nat) : Int) ≤ f) := by omega
      have e2 : ((i + 1 : Nat) : Int) ≤ f + n := by omega
      rw [if_neg e1, if_pos e2]
      by_cases h1 : (i : Int) ≤ f
      · rw [if_pos h1] at ih; omega
      · rw [if_neg h1, if_pos (by omega)] at ih; omega
    · rw [decide_eq_false hin, Bool.false_or]
      by_cases h1 : (i : Int) ≤ f
      · rw [if_pos h1] at ih
        by_cases h2 : ((i + 1 : Nat) : Int) ≤ f
        · rw [if_pos h2]; omega
        · have h3 : n = 0 := by omega
          rw [if_neg h2]
          split <;> omega
      · rw [if_neg h1] at ih
        rw [if_neg (show ¬ ((i + 1 : Nat) : Int) ≤ f by omega)]
        have h4 : f + n ≤ (i : Int) := by omega
        by_cases h5 : (i : Int) ≤ f + n
        · rw [if_pos h5] at ih
          rw [if_neg (show ¬ ((i + 1 : Nat) : Int) ≤ f + n by omega)]; omega
        · rw [if_neg h5] at ih
          rw [if_neg (show ¬ ((i + 1 : Nat) : Int) ≤ f + n by omega)]; omega
theorem sumc_in (m : Int → Bool) : ∀ i : Nat, 0 ≤ sumc (runs m i) ∧ sumc (runs m i) ≤ (i : Int)
  | 0 => ⟨Int.le_refl _, Int.le_refl _⟩
  | i + 1 => by
    have := sumc_in m i
    rw [sumc_runs]; split <;> omega
theorem vld_cons {t : Int} {L : List Rg} {x : Rg} (h : vld t (L ++ [x])) : vld t (x :: L) := (vld_perm (List.perm_append_comm (l₁ := [x]) (l₂ := L))).2 h
/-- After an allocation: so many fewer. -/
theorem free_rest {t f n : Int} {L : List Rg} (hv : vld t L) (hv2 : vld t (L ++ [(f, n)])) (hx : ok1 t (f, n)) (hu : ∀ k : Int, f ≤ k → k < f + n → mkd L k = false) : sumc (free t ((f, n) :: L)) + n = sumc (free t L) := by
  have e1 : free t L = runs (mkd L) t.toNat := if_pos hv
  have e2 : free t ((f, n) :: L) = runs (mkd ((f, n) :: L)) t.toNat := if_pos (vld_cons hv2)
  rw [e1, e2]
  obtain ⟨h1, h2, h3⟩ := hx
  dsimp only at h1 h2 h3
  have ht := hv.1
  have := sumc_take (L := L) (f := f) (n := n) (by omega) h1 hu t.toNat
  rw [if_neg (by omega)] at this
  by_cases h4 : ((t.toNat : Nat) : Int) ≤ f + n
  · rw [if_pos h4] at this; omega
  · rw [if_neg h4] at this; omega
theorem usd_sumc {R : List Rg} (h : isFree R) : ∀ i : Nat, i ≤ R.length → usd (R.take i) = sumc (R.take i)
  | 0, _ => by simp [usd, sumc]
  | i + 1, hi => by
    have ih := usd_sumc h i (by omega)
    have hx := h.at' (i := i) (by omega)
    rw [take_bang (by omega), sumc_app]
    unfold usd at ih ⊢
    rw [List.foldl_append, ih]
    show usF (sumc (R.take i)) R[i]! = sumc (R.take i) + (R[i]!.2 + 0)
    unfold usF
    rw [if_pos (by omega)]; omega
theorem usd_free (t : Int) (L : List Rg) : min (usd (free t L)) 1073741824 = sumc (free t L) ∧ 0 ≤ sumc (free t L) ∧ sumc (free t L) ≤ 1024 := by
  have hok := free_ok t L
  have h1 := usd_sumc hok (free t L).length (Nat.le_refl _)
  rw [List.take_length] at h1
  have h2 : 0 ≤ sumc (free t L) ∧ sumc (free t L) ≤ 1024 := by
    by_cases hv : vld t L
    · rw [show free t L = runs (mkd L) t.toNat from if_pos hv]
      have := sumc_in (mkd L) t.toNat
      have ht := hv.1
      omega
    · rw [show free t L = [] from if_neg hv]
      exact ⟨Int.le_refl _, by decide⟩
  rw [h1]; omega
theorem sumc_step {R : List Rg} {i : Nat} (h : i < R.length) : sumc (R.take (i + 1)) = sumc (R.take i) + R[i]!.2 := by
  rw [take_bang h, sumc_app]
  show _ + (R[i]!.2 + 0) = _; omega
theorem sumc_part {R : List Rg} (h : isFree R) : ∀ i : Nat, i ≤ R.length → 0 ≤ sumc (R.take i) ∧ sumc (R.take i) ≤ 1024 * i
  | 0, _ => by simp [sumc]
  | i + 1, hi => by
    have ih := sumc_part h i (by omega)
    have hx := h.at' (i := i) (by omega)
    rw [sumc_step (by omega)]; omega
/-- A region in use and a free one have no sector in common. -/
theorem ovl_free {t f n : Int} {L : List Rg} {z : Rg} (hz : z ∈ free t ((f, n) :: L)) (hx : ok1 t (f, n)) : ¬ ovl (f, n) z := by
  have hz2 : 1 ≤ z.2 := by
    have := (free_ok t ((f, n) :: L)).2 z hz; omega
  obtain ⟨hv, h1, _, h4⟩ := free_apart hz (n := z.2) ⟨hz2, Int.le_refl _⟩
  have h5 := h4 (f, n) List.mem_cons_self
  obtain ⟨a1, a2, a3⟩ := h1
  obtain ⟨b1, b2, b3⟩ := hx
  have ht := hv.1
  unfold apart at h5
  dsimp only at *
  unfold ovl cl
  dsimp only
  omega
end Go.Proofs.Ytbgnoeagajokeaa
