/- Chapter 32: what an allocation gives (plain). -/
import Derived.Test.YtbgnoeagajokeaaSpI
set_option linter.unusedVariables false
set_option linter.unusedSimpArgs false
namespace Go.Proofs.Ytbgnoeagajokeaa
open Go.Gh Go.RowKit

theorem runs_unused (m : Int → Bool) : ∀ i : Nat, (∀ x ∈ runs m i, ∀ k : Int, x.1 ≤ k → k < x.1 + x.2 → m k = false) ∧ (0 < i → m ((i : Int) - 1) = false → ∃ init a c, runs m i = init ++ [(a, c)] ∧ a + c = (i : Int))
  | 0 => ⟨fun x hx => (by cases hx), fun h => absurd h (by decide)⟩
  | i + 1 => by
    obtain ⟨h1, h2⟩ := runs_unused m i
    have e1 : ((i + 1 : Nat) : Int) - 1 = (i : Int) := by omega
    rw [e1]
    by_cases hm : m (i : Int) = true
    · have hr : runs m (i + 1) = runs m i := if_pos hm
      rw [hr]
      exact ⟨h1, fun _ g => by rw [hm] at g; cases g⟩
    · have hmf : m (i : Int) = false := by simpa using hm
      by_cases hp : 0 < i ∧ m ((i : Int) - 1) = false
      · obtain ⟨init, a, c, hR, hac⟩ := h2 hp.1 hp.2
        have hr : runs m (i + 1) = init ++ [(a, c + 1)] := by
          show (if _ then _ else _) = _
          rw [if_neg hm, if_pos hp, hR, incr_snoc]
        rw [hr]
        refine ⟨fun x hx k k1 k2 => ?_, fun _ _ => ⟨init, a, c + 1, rfl, by omega⟩⟩
        rcases List.mem_append.1 hx with hx | hx
        · exact h1 x (by rw [hR]; exact List.mem_append_left _ hx) k k1 k2
        · obtain rfl : x = (a, c + 1) := by simpa using hx
          dsimp only at k1 k2
          by_cases hk : k = (i : Int)
          · rw [hk]; exact hmf
          · exact h1 (a, c) (by rw [hR]; simp) k k1 (by dsimp only; omega)
      · have hr : runs m (i + 1) = runs m i ++ [((i : Int), 1)] := by
          show (if _ then _ else _) = _
          rw [if_neg hm, if_neg hp]
        rw [hr]
        refine ⟨fun x hx k k1 k2 => ?_, fun _ _ => ⟨_, _, _, rfl, by omega⟩⟩
        rcases List.mem_append.1 hx with hx | hx
        · exact h1 x hx k k1 k2
        · obtain rfl : x = ((i : Int), 1) := by simpa using hx
          dsimp only at k1 k2
          rw [show k = (i : Int) by omega]; exact hmf
theorem free_apart {t : Int} {L : List Rg} {x : Rg} (hx : x ∈ free t L) {n : Int} (hn : 1 ≤ n ∧ n ≤ x.2) : vld t L ∧ ok1 t (x.1, n) ∧ (∀ k : Int, x.1 ≤ k → k < x.1 + n → mkd L k = false) ∧ ∀ y ∈ L, apart y (x.1, n) := by
  unfold free at hx
  by_cases hv : vld t L
  · rw [if_pos hv] at hx
    have ht := hv.1
    have hin := runs_in (mkd L) t.toNat x hx
    have hun := (runs_unused (mkd L) t.toNat).1 x hx
    have hun2 : ∀ k : Int, x.1 ≤ k → k < x.1 + n → mkd L k = false := fun k k1 k2 => hun k k1 (by omega)
    refine ⟨hv, ⟨hin.1, hn.1, by dsimp only; omega⟩, hun2, fun y hy => ?_⟩
    have hy1 := hv.2.1 y hy
    unfold apart
    dsimp only
    by_cases g : y.1 + y.2 ≤ x.1 ∨ x.1 + n ≤ y.1
    · exact g
    · exfalso
      have h1 := hun2 (max x.1 y.1) (by omega) (by omega)
      have h2 := mkd_iff.2 ⟨y, hy, (by omega : y.1 ≤ max x.1 y.1), (by omega : max x.1 y.1 < y.1 + y.2)⟩
      rw [h1] at h2; cases h2
  · rw [if_neg hv] at hx; cases hx
theorem vld_add {t : Int} {L : List Rg} {x : Rg} (hv : vld t L) (hx : ok1 t x) (ha : ∀ y ∈ L, apart y x) : vld t (L ++ [x]) := by
  refine ⟨hv.1, fun y hy => ?_, ?_⟩
  · rcases List.mem_append.1 hy with hy | hy
    · exact hv.2.1 y hy
    · obtain rfl : y = x := by simpa using hy
      exact hx
  · rw [List.pairwise_append]
    refine ⟨hv.2.2, by simp, fun y hy z hz => ?_⟩
    obtain rfl : z = x := by simpa using hz
    exact ha y hy
theorem bst_facts {n : Int} (hn : 1 ≤ n) {R : List Rg} (h : isFree R) : ∀ i : Nat, i ≤ R.length →
    ((bst n (R.take i)).2 = 0 → ∀ j : Nat, j < i → R[j]!.2 < n) ∧ ((bst n (R.take i)).2 ≠ 0 → bst n (R.take i) ∈ R ∧ n ≤ (bst n (R.take i)).2)
  | 0, _ => ⟨fun _ j hj => by omega, fun g => absurd rfl g⟩
  | i + 1, hi => by
    obtain ⟨h1, h2⟩ := bst_facts hn h i (by omega)
    have hx := h.at' (i := i) (by omega)
    have hmem := bang_mem (l := R) (i := i) (by omega)
    rw [bst_step (by omega)]
    by_cases g : n ≤ R[i]!.2 ∧ ((bst n (R.take i)).2 = 0 ∨ R[i]!.2 < (bst n (R.take i)).2)
    · rw [show bstF n (bst n (R.take i)) R[i]! = R[i]! from if_pos g]
      exact ⟨fun q => by omega, fun _ => ⟨hmem, g.1⟩⟩
    · rw [show bstF n (bst n (R.take i)) R[i]! = bst n (R.take i) from if_neg g]
      refine ⟨fun q j hj => ?_, h2⟩
      by_cases e : j = i
      · subst e
        by_cases q2 : n ≤ R[j]!.2
        · exact absurd ⟨q2, .inl q⟩ g
        · omega
      · exact h1 q j (by omega)
theorem lrg_lt {n : Int} (hn : 1 ≤ n) {R : List Rg} : ∀ i : Nat, i ≤ R.length → (∀ j : Nat, j < i → R[j]!.2 < n) → lrg (R.take i) < n
  | 0, _, _ => by simp [lrg]; omega
  | i + 1, hi, h => by
    have ih := lrg_lt hn (R := R) i (by omega) fun j hj => h j (by omega)
    have hx := h i (by omega)
    unfold lrg at ih ⊢
    rw [fold_step _ _ (by omega)]
    omega
/-- What Allocate gives. -/
theorem alloc_facts {t n : Int} {L : List Rg} (hv : vld t L) : (n < 1 → allocR t n L = ((0, 0), 1)) ∧
    (1 ≤ n → (allocR t n L = ((0, 0), 13) ∧ lrg (free t L) < n) ∨ ∃ f : Int, allocR t n L = ((f, n), 0) ∧ vld t (L ++ [(f, n)]) ∧ ok1 t (f, n) ∧ ∀ k : Int, f ≤ k → k < f + n → mkd L k = false) := by
  refine ⟨fun h => if_neg (fun g => by omega), fun h => ?_⟩
  have hok := free_ok t L
  have hb := bst_facts h hok (free t L).length (Nat.le_refl _)
  rw [List.take_length] at hb
  have e : allocR t n L = if (bst n (free t L)).2 = 0 then ((0, 0), 13) else (((bst n (free t L)).1, n), 0) := if_pos ⟨hv, h⟩
  by_cases g : (bst n (free t L)).2 = 0
  · rw [if_pos g] at e
    have hl := lrg_lt h (R := free t L) (free t L).length (Nat.le_refl _) (hb.1 g)
    rw [List.take_length] at hl
    exact .inl ⟨e, hl⟩
  · rw [if_neg g] at e
    obtain ⟨h1, h2⟩ := hb.2 g
    obtain ⟨_, h3, h4, h5⟩ := free_apart h1 ⟨h, h2⟩
    exact .inr ⟨_, e, vld_add hv h3 h5, h3, h4⟩
end Go.Proofs.Ytbgnoeagajokeaa
