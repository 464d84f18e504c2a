/- Regions: what an allocation is (plain). -/
import Derived.Test.YtbgnoeagajokeaaSlL
import Derived.Test.YtbgnoeagajokeaaSlI
set_option linter.unusedVariables false
set_option linter.unusedSimpArgs false
namespace Go.Proofs.Ytbgnoeagajokeaa
open Go.Gh Go.RowKit

abbrev Rg := Int × Int
abbrev ok1 (t : Int) (x : Rg) : Prop := 0 ≤ x.1 ∧ 1 ≤ x.2 ∧ x.1 + x.2 ≤ t
abbrev apart (x y : Rg) : Prop := x.1 + x.2 ≤ y.1 ∨ y.1 + y.2 ≤ x.1
/-- Valid. -/
def vld (t : Int) (L : List Rg) : Prop := (0 ≤ t ∧ t ≤ 1024) ∧ (∀ x ∈ L, ok1 t x) ∧ L.Pairwise apart
instance (t : Int) (L : List Rg) : Decidable (vld t L) := inferInstanceAs (Decidable (_ ∧ _ ∧ _))
theorem vld_perm {t : Int} {L M : List Rg} (h : L.Perm M) : vld t L ↔ vld t M := by
  unfold vld
  rw [h.pairwise_iff (fun h => Or.symm h)]
  constructor
  · rintro ⟨h1, h2, h3⟩; exact ⟨h1, fun x hx => h2 x (h.mem_iff.2 hx), h3⟩
  · rintro ⟨h1, h2, h3⟩; exact ⟨h1, fun x hx => h2 x (h.mem_iff.1 hx), h3⟩
/-- As the program goes through the sorted regions. -/
def chn (t : Int) : Int → List Rg → Prop
  | _, [] => True
  | a, x :: r => (a ≤ x.1 ∧ 1 ≤ x.2 ∧ x.1 + x.2 ≤ t) ∧ chn t (x.1 + x.2) r
abbrev bef (x y : Rg) : Prop := x.1 + x.2 ≤ y.1
theorem chn_iff {t : Int} : ∀ {L : List Rg} {a : Int}, chn t a L ↔ (∀ x ∈ L, a ≤ x.1 ∧ 1 ≤ x.2 ∧ x.1 + x.2 ≤ t) ∧ L.Pairwise bef
  | [], a => by simp [chn]
  | x :: r, a => by
    unfold chn
    rw [chn_iff (L := r), List.pairwise_cons]
    constructor
    · rintro ⟨h1, h2, h3⟩
      refine ⟨fun y hy => ?_, fun y hy => (h2 y hy).1, h3⟩
      rcases List.mem_cons.1 hy with rfl | hy
      · exact h1
      · have := h2 y hy; omega
    · rintro ⟨h1, h2, h3⟩
      refine ⟨h1 x List.mem_cons_self, fun y hy => ?_, h3⟩
      have h4 := h1 y (List.mem_cons_of_mem _ hy)
      have h5 : x.1 + x.2 ≤ y.1 := h2 y hy
      omega
theorem asc_pair {L : List Rg} (h : ascL L) : L.Pairwise fun x y => x.1 ≤ y.1 := by
  rw [List.pairwise_iff_getElem]
  intro i j hi hj hij
  have := h i j hij hj
  rwa [getElem!_pos L i hi, getElem!_pos L j hj] at this
theorem bef_of {t : Int} : ∀ {L : List Rg}, (∀ x ∈ L, ok1 t x) → (L.Pairwise fun x y => x.1 ≤ y.1) → (L.Pairwise apart ↔ L.Pairwise bef)
  | [], _, _ => by simp
  | x :: r, h1, h2 => by
    rw [List.pairwise_cons] at h2 ⊢
    rw [List.pairwise_cons, bef_of (L := r) (fun y hy => h1 y (List.mem_cons_of_mem _ hy)) h2.2]
    constructor
    · rintro ⟨h3, h4⟩
      refine ⟨fun y hy => ?_, h4⟩
      have h5 := h1 y (List.mem_cons_of_mem _ hy)
      have h6 := h2.1 y hy
      rcases h3 y hy with h | h
      · exact h
      · show x.1 + x.2 ≤ y.1; omega
    · rintro ⟨h3, h4⟩
      exact ⟨fun y hy => .inl (h3 y hy), h4⟩
theorem chn_vld {t : Int} {L M : List Rg} (hp : M.Perm L) (ha : ascL M) (ht : 0 ≤ t ∧ t ≤ 1024) : chn t 0 M ↔ vld t L := by
  rw [← vld_perm hp, chn_iff]
  unfold vld
  constructor
  · rintro ⟨h1, h2⟩
    exact ⟨ht, h1, (bef_of h1 (asc_pair ha)).2 h2⟩
  · rintro ⟨_, h1, h2⟩
    exact ⟨h1, (bef_of h1 (asc_pair ha)).1 h2⟩
theorem chn_step {t : Int} {L : List Rg} {i : Nat} {a : Int} (h : i < L.length) : chn t a (L.drop i) ↔ (a ≤ L[i]!.1 ∧ 1 ≤ L[i]!.2 ∧ L[i]!.1 + L[i]!.2 ≤ t) ∧ chn t (L[i]!.1 + L[i]!.2) (L.drop (i + 1)) := by
  rw [drop_bang h]; exact Iff.rfl
/-- Whether a sector is used. -/
def mkd (L : List Rg) (k : Int) : Bool := L.any fun x => decide (x.1 ≤ k ∧ k < x.1 + x.2)
theorem mkd_iff {L : List Rg} {k : Int} : mkd L k = true ↔ ∃ x ∈ L, x.1 ≤ k ∧ k < x.1 + x.2 := by
  unfold mkd; rw [List.any_eq_true]; simp only [decide_eq_true_eq]
theorem mkd_perm {L M : List Rg} (h : L.Perm M) (k : Int) : mkd L k = mkd M k := by
  rw [Bool.eq_iff_iff, mkd_iff, mkd_iff]
  constructor
  · rintro ⟨x, hx, e⟩; exact ⟨x, h.mem_iff.1 hx, e⟩
  · rintro ⟨x, hx, e⟩; exact ⟨x, h.mem_iff.2 hx, e⟩
theorem mkd_app (L M : List Rg) (k : Int) : mkd (L ++ M) k = (mkd L k || mkd M k) := List.any_append
def bm (T : Nat) (L : List Rg) : List Bool := (List.range T).map fun k : Nat => mkd L (k : Int)
theorem bm_len (T : Nat) (L : List Rg) : (bm T L).length = T := by simp [bm]
theorem bm_get {T : Nat} {L : List Rg} {k : Nat} (h : k < T) : (bm T L)[k]! = mkd L (k : Int) := by
  rw [getElem!_pos _ k (by rw [bm_len]; exact h)]; simp [bm]
theorem bm_congr {T : Nat} {L M : List Rg} (h : ∀ k : Nat, k < T → mkd L (k : Int) = mkd M (k : Int)) : bm T L = bm T M := by
  unfold bm
  exact List.map_congr_left fun k hk => h k (List.mem_range.1 hk)
theorem bm_none (T : Nat) : bm T [] = List.replicate T false := by
  unfold bm mkd
  apply List.ext_getElem (by simp)
  intro i h1 h2
  simp
theorem bm_set {T : Nat} {L : List Rg} {a : Int} {d : Nat} {k : Nat} (hk : (k : Int) = a + d) (hT : k < T) : (bm T (L ++ [(a, (d : Int))])).set k true = bm T (L ++ [(a, ((d + 1 : Nat) : Int))]) := by
  apply List.ext_getElem (by rw [List.length_set, bm_len, bm_len])
  intro i h1 h2
  rw [bm_len] at h2
  rw [List.getElem_set]
  have g1 : mkd [(a, ((d + 1 : Nat) : Int))] (i : Int) = decide (a ≤ (i : Int) ∧ (i : Int) < a + ((d + 1 : Nat) : Int)) := by simp [mkd]
  have g2 : mkd [(a, (d : Int))] (i : Int) = decide (a ≤ (i : Int) ∧ (i : Int) < a + (d : Int)) := by simp [mkd]
  have e1 : (bm T (L ++ [(a, ((d + 1 : Nat) : Int))]))[i]'(by rw [bm_len]; exact h2) = (mkd L i || decide (a ≤ (i : Int) ∧ (i : Int) < a + ((d + 1 : Nat) : Int))) := by
    rw [← g1, ← mkd_app]; simp [bm]
  have e2 : (bm T (L ++ [(a, (d : Int))]))[i]'(by rw [bm_len]; exact h2) = (mkd L i || decide (a ≤ (i : Int) ∧ (i : Int) < a + (d : Int))) := by
    rw [← g2, ← mkd_app]; simp [bm]
  rw [e1]
  split
  · rename_i e
    rw [decide_eq_true (by omega)]; simp
  · rename_i e
    rw [e2]
    congr 1
    rw [decide_eq_decide]
    omega
theorem mkd_zero (L : List Rg) (a : Int) (k : Int) : mkd (L ++ [(a, 0)]) k = mkd L k := by
  rw [mkd_app]
  have : mkd [(a, (0 : Int))] k = false := by simp [mkd]
  rw [this, Bool.or_false]
theorem bm_zero (T : Nat) (L : List Rg) (a : Int) : bm T (L ++ [(a, ((0 : Nat) : Int))]) = bm T L := bm_congr fun k _ => mkd_zero L a k
theorem pr_len (L : List Rg) : (recs prF L).length = 2 * L.length := by rw [recs_len (f := prF) (w := 2) (fun _ => rfl), Nat.mul_comm]
/-- The maximal runs of sectors that are not used, of the first ones. -/
def incr (l : List Rg) : List Rg := l.dropLast ++ [((l.getLast?.getD (0, 0)).1, (l.getLast?.getD (0, 0)).2 + 1)]
def runs (m : Int → Bool) : Nat → List Rg
  | 0 => []
  | i + 1 => if m (i : Int) = true then runs m i else if 0 < i ∧ m ((i : Int) - 1) = false then incr (runs m i) else runs m i ++ [((i : Int), 1)]
theorem incr_snoc (l : List Rg) (a c : Int) : incr (l ++ [(a, c)]) = l ++ [(a, c + 1)] := by
  unfold incr
  rw [List.dropLast_concat, List.getLast?_concat]; rfl
theorem runs_free {m : Int → Bool} {a : Nat} (h0 : a = 0 ∨ m ((a : Int) - 1) = true) : ∀ {d : Nat}, (∀ k : Nat, a ≤ k → k < a + d → m (k : Int) = false) → 0 < d → runs m (a + d) = runs m a ++ [((a : Int), (d : Int))]
  | 1, h, _ => by
    show (if m (a : Int) = true then runs m a else if 0 < a ∧ m ((a : Int) - 1) = false then incr (runs m a) else runs m a ++ [((a : Int), 1)]) = _
    rw [if_neg (by rw [h a (by omega) (by omega)]; simp), if_neg]
    · rfl
    · rintro ⟨g1, g2⟩
      rcases h0 with h0 | h0
      · omega
      · rw [h0] at g2; cases g2
  | d + 2, h, _ => by
    have ih := runs_free h0 (d := d + 1) (fun k h1 h2 => h k h1 (by omega)) (by omega)
    show (if m ((a + (d + 1) : Nat) : Int) = true then runs m (a + (d + 1)) else if 0 < a + (d + 1) ∧ m (((a + (d + 1) : Nat) : Int) - 1) = false then incr (runs m (a + (d + 1))) else runs m (a + (d + 1)) ++ [(((a + (d + 1) : Nat) : Int), 1)]) = _
    rw [if_neg (by rw [h _ (by omega) (by omega)]; simp), if_pos ⟨by omega, by
      rw [show ((a + (d + 1) : Nat) : Int) - 1 = ((a + d : Nat) : Int) by omega]; exact h _ (by omega) (by omega)⟩, ih, incr_snoc]
    congr 3
theorem runs_used {m : Int → Bool} {a : Nat} : ∀ {d : Nat}, (∀ k : Nat, a ≤ k → k < a + d → m (k : Int) = true) → runs m (a + d) = runs m a
  | 0, _ => rfl
  | d + 1, h => by
    show (if m ((a + d : Nat) : Int) = true then runs m (a + d) else _) = _
    rw [if_pos (h _ (by omega) (by omega)), runs_used fun k h1 h2 => h k h1 (by omega)]
/-- Free. -/
def free (t : Int) (L : List Rg) : List Rg := if vld t L then runs (mkd L) t.toNat else []
theorem runs_congr {m n : Int → Bool} (h : ∀ k, m k = n k) (i : Nat) : runs m i = runs n i := by
  rw [show m = n from funext h]
theorem free_perm {t : Int} {L M : List Rg} (h : L.Perm M) : free t L = free t M := by
  unfold free
  by_cases hv : vld t L
  · rw [if_pos hv, if_pos ((vld_perm h).1 hv), runs_congr (mkd_perm h)]
  · rw [if_neg hv, if_neg (fun g => hv ((vld_perm h).2 g))]
theorem incr_len (l : List Rg) (h : l ≠ []) : (incr l).length = l.length := by
  unfold incr
  rw [List.length_append, List.length_dropLast]
  have : 0 < l.length := List.length_pos_iff.2 h
  simp; omega
theorem runs_len (m : Int → Bool) : ∀ i : Nat, (runs m i).length ≤ i
  | 0 => Nat.le_refl _
  | i + 1 => by
    have ih := runs_len m i
    unfold runs
    split
    · omega
    · split
      · by_cases h : runs m i = []
        · rw [h]; simp [incr]
        · rw [incr_len _ h]; omega
      · simp; omega
end Go.Proofs.Ytbgnoeagajokeaa
