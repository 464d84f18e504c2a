/- LzparseSingle: runs of one byte. -/
import Derived.Test.YtcnnogoeapaaoaaLzK
import Derived.Test.YtcnnogoeapaaoaaLiA
set_option linter.unusedVariables false
set_option linter.unusedSimpArgs false
namespace Go.Proofs.Ytcnnogoeapaaoaa
open Go.Gh Go.RowKit

theorem bat_run {b : UInt8} {n k : Nat} (h : k < n) : bat (List.replicate n b) (k : Int) = (b.toNat : Int) := by
  unfold bat
  rw [Int.toNat_natCast, List.getD_eq_getElem?_getD, List.getElem?_replicate, if_pos h]; rfl
/-- Copies behind a place of a run: at most 273 bytes each, none of one byte. -/
def cps : Nat → Nat → List Pc
  | 0, _ => []
  | f + 1, m => if m = 0 then [] else if m ≤ 273 then [((m : Int), 1, 0)] else if m = 274 then [(272, 1, 0), (2, 1, 0)] else (273, 1, 0) :: cps f (m - 273)
theorem cps_cov {b : UInt8} {n : Nat} : ∀ (f m i : Nat), m ≤ f → m ≠ 1 → 1 ≤ i → i + m = n → Cov (List.replicate n b) 1 i (cps f m) ∧ (cps f m).length = (m + 272) / 273 ∧ ∀ t ∈ cps f m, t.2.1 = 1
  | 0, m, i, h1, h2, h3, h4 => by
    obtain rfl : m = 0 := by omega
    exact ⟨by show i = _; simp; omega, rfl, fun t ht => by cases ht⟩
  | f + 1, m, i, h1, h2, h3, h4 => by
    have oc : ∀ i k : Nat, 1 ≤ i → 2 ≤ k → k ≤ 273 → i + k ≤ n → occ (List.replicate n b) 1 i ((k : Int), 1, 0) := fun i k g1 g2 g3 g4 => .inr ⟨k, 1, rfl, g2, g3, Nat.le_refl _, Int.le_refl _, g1, by simp; omega, fun j hj => by rw [bat_run (by omega), bat_run (by omega)]⟩
    unfold cps
    split
    · exact ⟨by show i = _; simp; omega, by simp; omega, fun t ht => by cases ht⟩
    · split
      · exact ⟨⟨oc i m h3 (by omega) (by omega) (by omega), by show i + (m : Int).toNat = _; rw [Int.toNat_natCast]; simp; omega⟩, by simp; omega, fun t ht => by obtain rfl := List.mem_singleton.1 ht; rfl⟩
      · split
        · exact ⟨⟨oc i 272 h3 (by omega) (by omega) (by omega), oc (i + 272) 2 (by omega) (by omega) (by omega) (by omega), by show i + 272 + 2 = _; simp; omega⟩, by simp; omega, fun t ht => by
            rcases List.mem_cons.1 ht with rfl | ht
            · rfl
            · obtain rfl := List.mem_singleton.1 ht; rfl⟩
        · obtain ⟨g1, g2, g3⟩ := cps_cov f (m - 273) (i + 273) (b := b) (n := n) (by omega) (by omega) (by omega) (by omega)
          exact ⟨⟨oc i 273 h3 (by omega) (by omega) (by omega), g1⟩, by rw [List.length_cons, g2]; omega, fun t ht => by
            rcases List.mem_cons.1 ht with rfl | ht
            · rfl
            · exact g3 t ht⟩
def cl1 : Cst := ⟨1, 0, 0, 0⟩
theorem vcl1 : vC cl1 := by decide
theorem price_cl1 (t : Pc) : price cl1 t = if t.2.1 = 0 then 1 else 0 := by
  unfold price cl1; split
  · rfl
  · dsimp only; omega
theorem cov_len {l : List UInt8} {w : Int} (hw : w ≤ 4096) : ∀ {ps : List Pc} {i : Nat}, i ≤ l.length → Cov l w i ps → l.length ≤ i + 273 * ps.length
  | [], i, hi, h => by have : i = l.length := h; omega
  | t :: r, i, hi, h => by
    have h1 := h.1.fits hw
    have h2 : t.1 ≤ 273 := by rcases h1.1 with g | g <;> omega
    have := cov_len hw (i := i + t.1.toNat) (by omega) h.2
    rw [List.length_cons]; omega
theorem costs_pos : ∀ (ps : List Pc), 0 ≤ costs cl1 ps
  | [] => Int.le_refl _
  | t :: r => by have := costs_pos r; show 0 ≤ price cl1 t + costs cl1 r; rw [price_cl1]; split <;> omega
theorem costs_zero : ∀ {ps : List Pc}, (∀ t ∈ ps, t.2.1 = 1) → costs cl1 ps = 0
  | [], _ => rfl
  | t :: r, h => by show price cl1 t + costs cl1 r = 0; rw [price_cl1, h t (by simp), costs_zero (fun x hx => h x (by simp [hx]))]; rfl
/-- The first piece of any cover is a literal. -/
theorem cov_first {l : List UInt8} {w : Int} {ps : List Pc} (hn : 0 < l.length) (h : Cov l w 0 ps) : ∃ r, ps = litP l 0 :: r ∧ Cov l w 1 r := by
  cases ps with
  | nil => have : 0 = l.length := h; omega
  | cons t r =>
    rcases h.1 with ⟨_, rfl⟩ | ⟨n, d, rfl, h1, h2, h3, h4, h5, _⟩
    · exact ⟨r, rfl, h.2⟩
    · omega
theorem single_one (b : UInt8) (k : Nat) (hk : 1 ≤ k) (hk2 : k ≤ 600) : ((parse cl1 (List.replicate k b) 1).1.length : Int) = 1 + ((k : Int) - 1 + 273 - 1) / 273 ∧ (parse cl1 (List.replicate k b) 1).1[0]! = (1, 0, (b.toNat : Int)) := by
  have hl : (List.replicate k b).length = k := by simp
  have hw : (1 : Int) ≤ 1 ∧ (1 : Int) ≤ 4096 := ⟨by omega, by omega⟩
  have hc := parse_cov vcl1 hw (l := List.replicate k b) (by omega)
  have hf := @parse_first cl1 (List.replicate k b) 1 vcl1 hw (by omega)
  have hlen := cov_len hw.2 (Nat.zero_le _) hc
  obtain ⟨r, hr, hr1⟩ := cov_first (by omega) hc
  have hl1 := cov_len hw.2 (i := 1) (by omega) hr1
  rw [hl] at hl1
  have e0 : litP (List.replicate k b) 0 = (1, 0, (b.toNat : Int)) := by unfold litP; rw [bat_run (by omega)]
  have hlit : occ (List.replicate k b) 1 0 (litP (List.replicate k b) 0) := .inl ⟨by omega, rfl⟩
  have hcost : costs cl1 (parse cl1 (List.replicate k b) 1).1 = 1 + costs cl1 r := by
    rw [hr]; show price cl1 _ + _ = _; rw [price_cl1, if_pos (litP_at _ _)]
  have hr0 := costs_pos r
  refine ⟨?_, by rw [hr, e0]; rfl⟩
  by_cases h2 : k = 2
  · subst h2
    -- two literals
    have hq : Cov (List.replicate 2 b) 1 0 [litP (List.replicate 2 b) 0, litP (List.replicate 2 b) 1] := ⟨.inl ⟨by simp, rfl⟩, .inl ⟨by simp [litP], rfl⟩, by show (2 : Nat) = (List.replicate 2 b).length; simp⟩
    have := hf hq
    have c2 : costs cl1 [litP (List.replicate 2 b) 0, litP (List.replicate 2 b) 1] = 2 := by show price cl1 _ + (price cl1 _ + 0) = 2; rw [price_cl1, price_cl1, if_pos (litP_at _ _), if_pos (litP_at _ _)]; rfl
    have hr2 : 1 ≤ costs cl1 r := by
      cases r with
      | nil => have : 1 = (List.replicate 2 b).length := hr1; simp at this
      | cons t s =>
        show 1 ≤ price cl1 t + costs cl1 s
        have := costs_pos s
        rcases hr1.1 with ⟨_, rfl⟩ | ⟨n, d, rfl, g1, g2, g3, g4, g5, g6, _⟩
        · rw [price_cl1, if_pos (litP_at _ _)]; omega
        · simp at g6; omega
    rw [c2] at this
    have e : [litP (List.replicate 2 b) 0, litP (List.replicate 2 b) 1].length = 2 := rfl
    rw [e, hcost, hr, List.length_cons] at this
    rw [hr, List.length_cons]
    have : r.length = 1 := by rcases this with h | ⟨_, h | ⟨h, _⟩⟩ <;> omega
    omega
  · obtain ⟨g1, g2, g3⟩ := cps_cov (b := b) (n := k) (k - 1) (k - 1) 1 (Nat.le_refl _) (by omega) (Nat.le_refl _) (by omega)
    have hq : Cov (List.replicate k b) 1 0 (litP (List.replicate k b) 0 :: cps (k - 1) (k - 1)) := ⟨hlit, g1⟩
    have := hf hq
    have cq : costs cl1 (litP (List.replicate k b) 0 :: cps (k - 1) (k - 1)) = 1 := by
      show price cl1 _ + costs cl1 _ = 1
      rw [price_cl1, if_pos (litP_at _ _), costs_zero g3]; rfl
    rw [cq, List.length_cons, g2, hcost] at this
    rw [hr, List.length_cons] at this ⊢
    have this2 : r.length + 1 ≤ (k - 1 + 272) / 273 + 1 := by
      rcases this with h | ⟨_, h | ⟨h, _⟩⟩ <;> omega
    omega
def cp1 (z : Int) : Cst := ⟨0, z, 0, 0⟩
theorem price_cp1 (z : Int) (t : Pc) : price (cp1 z) t = if t.2.1 = 0 then 0 else z := by
  unfold price cp1; split
  · rfl
  · dsimp only; omega
/-- A literal for each byte. -/
def lits (l : List UInt8) : Nat → Nat → List Pc
  | 0, _ => []
  | f + 1, i => litP l i :: lits l f (i + 1)
theorem lits_cov {l : List UInt8} {w : Int} : ∀ (f i : Nat), i + f = l.length → Cov l w i (lits l f i)
  | 0, i, h => by show i = l.length; omega
  | f + 1, i, h => ⟨.inl ⟨by omega, rfl⟩, lits_cov f (i + 1) (by omega)⟩
theorem lits_free (z : Int) {l : List UInt8} : ∀ (f i : Nat), costs (cp1 z) (lits l f i) = 0
  | 0, _ => rfl
  | f + 1, i => by show price (cp1 z) _ + _ = 0; rw [price_cp1, if_pos (litP_at _ _), lits_free z f (i + 1)]; rfl
theorem cov_free {l : List UInt8} {w : Int} {z : Int} (hz : 1 ≤ z) : ∀ {ps : List Pc} {i : Nat}, i ≤ l.length → Cov l w i ps → 0 ≤ costs (cp1 z) ps ∧ (costs (cp1 z) ps ≤ 0 → ps.length = l.length - i ∧ ∀ t ∈ ps, t.2.1 = 0)
  | [], i, hi, h => ⟨Int.le_refl _, fun _ => ⟨by have : i = l.length := h; simp; omega, fun t ht => by cases ht⟩⟩
  | t :: r, i, hi, h => by
    show 0 ≤ price (cp1 z) t + costs (cp1 z) r ∧ (price (cp1 z) t + costs (cp1 z) r ≤ 0 → _)
    rw [price_cp1]
    rcases h.1 with ⟨h1, e⟩ | ⟨n, d, e, g1, g2, g3, g4, g5, g6, _⟩
    · have h0 : t.2.1 = 0 := by rw [e]; rfl
      have ht1 : i + t.1.toNat = i + 1 := by rw [e]; rfl
      have := cov_free (l := l) (w := w) hz (ps := r) (i := i + 1) (by omega) (by rw [← ht1]; exact h.2)
      rw [if_pos h0]
      refine ⟨by omega, fun hle => ?_⟩
      obtain ⟨k1, k2⟩ := this.2 (by omega)
      exact ⟨by rw [List.length_cons, k1]; omega, fun x hx => by
        rcases List.mem_cons.1 hx with rfl | hx
        · exact h0
        · exact k2 x hx⟩
    · have h0 : t.2.1 = d := by rw [e]
      have ht1 : t.1 = n := by rw [e]
      have := cov_free (l := l) (w := w) hz (ps := r) (i := i + t.1.toNat) (by omega) h.2
      rw [if_neg (by omega)]
      exact ⟨by omega, fun hle => by omega⟩
theorem single_lit (b : UInt8) (k : Nat) (z : Int) (hk : 1 ≤ k) (hk2 : k ≤ 600) (hz : 1 ≤ z ∧ z ≤ 1000) : (parse (cp1 z) (List.replicate k b) 1).1.length = k ∧ (parse (cp1 z) (List.replicate k b) 1).1[k - 1]!.2.1 = 0 := by
  have hl : (List.replicate k b).length = k := by simp
  have hw : (1 : Int) ≤ 1 ∧ (1 : Int) ≤ 4096 := ⟨by omega, by omega⟩
  have hv : vC (cp1 z) := by unfold vC cp1 one1; dsimp only; omega
  have hc := parse_cov hv hw (l := List.replicate k b) (by omega)
  have hle := parse_le hv hw (by omega) (lits_cov (l := List.replicate k b) (w := 1) k 0 (by simp))
  rw [lits_free] at hle
  obtain ⟨h1, h2⟩ := (cov_free hz.1 (Nat.zero_le _) hc).2 hle
  rw [hl, Nat.sub_zero] at h1
  exact ⟨h1, h2 _ (bang_mem (by omega))⟩
end Go.Proofs.Ytcnnogoeapaaoaa
