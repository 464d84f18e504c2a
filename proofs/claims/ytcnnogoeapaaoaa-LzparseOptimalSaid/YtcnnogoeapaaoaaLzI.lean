/- What Parse tries: every occurrence that can matter. Plain. -/
import Derived.Test.YtcnnogoeapaaoaaLzF
import Derived.Test.YtcnnogoeapaaoaaNaE
set_option linter.unusedVariables false
set_option linter.unusedSimpArgs false
namespace Go.Proofs.Ytcnnogoeapaaoaa
open Go.Gh Go.RowKit

theorem lcp_ge (l : List UInt8) : ∀ (m i j n : Nat), n ≤ lcp l i j m ↔ n ≤ m ∧ ∀ k : Nat, k < n → bat l ((i + k : Nat) : Int) = bat l ((j + k : Nat) : Int)
  | 0, i, j, n => by
    unfold lcp
    constructor
    · intro h; exact ⟨h, fun k hk => by omega⟩
    · exact fun h => h.1
  | m + 1, i, j, 0 => by simp
  | m + 1, i, j, n + 1 => by
    unfold lcp
    split
    · rename_i he
      rw [Nat.add_le_add_iff_right, lcp_ge l m (i + 1) (j + 1) n]
      constructor
      · rintro ⟨h1, h2⟩
        refine ⟨by omega, fun k hk => ?_⟩
        cases k with
        | zero => exact he
        | succ k => have := h2 k (by omega); rwa [show i + 1 + k = i + (k + 1) by omega, show j + 1 + k = j + (k + 1) by omega] at this
      · rintro ⟨h1, h2⟩
        refine ⟨by omega, fun k hk => ?_⟩
        have := h2 (k + 1) (by omega)
        rwa [show i + (k + 1) = i + 1 + k by omega, show j + (k + 1) = j + 1 + k by omega] at this
    · rename_i he
      constructor
      · intro h; omega
      · rintro ⟨_, h2⟩
        exact absurd (h2 0 (by omega)) he
/-- An occurrence: the next bytes, n of them, as d bytes before. -/
abbrev same (l : List UInt8) (i d n : Nat) : Prop := ∀ k : Nat, k < n → bat l ((i - d + k : Nat) : Int) = bat l ((i + k : Nat) : Int)
theorem atd_ge (l : List UInt8) (i d n : Nat) (hd : 1 ≤ d) (hdi : d ≤ i) (hi : i ≤ l.length) (hn : 2 ≤ n) (hn2 : n ≤ 273) : (n : Int) ≤ atd l i d 273 ↔ i + n ≤ l.length ∧ same l i d n := by
  rw [atd_eq l i d 273 hd hdi hi (by omega)]
  have := lcp_ge l (min (273 : Int) ((l.length : Int) - i)).toNat (i - d) i n
  split
  · constructor
    · intro; omega
    · rintro ⟨h1, h2⟩
      have := this.2 ⟨by omega, h2⟩
      omega
  · rw [Int.ofNat_le, this]
    constructor
    · rintro ⟨h1, h2⟩; exact ⟨by omega, h2⟩
    · rintro ⟨h1, h2⟩; exact ⟨by omega, h2⟩
/-- A piece that may stand at a place. -/
def occ (l : List UInt8) (w : Int) (i : Nat) (t : Pc) : Prop :=
  (i < l.length ∧ t = litP l i) ∨ ∃ n d : Nat, t = ((n : Int), (d : Int), 0) ∧ 2 ≤ n ∧ n ≤ 273 ∧ 1 ≤ d ∧ (d : Int) ≤ w ∧ d ≤ i ∧ i + n ≤ l.length ∧ same l i d n
theorem occ.fits {l : List UInt8} {w : Int} {i : Nat} {t : Pc} (hw : w ≤ 4096) (h : occ l w i t) : fits l i t := by
  rcases h with ⟨h1, rfl⟩ | ⟨n, d, rfl, h1, h2, h3, h4, h5, h6, _⟩
  · exact lit_fits h1
  · exact ⟨.inr ⟨by dsimp only; omega, by dsimp only; omega, by dsimp only; omega, by dsimp only; omega, rfl⟩, by dsimp only; omega, by dsimp only; omega⟩
/-- Every distance and length is reached by the first one found. -/
theorem rc_first (l : List UInt8) (i m n : Int) (hm : 0 ≤ m) (hn : 1 ≤ n) : ∀ (D d : Nat), 1 ≤ d → d ≤ D → n ≤ atd l i d m → ∃ k, k < (rc l i m D).1.length ∧ n ≤ (rc l i m D).1[k]!.1 ∧ (rc l i m D).1[k]!.2 ≤ d ∧ ∀ j, j < k → (rc l i m D).1[j]!.1 < n
  | 0, d, h1, h2, _ => by omega
  | D + 1, d, h1, h2, h3 => by
    have low : ∀ j, j < (rc l i m D).1.length → (rc l i m D).1[j]!.1 ≤ (rc l i m D).2 := fun j hj => by
      obtain ⟨e, g1, g2, g3, _⟩ := rc_mem l i m hm D _ (bang_mem hj)
      have := rc_max l i m D e g1 g2
      rw [g3]; exact this
    have old : ∀ d, 1 ≤ d → d ≤ D → n ≤ atd l i d m → ∃ k, k < (rc l i m (D + 1)).1.length ∧ n ≤ (rc l i m (D + 1)).1[k]!.1 ∧ (rc l i m (D + 1)).1[k]!.2 ≤ d ∧ ∀ j, j < k → (rc l i m (D + 1)).1[j]!.1 < n := fun d g1 g2 g3 => by
      obtain ⟨k, k1, k2, k3, k4⟩ := rc_first l i m n hm hn D d g1 g2 g3
      rw [rc_succ]
      split
      · have e : ∀ j, j < (rc l i m D).1.length → ((rc l i m D).1 ++ [(atd l i ((D : Int) + 1) m, (D : Int) + 1)])[j]! = (rc l i m D).1[j]! := fun j hj => by
          rw [getElem!_pos _ j (by rw [List.length_append]; omega), List.getElem_append_left hj, getElem!_pos _ j hj]
        refine ⟨k, by rw [List.length_append]; omega, ?_, ?_, fun j hj => ?_⟩
        · rw [e k k1]; exact k2
        · rw [e k k1]; exact k3
        · rw [e j (by omega)]; exact k4 j hj
      · exact ⟨k, k1, k2, k3, k4⟩
    by_cases hd : d ≤ D
    · exact old d h1 hd h3
    · obtain rfl : d = D + 1 := by omega
      rw [show ((D + 1 : Nat) : Int) = (D : Int) + 1 by omega] at h3
      by_cases hlt : (rc l i m D).2 < n
      · rw [rc_succ, if_pos (by omega)]
        refine ⟨(rc l i m D).1.length, by simp, ?_, ?_, fun j hj => ?_⟩
        · rw [getElem!_pos _ _ (by simp), List.getElem_append_right (Nat.le_refl _)]; simpa using h3
        · rw [getElem!_pos _ _ (by simp), List.getElem_append_right (Nat.le_refl _)]; simp
        · rw [getElem!_pos _ j (by rw [List.length_append]; omega), List.getElem_append_left hj]
          have := low j hj
          rw [getElem!_pos _ j hj] at this; omega
      · -- some nearer one is as long
        have hne : (rc l i m D).1 ≠ [] := fun hnil => by have := rc_nil l i m D hnil; omega
        obtain ⟨x, hx⟩ : ∃ x, (rc l i m D).1.getLast? = some x := ⟨_, List.getLast?_eq_some_getLast hne⟩
        have h5 := rc_last l i m D x hx
        obtain ⟨e, g1, g2, g3, _⟩ := rc_mem l i m hm D x (List.mem_of_getLast? hx)
        obtain ⟨k, k1, k2, k3, k4⟩ := old e g1 g2 (by rw [g3] at h5; dsimp only at h5; omega)
        exact ⟨k, k1, k2, by omega, k4⟩
theorem cands_rc {l : List UInt8} {i : Nat} {w : Int} (hw : 1 ≤ w ∧ w ≤ 4096) (hi : i ≤ l.length) (hn : l.length ≤ 4096) : cands l i w 273 = (rc l i 273 (min w i).toNat).1 := by
  rw [cands_eq]; unfold rcands; rw [if_pos ⟨⟨hw.1, hw.2, by omega, by omega⟩, by omega, by omega, hn⟩]
theorem trN_mem {d : Int} {lo : Nat} : ∀ {n m : Nat}, lo < m → m ≤ n → ((m : Int), d, (0 : Int)) ∈ trN d lo n
  | 0, m, _, h => by omega
  | n + 1, m, h1, h2 => by
    unfold trN
    rw [if_pos (by omega)]
    by_cases e : m = n + 1
    · subst e; exact List.mem_cons_self
    · exact List.mem_cons_of_mem _ (trN_mem h1 (by omega))
theorem trK_mem {cs : List (Int × Int)} {t : Pc} : ∀ {n k : Nat}, k < n → t ∈ trN cs[k]!.2 (shr cs k) cs[k]!.1.toNat → t ∈ trK cs n
  | 0, k, h, _ => by omega
  | n + 1, k, h, ht => by
    unfold trK
    by_cases e : k = n
    · subst e; exact List.mem_append_left _ ht
    · exact List.mem_append_right _ (trK_mem (by omega) ht)
theorem trN_sorted {d : Int} {lo : Nat} : ∀ {n : Nat}, (trN d lo n).Pairwise (fun a b => b.1 < a.1)
  | 0 => .nil
  | n + 1 => by
    unfold trN
    split
    · refine List.Pairwise.cons (fun t ht => ?_) trN_sorted
      have := trN_in ht
      show t.1 < ((n + 1 : Nat) : Int); omega
    · exact .nil
theorem trK_in {cs : List (Int × Int)} : ∀ {k : Nat} {t : Pc}, t ∈ trK cs k → ∃ j, j < k ∧ t ∈ trN cs[j]!.2 (shr cs j) cs[j]!.1.toNat
  | 0, t, h => by cases h
  | k + 1, t, h => by
    rcases List.mem_append.1 h with h | h
    · exact ⟨k, by omega, h⟩
    · obtain ⟨j, h1, h2⟩ := trK_in h; exact ⟨j, by omega, h2⟩
theorem rising_lt {cs : List (Int × Int)} (h : rising cs) : ∀ {k j : Nat}, j ≤ k → k < cs.length → cs[j]!.1 ≤ cs[k]!.1
  | 0, j, h1, h2 => by obtain rfl : j = 0 := by omega
                       exact Int.le_refl _
  | k + 1, j, h1, h2 => by
    by_cases e : j = k + 1
    · subst e; exact Int.le_refl _
    · have g1 := rising_lt h (k := k) (j := j) (by omega) (by omega)
      have g2 := rising_get h k h2
      omega
theorem trK_sorted {cs : List (Int × Int)} (h : rising cs) (hp : ∀ c ∈ cs, 2 ≤ c.1) : ∀ {k : Nat}, k ≤ cs.length → (trK cs k).Pairwise (fun a b => b.1 < a.1)
  | 0, _ => .nil
  | k + 1, hk => by
    unfold trK
    refine List.pairwise_append.2 ⟨trN_sorted, trK_sorted h hp (by omega), fun a ha b hb => ?_⟩
    obtain ⟨j, h1, h2⟩ := trK_in hb
    have g1 := trN_in ha
    have g2 := trN_in h2
    have g3 := rising_lt h (k := k - 1) (j := j) (by omega) (by omega)
    have g4 := hp _ (bang_mem (show k - 1 < cs.length by omega))
    have g5 := hp _ (bang_mem (show j < cs.length by omega))
    unfold shr at g1
    rw [if_pos (by omega)] at g1
    omega
section
variable {l : List UInt8} {i : Nat} {w : Int} (hw : 1 ≤ w ∧ w ≤ 4096) (hi : i < l.length) (hn : l.length ≤ 4096)
include hw hi hn
theorem cands_occ {n d : Nat} (hn2 : 2 ≤ n) (h : ((n : Int), (d : Int)) ∈ cands l i w 273) : occ l w i ((n : Int), (d : Int), 0) := by
  have h0 := cands_in h
  rw [cands_rc hw (by omega) hn] at h
  obtain ⟨e, h1, h2, h3, _⟩ := rc_mem l i 273 (by omega) _ _ h
  have h4 := congrArg Prod.fst h3
  have h5 := congrArg Prod.snd h3
  dsimp only at h0 h4 h5
  obtain rfl : d = e := by omega
  have := (atd_ge l i d n h1 (by omega) (by omega) hn2 (by omega)).1 (by omega)
  exact .inr ⟨n, d, rfl, hn2, by omega, h1, by omega, by omega, this⟩
theorem tries_sorted : (triesL l i w).Pairwise (fun a b => b.1 < a.1) := by
  unfold triesL
  have hr : rising (cands l i w 273) := by rw [cands_rc hw (by omega) hn]; exact rc_rising _ _ _ _
  refine List.pairwise_append.2 ⟨trK_sorted hr (fun c hc => (cands_in hc).1) (Nat.le_refl _), List.pairwise_singleton _ _, fun a ha b hb => ?_⟩
  obtain rfl := List.mem_singleton.1 hb
  obtain ⟨j, h1, h2⟩ := trK_in ha
  have := shr_pos h1
  have := (trN_in h2).1
  show 1 < a.1; omega
theorem tries_occ {t : Pc} (ht : t ∈ triesL l i w) : occ l w i t := by
  rcases List.mem_append.1 ht with ht | ht
  · obtain ⟨j, h1, h2⟩ := trK_in ht
    have g1 := trN_in h2
    have g2 := shr_pos h1
    have g3 := cands_in (bang_mem h1)
    have g4 := bang_mem h1
    obtain ⟨a, b, y⟩ := t
    obtain ⟨n, rfl⟩ : ∃ n : Nat, a = n := ⟨a.toNat, by dsimp only at g1; omega⟩
    obtain ⟨N, D, hND⟩ : ∃ N D : Nat, (cands l i w 273)[j]! = ((N : Int), (D : Int)) := ⟨(cands l i w 273)[j]!.1.toNat, (cands l i w 273)[j]!.2.toNat, by rw [Int.toNat_of_nonneg (by omega), Int.toNat_of_nonneg (by omega)]⟩
    rw [hND] at g1 g3 g4
    dsimp only at g1 g3
    rcases cands_occ hw hi hn (by omega) g4 with ⟨_, h⟩ | ⟨n', d', h, k1, k2, k3, k4, k5, k6, k7⟩
    · have := congrArg (·.2.1) h; change (D : Int) = 0 at this; omega
    · have e1 := congrArg (·.1) h
      have e2 := congrArg (·.2.1) h
      change (N : Int) = n' at e1
      change (D : Int) = d' at e2
      obtain rfl : N = n' := by omega
      obtain rfl : D = d' := by omega
      exact .inr ⟨n, D, by rw [g1.2.2.1, g1.2.2.2], by omega, by omega, k3, k4, k5, by omega, fun k hk => k7 k (by omega)⟩
  · obtain rfl := List.mem_singleton.1 ht
    exact .inl ⟨hi, rfl⟩
/-- Every occurrence is tried, at its distance or a lesser one. -/
theorem tries_cover {t : Pc} (ht : occ l w i t) : ∃ u ∈ triesL l i w, u.1 = t.1 ∧ u.2.1 ≤ t.2.1 ∧ (t.2.1 = 0 ∧ u = t ∨ 1 ≤ u.2.1) := by
  rcases ht with ⟨h1, rfl⟩ | ⟨n, d, rfl, h1, h2, h3, h4, h5, h6, h7⟩
  · exact ⟨litP l i, List.mem_append_right _ List.mem_cons_self, rfl, Int.le_refl _, .inl ⟨rfl, rfl⟩⟩
  · have ha := (atd_ge l i d n h3 h5 (by omega) h1 h2).2 ⟨h6, h7⟩
    obtain ⟨k, k1, k2, k3, k4⟩ := rc_first l i 273 n (by omega) (by omega) (min w i).toNat d h3 (by omega) ha
    rw [← cands_rc hw (by omega) hn] at k1 k2 k3 k4
    have g3 := cands_in (bang_mem k1)
    refine ⟨((n : Int), (cands l i w 273)[k]!.2, 0), List.mem_append_left _ (trK_mem k1 (trN_mem ?_ (by omega))), rfl, k3, .inr (by dsimp only; omega)⟩
    unfold shr
    split
    · have := k4 (k - 1) (by omega); omega
    · omega
end
theorem price_mono {c : Cst} {n d e : Int} {y z : Int} (hc : vC c) (h1 : 1 ≤ d) (h2 : d ≤ e) : price c (n, d, y) ≤ price c (n, e, z) := by
  unfold price
  dsimp only
  rw [if_neg (by omega), if_neg (by omega)]
  have : iblen d ≤ iblen e := by unfold iblen; have := blen_mono (n := d.toNat) (m := e.toNat) (by omega); omega
  have := Int.mul_le_mul_of_nonneg_left this hc.2.2.1.1
  omega
end Go.Proofs.Ytcnnogoeapaaoaa
