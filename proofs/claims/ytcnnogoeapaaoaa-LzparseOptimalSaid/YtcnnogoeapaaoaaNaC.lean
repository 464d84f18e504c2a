/- Plain facts on the search: what Candidates finds is what the definition says. -/
import Derived.Test.YtcnnogoeapaaoaaNaB
set_option linter.unusedVariables false
set_option linter.unusedSimpArgs false
namespace Go.Proofs.Ytcnnogoeapaaoaa
open Go.Gh Go.RowKit

theorem lcp_min (l : List UInt8) : ∀ (a b i j : Nat), lcp l i j (min a b) = min (lcp l i j a) b
  | 0, b, i, j => by simp [lcp]
  | a + 1, 0, i, j => by simp [lcp]
  | a + 1, b + 1, i, j => by
    rw [show min (a + 1) (b + 1) = min a b + 1 by omega]
    unfold lcp
    split
    · rw [lcp_min l a b (i + 1) (j + 1)]; omega
    · simp

/-- The length at a distance, of a position inside. -/
theorem atd_eq (l : List UInt8) (i d : Nat) (m : Int) (hd : 1 ≤ d) (hdi : d ≤ i) (hi : i ≤ l.length) (hm : 0 ≤ m) :
    atd l i d m = if lcp l (i - d) i (min m ((l.length : Int) - i)).toNat < 2 then 0 else (lcp l (i - d) i (min m ((l.length : Int) - i)).toNat : Int) := by
  have e : min (com l ((i : Int) - d) i : Int) m = (lcp l (i - d) i (min m ((l.length : Int) - i)).toNat : Int) := by
    unfold com
    rw [if_pos (by omega), show ((i : Int) - d).toNat = i - d by omega, show ((i : Int)).toNat = i by omega, show ((l.length : Int) - max ((i : Int) - d) i).toNat = l.length - i by omega]
    have := lcp_min l (l.length - i) m.toNat (i - d) i
    rw [show (min m ((l.length : Int) - i)).toNat = min (l.length - i) m.toNat by omega, this]
    omega
  unfold atd
  rw [if_neg (by omega), e]
  split
  · rw [if_pos (by omega)]
  · rw [if_neg (by omega)]

theorem rc_pos (l : List UInt8) (i m : Int) (hm : 0 ≤ m) : ∀ d, 0 ≤ (rc l i m d).2
  | 0 => Int.le_refl _
  | d + 1 => by
    have := rc_pos l i m hm d
    unfold rc; split
    · show 0 ≤ atd l i (d + 1) m; omega
    · exact this
theorem atd_range (l : List UInt8) (i d m : Int) : atd l i d m = 0 ∨ 2 ≤ atd l i d m := by unfold atd; repeat' split <;> omega

theorem rc_succ (l : List UInt8) (i m : Int) (d : Nat) : rc l i m (d + 1) = if (rc l i m d).2 < atd l i (d + 1) m then ((rc l i m d).1 ++ [(atd l i (d + 1) m, (d : Int) + 1)], atd l i (d + 1) m) else rc l i m d := rfl
/-- Nothing better can come. -/
theorem rc_stable (l : List UInt8) (i : Nat) (m : Int) (hi : i ≤ l.length) (hm : 0 ≤ m) (d : Nat) (h : min m ((l.length : Int) - i) ≤ max 1 (rc l i m d).2) : ∀ k, d + k ≤ i → rc l i m (d + k) = rc l i m d
  | 0, _ => rfl
  | k + 1, hk => by
    have ih := rc_stable l i m hi hm d h k (by omega)
    rw [show d + (k + 1) = d + k + 1 by omega]
    have hp := rc_pos l i m hm d
    have ha := atd_eq l i (d + k + 1) m (by omega) (by omega) hi hm
    have hle := lcp_le l (min m ((l.length : Int) - i)).toNat (i - (d + k + 1)) i
    have e : ((d + k : Nat) : Int) + 1 = ((d + k + 1 : Nat) : Int) := by omega
    rw [rc_succ, ih, e, ha, if_neg]
    split <;> omega

theorem brun_rc (l : List UInt8) (i : Nat) (w m : Int) (hi : i ≤ l.length) (hm : 2 ≤ m) (hw : 1 ≤ w) : ∀ (k : Nat) (s : BS), k ≤ i → ((i - k : Nat) : Int) ≤ w → s.2 = (rc l i m (i - k)).1 → (s.1 : Int) = max 1 (rc l i m (i - k)).2 →
    (brun l i w (min m ((l.length : Int) - i)).toNat (down k) s).2 = (rc l i m (min w i).toNat).1
  | 0, s, hk, hkw, h1, h2 => by
    show s.2 = _
    rw [h1, show (min w (i : Int)).toNat = i - 0 by omega]
  | k + 1, s, hk, hkw, h1, h2 => by
    have ha := atd_eq l i (i - k) m (by omega) (by omega) hi (by omega)
    rw [show i - (i - k) = k by omega] at ha
    have hstep : rc l i m (i - k) = if (rc l i m (i - (k + 1))).2 < atd l i (i - k : Nat) m then ((rc l i m (i - (k + 1))).1 ++ [(atd l i (i - k : Nat) m, ((i - k : Nat) : Int))], atd l i (i - k : Nat) m) else rc l i m (i - (k + 1)) := by
      have e : i - k = i - (k + 1) + 1 := by omega
      have e2 : ((i - (k + 1) : Nat) : Int) + 1 = ((i - k : Nat) : Int) := by omega
      rw [e, rc_succ, e2, e]
    have hp := rc_pos l i m (by omega) (i - (k + 1))
    by_cases hg : bgo i w (min m ((l.length : Int) - i)).toNat k s
    · show (if bgo i w (min m ((l.length : Int) - i)).toNat k s then brun l i w (min m ((l.length : Int) - i)).toNat (down k) (bup l i (min m ((l.length : Int) - i)).toNat k s) else s).2 = _
      rw [if_pos hg]
      have hg' : ¬ (w < (i : Int) - k ∨ (min m ((l.length : Int) - i)).toNat ≤ s.1) := hg
      refine brun_rc l i w m hi hm hw k _ (by omega) (by omega) ?_ ?_
      · unfold bup
        rw [hstep]
        split
        · rw [if_pos (by rw [ha, if_neg (by omega)]; omega), h1, ha, if_neg (by omega)]
          show _ ++ [(_, (i : Int) - (k : Int))] = _ ++ [(_, ((i - k : Nat) : Int))]
          rw [show ((i - k : Nat) : Int) = (i : Int) - k by omega]
        · rw [if_neg (by rw [ha]; split <;> omega)]; exact h1
      · unfold bup
        rw [hstep]
        split
        · rw [if_pos (by rw [ha, if_neg (by omega)]; omega), ha, if_neg (by omega)]
          show ((lcp l k i _ : Nat) : Int) = max 1 ((lcp l k i _ : Nat) : Int)
          omega
        · rw [if_neg (by rw [ha]; split <;> omega)]; exact h2
    · show (if bgo i w (min m ((l.length : Int) - i)).toNat k s then brun l i w (min m ((l.length : Int) - i)).toNat (down k) (bup l i (min m ((l.length : Int) - i)).toNat k s) else s).2 = _
      rw [if_neg hg]
      have hg' : w < (i : Int) - k ∨ (min m ((l.length : Int) - i)).toNat ≤ s.1 := Classical.not_not.1 hg
      rw [h1]
      by_cases hw2 : w < (i : Int) - k
      · rw [show (min w (i : Int)).toNat = i - (k + 1) by omega]
      · have := rc_stable l i m hi (by omega) (i - (k + 1)) (by omega) ((min w (i : Int)).toNat - (i - (k + 1))) (by omega)
        rw [show i - (k + 1) + ((min w (i : Int)).toNat - (i - (k + 1))) = (min w (i : Int)).toNat by omega] at this
        rw [this]

theorem cands_eq (l : List UInt8) (i w m : Int) : cands l i w m = rcands l i w m := by
  unfold cands rcands
  split
  · rename_i h
    obtain ⟨⟨h1, h2, h3, h4⟩, h5, h6, h7⟩ := h
    obtain ⟨i, rfl⟩ := Int.eq_ofNat_of_zero_le h5
    have := brun_rc l i w m (by omega) h3 h1 i (1, []) (Nat.le_refl _) (by omega) (by simp [rc]) (by simp only [Nat.sub_self, rc]; rfl)
    exact this
  · rfl

theorem Candidates_r (l : List UInt8) (i w m : Int) (h : SH) (h5 : l.length ≤ 4611686018427387904) :
    SRun Try.prog 32 [S l, I i, I w, I m] h (IsCs h (rcands l i w m)) := by
  rw [← cands_eq]; exact Candidates_any l i w m h h5
theorem cpEq_self (c : Int × Int) : cellsEqB (cpF c) (cpF c) = true := (cpEq c c).2 rfl
end Go.Proofs.Ytcnnogoeapaaoaa
