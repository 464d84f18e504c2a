/- The reference's Parse. -/
import Derived.Test.YtcnnogoeapaaoaaLzQ
set_option linter.unusedVariables false
set_option linter.unusedSimpArgs false
namespace Go.Proofs.Ytcnnogoeapaaoaa
open Go.Gh Go.RowKit

/-- The copies at a place, all distances up to D and all lengths. -/
def rtries (l : List UInt8) (i : Nat) : Nat → List Pc
  | 0 => []
  | D + 1 => rtries l i D ++ trN ((D : Int) + 1) 1 (atd l i ((D : Int) + 1) 273).toNat
def rstp (c : Cst) (T : List St) (i : Nat) (b : St) (t : Pc) : St := if kb (nxt c T i t) b then nxt c T i t else b
def rbest (c : Cst) (l : List UInt8) (w : Int) (T : List St) (i : Nat) : St := (rtries l i (min w (i : Int)).toNat).foldl (rstp c T i) (nxt c T i (litP l i))
theorem fold_min {c : Cst} {T : List St} {i : Nat} : ∀ (ts : List Pc) (b : St), (ts.foldl (rstp c T i) b = b ∨ ∃ t ∈ ts, ts.foldl (rstp c T i) b = nxt c T i t) ∧ ¬ kb b (ts.foldl (rstp c T i) b) ∧ ∀ t ∈ ts, ¬ kb (nxt c T i t) (ts.foldl (rstp c T i) b)
  | [], b => ⟨.inl rfl, by show ¬ kb b b; unfold kb; omega, fun t ht => by cases ht⟩
  | t :: r, b => by
    obtain ⟨h1, h2, h3⟩ := fold_min (c := c) (T := T) (i := i) r (rstp c T i b t)
    rw [List.foldl_cons]
    have hb : ¬ kb b (rstp c T i b t) ∧ ¬ kb (nxt c T i t) (rstp c T i b t) := by
      unfold rstp
      split
      · rename_i h
        refine ⟨?_, by unfold kb; omega⟩
        unfold kb at *; omega
      · rename_i h
        exact ⟨by unfold kb; omega, h⟩
    refine ⟨?_, kb_trans h2 hb.1, fun u hu => ?_⟩
    · rcases h1 with h1 | ⟨u, hu, h1⟩
      · rw [h1]
        unfold rstp
        split
        · exact .inr ⟨t, List.mem_cons_self, rfl⟩
        · exact .inl rfl
      · exact .inr ⟨u, List.mem_cons_of_mem _ hu, h1⟩
    · rcases List.mem_cons.1 hu with rfl | hu
      · exact kb_trans h2 hb.2
      · exact h3 u hu
theorem rtries_mem {l : List UInt8} {i : Nat} {t : Pc} : ∀ {D : Nat}, t ∈ rtries l i D → ∃ d n : Nat, 1 ≤ d ∧ d ≤ D ∧ 2 ≤ n ∧ (n : Int) ≤ atd l i d 273 ∧ t = ((n : Int), (d : Int), 0)
  | 0, h => by cases h
  | D + 1, h => by
    rcases List.mem_append.1 h with h | h
    · obtain ⟨d, n, h1, h2, h3⟩ := rtries_mem h
      exact ⟨d, n, h1, by omega, h3⟩
    · have g := trN_in h
      obtain ⟨a, b, y⟩ := t
      dsimp only at g
      refine ⟨D + 1, a.toNat, by omega, Nat.le_refl _, by omega, ?_, ?_⟩
      · rw [show ((D + 1 : Nat) : Int) = (D : Int) + 1 by omega]; omega
      · rw [show ((a.toNat : Nat) : Int) = a by omega, g.2.2.1, g.2.2.2]; rfl
theorem rtries_has {l : List UInt8} {i d n : Nat} : ∀ {D : Nat}, 1 ≤ d → d ≤ D → 2 ≤ n → (n : Int) ≤ atd l i d 273 → ((n : Int), (d : Int), (0 : Int)) ∈ rtries l i D
  | 0, h1, h2, _, _ => by omega
  | D + 1, h1, h2, h3, h4 => by
    unfold rtries
    by_cases e : d = D + 1
    · subst e
      rw [show ((D + 1 : Nat) : Int) = (D : Int) + 1 by omega] at h4 ⊢
      exact List.mem_append_right _ (trN_mem (by omega) (by omega))
    · exact List.mem_append_left _ (rtries_has h1 (by omega) h3 h4)
section
variable {c : Cst} {l : List UInt8} {w : Int} (hc : vC c) (hw : 1 ≤ w ∧ w ≤ 4096) (hn : l.length ≤ 4096)
theorem rtries_occ {i : Nat} {t : Pc} (hw : 1 ≤ w ∧ w ≤ 4096) (hi : i < l.length) (h : t ∈ rtries l i (min w (i : Int)).toNat) : occ l w i t := by
  obtain ⟨d, n, h1, h2, h3, h4, rfl⟩ := rtries_mem h
  have hd : d ≤ i := by omega
  have hat := atd_eq l i d 273 h1 hd (by omega) (by omega)
  have h5 := lcp_le l (min (273 : Int) ((l.length : Int) - i)).toNat (i - d) i
  have hle : n ≤ 273 := by split at hat <;> omega
  exact .inr ⟨n, d, rfl, h3, hle, h1, by omega, hd, (atd_ge l i d n h1 hd (by omega) h3 hle).1 h4⟩
include hc hw hn
theorem rrow_eq {j : Nat} (hj : j < l.length) : (parT c l w j).set (l.length - (j + 1)) (rbest c l w (parT c l w j) (l.length - (j + 1))) = parT c l w (j + 1) := by
  obtain ⟨i, hi⟩ : ∃ i, i = l.length - (j + 1) := ⟨_, rfl⟩
  obtain ⟨T, hT⟩ : ∃ T, T = parT c l w j := ⟨_, rfl⟩
  have hil : i < l.length := by omega
  have hTl : T.length = l.length + 1 := by rw [hT]; exact (parT_last (l := l) (w := w) hc (by omega)).1
  have hrow : parT c l w (j + 1) = rowT c l w i T := by rw [hi, hT]; rfl
  rw [hrow, ← hi, ← hT]
  have hm := row_min hc hw hn hil hTl
  have same : ∀ u : Pc, 1 ≤ u.1 → nxt c (rowT c l w i T) i u = nxt c T i u := fun u hu => by
    unfold nxt rowT
    rw [runT_else (by omega) (by show i < T.length; omega)]
  have hb : rbest c l w T i = (rowT c l w i T)[i]! := by
    obtain ⟨f1, f2, f3⟩ := fold_min (c := c) (T := T) (i := i) (rtries l i (min w (i : Int)).toNat) (nxt c T i (litP l i))
    have g1 : ∃ t, occ l w i t ∧ rbest c l w T i = nxt c T i t := by
      rcases f1 with f1 | ⟨t, ht, f1⟩
      · exact ⟨litP l i, .inl ⟨hil, rfl⟩, f1⟩
      · exact ⟨t, rtries_occ hw hil ht, f1⟩
    have g2 : ∀ t, occ l w i t → ¬ kb (nxt c T i t) (rbest c l w T i) := fun t ht => by
      rcases ht with ⟨_, rfl⟩ | ⟨n, d, rfl, h1, h2, h3, h4, h5, h6, h7⟩
      · exact f2
      · exact f3 _ (rtries_has h3 (by omega) h1 ((atd_ge l i d n h3 h5 (by omega) h1 h2).2 ⟨h6, h7⟩))
    obtain ⟨t, ht, e⟩ := g1
    obtain ⟨m1, m2, m3⟩ := hm
    have h1 := g2 _ m1
    have h2 := m3 t ht
    have o1 := (ht.fits hw.2).2.2
    have o2 := (m1.fits hw.2).2.2
    rw [same _ o1] at h2
    rw [same _ o2] at m2
    rw [e] at h1 ⊢
    generalize hX : (rowT c l w i T)[i]! = X at m1 m2 h1 h2 o2 ⊢
    have e1 : (nxt c T i t).2.2 = t := rfl
    have e2 : (nxt c T i X.2.2).2.2 = X.2.2 := rfl
    have e3 : t = X.2.2 := by
      refine occ_same ht m1 ?_ ?_
      · rw [m2] at h2; unfold kb at h1 h2; rw [e1, e2] at h1 h2; omega
      · rw [m2] at h2; unfold kb at h1 h2; rw [e1, e2] at h1 h2; omega
    rw [e3, ← m2]
  rw [hb]
  refine List.ext_getElem? fun k => ?_
  have hrl : (rowT c l w i T).length = T.length := by
    have : ∀ (ts : List Pc) (s : Bool × List St), (runT c i ts s).2.length = s.2.length := fun ts => by
      induction ts with
      | nil => intro s; rfl
      | cons t r ih => intro s; show (runT c i r (tryS c i s t)).2.length = _; rw [ih, tryS_len]
    exact this _ _
  rw [List.getElem?_set]
  by_cases e : i = k
  · subst e
    rw [if_pos rfl, if_pos (by omega), getElem!_pos _ i (by omega), List.getElem?_eq_getElem (by omega)]
  · rw [if_neg e]
    have h1 : (rowT c l w i T)[k]! = T[k]! := by unfold rowT; rw [runT_else (by omega) (by show i < T.length; omega)]
    by_cases hk : k < T.length
    · rw [getElem!_pos _ k (by omega), getElem!_pos _ k hk] at h1
      rw [List.getElem?_eq_getElem hk, List.getElem?_eq_getElem (by omega), h1]
    · rw [List.getElem?_eq_none (by omega), List.getElem?_eq_none (by omega)]
end
end Go.Proofs.Ytcnnogoeapaaoaa
