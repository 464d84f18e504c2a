/- The parse is the first of all. Plain. -/
import Derived.Test.YtcnnogoeapaaoaaLzI
set_option linter.unusedVariables false
set_option linter.unusedSimpArgs false
namespace Go.Proofs.Ytcnnogoeapaaoaa
open Go.Gh Go.RowKit

/-- A step comes before another: cheaper, fewer pieces, a longer first piece, a nearer one. -/
def kb (a b : St) : Prop := a.1 < b.1 ∨ a.1 = b.1 ∧ (a.2.1 < b.2.1 ∨ a.2.1 = b.2.1 ∧ (b.2.2.1 < a.2.2.1 ∨ a.2.2.1 = b.2.2.1 ∧ a.2.2.2.1 < b.2.2.2.1))
theorem kb_trans {a b c : St} (h1 : ¬ kb b a) (h2 : ¬ kb c b) : ¬ kb c a := by
  unfold kb at *; omega
theorem nxt_set {c : Cst} {T : List St} {i : Nat} {t : Pc} {x : St} (h : 1 ≤ t.1) : nxt c (T.set i x) i t = nxt c T i t := by
  unfold nxt
  have : (T.set i x)[i + t.1.toNat]! = T[i + t.1.toNat]! := by
    simp only [getElem!_def, List.getElem?_set]
    rw [if_neg (by omega)]
  rw [this]
theorem runT_min {c : Cst} {i : Nat} : ∀ {ts : List Pc} {s : Bool × List St} {x : St}, s.1 = true → i < s.2.length → s.2[i]! = x → (∀ t ∈ ts, 1 ≤ t.1 ∧ t.1 < x.2.2.1) → ts.Pairwise (fun a b => b.1 < a.1) →
    ((runT c i ts s).2[i]! = x ∨ ∃ t ∈ ts, (runT c i ts s).2[i]! = nxt c s.2 i t) ∧ ¬ kb x (runT c i ts s).2[i]! ∧ ∀ t ∈ ts, ¬ kb (nxt c s.2 i t) (runT c i ts s).2[i]!
  | [], s, x, _, _, h3, _, _ => ⟨.inl h3, by show ¬ kb x s.2[i]!; rw [h3]; unfold kb; omega, fun t ht => by cases ht⟩
  | t :: ts, s, x, h1, h2, h3, h4, h5 => by
    have ht := h4 t List.mem_cons_self
    rw [List.pairwise_cons] at h5
    show ((runT c i ts (tryS c i s t)).2[i]! = x ∨ ∃ u ∈ t :: ts, (runT c i ts (tryS c i s t)).2[i]! = nxt c s.2 i u) ∧ ¬ kb x (runT c i ts (tryS c i s t)).2[i]! ∧ ∀ u ∈ t :: ts, ¬ kb (nxt c s.2 i u) (runT c i ts (tryS c i s t)).2[i]!
    by_cases hb : sbet (nxt c s.2 i t) s.2[i]!
    · have e : tryS c i s t = (true, s.2.set i (nxt c s.2 i t)) := if_pos (.inr hb)
      rw [e]
      obtain ⟨g1, g2, g3⟩ := runT_min (c := c) (i := i) (ts := ts) (s := (true, s.2.set i (nxt c s.2 i t))) (x := nxt c s.2 i t) rfl (by simpa using h2) (by dsimp only; rw [set_bang h2, if_pos rfl]) (fun u hu => ⟨(h4 u (List.mem_cons_of_mem _ hu)).1, h5.1 u hu⟩) h5.2
      refine ⟨.inr ?_, ?_, fun u hu => ?_⟩
      · rcases g1 with g1 | ⟨u, hu, g1⟩
        · exact ⟨t, List.mem_cons_self, g1⟩
        · exact ⟨u, List.mem_cons_of_mem _ hu, by rw [g1]; exact nxt_set (h4 u (List.mem_cons_of_mem _ hu)).1⟩
      · refine kb_trans g2 ?_
        rw [h3] at hb
        unfold kb; unfold sbet at hb; omega
      · rcases List.mem_cons.1 hu with rfl | hu
        · exact g2
        · have := g3 u hu
          rwa [nxt_set (h4 u (List.mem_cons_of_mem _ hu)).1] at this
    · have e : tryS c i s t = s := if_neg (by rintro (h | h); rw [h1] at h; cases h; exact hb h)
      rw [e]
      obtain ⟨g1, g2, g3⟩ := runT_min (c := c) (i := i) (ts := ts) h1 h2 h3 (fun u hu => h4 u (List.mem_cons_of_mem _ hu)) h5.2
      refine ⟨?_, g2, fun u hu => ?_⟩
      · rcases g1 with g1 | ⟨u, hu, g1⟩
        · exact .inl g1
        · exact .inr ⟨u, List.mem_cons_of_mem _ hu, g1⟩
      · rcases List.mem_cons.1 hu with rfl | hu
        · refine kb_trans g2 ?_
          rw [h3] at hb
          have : (nxt c s.2 i u).2.2 = u := rfl
          unfold kb; unfold sbet at hb; rw [this]; omega
        · exact g3 u hu
/-- A step at a place is the first of all that may be. -/
def isMin (c : Cst) (l : List UInt8) (w : Int) (T : List St) (i : Nat) : Prop :=
  occ l w i T[i]!.2.2 ∧ T[i]! = nxt c T i T[i]!.2.2 ∧ ∀ t, occ l w i t → ¬ kb (nxt c T i t) T[i]!
theorem litP_at (l : List UInt8) (i : Nat) : (litP l i).2.1 = 0 := rfl
theorem nxt_near {c : Cst} (hc : vC c) {T : List St} {i : Nat} {t u : Pc} (h1 : u.1 = t.1) (h2 : u.2.1 ≤ t.2.1) (h3 : t.2.1 = 0 ∧ u = t ∨ 1 ≤ u.2.1) : ¬ kb (nxt c T i t) (nxt c T i u) := by
  rcases h3 with ⟨_, rfl⟩ | h3
  · unfold kb; omega
  · obtain ⟨a, d, y⟩ := t
    obtain ⟨a', e, z⟩ := u
    change a' = a at h1
    subst h1
    have := price_mono (n := a') (y := z) (z := y) hc h3 h2
    unfold kb nxt
    dsimp only at h2 h3 this ⊢
    omega
theorem parT_last {c : Cst} {l : List UInt8} {w : Int} (hc : vC c) : ∀ {j : Nat}, j ≤ l.length → (parT c l w j).length = l.length + 1 ∧ (parT c l w j)[l.length]! = st0
  | 0, _ => by
    refine ⟨by simp [parT], ?_⟩
    unfold parT; rw [getElem!_pos _ _ (by simp), List.getElem_replicate]
  | j + 1, hj => by
    obtain ⟨h1, h2⟩ := parT_last (l := l) hc (w := w) (j := j) (by omega)
    refine ⟨(parT_ok hc hj).1.1, ?_⟩
    show (runT c (l.length - (j + 1)) _ (false, parT c l w j)).2[l.length]! = st0
    rw [runT_else (by omega) (by show _ < (parT c l w j).length; omega)]; exact h2
section
variable {c : Cst} {l : List UInt8} {w : Int} (hc : vC c) (hw : 1 ≤ w ∧ w ≤ 4096) (hn : l.length ≤ 4096)
include hc hw hn
theorem row_min {i : Nat} (hi : i < l.length) {T : List St} (hT : T.length = l.length + 1) : isMin c l w (rowT c l w i T) i := by
  have hocc : ∀ t ∈ triesL l i w, occ l w i t := fun t ht => tries_occ hw hi hn ht
  have hone : ∀ t, occ l w i t → 1 ≤ t.1 := fun t ht => (ht.fits hw.2).2.2
  have key : ∃ t ∈ triesL l i w, (rowT c l w i T)[i]! = nxt c T i t ∧ ∀ u ∈ triesL l i w, ¬ kb (nxt c T i u) (nxt c T i t) := by
    have hs := tries_sorted hw hi hn
    have hne : triesL l i w ≠ [] := by unfold triesL; simp
    unfold rowT
    revert hocc hs hne
    cases triesL l i w with
    | nil => intro _ _ h; exact absurd rfl h
    | cons t ts =>
      intro hocc hs _
      rw [List.pairwise_cons] at hs
      show ∃ u ∈ t :: ts, (runT c i ts (tryS c i (false, T) t)).2[i]! = nxt c T i u ∧ _
      have e : tryS c i (false, T) t = (true, T.set i (nxt c T i t)) := if_pos (.inl rfl)
      rw [e]
      obtain ⟨g1, g2, g3⟩ := runT_min (c := c) (i := i) (ts := ts) (s := (true, T.set i (nxt c T i t))) (x := nxt c T i t) rfl (by simp; omega) (by dsimp only; rw [set_bang (by omega), if_pos rfl]) (fun u hu => ⟨hone _ (hocc u (List.mem_cons_of_mem _ hu)), hs.1 u hu⟩) hs.2
      have g3' : ∀ u ∈ ts, ¬ kb (nxt c T i u) (runT c i ts (true, T.set i (nxt c T i t))).2[i]! := fun u hu => by
        have := g3 u hu
        rwa [nxt_set (hone _ (hocc u (List.mem_cons_of_mem _ hu)))] at this
      rcases g1 with g1 | ⟨u, hu, g1⟩
      · exact ⟨t, List.mem_cons_self, g1, fun u hu => by
          rw [g1] at g2 g3'
          rcases List.mem_cons.1 hu with rfl | hu
          · exact g2
          · exact g3' u hu⟩
      · rw [nxt_set (hone _ (hocc u (List.mem_cons_of_mem _ hu)))] at g1
        refine ⟨u, List.mem_cons_of_mem _ hu, g1, fun v hv => ?_⟩
        rw [g1] at g2 g3'
        rcases List.mem_cons.1 hv with rfl | hv
        · exact g2
        · exact g3' v hv
  obtain ⟨t, h1, h2, h3⟩ := key
  have same : ∀ u : Pc, 1 ≤ u.1 → nxt c (rowT c l w i T) i u = nxt c T i u := fun u hu => by
    unfold nxt rowT
    rw [runT_else (by omega) (by show i < T.length; omega)]
  have e2 : (rowT c l w i T)[i]!.2.2 = t := by rw [h2]; rfl
  refine ⟨by rw [e2]; exact hocc t h1, by rw [e2, same t (hone _ (hocc t h1)), h2], fun u hu => ?_⟩
  rw [same u (hone u hu), h2]
  obtain ⟨v, k1, k2, k3, k4⟩ := tries_cover hw hi hn hu
  exact kb_trans (h3 v k1) (nxt_near hc k2 k3 k4)
theorem parT_min : ∀ {j : Nat}, j ≤ l.length → ∀ i, l.length - j ≤ i → i < l.length → isMin c l w (parT c l w j) i
  | 0, _, i, h1, h2 => by omega
  | j + 1, hj, i, h1, h2 => by
    have hl := (parT_last (l := l) (w := w) hc (j := j) (by omega)).1
    by_cases e : i = l.length - (j + 1)
    · subst e
      exact row_min hc hw hn h2 hl
    · have ih := parT_min (j := j) (by omega) i (by omega) h2
      have same : ∀ k, k ≠ l.length - (j + 1) → (parT c l w (j + 1))[k]! = (parT c l w j)[k]! := fun k hk => by
        show (runT c (l.length - (j + 1)) _ (false, parT c l w j)).2[k]! = _
        exact runT_else hk (by show _ < (parT c l w j).length; omega)
      have sameN : ∀ u : Pc, 1 ≤ u.1 → nxt c (parT c l w (j + 1)) i u = nxt c (parT c l w j) i u := fun u hu => by
        unfold nxt; rw [same _ (by omega)]
      unfold isMin
      rw [same i e]
      have h3 := (ih.1.fits hw.2).2.2
      exact ⟨ih.1, by rw [sameN _ h3]; exact ih.2.1, fun t ht => by rw [sameN t (ht.fits hw.2).2.2]; exact ih.2.2 t ht⟩
end
/-- Pieces that cover a text from a place on. -/
def Cov (l : List UInt8) (w : Int) : Nat → List Pc → Prop
  | i, [] => i = l.length
  | i, t :: r => occ l w i t ∧ Cov l w (i + t.1.toNat) r
/-- The first difference decides: longer, then nearer. -/
def bef : List Pc → List Pc → Bool
  | [], _ => false
  | _, [] => false
  | s :: a, t :: b => if s = t then bef a b else decide (t.1 < s.1 ∨ s.1 = t.1 ∧ s.2.1 < t.2.1)
theorem occ_same {l : List UInt8} {w : Int} {i : Nat} {s t : Pc} (h1 : occ l w i s) (h2 : occ l w i t) (h3 : s.1 = t.1) (h4 : s.2.1 = t.2.1) : s = t := by
  rcases h1 with ⟨_, rfl⟩ | ⟨n, d, rfl, g1, g2, g3, _⟩
  · rcases h2 with ⟨_, rfl⟩ | ⟨n, d, rfl, k1, k2, k3, _⟩
    · rfl
    · change (0 : Int) = d at h4; omega
  · rcases h2 with ⟨_, rfl⟩ | ⟨n', d', rfl, k1, k2, k3, _⟩
    · change (d : Int) = 0 at h4; omega
    · change (n : Int) = n' at h3
      change (d : Int) = d' at h4
      rw [h3, h4]
section
variable {c : Cst} {l : List UInt8} {w : Int} {T : List St} (hw : 1 ≤ w ∧ w ≤ 4096)
  (hT : ∀ i, i < l.length → isMin c l w T i) (hT0 : T[l.length]! = st0)
include hw hT hT0
theorem walkT_cov : ∀ (f i : Nat), i ≤ l.length → l.length ≤ f + i → Cov l w i (walkT T l.length f i) ∧ costs c (walkT T l.length f i) = T[i]!.1 ∧ ((walkT T l.length f i).length : Int) = T[i]!.2.1
  | 0, i, h1, h2 => by
    obtain rfl : i = l.length := by omega
    rw [hT0]; exact ⟨rfl, rfl, rfl⟩
  | f + 1, i, h1, h2 => by
    unfold walkT
    by_cases hi : i < l.length
    · rw [if_pos hi]
      obtain ⟨g1, g2, g3⟩ := hT i hi
      have g4 := g1.fits hw.2
      obtain ⟨k1, k2, k3⟩ := walkT_cov f (i + T[i]!.2.2.1.toNat) (by omega) (by omega)
      have e1 := congrArg (·.1) g2
      have e2 := congrArg (·.2.1) g2
      change T[i]!.1 = T[i + T[i]!.2.2.1.toNat]!.1 + price c T[i]!.2.2 at e1
      change T[i]!.2.1 = T[i + T[i]!.2.2.1.toNat]!.2.1 + 1 at e2
      refine ⟨⟨g1, k1⟩, ?_, ?_⟩
      · unfold costs; rw [k2, e1]; omega
      · rw [List.length_cons, e2, ← k3]; omega
    · rw [if_neg hi]
      obtain rfl : i = l.length := by omega
      rw [hT0]; exact ⟨rfl, rfl, rfl⟩
/-- No other cover comes before. -/
theorem walkT_first : ∀ (qs : List Pc) (f i : Nat), l.length ≤ f + i → Cov l w i qs →
    (T[i]!.1 < costs c qs ∨ T[i]!.1 = costs c qs ∧ (T[i]!.2.1 < qs.length ∨ T[i]!.2.1 = qs.length ∧ bef qs (walkT T l.length f i) = false))
  | [], f, i, h1, h2 => by
    obtain rfl : i = l.length := h2
    rw [hT0]; exact .inr ⟨rfl, .inr ⟨rfl, rfl⟩⟩
  | t :: r, f, i, h1, h2 => by
    obtain ⟨h2, h3⟩ := h2
    have ht := h2.fits hw.2
    have hi : i < l.length := by omega
    obtain ⟨g1, g2, g3⟩ := hT i hi
    have g4 := g3 t h2
    obtain ⟨f, rfl⟩ : ∃ m, f = m + 1 := ⟨f - 1, by omega⟩
    have ih := walkT_first r f (i + t.1.toNat) (by omega) h3
    have e0 : (nxt c T i t).1 = T[i + t.1.toNat]!.1 + price c t := rfl
    have e1 : (nxt c T i t).2.1 = T[i + t.1.toNat]!.2.1 + 1 := rfl
    have e2 : (nxt c T i t).2.2 = t := rfl
    unfold kb at g4
    rw [e0, e1, e2] at g4
    rw [walkT, if_pos hi]
    unfold costs bef
    rw [List.length_cons]
    by_cases hlt : T[i]!.1 < price c t + costs c r ∨ T[i]!.1 = price c t + costs c r ∧ T[i]!.2.1 < ((r.length + 1 : Nat) : Int)
    · omega
    · refine .inr ⟨by omega, .inr ⟨by omega, ?_⟩⟩
      by_cases hst : t = T[i]!.2.2
      · rw [if_pos hst, ← hst]
        have : T[i + t.1.toNat]!.1 = costs c r ∧ T[i + t.1.toNat]!.2.1 = r.length := by
          have e3 := congrArg (·.1) g2
          have e4 := congrArg (·.2.1) g2
          change T[i]!.1 = T[i + T[i]!.2.2.1.toNat]!.1 + price c T[i]!.2.2 at e3
          change T[i]!.2.1 = T[i + T[i]!.2.2.1.toNat]!.2.1 + 1 at e4
          rw [← hst] at e3 e4
          omega
        rcases ih with ih | ⟨_, ih | ⟨_, ih⟩⟩
        · omega
        · omega
        · exact ih
      · rw [if_neg hst, decide_eq_false_iff_not]
        intro hh
        have : ¬ (t.1 = T[i]!.2.2.1 ∧ t.2.1 = T[i]!.2.2.2.1) := fun hq => hst (occ_same h2 g1 hq.1 hq.2)
        omega
end
section
variable {c : Cst} {l : List UInt8} {w : Int} (hc : vC c) (hw : 1 ≤ w ∧ w ≤ 4096) (hn : l.length ≤ 4096)
include hc hw hn
theorem parse_eq : parse c l w = (walkT (parT c l w l.length) l.length l.length 0, 0) := by
  unfold parse; rw [if_pos ⟨hc, hw⟩, if_neg (by omega)]
theorem parse_cov : Cov l w 0 (parse c l w).1 := by
  rw [parse_eq hc hw hn]
  exact (walkT_cov hw (fun i hi => parT_min hc hw hn (Nat.le_refl _) i (by omega) hi) (parT_last hc (Nat.le_refl _)).2 l.length 0 (by omega) (by omega)).1
/-- The parse is the first of all covers. -/
theorem parse_first {qs : List Pc} (h : Cov l w 0 qs) : costs c (parse c l w).1 < costs c qs ∨ costs c (parse c l w).1 = costs c qs ∧ ((parse c l w).1.length < qs.length ∨ (parse c l w).1.length = qs.length ∧ bef qs (parse c l w).1 = false) := by
  rw [parse_eq hc hw hn]
  have hT := fun i hi => parT_min hc hw hn (Nat.le_refl _) i (by omega) hi
  have h0 := (parT_last (l := l) (w := w) hc (Nat.le_refl _)).2
  obtain ⟨_, h2, h3⟩ := walkT_cov hw hT h0 l.length 0 (by omega) (by omega)
  have := walkT_first hw hT h0 qs l.length 0 (by omega) h
  dsimp only
  rw [h2]
  rcases this with this | ⟨g1, this | ⟨g2, this⟩⟩
  · exact .inl this
  · exact .inr ⟨g1, .inl (by omega)⟩
  · exact .inr ⟨g1, .inr ⟨by omega, this⟩⟩
theorem parse_le {qs : List Pc} (h : Cov l w 0 qs) : costs c (parse c l w).1 ≤ costs c qs := by
  have := parse_first hc hw hn h; omega
theorem parse_vPs : vPs (parse c l w).1 := by
  have key : ∀ (qs : List Pc) (i : Nat), Cov l w i qs → vPs qs := fun qs => by
    induction qs with
    | nil => intro i _ t ht; cases ht
    | cons t r ih =>
      intro i h u hu
      rcases List.mem_cons.1 hu with rfl | hu
      · exact (h.1.fits hw.2).1
      · exact ih _ h.2 u hu
  exact key _ 0 (parse_cov hc hw hn)
end
theorem parse_len {c : Cst} {l : List UInt8} {w : Int} : (parse c l w).1.length ≤ 4096 := by
  unfold parse
  split
  · split
    · exact Nat.zero_le _
    · rename_i h
      have : ∀ (T : List St) (n f i : Nat), (walkT T n f i).length ≤ f := fun T n f => by
        induction f with
        | zero => intro i; exact Nat.le_refl _
        | succ f ih =>
          intro i; unfold walkT; split
          · rw [List.length_cons]; have := ih (i + T[i]!.2.2.1.toNat); omega
          · exact Nat.zero_le _
      have := this (parT c l w l.length) l.length l.length 0
      show (walkT _ _ _ _).length ≤ 4096; omega
  · exact Nat.zero_le _
theorem cov_vPs {l : List UInt8} {w : Int} (hw : w ≤ 4096) : ∀ {ps : List Pc} {i : Nat}, Cov l w i ps → vPs ps
  | [], _, _ => fun t ht => by cases ht
  | t :: r, i, h => fun u hu => by
    rcases List.mem_cons.1 hu with rfl | hu
    · exact (h.1.fits hw).1
    · exact cov_vPs hw h.2 u hu
theorem cov_short {l : List UInt8} {w : Int} (hw : w ≤ 4096) : ∀ {ps : List Pc} {i : Nat}, Cov l w i ps → ps.length + i ≤ l.length
  | [], i, h => by have : i = l.length := h; simp; omega
  | t :: r, i, h => by
    have h1 := h.1.fits hw
    have := cov_short hw h.2
    rw [List.length_cons]; omega
end Go.Proofs.Ytcnnogoeapaaoaa
