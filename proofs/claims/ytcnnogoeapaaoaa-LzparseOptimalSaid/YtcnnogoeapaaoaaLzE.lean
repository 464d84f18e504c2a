/- Parse: what it computes, in plain Lean. -/
import Derived.Test.YtcnnogoeapaaoaaLzD
import Derived.Test.YtcnnogoeapaaoaaNaC
set_option linter.unusedVariables false
set_option linter.unusedSimpArgs false
namespace Go.Proofs.Ytcnnogoeapaaoaa
open Go.Gh Go.RowKit

theorem rc_in (l : List UInt8) (i m : Int) : ∀ d, 0 ≤ (rc l i m d).2 ∧ ∀ c ∈ (rc l i m d).1, ∃ e : Nat, 1 ≤ e ∧ e ≤ d ∧ c = (atd l i e m, (e : Int)) ∧ 0 < c.1
  | 0 => ⟨Int.le_refl _, fun c h => nomatch h⟩
  | d + 1 => by
    obtain ⟨h1, h2⟩ := rc_in l i m d
    unfold rc
    split
    · rename_i hlt
      refine ⟨by show 0 ≤ atd l i (d + 1) m; omega, fun c hc => ?_⟩
      rcases List.mem_append.1 hc with hc | hc
      · obtain ⟨e, g1, g2, g3⟩ := h2 c hc
        exact ⟨e, g1, by omega, g3⟩
      · obtain rfl := List.mem_singleton.1 hc
        exact ⟨d + 1, by omega, Nat.le_refl _, by push_cast; rfl, by show 0 < atd l i (d + 1) m; omega⟩
    · exact ⟨h1, fun c hc => let ⟨e, g1, g2, g3⟩ := h2 c hc; ⟨e, g1, by omega, g3⟩⟩
theorem cands_in {l : List UInt8} {i : Nat} {w : Int} {c : Int × Int} (h : c ∈ cands l i w 273) : 2 ≤ c.1 ∧ c.1 ≤ 273 ∧ 1 ≤ c.2 ∧ c.2 ≤ 4096 ∧ (i : Int) + c.1 ≤ l.length := by
  rw [cands_eq] at h
  unfold rcands at h
  split at h
  · rename_i hv
    obtain ⟨e, h1, h2, rfl, h3⟩ := (rc_in l i 273 _).2 c h
    have hcm : (com l ((i : Int) - e) i : Int) ≤ (l.length : Int) - i := by
      have := lcp_le l (l.length - max ((i : Int) - e) i).toNat ((i : Int) - e).toNat (i : Int).toNat
      unfold com
      split <;> omega
    dsimp only at h3 ⊢
    unfold atd at h3 ⊢
    by_cases g1 : (e : Int) < 1 ∨ (i : Int) < e
    · rw [if_pos g1] at h3; omega
    · rw [if_neg g1] at h3 ⊢
      by_cases g2 : min (com l ((i : Int) - e) i : Int) 273 < 2
      · rw [if_pos g2] at h3; omega
      · rw [if_neg g2]; omega
  · cases h
/-- Pieces of a distance, from a length down to another. -/
def trN (d : Int) (lo : Nat) : Nat → List Pc
  | 0 => []
  | n + 1 => if lo < n + 1 then (((n + 1 : Nat) : Int), d, 0) :: trN d lo n else []
def shr (cs : List (Int × Int)) (k : Nat) : Nat := if 0 < k then cs[k - 1]!.1.toNat else 1
def trK (cs : List (Int × Int)) : Nat → List Pc
  | 0 => []
  | k + 1 => trN cs[k]!.2 (shr cs k) cs[k]!.1.toNat ++ trK cs k
def litP (l : List UInt8) (i : Nat) : Pc := (1, 0, bat l i)
def triesL (l : List UInt8) (i : Nat) (w : Int) : List Pc := trK (cands l i w 273) (cands l i w 273).length ++ [litP l i]
def runT (c : Cst) (i : Nat) (ts : List Pc) (s : Bool × List St) : Bool × List St := ts.foldl (tryS c i) s
def rowT (c : Cst) (l : List UInt8) (w : Int) (i : Nat) (T : List St) : List St := (runT c i (triesL l i w) (false, T)).2
def st0 : St := (0, 0, 0, 0, 0)
/-- The table when j places are done. -/
def parT (c : Cst) (l : List UInt8) (w : Int) : Nat → List St
  | 0 => List.replicate (l.length + 1) st0
  | j + 1 => rowT c l w (l.length - (j + 1)) (parT c l w j)
/-- The pieces of a table from a place on. -/
def walkT (T : List St) (n : Nat) : Nat → Nat → List Pc
  | 0, _ => []
  | f + 1, i => if i < n then T[i]!.2.2 :: walkT T n f (i + T[i]!.2.2.1.toNat) else []
def parse (c : Cst) (l : List UInt8) (w : Int) : List Pc × Int :=
  if vC c ∧ 1 ≤ w ∧ w ≤ 4096 then (if 4096 < l.length then ([], 9) else (walkT (parT c l w l.length) l.length l.length 0, 0)) else ([], 1)
theorem trN_in {d : Int} {lo : Nat} : ∀ {n : Nat} {t : Pc}, t ∈ trN d lo n → (lo : Int) < t.1 ∧ t.1 ≤ n ∧ t.2.1 = d ∧ t.2.2 = 0
  | 0, _, h => nomatch h
  | n + 1, t, h => by
    unfold trN at h
    split at h
    · rcases List.mem_cons.1 h with rfl | h
      · exact ⟨by show (lo : Int) < ((n + 1 : Nat) : Int); omega, Int.le_refl _, rfl, rfl⟩
      · have := trN_in h; exact ⟨this.1, by omega, this.2.2⟩
    · cases h
/-- What is tried at a place fits. -/
abbrev fits (l : List UInt8) (i : Nat) (t : Pc) : Prop := vP t ∧ (i : Int) + t.1 ≤ l.length ∧ 1 ≤ t.1
theorem shr_pos {l : List UInt8} {i : Nat} {w : Int} {k : Nat} (h : k < (cands l i w 273).length) : 1 ≤ shr (cands l i w 273) k := by
  unfold shr
  split
  · have := cands_in (bang_mem (show k - 1 < (cands l i w 273).length by omega)); omega
  · omega
theorem trN_fits {l : List UInt8} {i : Nat} {w : Int} {k : Nat} (h : k < (cands l i w 273).length) {t : Pc} (ht : t ∈ trN (cands l i w 273)[k]!.2 (shr (cands l i w 273) k) (cands l i w 273)[k]!.1.toNat) : fits l i t := by
  have h1 := cands_in (bang_mem h)
  have h2 := shr_pos h
  have h3 := trN_in ht
  exact ⟨.inr ⟨by omega, by omega, by omega, by omega, h3.2.2.2⟩, by omega, by omega⟩
theorem trK_fits {l : List UInt8} {i : Nat} {w : Int} : ∀ {k : Nat}, k ≤ (cands l i w 273).length → ∀ t ∈ trK (cands l i w 273) k, fits l i t
  | 0, _, _, h => nomatch h
  | k + 1, hk, t, h => by
    rcases List.mem_append.1 h with h | h
    · exact trN_fits (by omega) h
    · exact trK_fits (by omega) t h
theorem lit_fits {l : List UInt8} {i : Nat} (h : i < l.length) : fits l i (litP l i) := ⟨.inl ⟨rfl, rfl⟩, by show (i : Int) + 1 ≤ _; omega, Int.le_refl _⟩
/-- Every step of a table is small. -/
def TOk (n : Nat) (T : List St) : Prop := T.length = n + 1 ∧ ∀ j, j ≤ n → 0 ≤ T[j]!.1 ∧ T[j]!.1 ≤ 27000 * ((n : Int) - j) ∧ 0 ≤ T[j]!.2.1 ∧ T[j]!.2.1 ≤ (n : Int) - j
theorem set_bang {α : Type} [Inhabited α] {l : List α} {i j : Nat} {x : α} (h : i < l.length) : (l.set i x)[j]! = if j = i then x else l[j]! := by
  simp only [getElem!_def, List.getElem?_set]
  by_cases e : i = j
  · subst e; rw [if_pos rfl, if_pos h, if_pos rfl]
  · rw [if_neg e, if_neg (Ne.symm e)]
theorem tryS_ok {c : Cst} {l : List UInt8} {i : Nat} {s : Bool × List St} {t : Pc} (hc : vC c) (h : TOk l.length s.2) (ht : fits l i t) : TOk l.length (tryS c i s t).2 := by
  unfold tryS
  split
  · refine ⟨by rw [List.length_set]; exact h.1, fun j hj => ?_⟩
    rw [set_bang (by have := h.1; omega)]
    split
    · rename_i e; subst e
      have h1 := h.2 (j + t.1.toNat) (by omega)
      have h2 := price_in hc ht.1
      unfold nxt; dsimp only
      omega
    · exact h.2 j hj
  · exact h
theorem runT_ok {c : Cst} {l : List UInt8} {i : Nat} (hc : vC c) : ∀ {ts : List Pc} {s : Bool × List St}, TOk l.length s.2 → (∀ t ∈ ts, fits l i t) → TOk l.length (runT c i ts s).2
  | [], _, h, _ => h
  | t :: ts, s, h, ht => runT_ok hc (ts := ts) (tryS_ok hc h (ht t (by simp))) (fun x hx => ht x (by simp [hx]))
theorem runT_app (c : Cst) (i : Nat) (a b : List Pc) (s : Bool × List St) : runT c i (a ++ b) s = runT c i b (runT c i a s) := List.foldl_append ..
end Go.Proofs.Ytcnnogoeapaaoaa
