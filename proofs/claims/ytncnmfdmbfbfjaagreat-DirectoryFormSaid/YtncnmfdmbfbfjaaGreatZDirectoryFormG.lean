/- Part 7 of the proof of the law DirectoryForm: texts merged. No condition. -/
import Derived.Test.YtncnmfdmbfbfjaaGreatZDirectoryFormF
section
set_option linter.unusedVariables false
set_option linter.unusedSimpArgs false
set_option maxRecDepth 4000
namespace Go.Proofs.YtncnmfdmbfbfjaaGreat
open Go.Gh Go.RowKit

theorem same_any (x : Int) (h : SH) : SRun Tryz.prog 61 [I x] h fun r q => r = I x ∧ q = h := by
  refine w_body1 Tryz.func61 rfl rfl ?_
  repeat' (first | apply w_seq | apply w_region | apply o_nil | (apply o_g tyOk; exact rfl; exact rfl) | apply thenS_normal | apply w_ret | ((with_reducible apply Sd.mk); (first | exact True.intro)))
  all_goals first
    | (apply s_fin; (exact (show ResS _ _ _ _ [_] from ⟨rfl, trivial⟩)); (focus (exact ⟨rfl, rfl⟩)); (focus (repeat (first | with_reducible exact Take.nil | with_reducible apply Take.c | with_reducible apply Take.drop))))
    | trace_state
/-- What a reader without an error reads: number, rest, error. -/
def rdN (l : List UInt8) (m : Int) : Int × List UInt8 × Int :=
  if (vpeek l).2.2 = false then (0, l, 12) else if (vpeek l).1 < 0 ∨ m < (vpeek l).1 then (0, l, 2) else ((vpeek l).1, l.drop (vpeek l).2.1.toNat, 0)
theorem vpeek_len (l : List UInt8) : 0 ≤ (vpeek l).2.1 ∧ (vpeek l).2.1 ≤ l.length := by
  unfold vpeek
  split
  · simp
  · split
    · simp
    · split
      · simp
      · dsimp only; omega
theorem read_any (n : Nat) (l : List UInt8) (m : Int) (h : SH) (hl : l.length ≤ 1000000) : SRun Tryz.prog 60 [gptr n 0 2, .func (.func 61) ⟨[]⟩ ⟨[]⟩, I 0, I m] (rdB n l 0 :: h) fun r q =>
    r = I (rdN l m).1 ∧ q = rdB n (rdN l m).2.1 (rdN l m).2.2 :: h := by
  have hP := peek_any n l 0 h hl
  have hlen := vpeek_len l
  unfold rdN
  generalize vpeek l = V at *
  obtain ⟨a, s, ok⟩ := V
  dsimp only at *
  by_cases h0 : ok = false
  · subst h0
    rw [if_pos rfl]
    refine w_body4 Tryz.func60 rfl rfl ?_
    repeat' (first | apply w_seq | apply w_region | apply o_nil | (apply o_g tyOk; exact rfl; exact rfl) | (apply o_notB; exact rfl; exact rfl) | (apply o_load tyOk; (iterate 3 exact rfl); (focus (exact pk))) | (apply o_call; exact rfl; exact rfl; (focus (first | exact rfl)); exact rfl; (focus (exact ⟨_, hP, by repeat (first | with_reducible exact Take.nil)⟩)); rintro _ _ ⟨rfl, rfl⟩) | (apply o_call; exact rfl; exact rfl; (focus (first | exact rfl)); exact rfl; (focus (exact ⟨_, same_any _ _, by repeat (first | with_reducible exact Take.nil)⟩)); rintro _ _ ⟨rfl, rfl⟩) | (apply o_call; exact rfl; exact rfl; (focus (first | exact rfl)); exact rfl; (focus (exact ⟨_, rfail_any _ _ _ _ _, by repeat (first | with_reducible exact Take.nil)⟩)); rintro _ _ rfl) | (apply w_true; exact rfl) | (apply w_false; exact rfl) | apply thenS_normal | apply blockS_normal | apply w_skip | apply w_ret | apply w_block | ((with_reducible apply Sd.mk); (first | exact True.intro)) | ((with_reducible apply Ln.mk); (first | rfl)) | ((with_reducible apply Ce.mk); (first | rfl)) | exact True.intro | exact rfl)
    all_goals first
      | contradiction
      | (exfalso; omega)
      | (apply s_fin; (exact (show ResS _ _ _ _ [_] from ⟨rfl, trivial⟩)); (focus (exact ⟨rfl, rfl⟩)); (focus (repeat (first | with_reducible exact Take.nil | with_reducible apply Take.c | with_reducible apply Take.drop))))
      | trace_state
  · obtain rfl : ok = true := by simpa using h0
    rw [if_neg (by decide)]
    by_cases h1 : a < 0 ∨ m < a
    · rw [if_pos h1]
      refine w_body4 Tryz.func60 rfl rfl ?_
      repeat' (first | apply w_seq | apply w_region | apply o_nil | (apply o_g tyOk; exact rfl; exact rfl) | (apply o_notB; exact rfl; exact rfl) | (apply o_load tyOk; (iterate 3 exact rfl); (focus (exact pk))) | (apply o_call; exact rfl; exact rfl; (focus (first | exact rfl)); exact rfl; (focus (exact ⟨_, hP, by repeat (first | with_reducible exact Take.nil)⟩)); rintro _ _ ⟨rfl, rfl⟩) | (apply o_call; exact rfl; exact rfl; (focus (first | exact rfl)); exact rfl; (focus (exact ⟨_, same_any _ _, by repeat (first | with_reducible exact Take.nil)⟩)); rintro _ _ ⟨rfl, rfl⟩) | (apply o_call; exact rfl; exact rfl; (focus (first | exact rfl)); exact rfl; (focus (exact ⟨_, rfail_any _ _ _ _ _, by repeat (first | with_reducible exact Take.nil)⟩)); rintro _ _ rfl) | (apply o_want; exact rfl; exact rfl) | (apply o_skip; iterate 4 exact rfl) | (apply o_guardF; (iterate 3 exact rfl); all_goals intro hc) | (apply w_true; exact rfl) | (apply w_false; exact rfl) | (apply w_dT; exact rfl; (focus (first | omega))) | apply thenS_normal | apply blockS_normal | apply w_skip | apply w_ret | apply w_block | ((with_reducible apply Sd.mk); (first | exact True.intro)) | ((with_reducible apply Ln.mk); (first | rfl)) | ((with_reducible apply Ce.mk); (first | rfl)) | exact True.intro | exact rfl)
      all_goals first
        | contradiction
        | (exfalso; omega)
        | (apply s_fin; (exact (show ResS _ _ _ _ [_] from ⟨rfl, trivial⟩)); (focus (exact ⟨rfl, rfl⟩)); (focus (repeat (first | with_reducible exact Take.nil | with_reducible apply Take.c | with_reducible apply Take.drop))))
        | trace_state
    · rw [if_neg h1]
      refine w_body4 Tryz.func60 rfl rfl ?_
      repeat' (first | apply w_seq | apply w_region | apply o_nil | (apply o_g tyOk; exact rfl; exact rfl) | (apply o_notB; exact rfl; exact rfl) | (apply o_load tyOk; (iterate 3 exact rfl); (focus (exact pk))) | (apply o_store tyOk; (iterate 4 exact rfl); (focus (exact up))) | (apply o_call; exact rfl; exact rfl; (focus (first | exact rfl)); exact rfl; (focus (exact ⟨_, hP, by repeat (first | with_reducible exact Take.nil)⟩)); rintro _ _ ⟨rfl, rfl⟩) | (apply o_call; exact rfl; exact rfl; (focus (first | exact rfl)); exact rfl; (focus (exact ⟨_, same_any _ _, by repeat (first | with_reducible exact Take.nil)⟩)); rintro _ _ ⟨rfl, rfl⟩) | (apply o_want; exact rfl; exact rfl) | (apply o_gF; (iterate 3 exact rfl); (focus (first | omega))) | (apply w_false; exact rfl) | (apply w_dF; exact rfl; (focus (first | omega))) | apply thenS_normal | apply thenS_ret | apply blockS_ret | apply w_skip | apply w_ret | apply w_block | ((with_reducible apply Sd.mk); (first | exact True.intro | omega)) | ((with_reducible apply Ln.mk); (first | rfl)) | ((with_reducible apply Ce.mk); (first | rfl)) | ((with_reducible apply Se.mk); (first | (focus ((repeat (first | exact SetAt.zero)); done)))) | exact True.intro | exact rfl)
      all_goals first
        | contradiction
        | (exfalso; omega)
        | (apply s_fin; (exact (show ResS _ _ _ _ [_] from ⟨rfl, trivial⟩)); (focus (exact ⟨rfl, rfl⟩)); (focus (repeat (first | with_reducible exact Take.nil | with_reducible apply Take.c | with_reducible apply Take.drop))))
        | trace_state
theorem rNumber_any (n : Nat) (l : List UInt8) (m : Int) (h : SH) (hl : l.length ≤ 1000000) : SRun Tryz.prog 41 [gptr n 0 2, I m] (rdB n l 0 :: h) fun r q =>
    r = I (rdN l m).1 ∧ q = rdB n (rdN l m).2.1 (rdN l m).2.2 :: h := by
  have hR := read_any n l m h hl
  generalize rdN l m = V at *
  refine w_body2 Tryz.func41 rfl rfl ?_
  repeat' (first | apply w_seq | apply w_region | apply o_nil | (apply o_g tyOk; exact rfl; exact rfl) | (apply o_call; exact rfl; exact rfl; (focus (first | exact rfl)); exact rfl; (focus (exact ⟨_, hR, by repeat (first | with_reducible exact Take.nil)⟩)); rintro _ _ ⟨rfl, rfl⟩) | apply thenS_normal | apply w_ret | ((with_reducible apply Sd.mk); (first | exact True.intro)))
  all_goals first
    | (apply s_fin; (exact (show ResS _ _ _ _ [_] from ⟨rfl, trivial⟩)); (focus (exact ⟨rfl, rfl⟩)); (focus (repeat (first | with_reducible exact Take.nil | with_reducible apply Take.c | with_reducible apply Take.drop))))
    | trace_state
end Go.Proofs.YtncnmfdmbfbfjaaGreat
end
section
set_option linter.unusedVariables false
set_option linter.unusedSimpArgs false
set_option maxRecDepth 4000
namespace Go.Proofs.YtncnmfdmbfbfjaaGreat
open Go.Gh Go.RowKit

theorem bdec_ok {P : List Int} {c : Int} {d : Dec} (h : DecOk d) (hP : P.length = 2048) (hc : 0 ≤ c ∧ c ≤ 255) : DecOk (bdec P c d).2.1 ∧ (bdec P c d).1.length = 2048 ∧ 0 ≤ (bdec P c d).2.2 ∧ (bdec P c d).2.2 ≤ 255 := by
  have hk : (c / 32).toNat < 8 := by omega
  obtain ⟨h1, h2, h3⟩ := tdec_ok (k := 8) (t := bsel P (c / 32).toNat) (j := 1) h
  have h28 : (2 ^ 8 : Nat) = 256 := rfl
  rw [h28] at h3
  refine ⟨h1, bput_len hP hk (by rw [h2]; exact bsel_len hP hk), Int.natCast_nonneg _, ?_⟩
  show (((tdec 8 (bsel P (c / 32).toNat) d 1).2.2 - 256 : Nat) : Int) ≤ 255
  omega
end Go.Proofs.YtncnmfdmbfbfjaaGreat
end
section
set_option linter.unusedVariables false
set_option linter.unusedSimpArgs false
set_option maxRecDepth 4000
namespace Go.Proofs.YtncnmfdmbfbfjaaGreat
open Go.Gh Go.RowKit

theorem norm_out : ∀ (k : Nat) (e : Enc), e.out.length ≤ (norm k e).out.length
  | 0, e => Nat.le_refl _
  | k + 1, e => by
    unfold norm
    split
    · have := norm_out k (eshift e)
      have h2 : (eshift e).out.length = e.out.length + 1 := by show (e.out ++ [_]).length = _; simp
      omega
    · exact Nat.le_refl _
theorem fin_len (e : Enc) : (fin e).length = e.out.length + 4 := by unfold fin; rw [List.length_append]; rfl
abbrev e00 : Enc := ⟨[], 0, 4294967295⟩
theorem EncB.re {n : Nat} {h h' p : SH} {e : Enc} (hb : EncB n h e p) (t : Take h h') : ∃ p', EncB n h' e p' ∧ Take p p' := by
  cases hb with
  | nil => exact ⟨_, .nil _ _, .cons .head t⟩
  | some => exact ⟨_, .some _ _ _ _, .cons .head (.cons .head t)⟩
theorem EncB.push {n : Nat} {h p : SH} {e : Enc} (hb : EncB n h e p) (x : Nat × Blk) : ∃ p', EncB n (x :: h) e p' ∧ Take (x :: p) p' := by
  cases hb with
  | nil => exact ⟨_, .nil _ _, .cons (.tail .head) .nil⟩
  | some => exact ⟨_, .some _ _ _ _, .cons (.tail .head) (.cons (.tail .head) .nil)⟩
theorem EncR.re {n : Nat} {p p' : SH} {e : Enc} (hr : EncR n p' e) (t : Take p p') : EncR n p e := by
  cases hr with
  | nil _ _ _ hp => obtain ⟨p1, g, _⟩ := t.pick hp; exact .nil _ _ _ g
  | some _ _ _ _ _ _ hp ha => obtain ⟨p1, g, _⟩ := t.pick hp; obtain ⟨p2, g2, _⟩ := t.pick ha; exact .some _ _ _ _ _ _ g g2
/-- Two encoders, in any order, over other blocks. -/
def E2 (n m : Nat) (h : SH) (e e2 : Enc) (p : SH) : Prop := ∃ q1 p', EncB m h e2 q1 ∧ EncB n q1 e p' ∧ Take p p'
theorem E2.swap {n m : Nat} {h p : SH} {e e2 : Enc} (k : E2 n m h e e2 p) : E2 m n h e2 e p := by
  obtain ⟨q1, p', h1, h2, t⟩ := k
  obtain ⟨r1, r, g1, g2, t2⟩ := h1.swap h2
  exact ⟨r1, r, g1, g2, t.trans t2⟩
theorem E2.re {n m : Nat} {h h' p : SH} {e e2 : Enc} (k : E2 n m h e e2 p) (t : Take h h') : E2 n m h' e e2 p := by
  obtain ⟨q1, p', h1, h2, t1⟩ := k
  obtain ⟨r1, g1, t2⟩ := h1.re t
  obtain ⟨r, g2, t3⟩ := h2.re t2
  exact ⟨r1, r, g1, g2, t1.trans t3⟩
theorem E2.push {n m : Nat} {h p : SH} {e e2 : Enc} (k : E2 n m h e e2 p) (x : Nat × Blk) : E2 n m (x :: h) e e2 (x :: p) := by
  obtain ⟨q1, p', h1, h2, t1⟩ := k
  obtain ⟨r1, g1, t2⟩ := h1.push x
  obtain ⟨r, g2, t3⟩ := h2.push x
  obtain ⟨r', g3, t4⟩ := g2.re t2
  exact ⟨r1, r', g1, g3, (Take.trans (h1 := x :: p') (by obtain ⟨A, b⟩ := x; exact .cons .head t1) t3).trans t4⟩
theorem E2.pick {n m : Nat} {h p : SH} {e e2 : Enc} (k : E2 n m h e e2 p) {A : Nat} {b : Blk} {h1 : SH} (hp : Pick h A b h1) : ∃ p1, Pick p A b p1 := by
  obtain ⟨q1, p', g1, g2, t1⟩ := k
  obtain ⟨r1, hp1⟩ := g1.pick hp
  obtain ⟨r2, hp2⟩ := g2.pick hp1
  obtain ⟨r3, hp3, _⟩ := t1.pick hp2
  exact ⟨r3, hp3⟩
theorem E2.r {n m : Nat} {h p : SH} {e e2 : Enc} (k : E2 n m h e e2 p) : EncR n p e := by
  obtain ⟨q1, p', g1, g2, t1⟩ := k
  exact g2.r.re t1
theorem E2.take {n m : Nat} {h p : SH} {e e2 : Enc} (k : E2 n m h e e2 p) : Take p h := by
  obtain ⟨q1, p', g1, g2, t1⟩ := k
  exact t1.trans (g2.take.trans g1.take)
end Go.Proofs.YtncnmfdmbfbfjaaGreat
end
section
set_option linter.unusedVariables false
set_option linter.unusedSimpArgs false
set_option maxRecDepth 4000
namespace Go.Proofs.YtncnmfdmbfbfjaaGreat
open Go.Gh Go.RowKit

structure Sz (N : Nat) (s k : Nat) : Prop where
  hi : s * 16384 ^ N ≤ 4294967295 * 256 ^ k * 8193 ^ N
  lo : 4294967295 * 256 ^ k * 8191 ^ N ≤ s * 16384 ^ N
theorem Sz.shift {N s k : Nat} (h : Sz N s k) : Sz N (s * 256) (k + 1) := by
  have e1 : ∀ c, 4294967295 * 256 ^ (k + 1) * c ^ N = 256 * (4294967295 * 256 ^ k * c ^ N) := fun c => by
    rw [Nat.pow_succ, Nat.mul_comm (256 ^ k) 256, ← Nat.mul_assoc, Nat.mul_comm 4294967295 256, Nat.mul_assoc 256, Nat.mul_assoc 256]
  have e2 : s * 256 * 16384 ^ N = 256 * (s * 16384 ^ N) := by rw [Nat.mul_comm s 256, Nat.mul_assoc]
  refine ⟨?_, ?_⟩
  · rw [e1, e2]; exact Nat.mul_le_mul_left _ h.hi
  · rw [e1, e2]; exact Nat.mul_le_mul_left _ h.lo
theorem pow_small {a b : Nat} (hab : a ≤ b) (h : b ^ 1000 < 2 * a ^ 1000) {N : Nat} (hN : N ≤ 1000) : b ^ N < 2 * a ^ N := by
  rcases Nat.lt_or_ge (b ^ N) (2 * a ^ N) with k | k
  · exact k
  · exfalso
    have h1 : a ^ (1000 - N) ≤ b ^ (1000 - N) := Nat.pow_le_pow_left hab _
    have h2 := Nat.mul_le_mul k h1
    rw [Nat.mul_assoc, ← Nat.pow_add, ← Nat.pow_add, show N + (1000 - N) = 1000 by omega] at h2
    omega
theorem Sz.len {N s k : Nat} (h : Sz N s k) (hN : N ≤ 1000) (h1 : 16777216 ≤ s) (h2 : s ≤ 4294967295) : N / 8 ≤ k + 1 ∧ k ≤ N / 8 := by
  have p1 : 8193 ^ N < 2 * 8192 ^ N := pow_small (by decide) (by decide +kernel) hN
  have p2 : 8192 ^ N < 2 * 8191 ^ N := pow_small (by decide) (by decide +kernel) hN
  have e : 16384 ^ N = 2 ^ N * 8192 ^ N := by rw [← Nat.mul_pow]
  have e256 : 256 ^ k = 2 ^ (8 * k) := by rw [Nat.pow_mul]
  have a1 := h.hi
  have a2 := h.lo
  rw [e, e256] at a1 a2
  have q : 0 < 8192 ^ N := Nat.pow_pos (by decide)
  have q' : 0 < 8191 ^ N := Nat.pow_pos (by decide)
  generalize 8192 ^ N = x at *
  generalize 8193 ^ N = y at *
  generalize 8191 ^ N = z at *
  have b1 : 2 ^ N < 2 ^ (8 * k + 9) := by
    have c1 : 16777216 * (2 ^ N * x) ≤ s * (2 ^ N * x) := Nat.mul_le_mul_right _ h1
    have c2 : 4294967295 * 2 ^ (8 * k) * y ≤ 4294967295 * 2 ^ (8 * k) * (2 * x) := Nat.mul_le_mul_left _ (by omega)
    rcases Nat.lt_or_ge (2 ^ N) (2 ^ (8 * k + 9)) with g | g
    · exact g
    · exfalso
      have c3 : 16777216 * (2 ^ (8 * k + 9) * x) ≤ 16777216 * (2 ^ N * x) := Nat.mul_le_mul_left _ (Nat.mul_le_mul_right _ g)
      have c4 : 2 ^ (8 * k + 9) * x = 512 * (2 ^ (8 * k) * x) := by rw [Nat.pow_add, Nat.mul_comm (2 ^ (8 * k)), Nat.mul_assoc]
      have c5 : 4294967295 * 2 ^ (8 * k) * (2 * x) = 8589934590 * (2 ^ (8 * k) * x) := by rw [Nat.mul_left_comm, ← Nat.mul_assoc, ← Nat.mul_assoc, ← Nat.mul_assoc]
      have c6 : 0 < 2 ^ (8 * k) * x := Nat.mul_pos (Nat.pow_pos (by decide)) q
      omega
  have b2 : 2 ^ (8 * k) < 2 ^ (N + 1) := by
    have c1 : s * (2 ^ N * x) ≤ 4294967295 * (2 ^ N * x) := Nat.mul_le_mul_right _ h2
    have c2 : 2 ^ N * x < 2 ^ N * (2 * z) := Nat.mul_lt_mul_of_pos_left p2 (Nat.pow_pos (by decide))
    have c3 : 4294967295 * 2 ^ (8 * k) * z = 4294967295 * (2 ^ (8 * k) * z) := Nat.mul_assoc _ _ _
    have c4 : 2 ^ N * (2 * z) = 2 ^ (N + 1) * z := by rw [Nat.pow_succ, Nat.mul_assoc]
    have c5 : 2 ^ (8 * k) * z < 2 ^ (N + 1) * z := by omega
    exact Nat.lt_of_mul_lt_mul_right c5
  have d1 := (Nat.pow_lt_pow_iff_right (by decide : 1 < 2)).1 b1
  have d2 := (Nat.pow_lt_pow_iff_right (by decide : 1 < 2)).1 b2
  omega

abbrev boF (b : Bool) : List Value := [B b]
theorem boW (b : Bool) : (boF b).length = 1 := rfl
@[simp] theorem len_bos (l : List Bool) : (recs boF l).length = l.length := by rw [recs_len boW]; omega
end Go.Proofs.YtncnmfdmbfbfjaaGreat
end
section
set_option linter.unusedVariables false
set_option linter.unusedSimpArgs false
set_option maxRecDepth 4000
namespace Go.Proofs.YtncnmfdmbfbfjaaGreat
open Go.Gh Go.RowKit

def val (l : List UInt8) : Nat := l.foldl (fun a c => a * 256 + c.toNat) 0
theorem foldl_val (l : List UInt8) : ∀ a : Nat, l.foldl (fun a c => a * 256 + c.toNat) a = a * 256 ^ l.length + val l := by
  induction l with
  | nil => intro a; simp [val]
  | cons c r ih =>
    intro a
    have h1 := ih (a * 256 + c.toNat)
    have h2 := ih (0 * 256 + c.toNat)
    simp only [List.foldl_cons, List.length_cons]
    rw [h1, show val (c :: r) = (0 * 256 + c.toNat) * 256 ^ r.length + val r from h2, Nat.pow_succ]
    rw [Nat.add_mul, Nat.zero_mul, Nat.zero_add, Nat.mul_assoc, Nat.mul_comm 256]
    omega
theorem val_app (l m : List UInt8) : val (l ++ m) = val l * 256 ^ m.length + val m := by
  show (l ++ m).foldl _ 0 = _
  rw [List.foldl_append, foldl_val m]; rfl
theorem val_one (c : UInt8) : val [c] = c.toNat := by simp [val]
theorem val_snoc (l : List UInt8) (c : UInt8) : val (l ++ [c]) = val l * 256 + c.toNat := by rw [val_app, val_one]; rfl
theorem val_cons (c : UInt8) (l : List UInt8) : val (c :: l) = c.toNat * 256 ^ l.length + val l := by
  have := val_app [c] l
  rw [val_one] at this; exact this
theorem val_lt : ∀ l : List UInt8, val l < 256 ^ l.length
  | [] => by decide
  | c :: r => by
    have h1 := val_lt r
    have h2 := c.toNat_lt
    rw [val_cons, List.length_cons, Nat.pow_succ]
    have h3 : c.toNat * 256 ^ r.length ≤ 255 * 256 ^ r.length := Nat.mul_le_mul_right _ (by omega)
    omega
theorem b8_nat {n : Int} (h : 0 ≤ n ∧ n < 256) : ((b8 n).toNat : Int) = n := b8_val h

theorem bat_mid (P R : List UInt8) (c : UInt8) : bat (P ++ c :: R) (P.length : Nat) = c.toNat := by
  unfold bat
  rw [Int.toNat_natCast, List.getD_eq_getElem?_getD, List.getElem?_append_right (Nat.le_refl _), Nat.sub_self]; rfl
theorem set_mid (P R : List UInt8) (c d : UInt8) : (P ++ c :: R).set P.length d = P ++ d :: R := by
  rw [List.set_append_right _ _ (Nat.le_refl _), Nat.sub_self]; rfl
/-- One more, where there is room for it. -/
theorem carryAt_val : ∀ (n : Nat) (P R : List UInt8), P.length = n → val P + 1 < 256 ^ n → ∃ P', carryAt (P ++ R) n = P' ++ R ∧ P'.length = n ∧ val P' = val P + 1
  | 0, P, R, h, hv => by simp at hv
  | n + 1, P, R, h, hv => by
    obtain ⟨Q, c, rfl⟩ : ∃ Q c, P = Q ++ [c] := ⟨P.dropLast, P.getLast (fun e => by subst e; simp at h), (List.dropLast_concat_getLast _).symm⟩
    have hQ : Q.length = n := by simpa using h
    subst hQ
    rw [List.append_assoc, List.singleton_append]
    have hc := c.toNat_lt
    unfold carryAt
    rw [bat_mid, set_mid]
    split
    · rename_i h1
      refine ⟨Q ++ [b8 (((c.toNat : Int) + 1) % 256)], by simp, by simp, ?_⟩
      rw [val_snoc, val_snoc]
      have := b8_nat (n := ((c.toNat : Int) + 1) % 256) (by omega)
      omega
    · rename_i h1
      have h2 : ((c.toNat : Int) + 1) % 256 = 0 := Classical.not_not.1 h1
      have h3 : c.toNat = 255 := by omega
      rw [val_snoc, Nat.pow_succ] at hv
      obtain ⟨Q', g1, g2, g3⟩ := carryAt_val Q.length Q (b8 (((c.toNat : Int) + 1) % 256) :: R) rfl (by omega)
      refine ⟨Q' ++ [b8 (((c.toNat : Int) + 1) % 256)], by rw [g1]; simp, by simp [g2], ?_⟩
      rw [val_snoc, val_snoc, g3]
      have := b8_nat (n := ((c.toNat : Int) + 1) % 256) (by omega)
      omega
theorem carry_val {l : List UInt8} (h : val l + 1 < 256 ^ l.length) : val (carry l) = val l + 1 := by
  obtain ⟨P, g1, g2, g3⟩ := carryAt_val l.length l [] rfl h
  rw [List.append_nil, List.append_nil] at g1
  unfold carry; rw [g1, g3]

/-- The lower end of an encoder's interval, in units of 256^-(4 + bytes). -/
def num' (e : Enc) : Int := (val e.out : Int) * 4294967296 + e.low
/-- The interval lies between 0 and 1. -/
def InB (e : Enc) : Prop := num' e + e.size ≤ 4294967296 * ((256 ^ e.out.length : Nat) : Int)
theorem fin_val {e : Enc} (h : 0 ≤ e.low ∧ e.low ≤ 4294967295) : (val (fin e) : Int) = num' e := by
  unfold fin num'
  rw [val_app]
  have h4 : val (tail4 e.low) = e.low.toNat := by
    unfold tail4
    rw [val_cons, val_cons, val_cons, val_one]
    have a1 := b8_nat (n := e.low / 16777216) (by omega)
    have a2 := b8_nat (n := e.low / 65536 % 256) (by omega)
    have a3 := b8_nat (n := e.low / 256 % 256) (by omega)
    have a4 := b8_nat (n := e.low % 256) (by omega)
    simp only [List.length_cons, List.length_nil]
    omega
  rw [h4, show (tail4 e.low).length = 4 from rfl]
  omega
theorem estep_num {n : Nat} {e : Enc} (hok : EncOk n e) (hi : InB e) (z b : Int) : num' (estep e z b) = num' e + (if b = 0 then 0 else bound e.size z) ∧ InB (estep e z b) ∧ (estep e z b).out.length = e.out.length ∧
    (estep e z b).size = if b = 0 then bound e.size z else e.size - bound e.size z := by
  have hd := size_dvd hok.size z
  have hl := hok.low
  unfold InB num' at hi
  unfold estep
  split
  · refine ⟨by unfold num'; dsimp only; omega, ?_, rfl, rfl⟩
    unfold InB num'; dsimp only; omega
  · split
    · have hlt : val e.out + 1 < 256 ^ e.out.length := by
        generalize 256 ^ e.out.length = w at *; omega
      have hc := carry_val hlt
      refine ⟨by unfold num'; dsimp only; rw [hc]; omega, ?_, carry_len _, rfl⟩
      unfold InB num'; dsimp only; rw [hc, carry_len]; omega
    · refine ⟨by unfold num'; dsimp only; omega, ?_, rfl, rfl⟩
      unfold InB num'; dsimp only; omega
theorem eshift_num {e : Enc} (h : 0 ≤ e.low ∧ e.low ≤ 4294967295) : num' (eshift e) = num' e * 256 ∧ (eshift e).out.length = e.out.length + 1 ∧ (eshift e).size = e.size * 256 := by
  refine ⟨?_, by show (e.out ++ [_]).length = _; simp, rfl⟩
  show (val (e.out ++ [_]) : Int) * 4294967296 + e.low * 256 % 4294967296 = ((val e.out : Int) * 4294967296 + e.low) * 256
  rw [val_snoc]
  have := b8_nat (n := e.low / 16777216) (by omega)
  omega
end Go.Proofs.YtncnmfdmbfbfjaaGreat
end
section
set_option linter.unusedVariables false
set_option linter.unusedSimpArgs false
set_option maxRecDepth 4000
namespace Go.Proofs.YtncnmfdmbfbfjaaGreat
open Go.Gh Go.RowKit

/-- The decoder of D stands where the encoder stands. -/
structure Syn (D : List UInt8) (e : Enc) (d : Dec) : Prop where
  size : d.size = e.size
  len : e.out.length + 4 ≤ D.length
  rest : d.rest = D.drop (e.out.length + 4)
  miss : d.missing = false
  code : d.code = (val (D.take (e.out.length + 4)) : Int) - num' e
  rng : 0 ≤ d.code ∧ d.code < d.size
theorem dstep_syn {D : List UInt8} {n : Nat} {e : Enc} {d : Dec} (s : Syn D e d) (hok : EncOk n e) (hi : InB e) (z b : Int) (hb : b = 0 ↔ (dstep d z).2 = 0) : Syn D (estep e z b) (dstep d z).1 := by
  obtain ⟨h1, h2, h3, h4⟩ := estep_num hok hi z b
  have hd := size_dvd hok.size z
  have hs := s.size
  have hr := s.rng
  have hc := s.code
  unfold dstep at hb ⊢
  rw [hs] at hb ⊢
  split at hb
  · rename_i hlt
    rw [if_pos hlt]
    have hb0 : b = 0 := hb.2 rfl
    rw [if_pos hb0] at h1 h4
    exact ⟨h4.symm, by rw [h3]; exact s.len, by rw [h3]; exact s.rest, s.miss, by rw [h3, h1]; dsimp only; omega, by dsimp only; omega⟩
  · rename_i hlt
    rw [if_neg hlt]
    have hb0 : ¬ b = 0 := fun h => by have := hb.1 h; cases this
    rw [if_neg hb0] at h1 h4
    exact ⟨h4.symm, by rw [h3]; exact s.len, by rw [h3]; exact s.rest, s.miss, by rw [h3, h1]; dsimp only; omega, by dsimp only; omega⟩
/-- A byte more. -/
theorem dnext_syn {D : List UInt8} {e : Enc} {d : Dec} (s : Syn D e d) (hl : 0 ≤ e.low ∧ e.low ≤ 4294967295) (hsz : e.size < 16777216) (hD : e.out.length + 5 ≤ D.length) : Syn D (eshift e) { dnext d with size := (dnext d).size * 256 } := by
  obtain ⟨h1, h2, h3⟩ := eshift_num hl
  have hlt : e.out.length + 4 < D.length := by omega
  have hr : d.rest = D[e.out.length + 4] :: D.drop (e.out.length + 4 + 1) := by rw [s.rest, List.drop_eq_getElem_cons hlt]
  have hc := (D[e.out.length + 4]).toNat_lt
  have hv : val (D.take (e.out.length + 5)) = val (D.take (e.out.length + 4)) * 256 + (D[e.out.length + 4]).toNat := by
    rw [← val_snoc, List.take_append_getElem hlt]
  have hsi := s.size
  have hrg := s.rng
  have hco := s.code
  obtain ⟨rest, code, size, missing, full⟩ := d
  dsimp only at hr hsi hrg hco
  subst hr
  have e5 : (eshift e).out.length + 4 = e.out.length + 5 := by omega
  refine ⟨by rw [h3, ← hsi]; rfl, by omega, ?_, s.miss, ?_, ?_⟩
  · show D.drop (e.out.length + 4 + 1) = _
    rw [e5]
  · show code * 256 % 4294967296 + ((D[e.out.length + 4]).toNat : Int) = _
    rw [e5, hv, h1]
    omega
  · show 0 ≤ code * 256 % 4294967296 + ((D[e.out.length + 4]).toNat : Int) ∧ code * 256 % 4294967296 + ((D[e.out.length + 4]).toNat : Int) < size * 256
    omega
theorem norm_len (k : Nat) (e : Enc) : e.out.length ≤ (norm k e).out.length := norm_out k e
theorem eshift_low (e : Enc) : 0 ≤ (eshift e).low ∧ (eshift e).low ≤ 4294967295 := by
  show 0 ≤ e.low * 256 % 4294967296 ∧ e.low * 256 % 4294967296 ≤ 4294967295; omega
theorem norm_syn {D : List UInt8} : ∀ (k : Nat) {e : Enc} {d : Dec}, Syn D e d → (0 ≤ e.low ∧ e.low ≤ 4294967295) → (norm k e).out.length + 4 ≤ D.length → Syn D (norm k e) (dnorm k d)
  | 0, _, _, s, _, _ => s
  | k + 1, e, d, s, hl, hD => by
    unfold norm at hD ⊢
    unfold dnorm
    rw [s.size]
    by_cases hc : e.size < 16777216
    · rw [if_pos hc] at hD ⊢
      rw [if_pos hc]
      have h2 : (eshift e).out.length = e.out.length + 1 := (eshift_num hl).2.1
      have h3 := norm_len k (eshift e)
      exact norm_syn k (dnext_syn s hl hc (by omega)) (eshift_low e) hD
    · rw [if_neg hc, if_neg hc]; exact s
/-- Once a byte is missing, it is missing. -/
theorem dnext_miss {d : Dec} (h : (dnext d).missing = false) : d.missing = false ∧ d.rest ≠ [] := by
  obtain ⟨rest, code, size, missing, full⟩ := d
  cases rest with
  | nil => cases h
  | cons c r => exact ⟨h, by simp⟩
theorem dnorm_miss : ∀ (k : Nat) {d : Dec}, (dnorm k d).missing = false → d.missing = false
  | 0, _, h => h
  | k + 1, d, h => by
    unfold dnorm at h
    split at h
    · have h0 := dnorm_miss k h
      exact (dnext_miss (d := d) h0).1
    · exact h
theorem eshift_InB {e : Enc} (hl : 0 ≤ e.low ∧ e.low ≤ 4294967295) (h : InB e) : InB (eshift e) := by
  obtain ⟨h1, h2, h3⟩ := eshift_num hl
  unfold InB at h ⊢
  rw [h1, h2, h3, Nat.pow_succ]
  generalize 256 ^ e.out.length = w at *
  omega
theorem norm_InB (k : Nat) : ∀ {e : Enc}, (0 ≤ e.low ∧ e.low ≤ 4294967295) → InB e → InB (norm k e) := by
  induction k with
  | zero => intro e _ h; exact h
  | succ k ih =>
    intro e hl h
    unfold norm
    split
    · exact ih (eshift_low e) (eshift_InB hl h)
    · exact h
theorem ebit_InB {n : Nat} {e : Enc} (hok : EncOk n e) (hi : InB e) (z b : Int) : InB (ebit e z b) := norm_InB 2 (estep_ok hok z b).2.1 (estep_num hok hi z b).2.1
theorem ebit_syn {D : List UInt8} {n : Nat} {e : Enc} {d : Dec} (s : Syn D e d) (hok : EncOk n e) (hi : InB e) (z b : Int) (hb : b = 0 ↔ (dbit d z).2 = 0) (hD : (ebit e z b).out.length + 4 ≤ D.length) : Syn D (ebit e z b) (dbit d z).1 :=
  norm_syn 2 (dstep_syn s hok hi z b hb) (estep_ok hok z b).2.1 hD
theorem e00_InB : InB e00 := by unfold InB; decide
/-- The start. -/
theorem dnew_syn {D : List UInt8} (h4 : 4 ≤ D.length) (hf : (dnew D).full = false) : Syn D e00 (dnew D) := by
  match D, h4 with
  | a :: b :: c :: d :: r, _ =>
    have h1 := a.toNat_lt; have h2 := b.toNat_lt; have h3 := c.toNat_lt; have h5 := d.toNat_lt
    have hv : val [a, b, c, d] = ((a.toNat * 256 + b.toNat) * 256 + c.toNat) * 256 + d.toNat := by simp [val]
    have hcode : (dnew (a :: b :: c :: d :: r)).code = (val [a, b, c, d] : Int) := by
      rw [hv]
      show (((0 * 256 % 4294967296 + (a.toNat : Int)) * 256 % 4294967296 + (b.toNat : Int)) * 256 % 4294967296 + (c.toNat : Int)) * 256 % 4294967296 + (d.toNat : Int) = _
      omega
    have hne : (dnew (a :: b :: c :: d :: r)).code ≠ 4294967295 := fun h => by
      have : (dnew (a :: b :: c :: d :: r)).full = true := by
        show decide ((dnew (a :: b :: c :: d :: r)).code = 4294967295) = true
        rw [h]; rfl
      rw [hf] at this; cases this
    refine ⟨rfl, by simp, rfl, rfl, ?_, ?_⟩
    · rw [hcode]; show _ = (val [a, b, c, d] : Int) - num' e00
      show _ = (val [a, b, c, d] : Int) - ((0 : Nat) * 4294967296 + 0 : Int)
      omega
    · show 0 ≤ (dnew (a :: b :: c :: d :: r)).code ∧ (dnew (a :: b :: c :: d :: r)).code < 4294967295
      rw [hcode] at hne ⊢
      rw [hv] at hne ⊢
      omega
end Go.Proofs.YtncnmfdmbfbfjaaGreat
end
section
set_option linter.unusedVariables false
set_option linter.unusedSimpArgs false
set_option maxRecDepth 4000
namespace Go.Proofs.YtncnmfdmbfbfjaaGreat
open Go.Gh Go.RowKit

theorem dnext_full (d : Dec) : (dnext d).full = d.full := by
  obtain ⟨rest, code, size, missing, full⟩ := d
  cases rest <;> rfl
theorem dnorm_full (k : Nat) : ∀ (d : Dec), (dnorm k d).full = d.full := by
  induction k with
  | zero => intro d; rfl
  | succ k ih =>
    intro d
    unfold dnorm
    split
    · rw [ih]; exact dnext_full d
    · rfl
theorem dbit_full (d : Dec) (z : Int) : (dbit d z).1.full = d.full := by
  show (dnorm 2 (dstep d z).1).full = _
  rw [dnorm_full]; unfold dstep; split <;> rfl
theorem dbit_miss {d : Dec} {z : Int} (h : (dbit d z).1.missing = false) : d.missing = false := by
  have := dnorm_miss 2 h
  unfold dstep at this
  split at this <;> exact this
theorem dbit_01 (d : Dec) (z : Int) : (dbit d z).2 = 0 ∨ (dbit d z).2 = 1 := by have := dbit_bit d z; omega
theorem dend_zero {d : Dec} (h : dend d = 0) : d.missing = false ∧ d.full = false ∧ d.rest = [] ∧ d.code = 0 := by
  unfold dend at h
  split at h
  · cases h
  · rename_i hn
    simp only [not_or, Bool.not_eq_true, ne_eq, Classical.not_not] at hn
    exact hn
end Go.Proofs.YtncnmfdmbfbfjaaGreat
end
section
set_option linter.unusedVariables false
set_option linter.unusedSimpArgs false
set_option maxRecDepth 4000
namespace Go.Proofs.YtncnmfdmbfbfjaaGreat
open Go.Gh Go.RowKit

def ext (d : Dec) (c : UInt8) : Dec := ⟨d.rest ++ [c], d.code, d.size, d.missing, d.full⟩
theorem dnext_ext {d : Dec} {c : UInt8} (h : (dnext d).missing = false) : dnext (ext d c) = ext (dnext d) c := by
  obtain ⟨rest, code, size, missing, full⟩ := d
  cases rest with
  | nil => cases h
  | cons x r => rfl
theorem dnorm_ext {c : UInt8} (k : Nat) : ∀ {d : Dec}, (dnorm k d).missing = false → dnorm k (ext d c) = ext (dnorm k d) c := by
  induction k with
  | zero => intro d _; rfl
  | succ k ih =>
    intro d h
    unfold dnorm at h ⊢
    rw [show (ext d c).size = d.size from rfl]
    split
    · rename_i hc
      rw [if_pos hc] at h
      have h0 := dnorm_miss k h
      rw [dnext_ext (d := d) h0]
      exact ih h
    · rfl
theorem dbit_ext {d : Dec} {c : UInt8} {z : Int} (h : (dbit d z).1.missing = false) : dbit (ext d c) z = (ext (dbit d z).1 c, (dbit d z).2) := by
  have e : dstep (ext d c) z = (ext (dstep d z).1 c, (dstep d z).2) := by
    unfold dstep
    rw [show (ext d c).size = d.size from rfl, show (ext d c).code = d.code from rfl]
    split <;> rfl
  unfold dbit
  rw [e]
  have := dnorm_ext (c := c) 2 (d := (dstep d z).1) h
  rw [this]
theorem dnew_ext {D : List UInt8} {c : UInt8} (h : 4 ≤ D.length) : dnew (D ++ [c]) = ext (dnew D) c := by
  match D, h with
  | _ :: _ :: _ :: _ :: _, _ => rfl
end Go.Proofs.YtncnmfdmbfbfjaaGreat
end
section
set_option linter.unusedVariables false
set_option linter.unusedSimpArgs false
set_option maxRecDepth 4000
namespace Go.Proofs.YtncnmfdmbfbfjaaGreat
open Go.Gh Go.RowKit

/-- Steps that are put together. -/
def StI (base : SH) (l : List (Int × Int)) (v : Value) (p : SH) : Prop := (l = [] ∧ v = .slice none 0 0 ∧ p = base) ∨ ∃ A, v = gsl A 0 (2 * l.length) l.length 2 ∧ p = (A, ⟨recs stF l, false⟩) :: base
theorem StI.has {base p : SH} {l : List (Int × Int)} {v : Value} (s : StI base l v p) : Has p (recs stF l) 2 l.length v := by
  rcases s with ⟨rfl, rfl, rfl⟩ | ⟨A, rfl, rfl⟩
  · exact ⟨none, 0, rfl, fun h => absurd rfl h⟩
  · exact ⟨_, _, rfl, fun _ => ⟨A, false, _, rfl, .head⟩⟩
theorem StI.take {base p : SH} {l : List (Int × Int)} {v : Value} (s : StI base l v p) : Take p base := by
  rcases s with ⟨rfl, rfl, rfl⟩ | ⟨A, rfl, rfl⟩
  · exact .nil
  · exact .drop .nil
theorem StI.one {base : SH} {x : Int × Int} {A : Nat} : StI base ([] ++ [x]) (gsl A 0 (1 * 2) 1 2) ((A, ⟨[I x.1, I x.2], false⟩) :: base) := .inr ⟨A, rfl, rfl⟩
end Go.Proofs.YtncnmfdmbfbfjaaGreat
end
section
set_option linter.unusedVariables false
set_option linter.unusedSimpArgs false
set_option maxRecDepth 4000
namespace Go.Proofs.YtncnmfdmbfbfjaaGreat
open Go.Gh Go.RowKit

def pw (j : Nat) : Int := ((256 ^ j : Nat) : Int)
theorem pw_pos (j : Nat) : 0 < pw j := by
  have : 0 < 256 ^ j := Nat.pow_pos (by decide)
  unfold pw; omega
theorem pw_zero : pw 0 = 1 := rfl
theorem pw_succ (j : Nat) : pw (j + 1) = 256 * pw j := by unfold pw; rw [Nat.pow_succ]; omega
theorem pw_add (i j : Nat) : pw (i + j) = pw i * pw j := by unfold pw; rw [Nat.pow_add, Int.natCast_mul]
theorem norm_in (k : Nat) : ∀ {e : Enc}, (0 ≤ e.low ∧ e.low ≤ 4294967295) → ∃ j, (norm k e).out.length = e.out.length + j ∧ num' (norm k e) = num' e * pw j ∧ (norm k e).size = e.size * pw j := by
  induction k with
  | zero => intro e _; exact ⟨0, rfl, by rw [pw_zero, Int.mul_one]; rfl, by rw [pw_zero, Int.mul_one]; rfl⟩
  | succ k ih =>
    intro e hl
    unfold norm
    split
    · obtain ⟨h1, h2, h3⟩ := eshift_num hl
      obtain ⟨j, g1, g2, g3⟩ := ih (eshift_low e)
      exact ⟨j + 1, by rw [g1, h2]; omega, by rw [g2, h1, pw_succ, Int.mul_assoc], by rw [g3, h3, pw_succ, Int.mul_assoc]⟩
    · exact ⟨0, rfl, by rw [pw_zero, Int.mul_one], by rw [pw_zero, Int.mul_one]⟩
/-- One interval within another. -/
def Within (e e' : Enc) : Prop := ∃ j, e'.out.length = e.out.length + j ∧ num' e * pw j ≤ num' e' ∧ num' e' + e'.size ≤ (num' e + e.size) * pw j
theorem Within.refl (e : Enc) : Within e e := ⟨0, rfl, by rw [pw_zero, Int.mul_one]; exact Int.le_refl _, by rw [pw_zero, Int.mul_one]; exact Int.le_refl _⟩
theorem Within.trans {e f g : Enc} (a : Within e f) (b : Within f g) : Within e g := by
  obtain ⟨i, a1, a2, a3⟩ := a
  obtain ⟨j, b1, b2, b3⟩ := b
  refine ⟨i + j, by omega, ?_, ?_⟩
  · rw [pw_add, ← Int.mul_assoc]
    exact Int.le_trans (Int.mul_le_mul_of_nonneg_right a2 (Int.le_of_lt (pw_pos j))) b2
  · rw [pw_add, ← Int.mul_assoc]
    exact Int.le_trans b3 (Int.mul_le_mul_of_nonneg_right a3 (Int.le_of_lt (pw_pos j)))
theorem within_norm {k : Nat} {e : Enc} (hl : 0 ≤ e.low ∧ e.low ≤ 4294967295) : Within e (norm k e) := by
  obtain ⟨j, g1, g2, g3⟩ := norm_in k hl
  exact ⟨j, g1, by rw [g2]; exact Int.le_refl _, by rw [g2, g3, Int.add_mul]; exact Int.le_refl _⟩
theorem within_ebit {n : Nat} {e : Enc} (hok : EncOk n e) (hi : InB e) (z b : Int) : Within (estep e z b) (ebit e z b) := within_norm (estep_ok hok z b).2.1
theorem within_estep {n : Nat} {e : Enc} (hok : EncOk n e) (hi : InB e) (z b : Int) : Within e (estep e z b) := by
  obtain ⟨h1, h2, h3, h4⟩ := estep_num hok hi z b
  have hd := size_dvd hok.size z
  refine ⟨0, h3, ?_, ?_⟩
  · rw [pw_zero, Int.mul_one, h1]; split <;> omega
  · rw [pw_zero, Int.mul_one, h1, h4]; split <;> omega
/-- Where a number lies whose end lies within. -/
theorem within_at {e f : Enc} {D : List UInt8} (w : Within e f) (hD : D.length = f.out.length + 4) (hv : (val D : Int) = num' f) (hs : 0 < f.size) :
    num' e ≤ (val (D.take (e.out.length + 4)) : Int) ∧ (val (D.take (e.out.length + 4)) : Int) < num' e + e.size := by
  obtain ⟨j, h1, h2, h3⟩ := w
  have hsp : val D = val (D.take (e.out.length + 4)) * 256 ^ j + val (D.drop (e.out.length + 4)) := by
    have := val_app (D.take (e.out.length + 4)) (D.drop (e.out.length + 4))
    rw [List.take_append_drop, List.length_drop, show D.length - (e.out.length + 4) = j by omega] at this
    exact this
  have hlt := val_lt (D.drop (e.out.length + 4))
  rw [List.length_drop, show D.length - (e.out.length + 4) = j by omega] at hlt
  have hp := pw_pos j
  have e1 : (val D : Int) = (val (D.take (e.out.length + 4)) : Int) * pw j + (val (D.drop (e.out.length + 4)) : Int) := by rw [hsp]; unfold pw; rw [Int.natCast_add, Int.natCast_mul]
  have e2 : (val (D.drop (e.out.length + 4)) : Int) < pw j := by unfold pw; omega
  generalize (val (D.take (e.out.length + 4)) : Int) = V at *
  have e3 : num' e * pw j < (V + 1) * pw j := by rw [Int.add_mul, Int.one_mul]; omega
  have e4 : V * pw j < (num' e + e.size) * pw j := by omega
  have e5 := Int.lt_of_mul_lt_mul_right e3 (Int.le_of_lt hp)
  have e6 := Int.lt_of_mul_lt_mul_right e4 (Int.le_of_lt hp)
  omega
/-- The decoder reads the bit that was written. -/
theorem bit_read {D : List UInt8} {n : Nat} {e f : Enc} {d : Dec} (s : Syn D e d) (hok : EncOk n e) (hi : InB e) (z b : Int) (w : Within (ebit e z b) f) (hD : D.length = f.out.length + 4) (hv : (val D : Int) = num' f) (hs : 0 < f.size) :
    b = 0 ↔ (dbit d z).2 = 0 := by
  obtain ⟨h1, h2, h3, h4⟩ := estep_num hok hi z b
  have hw := within_at ((within_ebit hok hi z b).trans w) hD hv hs
  have hd := size_dvd hok.size z
  rw [h3, h1, h4] at hw
  have hc := s.code
  show b = 0 ↔ (dstep d z).2 = 0
  unfold dstep
  rw [s.size]
  split
  · rename_i hlt
    refine ⟨fun _ => rfl, fun _ => ?_⟩
    by_cases hb : b = 0
    · exact hb
    · rw [if_neg hb, if_neg hb] at hw; omega
  · rename_i hlt
    refine ⟨fun hb => ?_, fun h => by cases h⟩
    rw [if_pos hb, if_pos hb] at hw; omega
end Go.Proofs.YtncnmfdmbfbfjaaGreat
end
section
set_option linter.unusedVariables false
set_option linter.unusedSimpArgs false
set_option maxRecDepth 4000
namespace Go.Proofs.YtncnmfdmbfbfjaaGreat
open Go.Gh Go.RowKit

theorem within_len {e f : Enc} (w : Within e f) : e.out.length ≤ f.out.length := by obtain ⟨j, h, _⟩ := w; omega
theorem within_ebits {v : Int} (k : Nat) : ∀ {n : Nat} {e : Enc}, EncOk n e → InB e → Within e (ebits v k e) ∧ InB (ebits v k e) := by
  induction k with
  | zero => intro n e _ hi; exact ⟨.refl _, hi⟩
  | succ k ih =>
    intro n e hok hi
    obtain ⟨h1, h2⟩ := ih (ebit_ok hok 1024 (v / 2 ^ k % 2)) (ebit_InB hok hi 1024 (v / 2 ^ k % 2))
    exact ⟨((within_estep hok hi _ _).trans (within_ebit hok hi _ _)).trans h1, h2⟩
theorem bits_read {D : List UInt8} {f : Enc} {v : Int} (hD : D.length = f.out.length + 4) (hv : (val D : Int) = num' f) (hs : 0 < f.size) (k : Nat) : ∀ {n : Nat} {e : Enc} {d : Dec} {a : Int}, Syn D e d → EncOk n e → InB e → Within (ebits v k e) f →
    Syn D (ebits v k e) (dbits k d a).1 ∧ (dbits k d a).2 = a * 2 ^ k + v % 2 ^ k := by
  induction k with
  | zero => intro n e d a s _ _ _; exact ⟨s, by show a = a * 2 ^ 0 + v % 2 ^ 0; rw [Int.pow_zero, Int.mul_one, Int.emod_one, Int.add_zero]⟩
  | succ k ih =>
    intro n e d a s hok hi w
    have hb1 := ebit_ok hok 1024 (v / 2 ^ k % 2)
    have hb2 := ebit_InB hok hi 1024 (v / 2 ^ k % 2)
    have w1 : Within (ebit e 1024 (v / 2 ^ k % 2)) f := (within_ebits k hb1 hb2).1.trans w
    have hr := bit_read s hok hi 1024 (v / 2 ^ k % 2) w1 hD hv hs
    have hbd := dbit_01 d 1024
    have hval : (dbit d 1024).2 = v / 2 ^ k % 2 := by omega
    obtain ⟨g1, g2⟩ := ih (a := a * 2 + (dbit d 1024).2) (ebit_syn s hok hi 1024 _ hr (by have := within_len w1; omega)) hb1 hb2 w
    refine ⟨g1, ?_⟩
    show (dbits k _ _).2 = _
    rw [g2, hval]
    have h1 := Int.emod_add_mul_ediv v (2 ^ k)
    have h2 := Int.emod_add_mul_ediv (v / 2 ^ k) 2
    have h3 := Int.emod_add_mul_ediv v (2 ^ (k + 1))
    have h4 : v / 2 ^ k / 2 = v / (2 ^ k * 2) := by rw [Int.ediv_ediv_of_nonneg (Int.le_of_lt (Int.pow_pos (by decide)))]
    rw [h4] at h2
    rw [Int.pow_succ] at h3 ⊢
    generalize v / (2 ^ k * 2) = q at *
    generalize v / 2 ^ k = p at *
    generalize (2 : Int) ^ k = t at *
    have h5 : t * p = t * (p % 2) + 2 * (t * q) := by
      conv => lhs; rw [← h2]
      rw [Int.mul_add, Int.mul_left_comm]
    have h6 : t * 2 * q = 2 * (t * q) := by rw [Int.mul_comm t 2, Int.mul_assoc]
    have h7 : (a * 2 + p % 2) * t = a * (t * 2) + t * (p % 2) := by rw [Int.add_mul, Int.mul_assoc, Int.mul_comm 2 t, Int.mul_comm (p % 2) t]
    omega
end Go.Proofs.YtncnmfdmbfbfjaaGreat
end
section
set_option linter.unusedVariables false
set_option linter.unusedSimpArgs false
set_option maxRecDepth 4000
namespace Go.Proofs.YtncnmfdmbfbfjaaGreat
open Go.Gh Go.RowKit

theorem four {D : List UInt8} (h : 4 ≤ D.length) : ∃ a b c d r, D = a :: b :: c :: d :: r := by
  match D, h with
  | a :: b :: c :: d :: r, _ => exact ⟨a, b, c, d, r, rfl⟩
theorem ddir_full (d : Dec) (x : Int) : (ddir d x).1.full = d.full := by
  have h : ∀ (k : Nat) (d : Dec) (a : Int), (dbits k d a).1.full = d.full := by
    intro k
    induction k with
    | zero => intro d a; rfl
    | succ k ih => intro d a; unfold dbits; rw [ih, dbit_full]
  unfold ddir
  split
  · rfl
  · exact h _ _ _
/-- The end. -/
theorem inv_end {e : Enc} {d : Dec} (hl : 0 ≤ e.low ∧ e.low ≤ 4294967295) (s : Syn (fin e) e d) (hf : d.full = false) : dend d = 0 := by
  have h1 := s.rest
  have h2 := s.code
  rw [← fin_len] at h1 h2
  rw [List.drop_length] at h1
  rw [List.take_length, fin_val hl] at h2
  unfold dend
  rw [if_neg]
  rintro (h | h | h | h)
  · rw [s.miss] at h; cases h
  · rw [hf] at h; cases h
  · exact h h1
  · exact h (by omega)
end Go.Proofs.YtncnmfdmbfbfjaaGreat
end
section
set_option linter.unusedVariables false
set_option linter.unusedSimpArgs false
set_option maxRecDepth 4000
namespace Go.Proofs.YtncnmfdmbfbfjaaGreat
open Go.Gh Go.RowKit

/-- An end behind the encoder: the decoder's bytes are those of f. -/
structure Beh (D : List UInt8) (f : Enc) : Prop where
  len : D.length = f.out.length + 4
  val : (val D : Int) = num' f
  size : 0 < f.size
theorem Beh.fin {n : Nat} {f : Enc} (h : EncOk n f) : Beh (fin f) f := ⟨fin_len f, fin_val h.low, by have := h.size; omega⟩
theorem mod_split (v : Int) (k : Nat) : v % 2 ^ (k + 1) = 2 ^ k * (v / 2 ^ k % 2) + v % 2 ^ k := by
  have h1 := Int.emod_add_mul_ediv v (2 ^ k)
  have h2 := Int.emod_add_mul_ediv (v / 2 ^ k) 2
  have h3 := Int.emod_add_mul_ediv v (2 ^ (k + 1))
  have h4 : v / 2 ^ k / 2 = v / (2 ^ k * 2) := by rw [Int.ediv_ediv_of_nonneg (Int.le_of_lt (Int.pow_pos (by decide)))]
  rw [h4] at h2
  rw [Int.pow_succ] at h3 ⊢
  generalize v / (2 ^ k * 2) = q at *
  generalize v / 2 ^ k = p at *
  generalize (2 : Int) ^ k = t at *
  have h5 : t * p = t * (p % 2) + 2 * (t * q) := by
    conv => lhs; rw [← h2]
    rw [Int.mul_add, Int.mul_left_comm]
  have h6 : t * 2 * q = 2 * (t * q) := by rw [Int.mul_comm t 2, Int.mul_assoc]
  omega
theorem tenc_in {v : Int} (k : Nat) : ∀ {n : Nat} {t : List Int} {e : Enc} {j : Nat}, EncOk n e → InB e → Within e (tenc v k t e j).2 ∧ InB (tenc v k t e j).2 := by
  induction k with
  | zero => intro n t e j _ hi; exact ⟨.refl _, hi⟩
  | succ k ih =>
    intro n t e j hok hi
    obtain ⟨h1, h2⟩ := ih (t := t.set j (adp t[j]! (v / 2 ^ k % 2))) (j := 2 * j + (v / 2 ^ k % 2).toNat) (ebit_ok hok t[j]! (v / 2 ^ k % 2)) (ebit_InB hok hi t[j]! (v / 2 ^ k % 2))
    exact ⟨((within_estep hok hi _ _).trans (within_ebit hok hi _ _)).trans h1, h2⟩
/-- A tree reads what it wrote. -/
theorem tenc_read {D : List UInt8} {f : Enc} {v : Int} (hf : Beh D f) (k : Nat) : ∀ {n : Nat} {t : List Int} {e : Enc} {d : Dec} {j : Nat}, Syn D e d → EncOk n e → InB e → Within (tenc v k t e j).2 f →
    Syn D (tenc v k t e j).2 (tdec k t d j).2.1 ∧ (tdec k t d j).1 = (tenc v k t e j).1 ∧ ((tdec k t d j).2.2 : Int) = 2 ^ k * j + v % 2 ^ k := by
  induction k with
  | zero => intro n t e d j s _ _ _; exact ⟨s, rfl, by show (j : Int) = 2 ^ 0 * j + v % 2 ^ 0; rw [Int.pow_zero, Int.emod_one]; omega⟩
  | succ k ih =>
    intro n t e d j s hok hi w
    have hb1 := ebit_ok hok t[j]! (v / 2 ^ k % 2)
    have hb2 := ebit_InB hok hi t[j]! (v / 2 ^ k % 2)
    have w1 : Within (ebit e t[j]! (v / 2 ^ k % 2)) f := (tenc_in k hb1 hb2).1.trans w
    have hr := bit_read s hok hi t[j]! (v / 2 ^ k % 2) w1 hf.len hf.val hf.size
    have hbd := dbit_01 d t[j]!
    have hval : (dbit d t[j]!).2 = v / 2 ^ k % 2 := by omega
    have s1 := ebit_syn s hok hi t[j]! _ hr (by have := within_len w1; have := hf.len; omega)
    have ih := ih (t := t.set j (adp t[j]! (v / 2 ^ k % 2))) (j := 2 * j + (v / 2 ^ k % 2).toNat) s1 hb1 hb2 w
    have e1 : tdec (k + 1) t d j = tdec k (t.set j (adp t[j]! (v / 2 ^ k % 2))) (dbit d t[j]!).1 (2 * j + (v / 2 ^ k % 2).toNat) := by rw [← hval]; rfl
    rw [e1]
    refine ⟨ih.1, ih.2.1, ?_⟩
    rw [ih.2.2, mod_split, Int.pow_succ]
    have e2 : ((2 * j + (v / 2 ^ k % 2).toNat : Nat) : Int) = 2 * (j : Int) + v / 2 ^ k % 2 := by omega
    rw [e2, Int.mul_add, ← Int.mul_assoc]
    omega
theorem tdec_miss : ∀ (k : Nat) {t : List Int} {d : Dec} {j : Nat}, (tdec k t d j).2.1.missing = false → d.missing = false
  | 0, _, _, _, h => h
  | k + 1, t, d, j, h => dbit_miss (tdec_miss k (t := t.set j (adp t[j]! (dbit d t[j]!).2)) (j := 2 * j + (dbit d t[j]!).2.toNat) h)
theorem tdec_full : ∀ (k : Nat) {t : List Int} {d : Dec} {j : Nat}, (tdec k t d j).2.1.full = d.full
  | 0, _, _, _ => rfl
  | k + 1, t, d, j => (tdec_full k (t := t.set j (adp t[j]! (dbit d t[j]!).2)) (j := 2 * j + (dbit d t[j]!).2.toNat)).trans (dbit_full d _)
theorem tdec_ext {c : UInt8} : ∀ (k : Nat) {t : List Int} {d : Dec} {j : Nat}, (tdec k t d j).2.1.missing = false → tdec k t (ext d c) j = ((tdec k t d j).1, ext (tdec k t d j).2.1 c, (tdec k t d j).2.2)
  | 0, _, _, _, _ => rfl
  | k + 1, t, d, j, h => by
    have h1 : (dbit d t[j]!).1.missing = false := tdec_miss k (t := t.set j (adp t[j]! (dbit d t[j]!).2)) (j := 2 * j + (dbit d t[j]!).2.toNat) h
    show tdec k (t.set j (adp t[j]! (dbit (ext d c) t[j]!).2)) (dbit (ext d c) t[j]!).1 (2 * j + (dbit (ext d c) t[j]!).2.toNat) = _
    rw [dbit_ext h1]
    exact tdec_ext k h
theorem dbits_miss : ∀ (k : Nat) {d : Dec} {a : Int}, (dbits k d a).1.missing = false → d.missing = false
  | 0, _, _, h => h
  | k + 1, d, a, h => dbit_miss (dbits_miss k (a := a * 2 + (dbit d 1024).2) h)
theorem dbits_ext {c : UInt8} : ∀ (k : Nat) {d : Dec} {a : Int}, (dbits k d a).1.missing = false → dbits k (ext d c) a = (ext (dbits k d a).1 c, (dbits k d a).2)
  | 0, _, _, _ => rfl
  | k + 1, d, a, h => by
    have h1 : (dbit d 1024).1.missing = false := dbits_miss k (a := a * 2 + (dbit d 1024).2) h
    show dbits k (dbit (ext d c) 1024).1 (a * 2 + (dbit (ext d c) 1024).2) = _
    rw [dbit_ext h1]
    exact dbits_ext k h
end Go.Proofs.YtncnmfdmbfbfjaaGreat
end
section
set_option linter.unusedVariables false
set_option linter.unusedSimpArgs false
set_option maxRecDepth 4000
namespace Go.Proofs.YtncnmfdmbfbfjaaGreat
open Go.Gh Go.RowKit

theorem edir_in {n : Nat} {e : Enc} (hok : EncOk n e) (hi : InB e) (x v : Int) : Within e (edir e x v) ∧ InB (edir e x v) := by
  unfold edir
  split
  · exact ⟨.refl _, hi⟩
  · exact within_ebits _ hok hi
theorem ddir_miss {d : Dec} {x : Int} (h : (ddir d x).1.missing = false) : d.missing = false := by
  unfold ddir at h
  split at h
  · exact h
  · exact dbits_miss _ h
theorem ddir_ext {c : UInt8} {d : Dec} {x : Int} (h : (ddir d x).1.missing = false) : ddir (ext d c) x = (ext (ddir d x).1 c, (ddir d x).2) := by
  unfold ddir at h ⊢
  split
  · rfl
  · rename_i hx
    rw [if_neg hx] at h
    exact dbits_ext _ h
/-- The model of bytes. -/
theorem benc_in {P : List Int} {c v : Int} {n : Nat} {e : Enc} (hok : EncOk n e) (hi : InB e) : Within e (benc P c e v).2 ∧ InB (benc P c e v).2 := tenc_in (v := v) 8 (t := bsel P (c / 32).toNat) (j := 1) hok hi
theorem benc_read {D : List UInt8} {f : Enc} {P : List Int} {c v : Int} {n : Nat} {e : Enc} {d : Dec} (hf : Beh D f) (s : Syn D e d) (hok : EncOk n e) (hi : InB e) (w : Within (benc P c e v).2 f) :
    Syn D (benc P c e v).2 (bdec P c d).2.1 ∧ (bdec P c d).1 = (benc P c e v).1 ∧ (bdec P c d).2.2 = v % 256 := by
  obtain ⟨h1, h2, h3⟩ := tenc_read (v := v) hf 8 (t := bsel P (c / 32).toNat) (j := 1) s hok hi w
  refine ⟨h1, congrArg (bput P (c / 32).toNat) h2, ?_⟩
  show ((((tdec 8 (bsel P (c / 32).toNat) d 1).2.2 - 256 : Nat)) : Int) = v % 256
  have h28 : (2 ^ 8 : Int) = 256 := rfl
  rw [h28] at h3
  omega
theorem bdec_miss {P : List Int} {c : Int} {d : Dec} (h : (bdec P c d).2.1.missing = false) : d.missing = false := tdec_miss 8 (t := bsel P (c / 32).toNat) (j := 1) h
theorem bdec_full {P : List Int} {c : Int} {d : Dec} : (bdec P c d).2.1.full = d.full := tdec_full 8 (t := bsel P (c / 32).toNat) (j := 1)
theorem bdec_ext {P : List Int} {c : Int} {d : Dec} {x : UInt8} (h : (bdec P c d).2.1.missing = false) : bdec P c (ext d x) = ((bdec P c d).1, ext (bdec P c d).2.1 x, (bdec P c d).2.2) := by
  have := tdec_ext (c := x) 8 (t := bsel P (c / 32).toNat) (j := 1) h
  unfold bdec
  rw [this]
/-- The model of numbers. -/
theorem nenc_in {t : List Int} {v : Int} {n : Nat} {e : Enc} (hok : EncOk n e) (hi : InB e) : Within e (nenc t e v).2 ∧ InB (nenc t e v).2 := by
  have h1 := tenc_in (v := (blen (ncut v).toNat : Int)) 6 (t := t) (j := 1) hok hi
  have h2 := (tenc_ok (v := (blen (ncut v).toNat : Int)) (k := 6) (t := t) (j := 1) hok).1
  show Within e (if _ then _ else _) ∧ InB (if _ then _ else _)
  split
  · have h3 := edir_in h2 h1.2 ((blen (ncut v).toNat : Int) - 1) (ncut v)
    exact ⟨h1.1.trans h3.1, h3.2⟩
  · exact h1
theorem ncut_in (v : Int) : 0 ≤ ncut v ∧ ncut v ≤ 4611686018427387903 := by unfold ncut; split <;> omega
theorem blen_lt (x : Nat) : x < 2 ^ blen x := by
  unfold blen
  split
  · rename_i h; subst h; decide
  · exact Nat.lt_log2_self
theorem blen_ge {x : Nat} (h : x ≠ 0) : 2 ^ (blen x - 1) ≤ x := by
  unfold blen
  rw [if_neg h, Nat.add_sub_cancel]
  exact Nat.log2_self_le h
theorem nenc_read {D : List UInt8} {f : Enc} {t : List Int} {v : Int} {n : Nat} {e : Enc} {d : Dec} (hf : Beh D f) (s : Syn D e d) (hok : EncOk n e) (hi : InB e) (w : Within (nenc t e v).2 f) :
    Syn D (nenc t e v).2 (ndec t d).2.1 ∧ (ndec t d).1 = (nenc t e v).1 ∧ (ndec t d).2.2 = ncut v := by
  have hcut := ncut_in v
  unfold nenc at w ⊢
  unfold ndec
  obtain ⟨x, hx⟩ := Int.eq_ofNat_of_zero_le hcut.1
  rw [hx] at hcut w ⊢
  rw [Int.toNat_natCast] at w ⊢
  have hl : blen x ≤ 62 := blen_le (by have : (2 : Nat) ^ 62 = 4611686018427387904 := rfl; omega)
  have h1 := tenc_in (v := (blen x : Int)) 6 (t := t) (j := 1) hok hi
  have h2 := (tenc_ok (v := (blen x : Int)) (k := 6) (t := t) (j := 1) hok).1
  have hlt := blen_lt x
  have hge := fun h => blen_ge (x := x) h
  have hz2 : x = 0 → blen x = 0 := fun h => by rw [h]; rfl
  have w1 : Within (tenc (blen x) 6 t e 1).2 f := by
    dsimp only at w
    split at w
    · exact (edir_in h2 h1.2 _ _).1.trans w
    · exact w
  obtain ⟨g1, g2, g3⟩ := tenc_read (v := (blen x : Int)) hf 6 (t := t) (j := 1) s hok hi w1
  have h26 : (2 ^ 6 : Int) = 64 := rfl
  rw [h26] at g3
  have hj : (tdec 6 t d 1).2.2 - 64 = blen x := by omega
  rw [hj]
  dsimp only at w ⊢
  generalize blen x = l at *
  by_cases h0 : l ≤ 1
  · rw [if_neg (show ¬ 2 ≤ l by omega), if_pos (show l ≤ 1 ∨ l = 63 from .inl h0), if_pos h0]
    refine ⟨g1, g2, ?_⟩
    have : l = 0 ∨ l = 1 := by omega
    rcases this with rfl | rfl
    · rw [Nat.pow_zero] at hlt; omega
    · rw [Nat.pow_one] at hlt
      have : x ≠ 0 := fun h => absurd (hz2 h) (by decide)
      omega
  · rw [if_pos (show 2 ≤ l by omega), if_neg (show ¬ (l ≤ 1 ∨ l = 63) by omega), if_neg h0, if_neg (show ¬ l = 63 by omega)]
    rw [if_pos (show 2 ≤ l by omega)] at w
    have hx0 : x ≠ 0 := fun h => by have := hz2 h; omega
    have e1 : ∀ E V, edir E ((l : Int) - 1) V = ebits V (l - 1) E := fun E V => by unfold edir; rw [if_neg (by omega), show ((l : Int) - 1).toNat = l - 1 by omega]
    have e2 : ∀ D, ddir D ((l : Int) - 1) = dbits (l - 1) D 0 := fun D => by unfold ddir; rw [if_neg (by omega), show ((l : Int) - 1).toNat = l - 1 by omega]
    rw [e1] at w ⊢
    rw [e2]
    obtain ⟨k1, k2⟩ := bits_read hf.len hf.val hf.size (v := (x : Int)) (l - 1) (a := 0) g1 h2 h1.2 w
    refine ⟨k1, g2, ?_⟩
    rw [k2]
    have hg := hge hx0
    have hp2 : 2 ^ l = 2 ^ (l - 1) * 2 := by rw [← Nat.pow_succ]; congr 1; omega
    rw [hp2] at hlt
    have hc : ((2 : Int) ^ (l - 1)) = ((2 ^ (l - 1) : Nat) : Int) := by simp
    rw [hc]
    generalize 2 ^ (l - 1) = p at *
    have : x % p = x - p := by rw [Nat.mod_eq_sub_mod hg, Nat.mod_eq_of_lt (by omega)]
    rw [← Int.natCast_emod, this]
    omega
theorem ndec_miss {t : List Int} {d : Dec} (h : (ndec t d).2.1.missing = false) : d.missing = false ∧ (tdec 6 t d 1).2.1.missing = false := by
  have : (tdec 6 t d 1).2.1.missing = false := by
    unfold ndec at h
    dsimp only at h
    split at h
    · exact h
    · exact ddir_miss h
  exact ⟨tdec_miss 6 (t := t) (j := 1) this, this⟩
theorem ndec_full {t : List Int} {d : Dec} : (ndec t d).2.1.full = d.full := by
  unfold ndec
  dsimp only
  split
  · exact tdec_full 6 (t := t) (j := 1)
  · exact (ddir_full _ _).trans (tdec_full 6 (t := t) (j := 1))
theorem ndec_ext {t : List Int} {d : Dec} {x : UInt8} (h : (ndec t d).2.1.missing = false) : ndec t (ext d x) = ((ndec t d).1, ext (ndec t d).2.1 x, (ndec t d).2.2) := by
  have h1 := tdec_ext (c := x) 6 (t := t) (j := 1) (ndec_miss h).2
  unfold ndec at h ⊢
  rw [h1]
  dsimp only at h ⊢
  generalize tdec 6 t d 1 = T at *
  by_cases h0 : T.2.2 - 64 ≤ 1 ∨ T.2.2 - 64 = 63
  · rw [if_pos h0, if_pos h0]
    by_cases h2 : T.2.2 - 64 ≤ 1
    · rw [if_pos h2, if_pos h2]
    · rw [if_neg h2, if_neg h2, if_pos (by omega), if_pos (by omega)]
  · rw [if_neg h0] at h
    rw [if_neg h0, if_neg h0, if_neg (by omega), if_neg (by omega), if_neg (by omega), if_neg (by omega), ddir_ext h]
end Go.Proofs.YtncnmfdmbfbfjaaGreat
end
section
set_option linter.unusedVariables false
set_option linter.unusedSimpArgs false
set_option maxRecDepth 4000
namespace Go.Proofs.YtncnmfdmbfbfjaaGreat
open Go.Gh Go.RowKit

theorem rdN_ok (l : List UInt8) (m : Int) : (rdN l m).2.1.length ≤ l.length ∧ ((rdN l m).2.2 = 0 → 0 ≤ (rdN l m).1 ∧ (rdN l m).1 ≤ m) := by
  unfold rdN
  split
  · exact ⟨Nat.le_refl _, fun h => absurd h (by show ¬ (12 : Int) = 0; decide)⟩
  · split
    · exact ⟨Nat.le_refl _, fun h => absurd h (by show ¬ (2 : Int) = 0; decide)⟩
    · dsimp only
      rw [List.length_drop]
      omega
end Go.Proofs.YtncnmfdmbfbfjaaGreat
end
section
set_option linter.unusedVariables false
set_option linter.unusedSimpArgs false
set_option maxRecDepth 4000
namespace Go.Proofs.YtncnmfdmbfbfjaaGreat
open Go.Gh Go.RowKit

theorem ndec_ok {t : List Int} {d : Dec} (h : DecOk d) (ht : t.length = 64) : DecOk (ndec t d).2.1 ∧ (ndec t d).1.length = 64 := by
  obtain ⟨h1, h2, h3⟩ := tdec_ok (k := 6) (t := t) (j := 1) h
  refine ⟨?_, h2.trans ht⟩
  show DecOk (if _ then _ else _)
  split
  · exact h1
  · exact ddir_ok h1 _
end Go.Proofs.YtncnmfdmbfbfjaaGreat
end
section
set_option linter.unusedVariables false
set_option linter.unusedSimpArgs false
set_option maxRecDepth 4000
namespace Go.Proofs.YtncnmfdmbfbfjaaGreat
open Go.Gh Go.RowKit

/-- The start behind an encoder. -/
theorem start_full {n : Nat} {f : Enc} (hok : EncOk n f) (w : Within encZ f) : (dnew (fin f)).full = false := by
  have hv := fin_val hok.low
  have ha := within_at w (fin_len _) hv (by have := hok.size; omega)
  have hlen : 4 ≤ (fin f).length := by rw [fin_len]; omega
  generalize fin f = D at *
  obtain ⟨a, b, c, d, r, rfl⟩ := four hlen
  · have h1 := a.toNat_lt; have h2 := b.toNat_lt; have h3 := c.toNat_lt; have h5 := d.toNat_lt
    have hv4 : val [a, b, c, d] = ((a.toNat * 256 + b.toNat) * 256 + c.toNat) * 256 + d.toNat := by simp [val]
    have ha2 : (val [a, b, c, d] : Int) < 4294967295 := by
      have := ha.2
      rw [show num' encZ + encZ.size = 4294967295 from rfl] at this
      exact this
    show decide ((((0 * 256 % 4294967296 + (a.toNat : Int)) * 256 % 4294967296 + (b.toNat : Int)) * 256 % 4294967296 + (c.toNat : Int)) * 256 % 4294967296 + (d.toNat : Int) = 4294967295) = false
    rw [decide_eq_false_iff_not]
    omega
theorem start_syn {n : Nat} {f : Enc} (hok : EncOk n f) (w : Within encZ f) : Syn (fin f) encZ (dnew (fin f)) := dnew_syn (by rw [fin_len]; omega) (start_full hok w)
end Go.Proofs.YtncnmfdmbfbfjaaGreat
end
section
set_option linter.unusedVariables false
set_option linter.unusedSimpArgs false
set_option maxRecDepth 4000
namespace Go.Proofs.YtncnmfdmbfbfjaaGreat
open Go.Gh Go.RowKit

theorem bat_dropN (l : List UInt8) (k i : Nat) : bat (l.drop k) (i : Int) = bat l ((k + i : Nat) : Int) := by
  unfold bat
  rw [Int.toNat_natCast, Int.toNat_natCast, List.getD_eq_getElem?_getD, List.getD_eq_getElem?_getD, List.getElem?_drop]
theorem four_of {l : List UInt8} (h : l.length = 4) : ∃ a b c d, l = [a, b, c, d] := by
  match l, h with
  | [a, b, c, d], _ => exact ⟨a, b, c, d, rfl⟩
theorem le4_at (x : BitVec 32) : bat (le4 x) 0 = (x.toNat : Int) % 256 ∧ bat (le4 x) 1 = (x.toNat : Int) / 256 % 256 ∧ bat (le4 x) 2 = (x.toNat : Int) / 65536 % 256 ∧ bat (le4 x) 3 = (x.toNat : Int) / 16777216 % 256 :=
  ⟨b8_val (by omega), b8_val (by omega), b8_val (by omega), b8_val (by omega)⟩
theorem synN_four (l : List UInt8) (k : Nat) : (synN l k 4 : Int) = bat (l.drop k) 0 + bat (l.drop k) 1 * 256 + bat (l.drop k) 2 * 65536 + bat (l.drop k) 3 * 16777216 := by
  have h0 := bat_255 l ((k + 0 : Nat) : Int)
  have h1 := bat_255 l ((k + 1 : Nat) : Int)
  have h2 := bat_255 l ((k + 2 : Nat) : Int)
  have h3 := bat_255 l ((k + 3 : Nat) : Int)
  have e0 := bat_dropN l k 0
  have e1 := bat_dropN l k 1
  have e2 := bat_dropN l k 2
  have e3 := bat_dropN l k 3
  have g0 : bat (l.drop k) 0 = bat l ((k + 0 : Nat) : Int) := e0
  have g1 : bat (l.drop k) 1 = bat l ((k + 1 : Nat) : Int) := e1
  have g2 : bat (l.drop k) 2 = bat l ((k + 2 : Nat) : Int) := e2
  have g3 : bat (l.drop k) 3 = bat l ((k + 3 : Nat) : Int) := e3
  rw [g0, g1, g2, g3]
  have e : synN l k 4 = 0 + (bat l ((k + 0 : Nat) : Int)).toNat * 1 + (bat l ((k + 1 : Nat) : Int)).toNat * 256 + (bat l ((k + 2 : Nat) : Int)).toNat * 65536 + (bat l ((k + 3 : Nat) : Int)).toNat * 16777216 := rfl
  rw [e]
  omega
theorem syn_le4 {l : List UInt8} {k : Nat} (hl : l.length = k + 4) (x : BitVec 32) : x.toNat = synN l k 4 ↔ l.drop k = le4 x := by
  have h4 := synN_four l k
  obtain ⟨a, b, c, d, e⟩ := four_of (l := l.drop k) (by rw [List.length_drop]; omega)
  have hx := x.isLt
  rw [e] at h4 ⊢
  have ha : bat [a, b, c, d] 0 = a.toNat := rfl
  have hb : bat [a, b, c, d] 1 = b.toNat := rfl
  have hc : bat [a, b, c, d] 2 = c.toNat := rfl
  have hd : bat [a, b, c, d] 3 = d.toNat := rfl
  have la := a.toNat_lt
  have lb := b.toNat_lt
  have lc := c.toNat_lt
  have ld := d.toNat_lt
  obtain ⟨q0, q1, q2, q3⟩ := le4_at x
  constructor
  · intro g
    have w : ∀ {p q : UInt8}, (p.toNat : Int) = q.toNat → p = q := fun h => UInt8.toNat_inj.1 (by omega)
    have ex : le4 x = [b8 ((x.toNat : Int) % 256), b8 ((x.toNat : Int) / 256 % 256), b8 ((x.toNat : Int) / 65536 % 256), b8 ((x.toNat : Int) / 16777216 % 256)] := rfl
    rw [ex, w (p := a) (q := b8 ((x.toNat : Int) % 256)) (by rw [b8_val (by omega)]; omega), w (p := b) (q := b8 ((x.toNat : Int) / 256 % 256)) (by rw [b8_val (by omega)]; omega),
      w (p := c) (q := b8 ((x.toNat : Int) / 65536 % 256)) (by rw [b8_val (by omega)]; omega), w (p := d) (q := b8 ((x.toNat : Int) / 16777216 % 256)) (by rw [b8_val (by omega)]; omega)]
  · intro g
    rw [← g] at q0 q1 q2 q3
    omega
/-- What Open gives. -/
def opn (l : List UInt8) : List UInt8 × Int := if 4 ≤ l.length ∧ l.drop (l.length - 4) = le4 (crcV (l.take (l.length - 4))) then (l.take (l.length - 4), 0) else ([], 12)
theorem Open_any (l : List UInt8) (h : SH) (hl : l.length ≤ 1000000) : SRun Tryz.prog 82 [S l] h fun r q => r = .tuple #[S (opn l).1, I (opn l).2] ∧ q = h := by
  unfold opn
  by_cases h4 : 4 ≤ l.length
  · obtain ⟨k, hk⟩ : ∃ k, l.length = k + 4 := ⟨l.length - 4, by omega⟩
    have hS : ∀ h, SRun Tryz.prog 99 [S l] h fun r q => ∃ x : BitVec 32, r = UB x ∧ ((x.toNat : Int) = 0 ↔ l.drop (l.length - 4) = le4 (crcV (l.take (l.length - 4)))) ∧ q = h := fun h => (syndrome_any l h hl h4).mono fun r q ⟨x, e1, e2, e3⟩ => ⟨x, e1, by
      rw [← syn_le4 (by omega), ← e2]
      constructor
      · intro g; apply BitVec.eq_of_toNat_eq; show x.toNat = 0; omega
      · rintro rfl; rfl, e3⟩
    by_cases hc : l.drop (l.length - 4) = le4 (crcV (l.take (l.length - 4)))
    · rw [if_pos ⟨h4, hc⟩]
      have hS2 : ∀ h, SRun Tryz.prog 99 [S l] h fun r q => r = .int .u32 0 ∧ q = h := fun h => (hS h).mono fun r q ⟨x, e1, e2, e3⟩ => ⟨by rw [e1]; exact congrArg (Value.int .u32) (e2.2 hc), e3⟩
      clear hS
      refine w_body1 Tryz.func82 rfl rfl ?_
      repeat' (first | apply w_seq | apply w_region | apply o_nil | (apply o_g tyOk; exact rfl; exact rfl) | (apply o_ar tyOk; exact rfl; exact rfl) | (apply o_call; exact rfl; exact rfl; (focus (first | exact rfl)); exact rfl; (focus (exact ⟨_, hS2 _, by repeat (first | with_reducible exact Take.nil)⟩)); rintro _ _ ⟨rfl, rfl⟩) | (apply o_want; exact rfl; exact rfl) | (apply o_gF; (iterate 3 exact rfl); (focus (first | omega))) | (apply w_false; exact rfl) | apply thenS_normal | apply w_skip | apply w_ret | ((with_reducible apply Sd.mk); (first | exact True.intro | omega)) | ((with_reducible apply Wr.mk); (first | exact IntWalk.i64_in _ (by omega))))
      all_goals first
        | (exfalso; omega)
        | contradiction
        | skip
      rw [show l.length - 4 = k by omega]
      (apply s_fin; (exact (show ResS _ _ _ _ [_, _] from ⟨rfl, ⟨rfl, trivial⟩⟩)); (focus (exact ⟨by rw [show ((l.length : Int) - 4).toNat = k by omega]; rfl, rfl⟩)); (focus (repeat (first | with_reducible exact Take.nil | with_reducible apply Take.c | with_reducible apply Take.drop))))
    · rw [if_neg (fun g => hc g.2)]
      have hS2 : ∀ h, SRun Tryz.prog 99 [S l] h fun r q => ∃ n : Int, r = .int .u32 n ∧ n ≠ 0 ∧ q = h := fun h => (hS h).mono fun r q ⟨x, e1, e2, e3⟩ => ⟨_, e1, fun g => hc (e2.1 g), e3⟩
      clear hS hc
      refine w_body1 Tryz.func82 rfl rfl ?_
      repeat' (first | apply w_seq | apply w_region | apply o_nil | (apply o_g tyOk; exact rfl; exact rfl) | (apply o_call; exact rfl; exact rfl; (focus (first | exact rfl)); exact rfl; (focus (exact ⟨_, hS2 _, by repeat (first | with_reducible exact Take.nil)⟩)); rintro _ _ ⟨n, rfl, hn, rfl⟩) | (apply o_want; exact rfl; exact rfl) | (apply o_gF; (iterate 3 exact rfl); (focus (first | omega))) | (apply w_dT; exact rfl; (focus (first | exact ‹_›))) | apply thenS_normal | apply thenS_ret | apply w_ret | ((with_reducible apply Sd.mk); (first | exact True.intro)))
      all_goals first
        | (exfalso; omega)
        | contradiction
        | (apply s_fin; (exact (show ResS _ _ _ _ [_, _] from ⟨rfl, ⟨rfl, trivial⟩⟩)); (focus (exact ⟨rfl, rfl⟩)); (focus (repeat (first | with_reducible exact Take.nil | with_reducible apply Take.c | with_reducible apply Take.drop))))
        | trace_state
  · rw [if_neg (fun g => h4 g.1)]
    refine w_body1 Tryz.func82 rfl rfl ?_
    repeat' (first | apply w_seq | apply w_region | apply o_nil | (apply o_g tyOk; exact rfl; exact rfl) | (apply o_skip; iterate 4 exact rfl) | (apply o_sT; (iterate 3 exact rfl); (focus (first | omega)); exact rfl) | (apply w_true; exact rfl) | apply thenS_normal | apply thenS_ret | apply w_ret | ((with_reducible apply Sd.mk); (first | exact True.intro)))
    all_goals first
      | (exfalso; omega)
      | (apply s_fin; (exact (show ResS _ _ _ _ [_, _] from ⟨rfl, ⟨rfl, trivial⟩⟩)); (focus (exact ⟨rfl, rfl⟩)); (focus (repeat (first | with_reducible exact Take.nil | with_reducible apply Take.c | with_reducible apply Take.drop))))
      | trace_state
theorem opn_seal (l : List UInt8) : opn (l ++ le4 (crcV l)) = (l, 0) := by
  have h1 : (l ++ le4 (crcV l)).length - 4 = l.length := by rw [List.length_append, le4_len]; omega
  unfold opn
  rw [h1, List.take_append_of_le_length (Nat.le_refl _), List.take_length, List.drop_append_of_le_length (Nat.le_refl _), List.drop_length, List.nil_append, if_pos ⟨by rw [List.length_append, le4_len]; omega, rfl⟩]
end Go.Proofs.YtncnmfdmbfbfjaaGreat
end
section
set_option linter.unusedVariables false
set_option linter.unusedSimpArgs false
set_option maxRecDepth 4000
namespace Go.Proofs.YtncnmfdmbfbfjaaGreat
open Go.Gh Go.RowKit

theorem vText_any (l : List UInt8) (h : SH) (hl : l.length ≤ 1000000) : SRun Tryz.prog 36 [S l] h fun r q => r = S (vnum l.length ++ l) ∧ q = h := by
  have hN := fun h => Number_any (l.length : Int) h (by omega)
  have hs1 := vnum_len (n := (l.length : Int)) (by omega)
  have hs2 := (vk_ok (n := (l.length : Int)) (by omega)).2
  generalize vnum (l.length : Int) = V at *
  refine w_body1 Tryz.func36 rfl rfl ?_
  repeat' (first | apply w_seq | apply w_region | apply o_nil | (apply o_g tyOk; exact rfl; exact rfl) | (apply o_call; exact rfl; exact rfl; (focus (first | exact rfl)); exact rfl; (focus (exact ⟨_, hN _, by repeat (first | with_reducible exact Take.nil)⟩)); rintro _ _ ⟨rfl, rfl⟩) | apply thenS_normal | apply w_ret | ((with_reducible apply Sd.mk); (first | exact True.intro | omega)))
  all_goals first
    | (exfalso; omega)
    | (apply s_fin; (exact (show ResS _ _ _ _ [_] from ⟨rfl, trivial⟩)); (focus (exact ⟨rfl, rfl⟩)); (focus (repeat (first | with_reducible exact Take.nil | with_reducible apply Take.c | with_reducible apply Take.drop))))
    | trace_state
/-- What Take gives. -/
def tkR (l : List UInt8) (e x : Int) : List UInt8 × List UInt8 × Int := if e ≠ 0 then ([], l, e) else if x < 0 then ([], l, 2) else if l.length < x then ([], l, 12) else (l.take x.toNat, l.drop x.toNat, 0)
theorem rTakeG_any (n : Nat) (l : List UInt8) (e x : Int) (h : SH) (hl : l.length ≤ 1000000) : SRun Tryz.prog 79 [gptr n 0 2, I x] (rdB n l e :: h) fun r q => r = S (tkR l e x).1 ∧ q = rdB n (tkR l e x).2.1 (tkR l e x).2.2 :: h := by
  unfold tkR
  by_cases he : e = 0
  · subst he
    rw [if_neg (fun k => k rfl)]
    by_cases h1 : x < 0
    · rw [if_pos h1]
      refine w_body2 Tryz.func79 rfl rfl ?_
      repeat' (first | apply w_seq | apply w_region | apply o_nil | (apply o_g tyOk; exact rfl; exact rfl) | (apply o_load tyOk; (iterate 3 exact rfl); (focus (exact pk))) | (apply o_call; exact rfl; exact rfl; (focus (first | exact rfl)); exact rfl; (focus (exact ⟨_, rfail_any _ _ _ _ _, by repeat (first | with_reducible exact Take.nil)⟩)); rintro _ _ rfl) | (apply w_false; exact rfl) | (apply w_dT; exact rfl; (focus (first | exact ‹_›))) | apply thenS_normal | apply blockS_normal | apply w_ret | apply w_block | ((with_reducible apply Sd.mk); (first | exact True.intro)) | ((with_reducible apply Ln.mk); (first | rfl)) | ((with_reducible apply Ce.mk); (first | rfl)) | exact True.intro | exact rfl)
      all_goals first
        | (exfalso; omega)
        | (apply s_fin; (exact (show ResS _ _ _ _ [_] from ⟨rfl, trivial⟩)); (focus (exact ⟨rfl, rfl⟩)); (focus (repeat (first | with_reducible exact Take.nil | with_reducible apply Take.c | with_reducible apply Take.drop))))
        | contradiction
        | trace_state
    rw [if_neg h1]
    by_cases h2 : (l.length : Int) < x
    · rw [if_pos h2]
      refine w_body2 Tryz.func79 rfl rfl ?_
      repeat' (first | apply w_seq | apply w_region | apply o_nil | (apply o_g tyOk; exact rfl; exact rfl) | (apply o_load tyOk; (iterate 3 exact rfl); (focus (exact pk))) | (apply o_call; exact rfl; exact rfl; (focus (first | exact rfl)); exact rfl; (focus (exact ⟨_, rfail_any _ _ _ _ _, by repeat (first | with_reducible exact Take.nil)⟩)); rintro _ _ rfl) | (apply w_false; exact rfl) | (apply w_dT; exact rfl; (focus (first | exact ‹_›))) | (apply w_dF; exact rfl; (focus (first | omega))) | apply thenS_normal | apply blockS_normal | apply w_ret | apply w_block | ((with_reducible apply Sd.mk); (first | exact True.intro)) | ((with_reducible apply Ln.mk); (first | rfl)) | ((with_reducible apply Ce.mk); (first | rfl)) | exact True.intro | exact rfl)
      all_goals first
        | (exfalso; omega)
        | (apply s_fin; (exact (show ResS _ _ _ _ [_] from ⟨rfl, trivial⟩)); (focus (exact ⟨rfl, rfl⟩)); (focus (repeat (first | with_reducible exact Take.nil | with_reducible apply Take.c | with_reducible apply Take.drop))))
        | contradiction
        | trace_state
    rw [if_neg h2]
    exact rTake_any n l x h (by omega) (by omega)
  · rw [if_pos he]
    refine w_body2 Tryz.func79 rfl rfl ?_
    repeat' (first | apply w_seq | apply w_region | apply o_nil | (apply o_g tyOk; exact rfl; exact rfl) | (apply o_load tyOk; (iterate 3 exact rfl); (focus (exact pk))) | (apply w_dT; exact rfl; (focus (first | exact ‹_›))) | apply thenS_normal | apply blockS_normal | apply w_skip | apply w_ret | apply w_block | ((with_reducible apply Sd.mk); (first | exact True.intro)) | ((with_reducible apply Ln.mk); (first | rfl)) | ((with_reducible apply Ce.mk); (first | rfl)) | exact True.intro | exact rfl)
    all_goals first
      | (exfalso; omega)
      | contradiction
      | (apply s_fin; (exact (show ResS _ _ _ _ [_] from ⟨rfl, trivial⟩)); (focus (exact ⟨rfl, rfl⟩)); (focus (repeat (first | with_reducible exact Take.nil | with_reducible apply Take.c | with_reducible apply Take.drop))))
      | trace_state
/-- A text in front, if there is one: the text, and what is left. -/
def txt (l : List UInt8) : Option (List UInt8 × List UInt8) :=
  if (rdN l 4096).2.2 = 0 ∧ (rdN l 4096).1 ≤ (rdN l 4096).2.1.length then some ((rdN l 4096).2.1.take (rdN l 4096).1.toNat, (rdN l 4096).2.1.drop (rdN l 4096).1.toNat) else none
def txtR (l : List UInt8) (r : Value) (n : Nat) (q : SH) (h : SH) : Prop := match txt l with
  | some (s, d) => r = S s ∧ q = rdB n d 0 :: h
  | none => ∃ e, e ≠ 0 ∧ r = S [] ∧ q = rdB n l e :: h
theorem rText_any (n : Nat) (l : List UInt8) (h : SH) (hl : l.length ≤ 1000000) : SRun Tryz.prog 78 [gptr n 0 2, I 4096] (rdB n l 0 :: h) fun r q => txtR l r n q h := by
  have hN := fun h => rNumber_any n l 4096 h hl
  obtain ⟨k1, k2⟩ := rdN_ok l 4096
  obtain ⟨T, hT⟩ : ∃ T, txt l = T := ⟨_, rfl⟩
  unfold txtR
  rw [hT]
  unfold txt at hT
  generalize rdN l 4096 = V at *
  obtain ⟨x, d, e⟩ := V
  dsimp only at *
  have hK := fun h => rTakeG_any n d e x h (by omega)
  have hz : e ≠ 0 → tkR d e x = ([], d, e) := fun g => if_pos g
  by_cases he : e = 0
  · subst he
    have hx := k2 rfl
    by_cases h2 : x ≤ d.length
    · rw [if_pos ⟨rfl, h2⟩] at hT
      subst hT
      rw [show tkR d 0 x = (d.take x.toNat, d.drop x.toNat, 0) by unfold tkR; rw [if_neg (fun k => k rfl), if_neg (by omega), if_neg (by omega)]] at hK
      refine w_body2 Tryz.func78 rfl rfl ?_
      repeat' (first | apply w_seq | apply w_region | apply o_nil | (apply o_g tyOk; exact rfl; exact rfl) | (apply o_load tyOk; (iterate 3 exact rfl); (focus (exact pk))) | (apply o_makeFunc; iterate 3 exact rfl) | (apply o_call; exact rfl; exact rfl; (focus (first | exact rfl)); exact rfl; (focus (exact ⟨_, hN _, by repeat (first | with_reducible exact Take.nil)⟩)); rintro _ _ ⟨rfl, rfl⟩) | (apply o_call; exact rfl; exact rfl; (focus (first | exact rfl)); exact rfl; (focus (exact ⟨_, hK _, by repeat (first | with_reducible exact Take.nil)⟩)); rintro _ _ ⟨rfl, rfl⟩) | (apply w_false; exact rfl) | apply thenS_normal | apply w_skip | apply w_ret | ((with_reducible apply Sd.mk); (first | exact True.intro)) | ((with_reducible apply Ln.mk); (first | rfl)) | ((with_reducible apply Ce.mk); (first | rfl)) | exact True.intro | exact rfl)
      all_goals first
        | contradiction
        | (apply s_fin; (exact (show ResS _ _ _ _ [_] from ⟨rfl, trivial⟩)); (focus (exact ⟨rfl, rfl⟩)); (focus (repeat (first | with_reducible exact Take.nil | with_reducible apply Take.c | with_reducible apply Take.drop))))
        | trace_state
    · rw [if_neg (fun g => h2 g.2)] at hT
      subst hT
      rw [show tkR d 0 x = ([], d, 12) by unfold tkR; rw [if_neg (fun k => k rfl), if_neg (by omega), if_pos (by omega)]] at hK
      refine w_body2 Tryz.func78 rfl rfl ?_
      repeat' (first | apply w_seq | apply w_region | apply o_nil | (apply o_g tyOk; exact rfl; exact rfl) | (apply o_load tyOk; (iterate 3 exact rfl); (focus (exact pk))) | (apply o_store tyOk; (iterate 4 exact rfl); (focus (exact up))) | (apply o_makeFunc; iterate 3 exact rfl) | (apply o_call; exact rfl; exact rfl; (focus (first | exact rfl)); exact rfl; (focus (exact ⟨_, hN _, by repeat (first | with_reducible exact Take.nil)⟩)); rintro _ _ ⟨rfl, rfl⟩) | (apply o_call; exact rfl; exact rfl; (focus (first | exact rfl)); exact rfl; (focus (exact ⟨_, hK _, by repeat (first | with_reducible exact Take.nil)⟩)); rintro _ _ ⟨rfl, rfl⟩) | (apply w_true; exact rfl) | apply thenS_normal | apply thenS_ret | apply w_ret | ((with_reducible apply Sd.mk); (first | exact True.intro)) | ((with_reducible apply Ln.mk); (first | rfl)) | ((with_reducible apply Ce.mk); (first | rfl)) | ((with_reducible apply Se.mk); (first | (focus ((repeat (first | exact SetAt.zero)); done)))) | exact True.intro | exact rfl)
      all_goals first
        | contradiction
        | (apply s_fin; (exact (show ResS _ _ _ _ [_] from ⟨rfl, trivial⟩)); (focus (exact ⟨12, by decide, rfl, rfl⟩)); (focus (repeat (first | with_reducible exact Take.nil | with_reducible apply Take.c | with_reducible apply Take.drop))))
        | trace_state
  · rw [if_neg (fun g => he g.1)] at hT
    subst hT
    rw [hz he] at hK
    refine w_body2 Tryz.func78 rfl rfl ?_
    repeat' (first | apply w_seq | apply w_region | apply o_nil | (apply o_g tyOk; exact rfl; exact rfl) | (apply o_load tyOk; (iterate 3 exact rfl); (focus (exact pk))) | (apply o_store tyOk; (iterate 4 exact rfl); (focus (exact up))) | (apply o_makeFunc; iterate 3 exact rfl) | (apply o_call; exact rfl; exact rfl; (focus (first | exact rfl)); exact rfl; (focus (exact ⟨_, hN _, by repeat (first | with_reducible exact Take.nil)⟩)); rintro _ _ ⟨rfl, rfl⟩) | (apply o_call; exact rfl; exact rfl; (focus (first | exact rfl)); exact rfl; (focus (exact ⟨_, hK _, by repeat (first | with_reducible exact Take.nil)⟩)); rintro _ _ ⟨rfl, rfl⟩) | (apply w_dT; exact rfl; (focus (first | exact ‹_›))) | apply thenS_normal | apply thenS_ret | apply w_ret | ((with_reducible apply Sd.mk); (first | exact True.intro)) | ((with_reducible apply Ln.mk); (first | rfl)) | ((with_reducible apply Ce.mk); (first | rfl)) | ((with_reducible apply Se.mk); (first | (focus ((repeat (first | exact SetAt.zero)); done)))) | exact True.intro | exact rfl)
    all_goals first
      | contradiction
      | (apply s_fin; (exact (show ResS _ _ _ _ [_] from ⟨rfl, trivial⟩)); (focus (exact ⟨e, he, rfl, rfl⟩)); (focus (repeat (first | with_reducible exact Take.nil | with_reducible apply Take.c | with_reducible apply Take.drop))))
      | trace_state
end Go.Proofs.YtncnmfdmbfbfjaaGreat
end
section
set_option linter.unusedVariables false
set_option linter.unusedSimpArgs false
set_option maxRecDepth 4000
namespace Go.Proofs.YtncnmfdmbfbfjaaGreat
open Go.Gh Go.RowKit

theorem DirectT_any (n : Nat) (x v : Int) (e : Enc) (h p : SH) (hb : EncT n h none e p) (hok : EncOk 999000 e) :
    SRun Tryz.prog 75 [gptr n 0 3, I x, I v] p fun _ q => EncT n h none (edir e x v) q := by
  refine w_body3 Tryz.func75 rfl rfl ?_
  repeat' (first | apply w_seq | apply w_region | apply o_nil | (apply o_g tyOk; exact rfl; exact rfl) | (apply o_ar tyOk; exact rfl; exact rfl) | (apply o_want; exact rfl; exact rfl) | (apply o_skip; iterate 4 exact rfl) | (apply o_guardF; (iterate 3 exact rfl); all_goals intro hc) | (apply w_true; exact rfl) | (apply w_if; exact rfl; all_goals intro hc) | apply thenS_normal | apply thenS_ret | apply w_skip | apply w_ret | apply w_block | ((with_reducible apply Sd.mk); (first | exact True.intro)) | ((with_reducible apply Wr.mk); (first | exact IntWalk.i64_in _ (by omega))))
  all_goals first | (apply s_fin; (exact (show ResS _ _ _ _ [] from trivial)); (focus (rw [show edir e x v = e from if_pos (by omega)]; exact hb)); (focus (repeat (first | with_reducible exact Take.nil | with_reducible apply Take.c | with_reducible apply Take.drop)))) | skip
  obtain ⟨m, rfl⟩ := Int.eq_ofNat_of_zero_le (show 0 ≤ x by omega)
  have he : edir e m v = ebits v m e := if_neg (by omega)
  refine w_loop (S := Nat × Enc × SH × Nat) (fun x => [(0, gptr n 0 3), (2, I v), (6, I ((x.1 : Int) - 1))]) (fun x => x.2.2.1) (fun x => EncT n h none x.2.1 x.2.2.1 ∧ EncOk x.2.2.2 x.2.1 ∧ x.2.2.2 + 2 * x.1 ≤ 999200 ∧ x.1 ≤ m ∧ ebits v x.1 x.2.1 = edir e m v)
    (fun x => x.1) (m, e, p, 999000) ⟨hb, hok, by show 999000 + 2 * m ≤ _; omega, Nat.le_refl _, he.symm⟩ (by repeat' (first | exact trivial | refine ⟨rfl, ?_⟩ | refine ⟨congrArg some ?_, ?_⟩)) (by repeat (first | with_reducible exact Take.nil | with_reducible apply Take.c | with_reducible apply Take.drop)) ?_
  rintro ⟨k, e1, p1, c⟩ ⟨hb1, hok1, hc1, hkm, he1⟩
  dsimp only at *
  cases k with
  | zero =>
    repeat' (first | apply w_seq | apply w_region | apply o_nil | (apply o_g tyOk; exact rfl; exact rfl) | (apply w_false; exact rfl) | apply thenS_normal | apply thenS_exit | apply blockS_exit | apply w_exit | ((with_reducible apply Sd.mk); (first | exact True.intro)))
    (apply s_finN; (exact (show ResS _ _ _ _ [] from trivial)); (focus (rw [← he1]; exact hb1)); (focus (repeat (first | with_reducible exact Take.nil | with_reducible apply Take.c | with_reducible apply Take.drop))))
  | succ k =>
    rw [show ((k + 1 : Nat) : Int) - 1 = k by omega]
    repeat' (first | apply w_seq | apply w_region | apply o_nil | (apply o_g tyOk; exact rfl; exact rfl) | (apply o_ar tyOk; exact rfl; exact rfl) | (apply o_ex; exact rfl; exact rfl) | (apply o_call; exact rfl; exact rfl; (focus (first | exact rfl)); exact rfl; (focus (exact ⟨_, BitT_any _ _ _ _ _ _ _ hb1 (hok1.mono (by omega)), by repeat (first | with_reducible exact Take.nil)⟩)); rintro _ _ hb2) | (apply w_true; exact rfl) | apply thenS_normal | apply blockS_normal | apply w_skip | apply w_block | ((with_reducible apply Sd.mk); (first | exact True.intro | omega)) | ((with_reducible apply Wr.mk); (first | exact w_and1 _ | exact IntWalk.i64_in _ (by omega))) | ((with_reducible apply Ex.mk); (first | exact ex_shrk (by omega))))
    exact ⟨(k, _, _, c + 2), ⟨hb2, ebit_ok hok1 _ _, by show c + 2 + 2 * k ≤ _; omega, by show k ≤ m; omega, he1⟩, by show k < k + 1; omega, (by repeat' (first | exact trivial | refine ⟨rfl, ?_⟩ | refine ⟨congrArg some ?_, ?_⟩)), (by repeat (first | with_reducible exact Take.nil | with_reducible apply Take.c | with_reducible apply Take.drop))⟩
theorem numEncT (n M N m : Nat) (t : List Int) (e : Enc) (v : Int) (h p : SH) (hb : EncT n ((M, ⟨numC N, false⟩) :: (N, ⟨nodes t, false⟩) :: h) none e p) (ht : t.length = 64) (hok : EncOk m e) (hm : m + 12 ≤ 999000) :
    SRun Tryz.prog 52 [gptr M 0 2, gptr n 0 3, I v] p fun _ q => EncT n ((M, ⟨numC N, false⟩) :: (N, ⟨nodes (tenc v 6 t e 1).1, false⟩) :: h) none (tenc v 6 t e 1).2 q := by
  have hb' : EncT n ((M, ⟨numC N, false⟩) :: (N, ⟨nodes ([] ++ t ++ []), false⟩) :: h) none e p := by rw [List.nil_append, List.append_nil]; exact hb
  have := TreeEncodeT n M N 0 2 64 6 m none (numC N) [] [] t e v h p hb' rfl rfl rfl rfl ht (by decide) hok hm
  rw [List.nil_append, List.append_nil] at this
  exact this.mono fun _ _ g => g.2
theorem NumEncodeT_any (n M N m : Nat) (t : List Int) (e : Enc) (v : Int) (h p : SH) (hb : EncT n ((M, ⟨numC N, false⟩) :: (N, ⟨nodes t, false⟩) :: h) none e p) (ht : t.length = 64) (hok : EncOk m e) (hm : m + 200 ≤ 999000) :
    SRun Tryz.prog 54 [gptr M 0 2, gptr n 0 3, I v] p fun _ q => EncT n ((M, ⟨numC N, false⟩) :: (N, ⟨nodes (nenc t e v).1, false⟩) :: h) none (nenc t e v).2 q := by
  by_cases hv : v < 0 ∨ 4611686018427387903 < v
  · have hx : ncut v = 0 := if_pos hv
    have e1 : nenc t e v = tenc 0 6 t e 1 := by unfold nenc; rw [hx]; rfl
    rw [e1]
    have hL : ∀ h, SRun Tryz.prog 74 [.int .u64 0] h fun r q => r = I 0 ∧ q = h := fun h => bLen_any 0 h (by decide)
    have hE := numEncT n M N m t e 0 h p hb ht hok (by omega)
    refine w_body3 Tryz.func54 rfl rfl ?_
    repeat' (first | apply w_seq | apply w_region | apply o_nil | (apply o_g tyOk; exact rfl; exact rfl) | (apply o_ar tyOk; exact rfl; exact rfl) | (apply o_call; exact rfl; exact rfl; (focus (first | exact rfl)); exact rfl; (focus (exact ⟨_, hL _, by repeat (first | with_reducible exact Take.nil)⟩)); rintro _ _ ⟨rfl, rfl⟩) | (apply o_call; exact rfl; exact rfl; (focus (first | exact rfl)); exact rfl; (focus (exact ⟨_, hE, by repeat (first | with_reducible exact Take.nil)⟩)); rintro _ _ hb2) | (apply o_want; exact rfl; exact rfl) | (apply o_skip; iterate 4 exact rfl) | (apply o_guardF; (iterate 3 exact rfl); all_goals intro hc) | (apply w_true; exact rfl) | (apply w_false; exact rfl) | (apply w_dT; exact rfl; (focus (first | omega))) | apply thenS_normal | apply w_skip | ((with_reducible apply Sd.mk); (first | exact True.intro)) | ((with_reducible apply Wr.mk); (first | exact IntWalk.u64_in _ (by omega))))
    all_goals first
      | (exfalso; omega)
      | (apply s_finN; (exact (show ResS _ _ _ _ [] from trivial)); (focus (exact hb2)); (focus (repeat (first | with_reducible exact Take.nil | with_reducible apply Take.c | with_reducible apply Take.drop))))
      | trace_state
  · have hx : ncut v = v := if_neg hv
    obtain ⟨x, rfl⟩ := Int.eq_ofNat_of_zero_le (show 0 ≤ v by omega)
    have hl : blen x ≤ 62 := blen_le (by have : (2 : Nat) ^ 62 = 4611686018427387904 := rfl; omega)
    have hL : ∀ h, SRun Tryz.prog 74 [.int .u64 x] h fun r q => r = I (blen x) ∧ q = h := fun h => bLen_any x h (by omega)
    have e1 : nenc t e x = ((tenc (blen x) 6 t e 1).1, if 2 ≤ blen x then edir (tenc (blen x) 6 t e 1).2 ((blen x : Int) - 1) x else (tenc (blen x) 6 t e 1).2) := by unfold nenc; rw [hx]; rfl
    rw [e1]
    generalize blen x = l at *
    have hE := numEncT n M N m t e l h p hb ht hok (by omega)
    have hok2 : EncOk 999000 (tenc l 6 t e 1).2 := (tenc_ok (v := (l : Int)) (k := 6) (t := t) (j := 1) hok).1.mono (by omega)
    generalize tenc l 6 t e 1 = T at *
    dsimp only
    refine w_body3 Tryz.func54 rfl rfl ?_
    repeat' (first | apply w_seq | apply w_region | apply o_nil | (apply o_g tyOk; exact rfl; exact rfl) | (apply o_ar tyOk; exact rfl; exact rfl) | (apply o_call; exact rfl; exact rfl; (focus (first | exact rfl)); exact rfl; (focus (exact ⟨_, hL _, by repeat (first | with_reducible exact Take.nil)⟩)); rintro _ _ ⟨rfl, rfl⟩) | (apply o_call; exact rfl; exact rfl; (focus (first | exact rfl)); exact rfl; (focus (exact ⟨_, hE, by repeat (first | with_reducible exact Take.nil)⟩)); rintro _ _ hb2) | (apply o_call; exact rfl; exact rfl; (focus (first | exact rfl)); exact rfl; (focus (exact ⟨_, DirectT_any _ _ _ _ _ _ hb2 hok2, by repeat (first | with_reducible exact Take.nil)⟩)); rintro _ _ hb3) | (apply o_want; exact rfl; exact rfl) | (apply w_dF; exact rfl; (focus (first | omega))) | (apply w_if; exact rfl; all_goals intro hc) | apply thenS_normal | apply w_skip | ((with_reducible apply Sd.mk); (first | exact True.intro)) | ((with_reducible apply Wr.mk); (first | exact IntWalk.i64_in _ (by omega) | exact IntWalk.u64_in _ (by omega))))
    all_goals first
      | (exfalso; omega)
      | (rw [if_pos (by omega)]; (apply s_finN; (exact (show ResS _ _ _ _ [] from trivial)); (focus (exact hb3)); (focus (repeat (first | with_reducible exact Take.nil | with_reducible apply Take.c | with_reducible apply Take.drop)))))
      | (rw [if_neg (by omega)]; (apply s_finN; (exact (show ResS _ _ _ _ [] from trivial)); (focus (exact hb2)); (focus (repeat (first | with_reducible exact Take.nil | with_reducible apply Take.c | with_reducible apply Take.drop)))))
      | trace_state
/-- The same encoder over other blocks. -/
theorem EncT.re {n : Nat} {a : Option Nat} {h h' p : SH} {e : Enc} (hb : EncT n h a e p) (t : Take h h') : ∃ p', EncT n h' a e p' ∧ Take p p' := by
  cases hb with
  | nil low size ha => exact ⟨_, .nil _ _ ha, .cons .head t⟩
  | some o low size A ha ho => exact ⟨_, .some _ _ _ _ ha ho, .cons .head (.cons .head t)⟩
theorem EncT.none' {n : Nat} {a : Option Nat} {h p : SH} {e : Enc} (hb : EncT n h a e p) : EncT n h none e p := by
  cases hb with
  | nil low size ha => exact .nil _ _ rfl
  | some o low size A ha ho => exact .some _ _ _ _ (fun _ g => by cases g) ho
end Go.Proofs.YtncnmfdmbfbfjaaGreat
end
section
set_option linter.unusedVariables false
set_option linter.unusedSimpArgs false
set_option maxRecDepth 4000
namespace Go.Proofs.YtncnmfdmbfbfjaaGreat
open Go.Gh Go.RowKit

/-- Costs: of a literal, of a copy, of a bit of a distance, of a bit of a length. -/
structure Cst where
  lit : Int
  cpy : Int
  dst : Int
  len : Int
abbrev csC (c : Cst) : List Value := [I c.lit, I c.cpy, I c.dst, I c.len]
abbrev csV (c : Cst) : Value := .agg ⟨csC c⟩
/-- A piece: length, distance, byte. -/
abbrev Pc := Int × Int × Int
abbrev pcC (t : Pc) : List Value := [I t.1, I t.2.1, .int .u8 t.2.2]
abbrev pcV (t : Pc) : Value := .agg ⟨pcC t⟩
theorem pcW (t : Pc) : (pcC t).length = 3 := rfl
@[simp] theorem len_pcs (l : List Pc) : (recs pcC l).length = 3 * l.length := by rw [recs_len pcW]; omega
abbrev one1 (n : Int) : Prop := 0 ≤ n ∧ n ≤ 1000
abbrev vC (c : Cst) : Prop := one1 c.lit ∧ one1 c.cpy ∧ one1 c.dst ∧ one1 c.len
/-- A valid piece. -/
abbrev vP (t : Pc) : Prop := (t.2.1 = 0 ∧ t.1 = 1) ∨ (1 ≤ t.2.1 ∧ t.2.1 ≤ 4096 ∧ 2 ≤ t.1 ∧ t.1 ≤ 273 ∧ t.2.2 = 0)
def iblen (n : Int) : Int := (blen n.toNat : Int)
theorem iblen_pos {n : Int} (h : 0 ≤ n ∧ n < 8192) : 0 ≤ iblen n ∧ iblen n ≤ 13 := by
  have := blen_le (n := n.toNat) (k := 13) (by omega)
  unfold iblen; omega
/-- The price of a valid piece. -/
def price (c : Cst) (t : Pc) : Int := if t.2.1 = 0 then c.lit else c.cpy + c.dst * iblen t.2.1 + c.len * iblen t.1
theorem mul_in {a b : Int} (ha : one1 a) (hb : 0 ≤ b ∧ b ≤ 13) : 0 ≤ a * b ∧ a * b ≤ 13000 := by
  have h1 := Int.mul_le_mul_of_nonneg_left hb.2 ha.1
  have h2 := Int.mul_nonneg ha.1 hb.1
  omega
theorem price_in {c : Cst} {t : Pc} (hc : vC c) (ht : vP t) : 0 ≤ price c t ∧ price c t ≤ 27000 := by
  obtain ⟨h1, h2, h3, h4⟩ := hc
  unfold price
  split
  · omega
  · rcases ht with ht | ht
    · omega
    · have := mul_in h3 (iblen_pos (n := t.2.1) (by omega))
      have := mul_in h4 (iblen_pos (n := t.1) (by omega))
      omega

theorem validC_any (c : Cst) (h : SH) : SRun Tryz.prog 87 [csV c] h fun r q => r = B (decide (vC c)) ∧ q = h := by
  obtain ⟨a, b, d, e⟩ := c
  refine w_body1 Tryz.func87 rfl rfl ?_
  repeat' (first | apply w_seq | apply w_region | apply o_nil | (apply o_g tyOk; exact rfl; exact rfl) | (apply o_load tyOk; (iterate 3 exact rfl); (focus (exact pk))) | (apply o_box (tt := tyT); iterate 5 exact rfl) | (apply o_buildSlice tyOk; (iterate 5 exact rfl); (focus (decide)); exact rfl; (focus (decide)); (focus (repeat (first | exact CatR.nil | (apply CatR.one; exact rfl; exact rfl)))); exact rfl) | apply thenS_normal | apply w_block | ((with_reducible apply Sd.mk); (first | exact True.intro)) | ((with_reducible apply Ln.mk); (first | rfl)) | ((with_reducible apply Ce.mk); (first | rfl)) | exact True.intro | intro A | exact rfl)
  refine w_loop (S := Nat) (fun k => [(13, gsl A 0 (4 * 1) 4 1), (14, I 4), (15, I k)]) (fun _ => (A, ⟨[a, b, d, e].map (fun z => I z), false⟩) :: h) (fun k => k ≤ 4 ∧ ∀ i, i < k → one1 [a, b, d, e][i]!) (fun k => 4 - k) 0 ⟨by omega, by omega⟩ (by repeat' (first | exact trivial | refine ⟨rfl, ?_⟩ | refine ⟨congrArg some ?_, ?_⟩)) (by repeat (first | with_reducible exact Take.nil | with_reducible apply Take.c | with_reducible apply Take.drop)) ?_
  rintro k ⟨hk, hs⟩
  by_cases hkl : k < 4
  · have hl : k < [a, b, d, e].length := hkl
    have hall : (∀ i, i < 4 → one1 [a, b, d, e][i]!) ↔ one1 a ∧ one1 b ∧ one1 d ∧ one1 e :=
      ⟨fun g => ⟨g 0 (by omega), g 1 (by omega), g 2 (by omega), g 3 (by omega)⟩, fun g i hi => by match i, hi with | 0, _ => exact g.1 | 1, _ => exact g.2.1 | 2, _ => exact g.2.2.1 | 3, _ => exact g.2.2.2⟩
    repeat' (first | apply w_seq | apply w_region | apply o_nil | (apply o_g tyOk; exact rfl; exact rfl) | (apply o_ar tyOk; exact rfl; exact rfl) | (apply o_load tyOk; (iterate 3 exact rfl); (focus (exact pk))) | (apply o_want; exact rfl; exact rfl) | (apply o_skip; iterate 4 exact rfl) | (apply o_guardF; (iterate 3 exact rfl); all_goals intro hc) | (apply w_true; exact rfl) | (apply w_dT; exact rfl; (focus (first | omega))) | (apply w_if; exact rfl; all_goals intro hc) | apply thenS_normal | apply thenS_ret | apply blockS_normal | apply blockS_ret | apply w_skip | apply w_ret | apply w_block | ((with_reducible apply Sd.mk); (first | exact True.intro | omega)) | ((with_reducible apply Ln.mk); (first | rfl)) | ((with_reducible apply Wr.mk); (first | exact IntWalk.i64_in _ (by omega))) | ((with_reducible apply Ce.mk); (first | exact cell_mapZ (by omega))) | exact True.intro | exact rfl)
    all_goals first
      | (apply s_fin; (exact (show ResS _ _ _ _ [_] from ⟨rfl, trivial⟩)); (focus (refine ⟨?_, rfl⟩; show B _ = B _; congr 1; symm; rw [decide_eq_false_iff_not]; intro g; have := hall.2 g k hkl; omega)); (focus (repeat (first | with_reducible exact Take.nil | with_reducible apply Take.c | with_reducible apply Take.drop))))
      | exact ⟨k + 1, ⟨hkl, fun i hi => by
          by_cases e2 : i = k
          · subst e2; omega
          · exact hs i (by omega)⟩, by omega, (by repeat' (first | exact trivial | refine ⟨rfl, ?_⟩ | refine ⟨congrArg some ?_, ?_⟩)), (by repeat (first | with_reducible exact Take.nil | with_reducible apply Take.c | with_reducible apply Take.drop))⟩
  · repeat' (first | apply w_seq | apply w_region | apply o_nil | (apply o_g tyOk; exact rfl; exact rfl) | (apply w_dF; exact rfl; (focus (first | omega))) | apply thenS_normal | apply thenS_exit | apply blockS_exit | apply w_ret | apply w_exit | ((with_reducible apply Sd.mk); (first | exact True.intro)))
    (apply s_fin; (exact (show ResS _ _ _ _ [_] from ⟨rfl, trivial⟩)); (focus (refine ⟨?_, rfl⟩; show B _ = B _; congr 1; symm; rw [decide_eq_true_eq]; exact ⟨hs 0 (by omega), hs 1 (by omega), hs 2 (by omega), hs 3 (by omega)⟩)); (focus (repeat (first | with_reducible exact Take.nil | with_reducible apply Take.c | with_reducible apply Take.drop))))
theorem vP_nat {t : Pc} (h : vP t) : ∃ (a b : Nat) (y : Int), t = ((a : Int), (b : Int), y) ∧ a ≤ 273 ∧ b ≤ 4096 := by
  obtain ⟨a, b, y⟩ := t
  have h' : (b = 0 ∧ a = 1) ∨ (1 ≤ b ∧ b ≤ 4096 ∧ 2 ≤ a ∧ a ≤ 273 ∧ y = 0) := h
  exact ⟨a.toNat, b.toNat, y, by rw [Int.toNat_of_nonneg (by omega), Int.toNat_of_nonneg (by omega)], by omega, by omega⟩
theorem price_nat (c : Cst) (a b : Nat) (y : Int) : price c ((a : Int), (b : Int), y) = if (b : Int) = 0 then c.lit else c.cpy + c.dst * (blen b : Int) + c.len * (blen a : Int) := rfl
theorem price_any (c : Cst) (t : Pc) (h : SH) (hc : vC c) (ht : vP t) : SRun Tryz.prog 90 [csV c, pcV t] h fun r q => r = I (price c t) ∧ q = h := by
  have hin := price_in hc ht
  obtain ⟨a, b, y, rfl, ha, hb⟩ := vP_nat ht
  rw [price_nat] at hin ⊢
  have m1 := mul_in hc.2.2.1 (b := (blen b : Int)) (by have := blen_le (n := b) (k := 13) (by omega); omega)
  have m2 := mul_in hc.2.2.2 (b := (blen a : Int)) (by have := blen_le (n := a) (k := 13) (by omega); omega)
  have h2 := hc.2.1
  show SRun _ _ [csV c, .agg ⟨[I a, I b, .int .u8 y]⟩] h _
  refine w_body2 Tryz.func90 rfl rfl ?_
  repeat' (first | apply w_seq | apply w_region | apply o_nil | (apply w_draw; (focus (kernel_rfl)); (focus (kernel_rfl))) | (apply o_g tyOk; exact rfl; exact rfl) | (apply o_ar tyOk; exact rfl; exact rfl) | (apply o_load tyOk; (iterate 3 exact rfl); (focus (exact pk))) | (apply o_box (tt := tyT); iterate 5 exact rfl) | (apply o_callD; (iterate 4 exact rfl); (focus (exact ⟨_, bLen_any b _ (by omega), by repeat (first | with_reducible exact Take.nil)⟩)); (focus (exact fun _ _ h => h.1)); (focus ((repeat (first | exact Flat.c rfl))))) | (apply o_callD; (iterate 4 exact rfl); (focus (exact ⟨_, bLen_any a _ (by omega), by repeat (first | with_reducible exact Take.nil)⟩)); (focus (exact fun _ _ h => h.1)); (focus ((repeat (first | exact Flat.c rfl))))) | (apply w_if; exact rfl; all_goals intro hc) | apply thenS_normal | apply thenS_ret | apply w_skip | apply w_ret | ((with_reducible apply Sd.mk); (first | exact True.intro)) | ((with_reducible apply Ln.mk); (first | rfl)) | ((with_reducible apply Wr.mk); (first | exact IntWalk.i64_in _ (by omega) | exact IntWalk.u64_in _ (by omega))) | ((with_reducible apply Ce.mk); (first | rfl)) | exact True.intro | intro A | exact rfl)
  · rw [if_pos hc]
    (apply s_fin; (exact (show ResS _ _ _ _ [_] from ⟨rfl, trivial⟩)); (focus (exact ⟨rfl, rfl⟩)); (focus (repeat (first | with_reducible exact Take.nil | with_reducible apply Take.c | with_reducible apply Take.drop))))
  · rw [if_neg hc]
    (apply s_fin; (exact (show ResS _ _ _ _ [_] from ⟨rfl, trivial⟩)); (focus (exact ⟨rfl, rfl⟩)); (focus (repeat (first | with_reducible exact Take.nil | with_reducible apply Take.c | with_reducible apply Take.drop))))
end Go.Proofs.YtncnmfdmbfbfjaaGreat
end
section
set_option linter.unusedVariables false
set_option linter.unusedSimpArgs false
set_option maxRecDepth 4000
namespace Go.Proofs.YtncnmfdmbfbfjaaGreat
open Go.Gh Go.RowKit

/-- The cost of pieces. -/
def costs (c : Cst) : List Pc → Int
  | [] => 0
  | t :: r => price c t + costs c r
abbrev vPs (l : List Pc) : Prop := ∀ t ∈ l, vP t
end Go.Proofs.YtncnmfdmbfbfjaaGreat
end
section
set_option linter.unusedVariables false
set_option linter.unusedSimpArgs false
set_option maxRecDepth 4000
namespace Go.Proofs.YtncnmfdmbfbfjaaGreat
open Go.Gh Go.RowKit

/-- `n` bytes from `d` bytes back, one after another. -/
def copyN (d : Nat) : Nat → List UInt8 → List UInt8
  | 0, o => o
  | n + 1, o => copyN d n (o ++ [o[o.length - d]!])
def byt (y : Int) : UInt8 := UInt8.ofNat y.toNat
theorem byt_nat {y : Int} (h : 0 ≤ y ∧ y ≤ 255) : ((byt y).toNat : Int) = y := by
  unfold byt
  rw [UInt8.toNat_ofNat', Nat.mod_eq_of_lt (by omega)]; omega
theorem byteV_byt {y : Int} (h : 0 ≤ y ∧ y ≤ 255) : Value.int .u8 y = byteV (byt y) := by
  show _ = Value.int .u8 _
  rw [byt_nat h]
def estp (o : List UInt8) (t : Pc) : List UInt8 := if t.2.1 = 0 then o ++ [byt t.2.2] else copyN t.2.1.toNat t.1.toNat o
theorem copyN_len (d : Nat) : ∀ (n : Nat) (o : List UInt8), (copyN d n o).length = o.length + n
  | 0, _ => rfl
  | n + 1, o => by rw [copyN, copyN_len d n]; simp; omega
theorem estp_len {o : List UInt8} {t : Pc} (h : vP t) : ((estp o t).length : Int) = o.length + t.1 := by
  unfold estp
  split
  · rw [List.length_append]; simp; omega
  · rw [copyN_len]; omega
abbrev bytesOk (l : List Pc) : Prop := ∀ t ∈ l, 0 ≤ t.2.2 ∧ t.2.2 ≤ 255
theorem bang_mem {α : Type} [Inhabited α] {l : List α} {k : Nat} (h : k < l.length) : l[k]! ∈ l := by rw [getElem!_pos l k h]; exact List.getElem_mem h
theorem estp_lit {t : Pc} (o : List UInt8) (h : t.2.1 = 0) : estp o t = o ++ [byt t.2.2] := if_pos h
theorem estp_cpy {t : Pc} (o : List UInt8) (h : t.2.1 ≠ 0) : estp o t = copyN t.2.1.toNat t.1.toNat o := if_neg h
end Go.Proofs.YtncnmfdmbfbfjaaGreat
end
section
set_option linter.unusedVariables false
set_option linter.unusedSimpArgs false
set_option maxRecDepth 4000
namespace Go.Proofs.YtncnmfdmbfbfjaaGreat
open Go.Gh Go.RowKit

/-- A step: cost, pieces, the first piece. -/
abbrev St := Int × Int × Pc
abbrev stC (s : St) : List Value := [I s.1, I s.2.1, I s.2.2.1, I s.2.2.2.1, .int .u8 s.2.2.2.2]
theorem stcW (s : St) : (stC s).length = 5 := rfl
@[simp] theorem len_stcs (l : List St) : (recs stC l).length = 5 * l.length := by rw [recs_len stcW]; omega
def nxt (c : Cst) (T : List St) (i : Nat) (t : Pc) : St := (T[i + t.1.toNat]!.1 + price c t, T[i + t.1.toNat]!.2.1 + 1, t)
abbrev sbet (x y : St) : Prop := x.1 < y.1 ∨ x.1 = y.1 ∧ x.2.1 < y.2.1
/-- One try. -/
def tryS (c : Cst) (i : Nat) (s : Bool × List St) (t : Pc) : Bool × List St :=
  if s.1 = false ∨ sbet (nxt c s.2 i t) s.2[i]! then (true, s.2.set i (nxt c s.2 i t)) else s
theorem tryS_len (c : Cst) (i : Nat) (s : Bool × List St) (t : Pc) : (tryS c i s t).2.length = s.2.length := by
  unfold tryS; split <;> simp
abbrev TB (n3 n8 n9 n10 A : Nat) (c : Cst) (i : Nat) (s : Bool × List St) (h : SH) : SH :=
  (n10, ⟨[B s.1], false⟩) :: (n9, ⟨[I i], false⟩) :: (n8, ⟨[gsl A 0 (s.2.length * 5) s.2.length 5], false⟩) :: (A, ⟨recs stC s.2, false⟩) :: (n3, ⟨csC c, false⟩) :: h
abbrev stOk (s : St) : Prop := 0 ≤ s.1 ∧ s.1 ≤ 27000 * 4097 ∧ 0 ≤ s.2.1 ∧ s.2.1 ≤ 4097
theorem put5 {a b c d e x y z : Value} : PutAt [a, b, c, d, e] 2 [x, y, z] [a, b, x, y, z] := ⟨by simp, rfl⟩
theorem try_any (c : Cst) (t : Pc) (n3 n8 n9 n10 A0 i : Nat) (s : Bool × List St) (h : SH) (hc : vC c) (ht : vP t) (hi : i + t.1.toNat < s.2.length) (hl : s.2.length ≤ 4097) (hT : stOk s.2[i + t.1.toNat]!) :
    SRun Tryz.prog 89 [pcV t, gptr n8 0 1, gptr n9 0 1, gptr n3 0 4, gptr n10 0 1] (TB n3 n8 n9 n10 A0 c i s h)
      fun r q => r = .tuple #[] ∧ q = TB n3 n8 n9 n10 A0 c i (tryS c i s t) h := by
  have hpr := price_in hc ht
  obtain ⟨a, b, y, rfl, ha, hb⟩ := vP_nat ht
  have hix : i + ((a : Int)).toNat = i + a := by rw [Int.toNat_natCast]
  dsimp only at hi hT
  rw [hix] at hi hT
  have hn : nxt c s.2 i ((a : Int), (b : Int), y) = (s.2[i + a]!.1 + price c ((a : Int), (b : Int), y), s.2[i + a]!.2.1 + 1, ((a : Int), (b : Int), y)) := by unfold nxt; dsimp only; rw [hix]
  obtain ⟨f, T⟩ := s
  dsimp only at hi hT hl hn ⊢
  show SRun _ _ [.agg ⟨[I (a : Int), I (b : Int), .int .u8 y]⟩, gptr n8 0 1, gptr n9 0 1, gptr n3 0 4, gptr n10 0 1]
    ((n10, ⟨[B f], false⟩) :: (n9, ⟨[I i], false⟩) :: (n8, ⟨[gsl A0 0 (T.length * 5) T.length 5], false⟩) :: (A0, ⟨recs stC T, false⟩) :: (n3, ⟨csC c, false⟩) :: h) _
  refine w_body5 Tryz.func89 rfl rfl ?_
  have hput : PutAt (recs stC T) (0 + ((i : Int)).toNat * 5) [I (T[i + a]!.1 + price c ((a : Int), (b : Int), y)), I (T[i + a]!.2.1 + 1), I (a : Int), I (b : Int), .int .u8 y] (recs stC (T.set i (nxt c T i ((a : Int), (b : Int), y)))) := by
    rw [hn]; exact putAt_recZ (x := (T[i + a]!.1 + price c ((a : Int), (b : Int), y), T[i + a]!.2.1 + 1, ((a : Int), (b : Int), y))) (fun _ => rfl) (by omega)
  have hset : (f = false ∨ (T[i + a]!.1 + price c ((a : Int), (b : Int), y) < T[i]!.1 ∨ T[i + a]!.1 + price c ((a : Int), (b : Int), y) = T[i]!.1 ∧ T[i + a]!.2.1 + 1 < T[i]!.2.1)) → tryS c i (f, T) ((a : Int), (b : Int), y) = (true, T.set i (nxt c T i ((a : Int), (b : Int), y))) := fun g => by
    unfold tryS; dsimp only; rw [if_pos (by rw [hn]; exact g)]
  have hno : ¬ (f = false ∨ (T[i + a]!.1 + price c ((a : Int), (b : Int), y) < T[i]!.1 ∨ T[i + a]!.1 + price c ((a : Int), (b : Int), y) = T[i]!.1 ∧ T[i + a]!.2.1 + 1 < T[i]!.2.1)) → tryS c i (f, T) ((a : Int), (b : Int), y) = (f, T) := fun g => by
    unfold tryS; dsimp only; rw [if_neg (by rw [hn]; exact g)]
  repeat' (first | apply w_seq | apply w_region | apply o_nil | (apply w_draw; (focus (kernel_rfl)); (focus (kernel_rfl))) | (apply o_g tyOk; exact rfl; exact rfl) | (apply o_ar tyOk; exact rfl; exact rfl) | (apply o_notB; exact rfl; exact rfl) | (apply o_load tyOk; (iterate 3 exact rfl); (focus (exact pk))) | (apply o_loads tyOk; (iterate 3 exact rfl); (focus (exact pk))) | (apply o_store tyOk; (iterate 4 exact rfl); (focus (exact up))) | (apply o_stores tyOk; (iterate 4 exact rfl); (focus (exact ⟨rfl⟩)); (focus (exact up))) | (apply o_alloc tyOk; iterate 5 exact rfl) | (apply o_box (tt := tyT); iterate 5 exact rfl) | (apply o_build tyOk; exact rfl; exact rfl; (focus (first | with_reducible exact pl140)); exact rfl; (focus (repeat (first | exact BuildR.nil | (apply BuildR.one; exact rfl; exact rfl; (first | (focus ((repeat (first | exact SetAt.zero | apply SetAt.succ)); done)))) | (apply BuildR.agg; exact rfl; exact rfl; (first | exact put5))))); exact rfl) | (apply o_callD; (iterate 4 exact rfl); (focus (exact ⟨_, price_any c _ _ hc ht, by repeat (first | with_reducible exact Take.nil)⟩)); (focus (exact fun _ _ h => h.1)); (focus ((repeat (first | exact Flat.c rfl))))) | (apply o_want; exact rfl; exact rfl) | (apply o_skip; iterate 4 exact rfl) | (apply o_skip_undef; iterate 3 exact rfl) | (apply o_guardT; (iterate 3 exact rfl); all_goals intro hc) | (apply o_guardF; (iterate 3 exact rfl); all_goals intro hc) | (apply o_guardB; (iterate 3 exact rfl); all_goals intro hc) | (apply w_true; exact rfl) | (apply w_false; exact rfl) | (apply w_if; exact rfl; all_goals intro hc) | apply thenS_normal | apply w_skip | ((with_reducible apply Sd.mk); (first | exact True.intro | omega)) | ((with_reducible apply Ln.mk); (first | rfl | (simp ; first | done | omega))) | ((with_reducible apply Wr.mk); (first | exact IntWalk.i64_in _ (by omega))) | ((with_reducible apply Ce.mk); (first | rfl | exact cell_recZ (fun _ => rfl) (by omega) (by decide) rfl)) | ((with_reducible apply Se.mk); (first | (focus ((repeat (first | exact SetAt.zero)); done)))) | ((with_reducible apply Pu.mk); (first | exact putAt_all rfl | exact hput)) | ((with_reducible apply Su.mk); (first | exact subAt_all | exact subAt_recZ (fun _ => rfl) (by omega))) | exact True.intro | exact Or.inl rfl | apply And.intro | intro A | exact rfl)
  all_goals first
    | (rw [hset (by first | (left; simpa using hc) | (right; left; assumption) | (right; right; exact ⟨by assumption, by assumption⟩))]; (apply s_finN; (exact (show ResS _ _ _ _ [] from trivial)); (focus (exact ⟨rfl, rfl⟩)); (focus (repeat (first | with_reducible exact Take.nil | with_reducible apply Take.c | ((with_reducible apply Take.cE); (first | exact rfl | (apply blkE; (focus (first | exact rfl | exact recs_snocE rfl | exact map_snocE rfl | exact congrArg (fun v => [v]) (gslE rfl rfl (by first | rfl | exact ‹_› | omega | (simp ; first | done | omega)) (by first | rfl | exact ‹_› | omega | (simp ; first | done | omega)) rfl)))))) | with_reducible apply Take.drop)))))
    | (rw [hno (by rintro (g | g | g) <;> first | omega | simp_all)]; (apply s_finN; (exact (show ResS _ _ _ _ [] from trivial)); (focus (exact ⟨rfl, rfl⟩)); (focus (repeat (first | with_reducible exact Take.nil | with_reducible apply Take.c | with_reducible apply Take.drop)))))
end Go.Proofs.YtncnmfdmbfbfjaaGreat
end
section
set_option linter.unusedVariables false
set_option linter.unusedSimpArgs false
set_option maxRecDepth 4000
namespace Go.Proofs.YtncnmfdmbfbfjaaGreat
open Go.Gh Go.RowKit

abbrev vld (w m : Int) : Prop := 1 ≤ w ∧ w ≤ 4096 ∧ 2 ≤ m ∧ m ≤ 273

/-- How many bytes from i on are those from j on, at most m. -/
def lcp (l : List UInt8) (i j : Nat) : Nat → Nat
  | 0 => 0
  | m + 1 => if bat l i = bat l j then lcp l (i + 1) (j + 1) m + 1 else 0

theorem lcp_le (l : List UInt8) : ∀ (m i j : Nat), lcp l i j m ≤ m
  | 0, _, _ => Nat.le_refl _
  | m + 1, i, j => by
    unfold lcp; split
    · have := lcp_le l m (i + 1) (j + 1); omega
    · omega

theorem valid_any (x y : Int) (h : SH) : SRun Tryz.prog 109 [I x, I y] h fun r q => r = B (decide (vld x y)) ∧ q = h := by
  refine w_body2 Tryz.func109 rfl rfl ?_
  repeat' (first | apply w_seq | apply w_region | apply o_nil | (apply o_g tyOk; exact rfl; exact rfl) | (apply o_want; exact rfl; exact rfl) | (apply o_skip; iterate 4 exact rfl) | (apply o_guardT; (iterate 3 exact rfl); all_goals intro hc) | apply thenS_normal | apply w_ret | ((with_reducible apply Sd.mk); (first | exact True.intro)))
  all_goals (apply s_fin; (exact (show ResS _ _ _ _ [_] from ⟨rfl, trivial⟩)); (focus (refine ⟨?_, rfl⟩; show B _ = B _; congr 1; unfold vld; first | (rw [decide_eq_decide]; omega) | (symm; rw [decide_eq_false_iff_not]; omega))); (focus (repeat (first | with_reducible exact Take.nil | with_reducible apply Take.c | with_reducible apply Take.drop))))
theorem common_any (l : List UInt8) (i j m : Nat) (h : SH) (h1 : i + m ≤ l.length) (h2 : j + m ≤ l.length) (h5 : l.length ≤ 9223372036854775807) :
    SRun Tryz.prog 122 [S l, I i, I j, I m] h fun r q => r = I (lcp l i j m) ∧ q = h := by
  refine w_body4 Tryz.func122 rfl rfl ?_
  repeat' (first | apply w_seq | apply w_region | apply o_nil | (apply o_g tyOk; exact rfl; exact rfl) | apply thenS_normal | apply w_block | ((with_reducible apply Sd.mk); (first | exact True.intro)))
  refine w_loop (S := Nat) (fun k => [(0, S l), (1, I i), (2, I j), (3, I m), (10, I m), (11, I k)]) (fun _ => h)
    (fun k => k ≤ m ∧ lcp l i j m = k + lcp l (i + k) (j + k) (m - k)) (fun k => m - k) 0 ⟨by omega, by simp⟩ (by repeat' (first | exact trivial | refine ⟨rfl, ?_⟩ | refine ⟨congrArg some ?_, ?_⟩)) (by repeat (first | with_reducible exact Take.nil | with_reducible apply Take.c | with_reducible apply Take.drop)) ?_
  rintro k ⟨hk, he⟩
  repeat' (first | apply w_seq | apply w_region | apply o_nil | (apply w_draw; (focus (kernel_rfl)); (focus (kernel_rfl))) | (apply o_g tyOk; exact rfl; exact rfl) | (apply o_ar tyOk; exact rfl; exact rfl) | (apply o_max; iterate 3 exact rfl) | (apply w_ifN; exact rfl; all_goals intro hc) | (apply w_if; exact rfl; all_goals intro hc) | apply thenS_normal | apply thenS_ret | apply thenS_exit | apply blockS_normal | apply blockS_ret | apply blockS_exit | apply w_skip | apply w_ret | apply w_exit | apply w_block | ((with_reducible apply Sd.mk); (first | exact True.intro | omega)) | ((with_reducible apply Wr.mk); (first | exact IntWalk.i64_in _ (by omega))))
  · obtain ⟨q, hq⟩ : ∃ q, m - k = q + 1 := ⟨m - k - 1, by omega⟩
    rw [hq, lcp, if_neg (by push_cast; assumption)] at he
    (apply s_fin; (exact (show ResS _ _ _ _ [_] from ⟨rfl, trivial⟩)); (focus (exact ⟨by show I _ = I _; rw [he]; rfl, rfl⟩)); (focus (repeat (first | with_reducible exact Take.nil | with_reducible apply Take.c | with_reducible apply Take.drop))))
  · refine ⟨k + 1, ⟨by omega, ?_⟩, by omega, (by repeat' (first | exact trivial | refine ⟨rfl, ?_⟩ | refine ⟨congrArg some ?_, ?_⟩)), (by repeat (first | with_reducible exact Take.nil | with_reducible apply Take.c | with_reducible apply Take.drop))⟩
    obtain ⟨q, hq⟩ : ∃ q, m - k = q + 1 := ⟨m - k - 1, by omega⟩
    rw [hq, lcp, if_pos (by push_cast; assumption)] at he
    rw [he, show m - (k + 1) = q from by omega, show i + (k + 1) = i + k + 1 from by omega, show j + (k + 1) = j + k + 1 from by omega]
    omega
  · have : k = m := by omega
    subst this
    (apply s_fin; (exact (show ResS _ _ _ _ [_] from ⟨rfl, trivial⟩)); (focus (refine ⟨?_, rfl⟩; show I _ = I _; rw [he]; simp [lcp])); (focus (repeat (first | with_reducible exact Take.nil | with_reducible apply Take.c | with_reducible apply Take.drop))))

theorem common_int (l : List UInt8) (i j m : Int) (h : SH) (hi : 0 ≤ i) (hj : 0 ≤ j) (hm : 0 ≤ m) (h1 : i + m ≤ l.length) (h2 : j + m ≤ l.length) (h5 : l.length ≤ 9223372036854775807) :
    SRun Tryz.prog 122 [S l, I i, I j, I m] h fun r q => r = I (lcp l i.toNat j.toNat m.toNat) ∧ q = h := by
  obtain ⟨i, rfl⟩ := Int.eq_ofNat_of_zero_le hi
  obtain ⟨j, rfl⟩ := Int.eq_ofNat_of_zero_le hj
  obtain ⟨m, rfl⟩ := Int.eq_ofNat_of_zero_le hm
  exact common_any l i j m h (by omega) (by omega) h5

/-- Common of any two numbers. -/
def com (l : List UInt8) (i j : Int) : Nat := if 0 ≤ i ∧ 0 ≤ j ∧ i ≤ l.length ∧ j ≤ l.length then lcp l i.toNat j.toNat (l.length - max i j).toNat else 0

/-- The greatest length of an occurrence at a distance. -/
def atd (l : List UInt8) (i d m : Int) : Int := if d < 1 ∨ i < d then 0 else if min (com l (i - d) i : Int) m < 2 then 0 else min (com l (i - d) i : Int) m

abbrev cpF (c : Int × Int) : List Value := [I c.1, I c.2]
theorem cpW (c : Int × Int) : (cpF c).length = 2 := rfl
@[simp] theorem len_cps (l : List (Int × Int)) : (recs cpF l).length = 2 * l.length := by rw [recs_len cpW]; omega
/-- A slice of copies in a block of its own. -/
abbrev cpS (A : Nat) (l : List (Int × Int)) : Value := gsl A 0 (2 * l.length) l.length 2
abbrev cpB (l : List (Int × Int)) (ro : Bool) : Blk := ⟨recs cpF l, ro⟩

/-- What is found up to a distance. -/
def rc (l : List UInt8) (i m : Int) : Nat → List (Int × Int) × Int
  | 0 => ([], 0)
  | d + 1 => if (rc l i m d).2 < atd l i (d + 1) m then ((rc l i m d).1 ++ [(atd l i (d + 1) m, (d : Int) + 1)], atd l i (d + 1) m) else rc l i m d

def rcands (l : List UInt8) (i w m : Int) : List (Int × Int) :=
  if vld w m ∧ 0 ≤ i ∧ i ≤ l.length ∧ l.length ≤ 4096 then (rc l i m (min w i).toNat).1 else []

end Go.Proofs.YtncnmfdmbfbfjaaGreat
end
section
set_option linter.unusedVariables false
set_option linter.unusedSimpArgs false
set_option maxRecDepth 4000
namespace Go.Proofs.YtncnmfdmbfbfjaaGreat
open Go.Gh Go.RowKit

abbrev BS := Nat × List (Int × Int)
def bgo (i : Nat) (w : Int) (m j : Nat) (s : BS) : Prop := ¬ (w < (i : Int) - j ∨ m ≤ s.1)
instance (i : Nat) (w : Int) (m j : Nat) (s : BS) : Decidable (bgo i w m j s) := by unfold bgo; infer_instance
def bup (l : List UInt8) (i m j : Nat) (s : BS) : BS := if s.1 < lcp l j i m then (lcp l j i m, s.2 ++ [((lcp l j i m : Int), (i : Int) - (j : Int))]) else s
def nbst (l : List UInt8) (i : Nat) (w : Int) (m j : Nat) (s : BS) : BS := if bgo i w m j s then bup l i m j s else s
def brun (l : List UInt8) (i : Nat) (w : Int) (m : Nat) : List Nat → BS → BS
  | [], s => s
  | j :: r, s => if bgo i w m j s then brun l i w m r (bup l i m j s) else s

theorem lcp_ne (l : List UInt8) : ∀ (m i j b : Nat), bat l (i + b : Nat) ≠ bat l (j + b : Nat) → lcp l i j m ≤ b
  | 0, _, _, _, _ => Nat.zero_le _
  | m + 1, i, j, b, h => by
    unfold lcp
    split
    · rename_i e
      cases b with
      | zero => exact absurd e h
      | succ b =>
        have := lcp_ne l m (i + 1) (j + 1) b (by rw [show i + 1 + b = i + (b + 1) by omega, show j + 1 + b = j + (b + 1) by omega]; exact h)
        omega
    · omega

/-- The boxes of a search, and the copies found. -/
inductive BH (l : List UInt8) (i : Nat) (w : Int) (m n5 n6 n7 n8 n11 n12 : Nat) (h : SH) : BS → SH → Prop
  | nil (best : Nat) : BH l i w m n5 n6 n7 n8 n11 n12 h (best, []) ((n12, ⟨[I best], false⟩) :: (n11, ⟨[.slice none 0 0], false⟩) :: (n8, ⟨[I m], false⟩) :: (n7, ⟨[I w], false⟩) :: (n6, ⟨[I i], false⟩) :: (n5, ⟨[S l], false⟩) :: h)
  | some (best : Nat) (cs : List (Int × Int)) (A : Nat) : BH l i w m n5 n6 n7 n8 n11 n12 h (best, cs)
      ((n12, ⟨[I best], false⟩) :: (n11, ⟨[cpS A cs], false⟩) :: (n8, ⟨[I m], false⟩) :: (n7, ⟨[I w], false⟩) :: (n6, ⟨[I i], false⟩) :: (n5, ⟨[S l], false⟩) :: (A, cpB cs false) :: h)

theorem BH.pick {l : List UInt8} {i : Nat} {w : Int} {m n5 n6 n7 n8 n11 n12 : Nat} {h h1 : SH} {s : BS} {p : SH} (b : BH l i w m n5 n6 n7 n8 n11 n12 h s p) {A : Nat} {g : Blk} (hp : Pick h A g h1) : ∃ p1, Pick p A g p1 := by
  cases b with
  | nil => exact ⟨_, hp.tail.tail.tail.tail.tail.tail⟩
  | some => exact ⟨_, hp.tail.tail.tail.tail.tail.tail.tail⟩

theorem bst_stop {l : List UInt8} {i : Nat} {w : Int} {m j : Nat} {s : BS} (h : ¬ bgo i w m j s) : nbst l i w m j s = s := if_neg h
theorem bst_same {l : List UInt8} {i : Nat} {w : Int} {m j : Nat} {s : BS} (h : lcp l j i m ≤ s.1) : nbst l i w m j s = s := by
  unfold nbst bup; split
  · rw [if_neg (by omega)]
  · rfl
theorem bst_new {l : List UInt8} {i : Nat} {w : Int} {m j best : Nat} {cs : List (Int × Int)} (hg : bgo i w m j (best, cs)) (h : best < lcp l j i m) : nbst l i w m j (best, cs) = (lcp l j i m, cs ++ [((lcp l j i m : Int), (i : Int) - (j : Int))]) := by
  unfold nbst bup; rw [if_pos hg, if_pos h]

theorem better1_any (l : List UInt8) (i : Nat) (w : Int) (m n5 n6 n7 n8 n11 n12 j : Nat) (h : SH) (s : BS) (p : SH) (hb : BH l i w m n5 n6 n7 n8 n11 n12 h s p) (h5 : l.length ≤ 4096) (hj : j < i) (him : i + m ≤ l.length) (hs : s.2.length ≤ 4096) (hw : -4611686018427387904 ≤ w) :
    SRun Tryz.prog 121 [I j, gptr n6 0 1, gptr n7 0 1, gptr n12 0 1, gptr n8 0 1, gptr n5 0 1, gptr n11 0 1] p
      fun r q => r = B (decide (bgo i w m j s)) ∧ BH l i w m n5 n6 n7 n8 n11 n12 h (nbst l i w m j s) q := by
  cases hb with
  | nil best =>
    refine w_body7 Tryz.func121 rfl rfl ?_
    repeat' (first | apply w_seq | apply w_region | apply o_nil | (apply w_draw; (focus (kernel_rfl)); (focus (kernel_rfl))) | (apply o_g tyOk; exact rfl; exact rfl) | (apply o_ar tyOk; exact rfl; exact rfl) | (apply o_load tyOk; (iterate 3 exact rfl); (focus (exact pk))) | (apply o_store tyOk; (iterate 4 exact rfl); (focus (exact up))) | (apply o_build tyOk; exact rfl; exact rfl; (focus (first | with_reducible exact pl145)); exact rfl; (focus (repeat (first | exact BuildR.nil | (apply BuildR.one; exact rfl; exact rfl; (first | (focus ((repeat (first | exact SetAt.zero | apply SetAt.succ)); done))))))); exact rfl) | (apply o_buildSlice tyOk; (iterate 5 exact rfl); (focus (decide)); exact rfl; (focus (decide)); (focus (repeat (first | exact CatR.last rfl))); exact rfl) | (apply o_append_nil tyOk; (iterate 5 exact rfl); (focus (exact ⟨by decide⟩)); (focus (exact pk))) | (apply o_call; exact rfl; exact rfl; (focus (first | exact rfl)); exact rfl; (focus (exact ⟨_, common_int _ _ _ _ _ (by omega) (by omega) (by omega) (by omega) (by omega) (by omega), by repeat (first | with_reducible exact Take.nil)⟩)); rintro _ _ ⟨rfl, rfl⟩) | (apply o_want; exact rfl; exact rfl) | (apply o_skip; iterate 4 exact rfl) | (apply o_guardF; (iterate 3 exact rfl); all_goals intro hc) | (apply w_true; exact rfl) | (apply w_ifN; exact rfl; all_goals intro hc) | (apply w_if; exact rfl; all_goals intro hc) | apply thenS_normal | apply thenS_ret | apply w_skip | apply w_ret | ((with_reducible apply Sd.mk); (first | exact True.intro | omega | (constructor <;> first | omega | (unfold maxLen; omega)))) | ((with_reducible apply Ln.mk); (first | rfl)) | ((with_reducible apply Wr.mk); (first | exact IntWalk.i64_in _ (by omega))) | ((with_reducible apply Ce.mk); (first | rfl)) | ((with_reducible apply Se.mk); (first | (focus ((repeat (first | exact SetAt.zero)); done)))) | ((with_reducible apply Su.mk); (first | exact subAt_all)) | exact True.intro | intro A | exact rfl)
    · have hg : ¬ bgo i w m j (best, []) := fun h => h (.inr (by show m ≤ best; omega))
      (apply s_fin; (exact (show ResS _ _ _ _ [_] from ⟨rfl, trivial⟩)); (focus (rw [decide_eq_false hg, bst_stop hg]; exact ⟨rfl, .nil _⟩)); (focus (repeat (first | with_reducible exact Take.nil | with_reducible apply Take.c | with_reducible apply Take.drop))))
    · have hg : bgo i w m j (best, []) := by unfold bgo; show ¬ (_ ∨ m ≤ best); omega
      (apply s_fin; (exact (show ResS _ _ _ _ [_] from ⟨rfl, trivial⟩)); (focus (rw [decide_eq_true hg, bst_same (lcp_ne l m j i best (by push_cast; assumption))]; exact ⟨rfl, .nil _⟩)); (focus (repeat (first | with_reducible exact Take.nil | with_reducible apply Take.c | with_reducible apply Take.drop))))
    · have hg : bgo i w m j (best, []) := by unfold bgo; show ¬ (_ ∨ m ≤ best); omega
      have hlt : best < lcp l j i m := by exact_mod_cast hc
      (apply s_fin; (exact (show ResS _ _ _ _ [_] from ⟨rfl, trivial⟩)); (focus (rw [decide_eq_true hg, bst_new hg hlt]; exact ⟨rfl, .some _ [_] A⟩)); (focus (repeat (first | with_reducible exact Take.nil | with_reducible apply Take.c | ((with_reducible apply Take.cE); (first | exact rfl | (apply blkE; (focus (first | exact rfl | exact recs_snocE rfl | exact map_snocE rfl | exact congrArg (fun v => [v]) (gslE rfl rfl (by first | rfl | exact ‹_› | omega | (simp ; first | done | omega)) (by first | rfl | exact ‹_› | omega | (simp ; first | done | omega)) rfl)))))) | with_reducible apply Take.drop))))
    · have hg : bgo i w m j (best, []) := by unfold bgo; show ¬ (_ ∨ m ≤ best); omega
      have hle : lcp l j i m ≤ best := by have : ¬ best < lcp l j i m := by exact_mod_cast hc
                                          omega
      (apply s_fin; (exact (show ResS _ _ _ _ [_] from ⟨rfl, trivial⟩)); (focus (rw [decide_eq_true hg, bst_same hle]; exact ⟨rfl, .nil _⟩)); (focus (repeat (first | with_reducible exact Take.nil | with_reducible apply Take.c | with_reducible apply Take.drop))))
    · have hg : ¬ bgo i w m j (best, []) := fun h => h (.inl (by assumption))
      (apply s_fin; (exact (show ResS _ _ _ _ [_] from ⟨rfl, trivial⟩)); (focus (rw [decide_eq_false hg, bst_stop hg]; exact ⟨rfl, .nil _⟩)); (focus (repeat (first | with_reducible exact Take.nil | with_reducible apply Take.c | with_reducible apply Take.drop))))
  | some best cs Ac =>
    have hs' : cs.length ≤ 4096 := hs
    refine w_body7 Tryz.func121 rfl rfl ?_
    repeat' (first | apply w_seq | apply w_region | apply o_nil | (apply w_draw; (focus (kernel_rfl)); (focus (kernel_rfl))) | (apply o_g tyOk; exact rfl; exact rfl) | (apply o_ar tyOk; exact rfl; exact rfl) | (apply o_load tyOk; (iterate 3 exact rfl); (focus (exact pk))) | (apply o_store tyOk; (iterate 4 exact rfl); (focus (exact up))) | (apply o_build tyOk; exact rfl; exact rfl; (focus (first | with_reducible exact pl145)); exact rfl; (focus (repeat (first | exact BuildR.nil | (apply BuildR.one; exact rfl; exact rfl; (first | (focus ((repeat (first | exact SetAt.zero | apply SetAt.succ)); done))))))); exact rfl) | (apply o_buildSlice tyOk; (iterate 5 exact rfl); (focus (decide)); exact rfl; (focus (decide)); (focus (repeat (first | exact CatR.last rfl))); exact rfl) | (apply o_append tyOk; (iterate 5 exact rfl); (focus (exact ⟨by decide⟩)); (focus (exact up)); (focus (exact pk))) | (apply o_call; exact rfl; exact rfl; (focus (first | exact rfl)); exact rfl; (focus (exact ⟨_, common_int _ _ _ _ _ (by omega) (by omega) (by omega) (by omega) (by omega) (by omega), by repeat (first | with_reducible exact Take.nil)⟩)); rintro _ _ ⟨rfl, rfl⟩) | (apply o_want; exact rfl; exact rfl) | (apply o_skip; iterate 4 exact rfl) | (apply o_guardF; (iterate 3 exact rfl); all_goals intro hc) | (apply w_true; exact rfl) | (apply w_ifN; exact rfl; all_goals intro hc) | (apply w_if; exact rfl; all_goals intro hc) | apply thenS_normal | apply thenS_ret | apply w_skip | apply w_ret | ((with_reducible apply Sd.mk); (first | exact True.intro | omega | (constructor <;> first | omega | (unfold maxLen; omega)))) | ((with_reducible apply Ln.mk); (first | rfl | omega | (simp ; first | done | omega))) | ((with_reducible apply Wr.mk); (first | exact IntWalk.i64_in _ (by omega))) | ((with_reducible apply Ce.mk); (first | rfl)) | ((with_reducible apply Se.mk); (first | (focus ((repeat (first | exact SetAt.zero)); done)))) | ((with_reducible apply Su.mk); (first | exact subAt_all)) | exact True.intro | intro A | exact rfl)
    · have hg : ¬ bgo i w m j (best, cs) := fun h => h (.inr (by show m ≤ best; omega))
      (apply s_fin; (exact (show ResS _ _ _ _ [_] from ⟨rfl, trivial⟩)); (focus (rw [decide_eq_false hg, bst_stop hg]; exact ⟨rfl, .some _ _ Ac⟩)); (focus (repeat (first | with_reducible exact Take.nil | with_reducible apply Take.c | with_reducible apply Take.drop))))
    · have hg : bgo i w m j (best, cs) := by unfold bgo; show ¬ (_ ∨ m ≤ best); omega
      (apply s_fin; (exact (show ResS _ _ _ _ [_] from ⟨rfl, trivial⟩)); (focus (rw [decide_eq_true hg, bst_same (lcp_ne l m j i best (by push_cast; assumption))]; exact ⟨rfl, .some _ _ Ac⟩)); (focus (repeat (first | with_reducible exact Take.nil | with_reducible apply Take.c | with_reducible apply Take.drop))))
    · have hg : bgo i w m j (best, cs) := by unfold bgo; show ¬ (_ ∨ m ≤ best); omega
      have hlt : best < lcp l j i m := by exact_mod_cast hc
      (apply s_fin; (exact (show ResS _ _ _ _ [_] from ⟨rfl, trivial⟩)); (focus (rw [decide_eq_true hg, bst_new hg hlt]; exact ⟨rfl, .some _ _ Ac⟩)); (focus (repeat (first | with_reducible exact Take.nil | with_reducible apply Take.c | ((with_reducible apply Take.cE); (first | exact rfl | (apply blkE; (focus (first | exact rfl | exact recs_snocE rfl | exact map_snocE rfl | exact congrArg (fun v => [v]) (gslE rfl rfl (by first | rfl | exact ‹_› | omega | (simp ; first | done | omega)) (by first | rfl | exact ‹_› | omega | (simp ; first | done | omega)) rfl)))))) | with_reducible apply Take.drop))))
    · have hg : bgo i w m j (best, cs) := by unfold bgo; show ¬ (_ ∨ m ≤ best); omega
      have hle : lcp l j i m ≤ best := by have : ¬ best < lcp l j i m := by exact_mod_cast hc
                                          omega
      (apply s_fin; (exact (show ResS _ _ _ _ [_] from ⟨rfl, trivial⟩)); (focus (rw [decide_eq_true hg, bst_same hle]; exact ⟨rfl, .some _ _ Ac⟩)); (focus (repeat (first | with_reducible exact Take.nil | with_reducible apply Take.c | with_reducible apply Take.drop))))
    · have hg : ¬ bgo i w m j (best, cs) := fun h => h (.inl (by assumption))
      (apply s_fin; (exact (show ResS _ _ _ _ [_] from ⟨rfl, trivial⟩)); (focus (rw [decide_eq_false hg, bst_stop hg]; exact ⟨rfl, .some _ _ Ac⟩)); (focus (repeat (first | with_reducible exact Take.nil | with_reducible apply Take.c | with_reducible apply Take.drop))))

theorem brun_len {l : List UInt8} {i : Nat} {w : Int} {m : Nat} : ∀ {js : List Nat} {s : BS}, (brun l i w m js s).2.length ≤ s.2.length + js.length
  | [], s => by simp [brun]
  | j :: r, s => by
    unfold brun
    split
    · have h1 := brun_len (l := l) (i := i) (w := w) (m := m) (js := r) (s := bup l i m j s)
      have h2 : (bup l i m j s).2.length ≤ s.2.length + 1 := by unfold bup; split <;> simp
      simp only [List.length_cons]; omega
    · simp

/-- The positions before n, the nearest one first. -/
def down : Nat → List Nat
  | 0 => []
  | n + 1 => n :: down n
theorem down_len : ∀ n, (down n).length = n
  | 0 => rfl
  | n + 1 => by simp [down, down_len n]

/-- Calls of a function with blocks that its callee knows: the blocks of 'Candidates$1' and of the search. -/
theorem Candidates1_any (l : List UInt8) (i : Nat) (w : Int) (m n5 n6 n7 n8 n11 n12 n : Nat) (h : SH) (s : BS) (p : SH) (hb : BH l i w m n5 n6 n7 n8 n11 n12 ((n, ⟨[I i], false⟩) :: h) s p) (h5 : l.length ≤ 4096) (hi : i ≤ 4096) (him : i + m ≤ l.length) (hs : s.2.length = 0) (hw : -4611686018427387904 ≤ w) :
    SRun Tryz.prog 111 [.func (.func 121) ⟨[]⟩ ⟨[gptr n6 0 1, gptr n7 0 1, gptr n12 0 1, gptr n8 0 1, gptr n5 0 1, gptr n11 0 1]⟩, gptr n 0 1] p
      fun r q => BH l i w m n5 n6 n7 n8 n11 n12 ((n, ⟨[I i], false⟩) :: h) (brun l i w m (down i) s) q := by
  refine w_body2 Tryz.func111 rfl rfl ?_
  obtain ⟨p1, hp1⟩ := hb.pick Pick.head
  repeat' (first | apply w_seq | apply w_region | apply o_nil | (apply o_g tyOk; exact rfl; exact rfl) | (apply o_ar tyOk; exact rfl; exact rfl) | (apply o_load tyOk; (iterate 3 exact rfl); (focus (exact pk))) | apply thenS_normal | apply w_block | ((with_reducible apply Sd.mk); (first | exact True.intro)) | ((with_reducible apply Ln.mk); (first | rfl)) | ((with_reducible apply Wr.mk); (first | exact IntWalk.i64_in _ (by omega))) | ((with_reducible apply Ce.mk); (first | rfl)) | exact True.intro | exact rfl)
  refine w_loop (S := Nat × BS × SH) (fun x => [(0, .func (.func 121) ⟨[]⟩ ⟨[gptr n6 0 1, gptr n7 0 1, gptr n12 0 1, gptr n8 0 1, gptr n5 0 1, gptr n11 0 1]⟩), (1, gptr n 0 1), (3, I (x.1 - 1))]) (fun x => x.2.2)
    (fun x => x.1 ≤ i ∧ BH l i w m n5 n6 n7 n8 n11 n12 ((n, ⟨[I i], false⟩) :: h) x.2.1 x.2.2 ∧ brun l i w m (down i) s = brun l i w m (down x.1) x.2.1 ∧ x.2.1.2.length + x.1 ≤ 4096) (fun x => x.1) (i, s, p) ⟨Nat.le_refl _, hb, rfl, by show s.2.length + i ≤ _; omega⟩ (by repeat' (first | exact trivial | refine ⟨rfl, ?_⟩ | refine ⟨congrArg some ?_, ?_⟩)) (by repeat (first | with_reducible exact Take.nil | with_reducible apply Take.c | with_reducible apply Take.drop)) ?_
  rintro ⟨k, s1, p2⟩ ⟨hk, hb1, he, hl⟩
  simp only at hk hb1 he hl
  cases k with
  | zero =>
    repeat' (first | apply w_seq | apply w_region | apply o_nil | (apply o_g tyOk; exact rfl; exact rfl) | (apply o_skip; iterate 4 exact rfl) | (apply w_false; exact rfl) | apply thenS_normal | apply thenS_exit | apply blockS_exit | apply w_exit | ((with_reducible apply Sd.mk); (first | exact True.intro)))
    (apply s_finN; (exact (show ResS _ _ _ _ [] from trivial)); (focus (rw [he]; exact hb1)); (focus (repeat (first | with_reducible exact Take.nil | with_reducible apply Take.c | with_reducible apply Take.drop))))
  | succ q =>
    have e1 : ((q + 1 : Nat) : Int) - 1 = q := by omega
    show SWp _ _ _ _ [_, _, (3, I (((q + 1 : Nat) : Int) - 1))] p2
    rw [e1]
    repeat' (first | apply w_seq | apply w_region | apply o_nil | (apply o_g tyOk; exact rfl; exact rfl) | (apply o_ar tyOk; exact rfl; exact rfl) | (apply o_call; exact rfl; exact rfl; (focus (first | exact rfl)); exact rfl; (focus (exact ⟨_, better1_any l i w m n5 n6 n7 n8 n11 n12 q _ s1 p2 hb1 h5 (by omega) him (by omega) hw, by repeat (first | with_reducible exact Take.nil)⟩)); rintro _ _ ⟨rfl, hb2⟩) | (apply o_want; exact rfl; exact rfl) | (apply w_ifN; exact rfl; all_goals intro hc) | apply thenS_normal | apply thenS_exit | apply blockS_normal | apply blockS_exit | apply w_skip | apply w_exit | apply w_block | ((with_reducible apply Sd.mk); (first | exact True.intro)) | ((with_reducible apply Wr.mk); (first | exact IntWalk.i64_in _ (by omega))))
    · have hg : bgo i w m q s1 := hc
      refine ⟨(q, bup l i m q s1, _), ⟨by show q ≤ i; omega, by rw [← show nbst l i w m q s1 = bup l i m q s1 from if_pos hg]; exact hb2, ?_, ?_⟩, by show q < q + 1; omega, (by repeat' (first | exact trivial | refine ⟨rfl, ?_⟩ | refine ⟨congrArg some ?_, ?_⟩)), (by repeat (first | with_reducible exact Take.nil | with_reducible apply Take.c | with_reducible apply Take.drop))⟩
      · rw [he]; exact if_pos hg
      · have h2 : (bup l i m q s1).2.length ≤ s1.2.length + 1 := by unfold bup; split <;> simp
        show (bup l i m q s1).2.length + q ≤ 4096; omega
    · have hg : ¬ bgo i w m q s1 := fun h => h hc
      (apply s_finN; (exact (show ResS _ _ _ _ [] from trivial)); (focus (rw [he, show brun l i w m (down (q + 1)) s1 = s1 from if_neg hg, ← bst_stop hg]; exact hb2)); (focus (repeat (first | with_reducible exact Take.nil | with_reducible apply Take.c | with_reducible apply Take.drop))))

/-- What the search finds. -/
def bfind (l : List UInt8) (i : Nat) (w m : Int) (js : List Nat) : List (Int × Int) := (brun l i w (min m ((l.length : Int) - i)).toNat js (1, [])).2

/-- A slice of copies: nil if there are none. -/
def IsCs (h : SH) (cs : List (Int × Int)) (r : Value) (q : SH) : Prop := (cs = [] ∧ r = .slice none 0 0 ∧ q = h) ∨ ∃ A, r = cpS A cs ∧ q = (A, cpB cs false) :: h

theorem better_any (l : List UInt8) (i : Nat) (w m : Int) (js : List Nat) (f : FuncId) (fc : Array Value) (h : SH) (h5 : l.length ≤ 4096) (hi : i ≤ l.length) (hm : 0 ≤ m) (hm2 : m ≤ 4611686018427387904) (he : enters Tryz.prog f = true)
    (hit : ∀ n5 n6 n7 n8 n11 n12 p, BH l i w (min m ((l.length : Int) - i)).toNat n5 n6 n7 n8 n11 n12 h (1, []) p →
      SRun Tryz.prog f ((#[] : Array Value).toList ++ [.func (.func 121) ⟨[]⟩ ⟨[gptr n6 0 1, gptr n7 0 1, gptr n12 0 1, gptr n8 0 1, gptr n5 0 1, gptr n11 0 1]⟩] ++ fc.toList) p
        fun r q => BH l i w (min m ((l.length : Int) - i)).toNat n5 n6 n7 n8 n11 n12 h (brun l i w (min m ((l.length : Int) - i)).toNat js (1, [])) q) :
    SRun Tryz.prog 110 [S l, I i, I w, I m, .func (.func f) #[] fc] h (IsCs h (bfind l i w m js)) := by
  refine w_body5 Tryz.func110 rfl rfl ?_
  obtain ⟨mm, hmm⟩ : ∃ mm : Nat, min m ((l.length : Int) - i) = mm := ⟨(min m ((l.length : Int) - i)).toNat, by omega⟩
  repeat' (first | apply w_seq | apply w_region | apply o_nil | (apply o_g tyOk; exact rfl; exact rfl) | (apply o_ar tyOk; exact rfl; exact rfl) | (apply o_min; iterate 3 exact rfl) | (apply o_load tyOk; (iterate 3 exact rfl); (focus (exact pk))) | (apply o_store tyOk; (iterate 4 exact rfl); (focus (exact up))) | (apply o_alloc tyOk; iterate 5 exact rfl) | (apply o_box (tt := tyT); iterate 5 exact rfl) | (apply o_makeFunc; iterate 3 exact rfl) | apply thenS_normal | ((with_reducible apply Sd.mk); (first | exact True.intro)) | ((with_reducible apply Ln.mk); (first | rfl)) | ((with_reducible apply Wr.mk); (first | exact IntWalk.i64_in _ (by omega))) | ((with_reducible apply Ce.mk); (first | rfl)) | ((with_reducible apply Se.mk); (first | (focus ((repeat (first | exact SetAt.zero)); done)))) | exact True.intro | intro A | exact rfl)
  rw [hmm] at hit ⊢
  simp only [Int.toNat_natCast] at hit
  have hbf : bfind l i w m js = (brun l i w mm js (1, [])).2 := by unfold bfind; rw [hmm]; rfl
  rw [hbf]
  (apply o_call; exact rfl; exact rfl; exact he; exact rfl; exact ⟨_, hit _ _ _ _ _ _ _ (.nil 1), Take.nil⟩)
  intro r q hb2
  generalize hs : brun l i w mm js (1, []) = s at hb2 ⊢
  cases hb2 with
  | nil best =>
    repeat' (first | apply w_seq | apply w_region | apply o_nil | (apply o_g tyOk; exact rfl; exact rfl) | (apply o_load tyOk; (iterate 3 exact rfl); (focus (exact pk))) | apply thenS_normal | apply w_ret | ((with_reducible apply Sd.mk); (first | exact True.intro)) | ((with_reducible apply Ln.mk); (first | rfl)) | ((with_reducible apply Ce.mk); (first | rfl)) | exact True.intro | exact rfl)
    (apply s_fin; (exact (show ResS _ _ _ _ [_] from ⟨rfl, trivial⟩)); (focus (exact .inl ⟨rfl, rfl, rfl⟩)); (focus (repeat (first | with_reducible exact Take.nil | with_reducible apply Take.c | with_reducible apply Take.drop))))
  | some best cs A =>
    repeat' (first | apply w_seq | apply w_region | apply o_nil | (apply o_g tyOk; exact rfl; exact rfl) | (apply o_load tyOk; (iterate 3 exact rfl); (focus (exact pk))) | apply thenS_normal | apply w_ret | ((with_reducible apply Sd.mk); (first | exact True.intro)) | ((with_reducible apply Ln.mk); (first | rfl)) | ((with_reducible apply Ce.mk); (first | rfl)) | exact True.intro | exact rfl)
    (apply s_fin; (exact (show ResS _ _ _ _ [_] from ⟨rfl, trivial⟩)); (focus (exact .inr ⟨A, rfl, rfl⟩)); (focus (repeat (first | with_reducible exact Take.nil | with_reducible apply Take.c | with_reducible apply Take.drop))))

/-- What Candidates finds. -/
def cands (l : List UInt8) (i w m : Int) : List (Int × Int) := if vld w m ∧ 0 ≤ i ∧ i ≤ l.length ∧ l.length ≤ 4096 then bfind l i.toNat w m (down i.toNat) else []

theorem Candidates_any (l : List UInt8) (i w m : Int) (h : SH) (h5 : l.length ≤ 4611686018427387904) :
    SRun Tryz.prog 91 [S l, I i, I w, I m] h (IsCs h (cands l i w m)) := by
  by_cases hc0 : vld w m ∧ 0 ≤ i ∧ i ≤ l.length ∧ l.length ≤ 4096
  · have hv := hc0.1
    obtain ⟨n, rfl⟩ := Int.eq_ofNat_of_zero_le hc0.2.1
    have hc1 := hc0.2.2
    have hcs : cands l n w m = bfind l n w m (down n) := if_pos hc0
    rw [hcs]
    refine w_body4 Tryz.func91 rfl rfl ?_
    clear hc0
    repeat' (first | apply w_seq | apply w_region | apply o_nil | (apply o_g tyOk; exact rfl; exact rfl) | (apply o_not; exact rfl; exact rfl) | (apply o_load tyOk; (iterate 3 exact rfl); (focus (exact pk))) | (apply o_box (tt := tyT); iterate 5 exact rfl) | (apply o_makeFunc; iterate 3 exact rfl) | (apply o_call; exact rfl; exact rfl; (focus (first | exact rfl)); exact rfl; (focus (exact ⟨_, valid_any _ _ _, by repeat (first | with_reducible exact Take.nil)⟩)); rintro _ _ ⟨rfl, rfl⟩) | (apply o_call; exact rfl; exact rfl; (focus (first | exact rfl)); exact rfl; (focus (exact ⟨_, better_any l n w m (down n) _ _ _ (by omega) (by omega) (by omega) (by omega) rfl (fun n5 n6 n7 n8 n11 n12 p hb => Candidates1_any l n w _ n5 n6 n7 n8 n11 n12 _ _ (1, []) p hb (by omega) (by omega) (by omega) rfl (by omega)), by repeat (first | with_reducible exact Take.nil)⟩)); rintro _ _ hq) | (apply o_want; exact rfl; exact rfl) | (apply o_gF; (iterate 3 exact rfl); (focus (first | omega))) | (apply w_dF; exact rfl; (focus (first | omega))) | apply thenS_normal | apply w_skip | apply w_ret | ((with_reducible apply Sd.mk); (first | exact True.intro)) | ((with_reducible apply Ln.mk); (first | rfl)) | ((with_reducible apply Ce.mk); (first | rfl)) | exact True.intro | intro A | exact rfl)
    rcases hq with ⟨e, rfl, rfl⟩ | ⟨A', rfl, rfl⟩
    · (apply s_fin; (exact (show ResS _ _ _ _ [_] from ⟨rfl, trivial⟩)); (focus (exact .inl ⟨e, rfl, rfl⟩)); (focus (repeat (first | with_reducible exact Take.nil | with_reducible apply Take.c | with_reducible apply Take.drop))))
    · (apply s_fin; (exact (show ResS _ _ _ _ [_] from ⟨rfl, trivial⟩)); (focus (exact .inr ⟨A', rfl, rfl⟩)); (focus (repeat (first | with_reducible exact Take.nil | with_reducible apply Take.c | with_reducible apply Take.drop))))
  · have hcs : cands l i w m = [] := if_neg hc0
    rw [hcs]
    refine w_body4 Tryz.func91 rfl rfl ?_
    repeat' (first | apply w_seq | apply w_region | apply o_nil | (apply o_g tyOk; exact rfl; exact rfl) | (apply o_not; exact rfl; exact rfl) | (apply o_load tyOk; (iterate 3 exact rfl); (focus (exact pk))) | (apply o_box (tt := tyT); iterate 5 exact rfl) | (apply o_call; exact rfl; exact rfl; (focus (first | exact rfl)); exact rfl; (focus (exact ⟨_, valid_any _ _ _, by repeat (first | with_reducible exact Take.nil)⟩)); rintro _ _ ⟨rfl, rfl⟩) | (apply o_want; exact rfl; exact rfl) | (apply o_skip; iterate 4 exact rfl) | (apply o_guardFN; (iterate 3 exact rfl); all_goals intro hc) | (apply o_guardF; (iterate 3 exact rfl); all_goals intro hc) | (apply w_true; exact rfl) | (apply w_dT; exact rfl; (focus (first | omega))) | apply thenS_normal | apply thenS_ret | apply w_ret | ((with_reducible apply Sd.mk); (first | exact True.intro)) | ((with_reducible apply Ln.mk); (first | rfl)) | ((with_reducible apply Ce.mk); (first | rfl)) | exact True.intro | intro A | exact rfl)
    all_goals first | (apply s_fin; (exact (show ResS _ _ _ _ [_] from ⟨rfl, trivial⟩)); (focus (exact .inl ⟨rfl, rfl, rfl⟩)); (focus (repeat (first | with_reducible exact Take.nil | with_reducible apply Take.c | with_reducible apply Take.drop)))) | exact absurd ⟨by assumption, by omega, by omega, by omega⟩ hc0

theorem cands_le (l : List UInt8) (i w m : Int) : (cands l i w m).length ≤ 4096 := by
  unfold cands
  split
  · unfold bfind
    have h1 := brun_len (l := l) (i := i.toNat) (w := w) (m := (min m ((l.length : Int) - i.toNat)).toNat) (js := down i.toNat) (s := (1, []))
    rw [down_len] at h1
    simp only [List.length_nil, Nat.zero_add] at h1
    omega
  · simp

end Go.Proofs.YtncnmfdmbfbfjaaGreat
end
section
set_option linter.unusedVariables false
set_option linter.unusedSimpArgs false
set_option maxRecDepth 4000
namespace Go.Proofs.YtncnmfdmbfbfjaaGreat
open Go.Gh Go.RowKit

theorem lcp_min (l : List UInt8) : ∀ (a b i j : Nat), lcp l i j (min a b) = min (lcp l i j a) b
  | 0, b, i, j => by simp [lcp]
  | a + 1, 0, i, j => by simp [lcp]
  | a + 1, b + 1, i, j => by
    rw [show min (a + 1) (b + 1) = min a b + 1 by omega]
    unfold lcp
    split
    · rw [lcp_min l a b (i + 1) (j + 1)]; omega
    · simp

/-- The length at a distance, of a position inside. -/
theorem atd_eq (l : List UInt8) (i d : Nat) (m : Int) (hd : 1 ≤ d) (hdi : d ≤ i) (hi : i ≤ l.length) (hm : 0 ≤ m) :
    atd l i d m = if lcp l (i - d) i (min m ((l.length : Int) - i)).toNat < 2 then 0 else (lcp l (i - d) i (min m ((l.length : Int) - i)).toNat : Int) := by
  have e : min (com l ((i : Int) - d) i : Int) m = (lcp l (i - d) i (min m ((l.length : Int) - i)).toNat : Int) := by
    unfold com
    rw [if_pos (by omega), show ((i : Int) - d).toNat = i - d by omega, show ((i : Int)).toNat = i by omega, show ((l.length : Int) - max ((i : Int) - d) i).toNat = l.length - i by omega]
    have := lcp_min l (l.length - i) m.toNat (i - d) i
    rw [show (min m ((l.length : Int) - i)).toNat = min (l.length - i) m.toNat by omega, this]
    omega
  unfold atd
  rw [if_neg (by omega), e]
  split
  · rw [if_pos (by omega)]
  · rw [if_neg (by omega)]

theorem rc_pos (l : List UInt8) (i m : Int) (hm : 0 ≤ m) : ∀ d, 0 ≤ (rc l i m d).2
  | 0 => Int.le_refl _
  | d + 1 => by
    have := rc_pos l i m hm d
    unfold rc; split
    · show 0 ≤ atd l i (d + 1) m; omega
    · exact this
theorem atd_range (l : List UInt8) (i d m : Int) : atd l i d m = 0 ∨ 2 ≤ atd l i d m := by unfold atd; repeat' split <;> omega

theorem rc_succ (l : List UInt8) (i m : Int) (d : Nat) : rc l i m (d + 1) = if (rc l i m d).2 < atd l i (d + 1) m then ((rc l i m d).1 ++ [(atd l i (d + 1) m, (d : Int) + 1)], atd l i (d + 1) m) else rc l i m d := rfl
/-- Nothing better can come. -/
theorem rc_stable (l : List UInt8) (i : Nat) (m : Int) (hi : i ≤ l.length) (hm : 0 ≤ m) (d : Nat) (h : min m ((l.length : Int) - i) ≤ max 1 (rc l i m d).2) : ∀ k, d + k ≤ i → rc l i m (d + k) = rc l i m d
  | 0, _ => rfl
  | k + 1, hk => by
    have ih := rc_stable l i m hi hm d h k (by omega)
    rw [show d + (k + 1) = d + k + 1 by omega]
    have hp := rc_pos l i m hm d
    have ha := atd_eq l i (d + k + 1) m (by omega) (by omega) hi hm
    have hle := lcp_le l (min m ((l.length : Int) - i)).toNat (i - (d + k + 1)) i
    have e : ((d + k : Nat) : Int) + 1 = ((d + k + 1 : Nat) : Int) := by omega
    rw [rc_succ, ih, e, ha, if_neg]
    split <;> omega

theorem brun_rc (l : List UInt8) (i : Nat) (w m : Int) (hi : i ≤ l.length) (hm : 2 ≤ m) (hw : 1 ≤ w) : ∀ (k : Nat) (s : BS), k ≤ i → ((i - k : Nat) : Int) ≤ w → s.2 = (rc l i m (i - k)).1 → (s.1 : Int) = max 1 (rc l i m (i - k)).2 →
    (brun l i w (min m ((l.length : Int) - i)).toNat (down k) s).2 = (rc l i m (min w i).toNat).1
  | 0, s, hk, hkw, h1, h2 => by
    show s.2 = _
    rw [h1, show (min w (i : Int)).toNat = i - 0 by omega]
  | k + 1, s, hk, hkw, h1, h2 => by
    have ha := atd_eq l i (i - k) m (by omega) (by omega) hi (by omega)
    rw [show i - (i - k) = k by omega] at ha
    have hstep : rc l i m (i - k) = if (rc l i m (i - (k + 1))).2 < atd l i (i - k : Nat) m then ((rc l i m (i - (k + 1))).1 ++ [(atd l i (i - k : Nat) m, ((i - k : Nat) : Int))], atd l i (i - k : Nat) m) else rc l i m (i - (k + 1)) := by
      have e : i - k = i - (k + 1) + 1 := by omega
      have e2 : ((i - (k + 1) : Nat) : Int) + 1 = ((i - k : Nat) : Int) := by omega
      rw [e, rc_succ, e2, e]
    have hp := rc_pos l i m (by omega) (i - (k + 1))
    by_cases hg : bgo i w (min m ((l.length : Int) - i)).toNat k s
    · show (if bgo i w (min m ((l.length : Int) - i)).toNat k s then brun l i w (min m ((l.length : Int) - i)).toNat (down k) (bup l i (min m ((l.length : Int) - i)).toNat k s) else s).2 = _
      rw [if_pos hg]
      have hg' : ¬ (w < (i : Int) - k ∨ (min m ((l.length : Int) - i)).toNat ≤ s.1) := hg
      refine brun_rc l i w m hi hm hw k _ (by omega) (by omega) ?_ ?_
      · unfold bup
        rw [hstep]
        split
        · rw [if_pos (by rw [ha, if_neg (by omega)]; omega), h1, ha, if_neg (by omega)]
          show _ ++ [(_, (i : Int) - (k : Int))] = _ ++ [(_, ((i - k : Nat) : Int))]
          rw [show ((i - k : Nat) : Int) = (i : Int) - k by omega]
        · rw [if_neg (by rw [ha]; split <;> omega)]; exact h1
      · unfold bup
        rw [hstep]
        split
        · rw [if_pos (by rw [ha, if_neg (by omega)]; omega), ha, if_neg (by omega)]
          show ((lcp l k i _ : Nat) : Int) = max 1 ((lcp l k i _ : Nat) : Int)
          omega
        · rw [if_neg (by rw [ha]; split <;> omega)]; exact h2
    · show (if bgo i w (min m ((l.length : Int) - i)).toNat k s then brun l i w (min m ((l.length : Int) - i)).toNat (down k) (bup l i (min m ((l.length : Int) - i)).toNat k s) else s).2 = _
      rw [if_neg hg]
      have hg' : w < (i : Int) - k ∨ (min m ((l.length : Int) - i)).toNat ≤ s.1 := Classical.not_not.1 hg
      rw [h1]
      by_cases hw2 : w < (i : Int) - k
      · rw [show (min w (i : Int)).toNat = i - (k + 1) by omega]
      · have := rc_stable l i m hi (by omega) (i - (k + 1)) (by omega) ((min w (i : Int)).toNat - (i - (k + 1))) (by omega)
        rw [show i - (k + 1) + ((min w (i : Int)).toNat - (i - (k + 1))) = (min w (i : Int)).toNat by omega] at this
        rw [this]

theorem cands_eq (l : List UInt8) (i w m : Int) : cands l i w m = rcands l i w m := by
  unfold cands rcands
  split
  · rename_i h
    obtain ⟨⟨h1, h2, h3, h4⟩, h5, h6, h7⟩ := h
    obtain ⟨i, rfl⟩ := Int.eq_ofNat_of_zero_le h5
    have := brun_rc l i w m (by omega) h3 h1 i (1, []) (Nat.le_refl _) (by omega) (by simp [rc]) (by simp only [Nat.sub_self, rc]; rfl)
    exact this
  · rfl

end Go.Proofs.YtncnmfdmbfbfjaaGreat
end
section
set_option linter.unusedVariables false
set_option linter.unusedSimpArgs false
set_option maxRecDepth 4000
namespace Go.Proofs.YtncnmfdmbfbfjaaGreat
open Go.Gh Go.RowKit

theorem rc_in (l : List UInt8) (i m : Int) : ∀ d, 0 ≤ (rc l i m d).2 ∧ ∀ c ∈ (rc l i m d).1, ∃ e : Nat, 1 ≤ e ∧ e ≤ d ∧ c = (atd l i e m, (e : Int)) ∧ 0 < c.1
  | 0 => ⟨Int.le_refl _, fun c h => nomatch h⟩
  | d + 1 => by
    obtain ⟨h1, h2⟩ := rc_in l i m d
    unfold rc
    split
    · rename_i hlt
      refine ⟨by show 0 ≤ atd l i (d + 1) m; omega, fun c hc => ?_⟩
      rcases List.mem_append.1 hc with hc | hc
      · obtain ⟨e, g1, g2, g3⟩ := h2 c hc
        exact ⟨e, g1, by omega, g3⟩
      · obtain rfl := List.mem_singleton.1 hc
        exact ⟨d + 1, by omega, Nat.le_refl _, by push_cast; rfl, by show 0 < atd l i (d + 1) m; omega⟩
    · exact ⟨h1, fun c hc => let ⟨e, g1, g2, g3⟩ := h2 c hc; ⟨e, g1, by omega, g3⟩⟩
theorem cands_in {l : List UInt8} {i : Nat} {w : Int} {c : Int × Int} (h : c ∈ cands l i w 273) : 2 ≤ c.1 ∧ c.1 ≤ 273 ∧ 1 ≤ c.2 ∧ c.2 ≤ 4096 ∧ (i : Int) + c.1 ≤ l.length := by
  rw [cands_eq] at h
  unfold rcands at h
  split at h
  · rename_i hv
    obtain ⟨e, h1, h2, rfl, h3⟩ := (rc_in l i 273 _).2 c h
    have hcm : (com l ((i : Int) - e) i : Int) ≤ (l.length : Int) - i := by
      have := lcp_le l (l.length - max ((i : Int) - e) i).toNat ((i : Int) - e).toNat (i : Int).toNat
      unfold com
      split <;> omega
    dsimp only at h3 ⊢
    unfold atd at h3 ⊢
    by_cases g1 : (e : Int) < 1 ∨ (i : Int) < e
    · rw [if_pos g1] at h3; omega
    · rw [if_neg g1] at h3 ⊢
      by_cases g2 : min (com l ((i : Int) - e) i : Int) 273 < 2
      · rw [if_pos g2] at h3; omega
      · rw [if_neg g2]; omega
  · cases h
/-- Pieces of a distance, from a length down to another. -/
def trN (d : Int) (lo : Nat) : Nat → List Pc
  | 0 => []
  | n + 1 => if lo < n + 1 then (((n + 1 : Nat) : Int), d, 0) :: trN d lo n else []
def shr (cs : List (Int × Int)) (k : Nat) : Nat := if 0 < k then cs[k - 1]!.1.toNat else 1
def trK (cs : List (Int × Int)) : Nat → List Pc
  | 0 => []
  | k + 1 => trN cs[k]!.2 (shr cs k) cs[k]!.1.toNat ++ trK cs k
def litP (l : List UInt8) (i : Nat) : Pc := (1, 0, bat l i)
def triesL (l : List UInt8) (i : Nat) (w : Int) : List Pc := trK (cands l i w 273) (cands l i w 273).length ++ [litP l i]
def runT (c : Cst) (i : Nat) (ts : List Pc) (s : Bool × List St) : Bool × List St := ts.foldl (tryS c i) s
def rowT (c : Cst) (l : List UInt8) (w : Int) (i : Nat) (T : List St) : List St := (runT c i (triesL l i w) (false, T)).2
def st0 : St := (0, 0, 0, 0, 0)
/-- The table when j places are done. -/
def parT (c : Cst) (l : List UInt8) (w : Int) : Nat → List St
  | 0 => List.replicate (l.length + 1) st0
  | j + 1 => rowT c l w (l.length - (j + 1)) (parT c l w j)
/-- The pieces of a table from a place on. -/
def walkT (T : List St) (n : Nat) : Nat → Nat → List Pc
  | 0, _ => []
  | f + 1, i => if i < n then T[i]!.2.2 :: walkT T n f (i + T[i]!.2.2.1.toNat) else []
def parse (c : Cst) (l : List UInt8) (w : Int) : List Pc × Int :=
  if vC c ∧ 1 ≤ w ∧ w ≤ 4096 then (if 4096 < l.length then ([], 9) else (walkT (parT c l w l.length) l.length l.length 0, 0)) else ([], 1)
theorem trN_in {d : Int} {lo : Nat} : ∀ {n : Nat} {t : Pc}, t ∈ trN d lo n → (lo : Int) < t.1 ∧ t.1 ≤ n ∧ t.2.1 = d ∧ t.2.2 = 0
  | 0, _, h => nomatch h
  | n + 1, t, h => by
    unfold trN at h
    split at h
    · rcases List.mem_cons.1 h with rfl | h
      · exact ⟨by show (lo : Int) < ((n + 1 : Nat) : Int); omega, Int.le_refl _, rfl, rfl⟩
      · have := trN_in h; exact ⟨this.1, by omega, this.2.2⟩
    · cases h
/-- What is tried at a place fits. -/
abbrev fits (l : List UInt8) (i : Nat) (t : Pc) : Prop := vP t ∧ (i : Int) + t.1 ≤ l.length ∧ 1 ≤ t.1
theorem shr_pos {l : List UInt8} {i : Nat} {w : Int} {k : Nat} (h : k < (cands l i w 273).length) : 1 ≤ shr (cands l i w 273) k := by
  unfold shr
  split
  · have := cands_in (bang_mem (show k - 1 < (cands l i w 273).length by omega)); omega
  · omega
theorem trN_fits {l : List UInt8} {i : Nat} {w : Int} {k : Nat} (h : k < (cands l i w 273).length) {t : Pc} (ht : t ∈ trN (cands l i w 273)[k]!.2 (shr (cands l i w 273) k) (cands l i w 273)[k]!.1.toNat) : fits l i t := by
  have h1 := cands_in (bang_mem h)
  have h2 := shr_pos h
  have h3 := trN_in ht
  exact ⟨.inr ⟨by omega, by omega, by omega, by omega, h3.2.2.2⟩, by omega, by omega⟩
theorem trK_fits {l : List UInt8} {i : Nat} {w : Int} : ∀ {k : Nat}, k ≤ (cands l i w 273).length → ∀ t ∈ trK (cands l i w 273) k, fits l i t
  | 0, _, _, h => nomatch h
  | k + 1, hk, t, h => by
    rcases List.mem_append.1 h with h | h
    · exact trN_fits (by omega) h
    · exact trK_fits (by omega) t h
theorem lit_fits {l : List UInt8} {i : Nat} (h : i < l.length) : fits l i (litP l i) := ⟨.inl ⟨rfl, rfl⟩, by show (i : Int) + 1 ≤ _; omega, Int.le_refl _⟩
/-- Every step of a table is small. -/
def TOk (n : Nat) (T : List St) : Prop := T.length = n + 1 ∧ ∀ j, j ≤ n → 0 ≤ T[j]!.1 ∧ T[j]!.1 ≤ 27000 * ((n : Int) - j) ∧ 0 ≤ T[j]!.2.1 ∧ T[j]!.2.1 ≤ (n : Int) - j
theorem lzset_bang {α : Type} [Inhabited α] {l : List α} {i j : Nat} {x : α} (h : i < l.length) : (l.set i x)[j]! = if j = i then x else l[j]! := by
  simp only [getElem!_def, List.getElem?_set]
  by_cases e : i = j
  · subst e; rw [if_pos rfl, if_pos h, if_pos rfl]
  · rw [if_neg e, if_neg (Ne.symm e)]
theorem tryS_ok {c : Cst} {l : List UInt8} {i : Nat} {s : Bool × List St} {t : Pc} (hc : vC c) (h : TOk l.length s.2) (ht : fits l i t) : TOk l.length (tryS c i s t).2 := by
  unfold tryS
  split
  · refine ⟨by rw [List.length_set]; exact h.1, fun j hj => ?_⟩
    rw [lzset_bang (by have := h.1; omega)]
    split
    · rename_i e; subst e
      have h1 := h.2 (j + t.1.toNat) (by omega)
      have h2 := price_in hc ht.1
      unfold nxt; dsimp only
      omega
    · exact h.2 j hj
  · exact h
theorem runT_ok {c : Cst} {l : List UInt8} {i : Nat} (hc : vC c) : ∀ {ts : List Pc} {s : Bool × List St}, TOk l.length s.2 → (∀ t ∈ ts, fits l i t) → TOk l.length (runT c i ts s).2
  | [], _, h, _ => h
  | t :: ts, s, h, ht => runT_ok hc (ts := ts) (tryS_ok hc h (ht t (by simp))) (fun x hx => ht x (by simp [hx]))
theorem runT_app (c : Cst) (i : Nat) (a b : List Pc) (s : Bool × List St) : runT c i (a ++ b) s = runT c i b (runT c i a s) := List.foldl_append ..
end Go.Proofs.YtncnmfdmbfbfjaaGreat
end
