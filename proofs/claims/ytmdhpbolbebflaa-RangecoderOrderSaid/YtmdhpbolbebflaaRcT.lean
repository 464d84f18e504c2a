/- Bytes of lists of bits are ordered as the lists. No program in sight. -/
import Derived.Test.YtmdhpbolbebflaaRcL
set_option linter.unusedVariables false
set_option linter.unusedSimpArgs false
namespace Go.Proofs.Ytmdhpbolbebflaa
open Go.Gh Go.RowKit

theorem less_val : ∀ {a b : List UInt8}, val a * 256 ^ b.length < val b * 256 ^ a.length → Op.bytesLess a b = true
  | [], [], h => by simp [val] at h
  | [], _ :: _, _ => rfl
  | _ :: _, [], h => by simp [val] at h
  | x :: a, y :: b, h => by
    rw [val_cons, val_cons] at h
    have ha := val_lt a
    have hb := val_lt b
    simp only [List.length_cons] at h
    rw [Nat.pow_succ, Nat.pow_succ] at h
    show (decide (x < y) || (x == y && Op.bytesLess a b)) = true
    have hpa : 0 < 256 ^ a.length := Nat.pow_pos (by decide)
    have hpb : 0 < 256 ^ b.length := Nat.pow_pos (by decide)
    generalize hA : 256 ^ a.length = A at *
    generalize hB : 256 ^ b.length = B at *
    rcases Nat.lt_trichotomy x.toNat y.toNat with h1 | h1 | h1
    · have : x < y := UInt8.lt_iff_toNat_lt.2 h1
      simp [this]
    · have e : x = y := UInt8.toNat_inj.1 h1
      subst e
      have h2 : val a * B < val b * A := by
        have e1 : (x.toNat * A + val a) * (B * 256) = x.toNat * A * B * 256 + val a * B * 256 := by
          rw [Nat.add_mul, ← Nat.mul_assoc, ← Nat.mul_assoc]
        have e2 : (x.toNat * B + val b) * (A * 256) = x.toNat * A * B * 256 + val b * A * 256 := by
          rw [Nat.add_mul, ← Nat.mul_assoc, ← Nat.mul_assoc, Nat.mul_right_comm x.toNat B A]
        rw [e1, e2] at h; omega
      rw [← hA, ← hB] at h2
      simp [less_val h2]
    · exfalso
      have e1 : (y.toNat + 1) * A * (B * 256) ≤ (x.toNat * A + val a) * (B * 256) := Nat.mul_le_mul_right _ (by
        have : (y.toNat + 1) * A ≤ x.toNat * A := Nat.mul_le_mul_right _ h1
        omega)
      have e2 : (y.toNat * B + val b) * (A * 256) ≤ (y.toNat + 1) * B * (A * 256) := Nat.mul_le_mul_right _ (by rw [Nat.add_mul]; omega)
      have e3 : (y.toNat + 1) * A * (B * 256) = (y.toNat + 1) * B * (A * 256) := by
        rw [← Nat.mul_assoc, ← Nat.mul_assoc, Nat.mul_right_comm (y.toNat + 1) A B]
      omega
theorem less_irr : ∀ a : List UInt8, Op.bytesLess a a = false
  | [] => rfl
  | x :: a => by
    show (decide (x < x) || (x == x && Op.bytesLess a a)) = false
    rw [less_irr a]; simp
theorem less_asym : ∀ {a b : List UInt8}, Op.bytesLess a b = true → Op.bytesLess b a = false
  | [], [], h => by cases h
  | [], _ :: _, _ => rfl
  | _ :: _, [], h => by cases h
  | x :: a, y :: b, h => by
    have h' : (decide (x < y) || (x == y && Op.bytesLess a b)) = true := h
    show (decide (y < x) || (y == x && Op.bytesLess b a)) = false
    simp only [Bool.or_eq_true, decide_eq_true_eq, Bool.and_eq_true, beq_iff_eq] at h'
    rcases h' with h' | ⟨rfl, h'⟩
    · have h1 : x.toNat < y.toNat := UInt8.lt_iff_toNat_lt.1 h'
      have h2 : ¬ y < x := fun k => by have := UInt8.lt_iff_toNat_lt.1 k; omega
      have h3 : ¬ y = x := fun k => by rw [k] at h1; omega
      simp [h2, h3]
    · rw [less_asym h']; simp

/-- The interval of one encoder lies below that of another one. -/
def Bel (e f : Enc) : Prop := (num' e + e.size) * pw f.out.length ≤ num' f * pw e.out.length
theorem Bel.within {e f e' f' : Enc} (h : Bel e f) (a : Within e e') (b : Within f f') : Bel e' f' := by
  obtain ⟨i, a1, a2, a3⟩ := a
  obtain ⟨j, b1, b2, b3⟩ := b
  unfold Bel at h ⊢
  rw [a1, b1, pw_add, pw_add]
  have hi := Int.le_of_lt (pw_pos i)
  have hj := Int.le_of_lt (pw_pos j)
  have hle := Int.le_of_lt (pw_pos e.out.length)
  have hlf := Int.le_of_lt (pw_pos f.out.length)
  calc (num' e' + e'.size) * (pw f.out.length * pw j) ≤ (num' e + e.size) * pw i * (pw f.out.length * pw j) := Int.mul_le_mul_of_nonneg_right a3 (Int.mul_nonneg hlf hj)
    _ = (num' e + e.size) * pw f.out.length * (pw i * pw j) := by rw [Int.mul_assoc, Int.mul_left_comm (pw i), ← Int.mul_assoc]
    _ ≤ num' f * pw e.out.length * (pw i * pw j) := Int.mul_le_mul_of_nonneg_right h (Int.mul_nonneg hi hj)
    _ = num' f * pw j * (pw e.out.length * pw i) := by rw [Int.mul_assoc, Int.mul_assoc, Int.mul_comm (pw i) (pw j), Int.mul_left_comm (pw e.out.length)]
    _ ≤ num' f' * (pw e.out.length * pw i) := Int.mul_le_mul_of_nonneg_right b2 (Int.mul_nonneg hle hi)
theorem Bel.less {e f : Enc} (h : Bel e f) (hs : 0 < e.size) (he : 0 ≤ e.low ∧ e.low ≤ 4294967295) (hf : 0 ≤ f.low ∧ f.low ≤ 4294967295) : Op.bytesLess (fin e) (fin f) = true := by
  refine less_val ?_
  have h1 := fin_val he
  have h2 := fin_val hf
  rw [fin_len, fin_len]
  have h3 : (val (fin e) : Int) * pw (f.out.length + 4) < (val (fin f) : Int) * pw (e.out.length + 4) := by
    rw [h1, h2, pw_add, pw_add, ← Int.mul_assoc, ← Int.mul_assoc]
    refine Int.mul_lt_mul_of_pos_right ?_ (pw_pos 4)
    unfold Bel at h
    rw [Int.add_mul] at h
    have := Int.mul_pos hs (pw_pos f.out.length)
    omega
  unfold pw at h3
  exact_mod_cast h3

/-- Bit i of a list of bits: unset behind the end. -/
def bi (a : List Bool) (i : Nat) : Bool := decide (i < a.length) && a[i]!
def ib (b : Bool) : Int := bif b then 1 else 0
/-- The first steps of bits with some probabilities. -/
def sx (zs : List Int) (a : List Bool) (k : Nat) : List (Int × Int) := (List.range k).map fun i => (zs[i]!, ib (bi a i))
theorem sx_succ (zs : List Int) (a : List Bool) (k : Nat) : sx zs a (k + 1) = sx zs a k ++ [(zs[k]!, ib (bi a k))] := by unfold sx; rw [List.range_succ, List.map_append]; rfl
@[simp] theorem sx_len (zs : List Int) (a : List Bool) (k : Nat) : (sx zs a k).length = k := by simp [sx]
/-- Which of two lists of bits is less, as far as they have been seen. -/
def lm (a b : List Bool) : Nat → Bool × Bool
  | 0 => (false, false)
  | k + 1 => bif !(lm a b k).1 && !(lm a b k).2 then (decide (ib (bi a k) < ib (bi b k)), decide (ib (bi b k) < ib (bi a k))) else lm a b k
def eruns (l : List (Int × Int)) (e : Enc) : Enc := l.foldl (fun e s => ebit e s.1 s.2) e
theorem erun_all : ∀ {l : List (Int × Int)} {e : Enc}, (∀ s ∈ l, vldS s) → erun l e = some (eruns l e)
  | [], _, _ => rfl
  | s :: r, e, h => by
    rw [erun_cons, if_pos (h s List.mem_cons_self), erun_all fun x hx => h x (List.mem_cons_of_mem _ hx)]; rfl
theorem eruns_snoc (l : List (Int × Int)) (s : Int × Int) (e : Enc) : eruns (l ++ [s]) e = ebit (eruns l e) s.1 s.2 := by unfold eruns; rw [List.foldl_append]; rfl
structure OkN (e : Enc) (n : Nat) : Prop where
  ok : EncOk n e
  inb : InB e
theorem eruns_ok (zs : List Int) (a : List Bool) (k : Nat) : OkN (eruns (sx zs a k) e00) (2 * k) := by
  induction k with
  | zero => exact ⟨e00_ok, e00_InB⟩
  | succ k ih => rw [sx_succ, eruns_snoc]; exact ⟨(ebit_ok ih.ok _ _).mono (by omega), ebit_InB ih.ok ih.inb _ _⟩
theorem step_in {e : Enc} {n : Nat} (h : OkN e n) (z b : Int) : Within e (ebit e z b) := (within_estep h.ok h.inb z b).trans (within_ebit h.ok h.inb z b)
theorem bel_bits {e : Enc} {n : Nat} (h : OkN e n) (z : Int) : Bel (ebit e z 0) (ebit e z 1) := by
  obtain ⟨a1, a2, a3, a4⟩ := estep_num h.ok h.inb z 0
  obtain ⟨b1, b2, b3, b4⟩ := estep_num h.ok h.inb z 1
  refine Bel.within (e := estep e z 0) (f := estep e z 1) ?_ (within_ebit h.ok h.inb z 0) (within_ebit h.ok h.inb z 1)
  unfold Bel
  rw [a3, b3, a1, b1, a4, if_pos rfl, if_pos rfl, if_neg (by decide)]
  simp
theorem ib_cases (b : Bool) : ib b = 0 ∨ ib b = 1 := by cases b <;> simp [ib]
theorem order_inv (zs : List Int) (a b : List Bool) (k : Nat) : (lm a b k = (false, false) ∧ eruns (sx zs a k) e00 = eruns (sx zs b k) e00) ∨ (lm a b k = (true, false) ∧ Bel (eruns (sx zs a k) e00) (eruns (sx zs b k) e00)) ∨
    (lm a b k = (false, true) ∧ Bel (eruns (sx zs b k) e00) (eruns (sx zs a k) e00)) := by
  induction k with
  | zero => exact .inl ⟨rfl, rfl⟩
  | succ k ih =>
    have ha := eruns_ok zs a k
    have hb := eruns_ok zs b k
    rw [sx_succ, sx_succ, eruns_snoc, eruns_snoc]
    unfold lm
    rcases ih with ⟨h1, h2⟩ | ⟨h1, h2⟩ | ⟨h1, h2⟩
    · rw [h1]
      rw [h2] at ha ⊢
      simp only [Bool.not_false, Bool.and_self, cond_true]
      rcases ib_cases (bi a k) with x | x <;> rcases ib_cases (bi b k) with y | y
      · exact .inl ⟨by rw [x, y]; rfl, by rw [x, y]⟩
      · exact .inr (.inl ⟨by rw [x, y]; rfl, by rw [x, y]; exact bel_bits ha _⟩)
      · exact .inr (.inr ⟨by rw [x, y]; rfl, by rw [x, y]; exact bel_bits ha _⟩)
      · exact .inl ⟨by rw [x, y]; rfl, by rw [x, y]⟩
    · rw [h1]; exact .inr (.inl ⟨rfl, h2.within (step_in ha _ _) (step_in hb _ _)⟩)
    · rw [h1]; exact .inr (.inr ⟨rfl, h2.within (step_in hb _ _) (step_in ha _ _)⟩)
/-- What the law asks. -/
theorem order_ok (zs : List Int) (a b : List Bool) (hz : ∀ i, i < zs.length → vldP zs[i]!) : (enc (sx zs a zs.length)).2 = 0 ∧ (enc (sx zs b zs.length)).2 = 0 ∧
    Op.bytesLess (enc (sx zs a zs.length)).1 (enc (sx zs b zs.length)).1 = (lm a b zs.length).1 ∧
    (!(Op.bytesLess (enc (sx zs a zs.length)).1 (enc (sx zs b zs.length)).1 || ((enc (sx zs a zs.length)).1 == (enc (sx zs b zs.length)).1))) = (lm a b zs.length).2 := by
  have hv : ∀ c : List Bool, enc (sx zs c zs.length) = (fin (eruns (sx zs c zs.length) e00), 0) := fun c => by
    unfold enc
    rw [erun_all fun s hs => ?_]
    obtain ⟨i, hi, rfl⟩ := List.mem_map.1 hs
    exact ⟨hz i (List.mem_range.1 hi), ib_cases _⟩
  rw [hv a, hv b]
  refine ⟨rfl, rfl, ?_⟩
  have ha := (eruns_ok zs a zs.length).ok
  have hb := (eruns_ok zs b zs.length).ok
  dsimp only
  rcases order_inv zs a b zs.length with ⟨h1, h2⟩ | ⟨h1, h2⟩ | ⟨h1, h2⟩
  · rw [h1, h2, less_irr]; simp
  · have h3 := h2.less (by have := ha.size; omega) ha.low hb.low
    rw [h1, h3]; simp
  · have h3 := h2.less (by have := hb.size; omega) hb.low ha.low
    have h4 := less_asym h3
    have h5 : (fin (eruns (sx zs a zs.length) e00) == fin (eruns (sx zs b zs.length) e00)) = false := by
      rw [beq_eq_false_iff_ne]
      intro e
      rw [e, less_irr] at h3; cases h3
    rw [h1, h4, h5]; simp
end Go.Proofs.Ytmdhpbolbebflaa
