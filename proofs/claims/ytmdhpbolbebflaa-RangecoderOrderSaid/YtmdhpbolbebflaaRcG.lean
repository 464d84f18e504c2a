/- The range coder as numbers: an encoder is an interval, a decoder is a number within it. No program in sight. -/
import Derived.Test.YtmdhpbolbebflaaRcF
set_option linter.unusedVariables false
set_option linter.unusedSimpArgs false
namespace Go.Proofs.Ytmdhpbolbebflaa
open Go.Gh Go.RowKit

def val (l : List UInt8) : Nat := l.foldl (fun a c => a * 256 + c.toNat) 0
theorem foldl_val (l : List UInt8) : ∀ a : Nat, l.foldl (fun a c => a * 256 + c.toNat) a = a * 256 ^ l.length + val l := by
  induction l with
  | nil => intro a; simp [val]
  | cons c r ih =>
    intro a
    have h1 := ih (a * 256 + c.toNat)
    have h2 := ih (0 * 256 + c.toNat)
    simp only [List.foldl_cons, List.length_cons]
    rw [h1, show val (c :: r) = (0 * 256 + c.toNat) * 256 ^ r.length + val r from h2, Nat.pow_succ]
    rw [Nat.add_mul, Nat.zero_mul, Nat.zero_add, Nat.mul_assoc, Nat.mul_comm 256]
    omega
theorem val_app (l m : List UInt8) : val (l ++ m) = val l * 256 ^ m.length + val m := by
  show (l ++ m).foldl _ 0 = _
  rw [List.foldl_append, foldl_val m]; rfl
theorem val_one (c : UInt8) : val [c] = c.toNat := by simp [val]
theorem val_snoc (l : List UInt8) (c : UInt8) : val (l ++ [c]) = val l * 256 + c.toNat := by rw [val_app, val_one]; rfl
theorem val_cons (c : UInt8) (l : List UInt8) : val (c :: l) = c.toNat * 256 ^ l.length + val l := by
  have := val_app [c] l
  rw [val_one] at this; exact this
theorem val_lt : ∀ l : List UInt8, val l < 256 ^ l.length
  | [] => by decide
  | c :: r => by
    have h1 := val_lt r
    have h2 := c.toNat_lt
    rw [val_cons, List.length_cons, Nat.pow_succ]
    have h3 : c.toNat * 256 ^ r.length ≤ 255 * 256 ^ r.length := Nat.mul_le_mul_right _ (by omega)
    omega
theorem val_inj : ∀ {l m : List UInt8}, l.length = m.length → val l = val m → l = m
  | [], [], _, _ => rfl
  | c :: r, d :: s, hl, hv => by
    simp only [List.length_cons, Nat.add_right_cancel_iff] at hl
    rw [val_cons, val_cons, hl] at hv
    have h1 := val_lt r
    have h2 := val_lt s
    rw [hl] at h1
    have hq : 0 < 256 ^ s.length := Nat.pow_pos (by decide)
    have e1 : c.toNat = d.toNat := by
      have a1 := Nat.div_eq_of_lt h1
      have a2 := Nat.div_eq_of_lt h2
      have b1 : (c.toNat * 256 ^ s.length + val r) / 256 ^ s.length = c.toNat := by rw [Nat.mul_comm, Nat.mul_add_div hq, a1]; rfl
      have b2 : (d.toNat * 256 ^ s.length + val s) / 256 ^ s.length = d.toNat := by rw [Nat.mul_comm, Nat.mul_add_div hq, a2]; rfl
      rw [← b1, ← b2, hv]
    rw [e1] at hv
    have e2 : val r = val s := by omega
    rw [UInt8.toNat_inj.1 e1, val_inj hl e2]
theorem b8_nat {n : Int} (h : 0 ≤ n ∧ n < 256) : ((b8 n).toNat : Int) = n := b8_val h

theorem bat_mid (P R : List UInt8) (c : UInt8) : bat (P ++ c :: R) (P.length : Nat) = c.toNat := by
  unfold bat
  rw [Int.toNat_natCast, List.getD_eq_getElem?_getD, List.getElem?_append_right (Nat.le_refl _), Nat.sub_self]; rfl
theorem set_mid (P R : List UInt8) (c d : UInt8) : (P ++ c :: R).set P.length d = P ++ d :: R := by
  rw [List.set_append_right _ _ (Nat.le_refl _), Nat.sub_self]; rfl
/-- One more, where there is room for it. -/
theorem carryAt_val : ∀ (n : Nat) (P R : List UInt8), P.length = n → val P + 1 < 256 ^ n → ∃ P', carryAt (P ++ R) n = P' ++ R ∧ P'.length = n ∧ val P' = val P + 1
  | 0, P, R, h, hv => by simp at hv
  | n + 1, P, R, h, hv => by
    obtain ⟨Q, c, rfl⟩ : ∃ Q c, P = Q ++ [c] := ⟨P.dropLast, P.getLast (fun e => by subst e; simp at h), (List.dropLast_concat_getLast _).symm⟩
    have hQ : Q.length = n := by simpa using h
    subst hQ
    rw [List.append_assoc, List.singleton_append]
    have hc := c.toNat_lt
    unfold carryAt
    rw [bat_mid, set_mid]
    split
    · rename_i h1
      refine ⟨Q ++ [b8 (((c.toNat : Int) + 1) % 256)], by simp, by simp, ?_⟩
      rw [val_snoc, val_snoc]
      have := b8_nat (n := ((c.toNat : Int) + 1) % 256) (by omega)
      omega
    · rename_i h1
      have h2 : ((c.toNat : Int) + 1) % 256 = 0 := Classical.not_not.1 h1
      have h3 : c.toNat = 255 := by omega
      rw [val_snoc, Nat.pow_succ] at hv
      obtain ⟨Q', g1, g2, g3⟩ := carryAt_val Q.length Q (b8 (((c.toNat : Int) + 1) % 256) :: R) rfl (by omega)
      refine ⟨Q' ++ [b8 (((c.toNat : Int) + 1) % 256)], by rw [g1]; simp, by simp [g2], ?_⟩
      rw [val_snoc, val_snoc, g3]
      have := b8_nat (n := ((c.toNat : Int) + 1) % 256) (by omega)
      omega
theorem carry_val {l : List UInt8} (h : val l + 1 < 256 ^ l.length) : val (carry l) = val l + 1 := by
  obtain ⟨P, g1, g2, g3⟩ := carryAt_val l.length l [] rfl h
  rw [List.append_nil, List.append_nil] at g1
  unfold carry; rw [g1, g3]

/-- The lower end of an encoder's interval, in units of 256^-(4 + bytes). -/
def num' (e : Enc) : Int := (val e.out : Int) * 4294967296 + e.low
/-- The interval lies between 0 and 1. -/
def InB (e : Enc) : Prop := num' e + e.size ≤ 4294967296 * ((256 ^ e.out.length : Nat) : Int)
theorem fin_val {e : Enc} (h : 0 ≤ e.low ∧ e.low ≤ 4294967295) : (val (fin e) : Int) = num' e := by
  unfold fin num'
  rw [val_app]
  have h4 : val (tail4 e.low) = e.low.toNat := by
    unfold tail4
    rw [val_cons, val_cons, val_cons, val_one]
    have a1 := b8_nat (n := e.low / 16777216) (by omega)
    have a2 := b8_nat (n := e.low / 65536 % 256) (by omega)
    have a3 := b8_nat (n := e.low / 256 % 256) (by omega)
    have a4 := b8_nat (n := e.low % 256) (by omega)
    simp only [List.length_cons, List.length_nil]
    omega
  rw [h4, show (tail4 e.low).length = 4 from rfl]
  omega
theorem estep_num {n : Nat} {e : Enc} (hok : EncOk n e) (hi : InB e) (z b : Int) : num' (estep e z b) = num' e + (if b = 0 then 0 else bound e.size z) ∧ InB (estep e z b) ∧ (estep e z b).out.length = e.out.length ∧
    (estep e z b).size = if b = 0 then bound e.size z else e.size - bound e.size z := by
  have hd := size_dvd hok.size z
  have hl := hok.low
  unfold InB num' at hi
  unfold estep
  split
  · refine ⟨by unfold num'; dsimp only; omega, ?_, rfl, rfl⟩
    unfold InB num'; dsimp only; omega
  · split
    · have hlt : val e.out + 1 < 256 ^ e.out.length := by
        generalize 256 ^ e.out.length = w at *; omega
      have hc := carry_val hlt
      refine ⟨by unfold num'; dsimp only; rw [hc]; omega, ?_, carry_len _, rfl⟩
      unfold InB num'; dsimp only; rw [hc, carry_len]; omega
    · refine ⟨by unfold num'; dsimp only; omega, ?_, rfl, rfl⟩
      unfold InB num'; dsimp only; omega
theorem eshift_num {e : Enc} (h : 0 ≤ e.low ∧ e.low ≤ 4294967295) : num' (eshift e) = num' e * 256 ∧ (eshift e).out.length = e.out.length + 1 ∧ (eshift e).size = e.size * 256 := by
  refine ⟨?_, by show (e.out ++ [_]).length = _; simp, rfl⟩
  show (val (e.out ++ [_]) : Int) * 4294967296 + e.low * 256 % 4294967296 = ((val e.out : Int) * 4294967296 + e.low) * 256
  rw [val_snoc]
  have := b8_nat (n := e.low / 16777216) (by omega)
  omega
end Go.Proofs.Ytmdhpbolbebflaa
