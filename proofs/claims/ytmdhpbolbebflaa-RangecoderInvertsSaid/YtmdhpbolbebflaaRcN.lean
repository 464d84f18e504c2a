/- Calls of an encoder, and of the decoder behind it. No program in sight. -/
import Derived.Test.YtmdhpbolbebflaaRcM
set_option linter.unusedVariables false
set_option linter.unusedSimpArgs false
namespace Go.Proofs.Ytmdhpbolbebflaa
open Go.Gh Go.RowKit

def ecall (e : Enc) (c : Bool × Int × Int) : Enc := match c.1 with
  | true => edir e c.2.1 c.2.2
  | false => ebit e c.2.1 c.2.2
def dcall (d : Dec) (c : Bool × Int × Int) : Dec × Int := match c.1 with
  | true => ddir d c.2.1
  | false => dbit d c.2.1
def ecalls (l : List (Bool × Int × Int)) (e : Enc) : Enc := l.foldl ecall e
theorem ecall_ok {n : Nat} {e : Enc} (h : EncOk n e) (c : Bool × Int × Int) : EncOk (n + 124) (ecall e c) := by
  unfold ecall
  split
  · exact edir_ok h _ _
  · exact (ebit_ok h _ _).mono (by omega)
theorem ecall_in {n : Nat} {e : Enc} (hok : EncOk n e) (hi : InB e) (c : Bool × Int × Int) : Within e (ecall e c) ∧ InB (ecall e c) := by
  unfold ecall
  split
  · unfold edir
    split
    · exact ⟨.refl _, hi⟩
    · exact within_ebits _ hok hi
  · exact ⟨(within_estep hok hi _ _).trans (within_ebit hok hi _ _), ebit_InB hok hi _ _⟩
/-- What the law asks of a call that is read. -/
def Reads (c : Bool × Int × Int) (r : Int) : Prop := match c.1 with
  | false => c.2.2 = 0 ↔ r = 0
  | true => r = if c.2.1 < 0 ∨ 62 < c.2.1 then 0 else c.2.2 % 2 ^ c.2.1.toNat
theorem call_read {D : List UInt8} {n : Nat} {e f : Enc} {d : Dec} (hD : D.length = f.out.length + 4) (hv : (val D : Int) = num' f) (hs : 0 < f.size) (s : Syn D e d) (hok : EncOk n e) (hi : InB e) (c : Bool × Int × Int) (w : Within (ecall e c) f) :
    Syn D (ecall e c) (dcall d c).1 ∧ Reads c (dcall d c).2 := by
  obtain ⟨k, x, v⟩ := c
  cases k with
  | false =>
    have hr := bit_read s hok hi x v w hD hv hs
    exact ⟨ebit_syn s hok hi x v hr (by have := within_len w; show (ebit e x v).out.length + 4 ≤ _; have h2 : (ebit e x v).out.length ≤ f.out.length := this; omega), hr⟩
  | true =>
    show Syn D (edir e x v) (ddir d x).1 ∧ (ddir d x).2 = if x < 0 ∨ 62 < x then 0 else v % 2 ^ x.toNat
    have w' : Within (edir e x v) f := w
    unfold edir at w' ⊢
    unfold ddir
    split
    · exact ⟨s, rfl⟩
    · rename_i hx
      rw [if_neg hx] at w'
      obtain ⟨g1, g2⟩ := bits_read hD hv hs x.toNat (a := 0) s hok hi w'
      exact ⟨g1, by rw [g2]; omega⟩
end Go.Proofs.Ytmdhpbolbebflaa
