/- Part 12 of the proof of the law Lz77Inverts: texts merged. No condition. -/
import Derived.Test.YtgooffiipnkmiaaZLz77InvertsK
section
set_option linter.unusedVariables false
set_option linter.unusedSimpArgs false
set_option maxRecDepth 4000
namespace Go.Proofs.Ytgooffiipnkmiaa
open Go.Gh Go.RowKit

theorem edir_in {n : Nat} {e : Enc} (hok : EncOk n e) (hi : InB e) (x v : Int) : Within e (edir e x v) ∧ InB (edir e x v) := by
  unfold edir
  split
  · exact ⟨.refl _, hi⟩
  · exact within_ebits _ hok hi
theorem ddir_miss {d : Dec} {x : Int} (h : (ddir d x).1.missing = false) : d.missing = false := by
  unfold ddir at h
  split at h
  · exact h
  · exact dbits_miss _ h
theorem ddir_ext {c : UInt8} {d : Dec} {x : Int} (h : (ddir d x).1.missing = false) : ddir (ext d c) x = (ext (ddir d x).1 c, (ddir d x).2) := by
  unfold ddir at h ⊢
  split
  · rfl
  · rename_i hx
    rw [if_neg hx] at h
    exact dbits_ext _ h
/-- The model of bytes. -/
theorem benc_in {P : List Int} {c v : Int} {n : Nat} {e : Enc} (hok : EncOk n e) (hi : InB e) : Within e (benc P c e v).2 ∧ InB (benc P c e v).2 := tenc_in (v := v) 8 (t := bsel P (c / 32).toNat) (j := 1) hok hi
theorem benc_read {D : List UInt8} {f : Enc} {P : List Int} {c v : Int} {n : Nat} {e : Enc} {d : Dec} (hf : Beh D f) (s : Syn D e d) (hok : EncOk n e) (hi : InB e) (w : Within (benc P c e v).2 f) :
    Syn D (benc P c e v).2 (bdec P c d).2.1 ∧ (bdec P c d).1 = (benc P c e v).1 ∧ (bdec P c d).2.2 = v % 256 := by
  obtain ⟨h1, h2, h3⟩ := tenc_read (v := v) hf 8 (t := bsel P (c / 32).toNat) (j := 1) s hok hi w
  refine ⟨h1, congrArg (bput P (c / 32).toNat) h2, ?_⟩
  show ((((tdec 8 (bsel P (c / 32).toNat) d 1).2.2 - 256 : Nat)) : Int) = v % 256
  have h28 : (2 ^ 8 : Int) = 256 := rfl
  rw [h28] at h3
  omega
theorem bdec_miss {P : List Int} {c : Int} {d : Dec} (h : (bdec P c d).2.1.missing = false) : d.missing = false := tdec_miss 8 (t := bsel P (c / 32).toNat) (j := 1) h
theorem bdec_full {P : List Int} {c : Int} {d : Dec} : (bdec P c d).2.1.full = d.full := tdec_full 8 (t := bsel P (c / 32).toNat) (j := 1)
theorem bdec_ext {P : List Int} {c : Int} {d : Dec} {x : UInt8} (h : (bdec P c d).2.1.missing = false) : bdec P c (ext d x) = ((bdec P c d).1, ext (bdec P c d).2.1 x, (bdec P c d).2.2) := by
  have := tdec_ext (c := x) 8 (t := bsel P (c / 32).toNat) (j := 1) h
  unfold bdec
  rw [this]
/-- The model of numbers. -/
theorem nenc_in {t : List Int} {v : Int} {n : Nat} {e : Enc} (hok : EncOk n e) (hi : InB e) : Within e (nenc t e v).2 ∧ InB (nenc t e v).2 := by
  have h1 := tenc_in (v := (blen (ncut v).toNat : Int)) 6 (t := t) (j := 1) hok hi
  have h2 := (tenc_ok (v := (blen (ncut v).toNat : Int)) (k := 6) (t := t) (j := 1) hok).1
  show Within e (if _ then _ else _) ∧ InB (if _ then _ else _)
  split
  · have h3 := edir_in h2 h1.2 ((blen (ncut v).toNat : Int) - 1) (ncut v)
    exact ⟨h1.1.trans h3.1, h3.2⟩
  · exact h1
theorem ncut_in (v : Int) : 0 ≤ ncut v ∧ ncut v ≤ 4611686018427387903 := by unfold ncut; split <;> omega
theorem blen_lt (x : Nat) : x < 2 ^ blen x := by
  unfold blen
  split
  · rename_i h; subst h; decide
  · exact Nat.lt_log2_self
theorem blen_ge {x : Nat} (h : x ≠ 0) : 2 ^ (blen x - 1) ≤ x := by
  unfold blen
  rw [if_neg h, Nat.add_sub_cancel]
  exact Nat.log2_self_le h
theorem nenc_read {D : List UInt8} {f : Enc} {t : List Int} {v : Int} {n : Nat} {e : Enc} {d : Dec} (hf : Beh D f) (s : Syn D e d) (hok : EncOk n e) (hi : InB e) (w : Within (nenc t e v).2 f) :
    Syn D (nenc t e v).2 (ndec t d).2.1 ∧ (ndec t d).1 = (nenc t e v).1 ∧ (ndec t d).2.2 = ncut v := by
  have hcut := ncut_in v
  unfold nenc at w ⊢
  unfold ndec
  obtain ⟨x, hx⟩ := Int.eq_ofNat_of_zero_le hcut.1
  rw [hx] at hcut w ⊢
  rw [Int.toNat_natCast] at w ⊢
  have hl : blen x ≤ 62 := blen_le (by have : (2 : Nat) ^ 62 = 4611686018427387904 := rfl; omega)
  have h1 := tenc_in (v := (blen x : Int)) 6 (t := t) (j := 1) hok hi
  have h2 := (tenc_ok (v := (blen x : Int)) (k := 6) (t := t) (j := 1) hok).1
  have hlt := blen_lt x
  have hge := fun h => blen_ge (x := x) h
  have hz2 : x = 0 → blen x = 0 := fun h => by rw [h]; rfl
  have w1 : Within (tenc (blen x) 6 t e 1).2 f := by
    dsimp only at w
    split at w
    · exact (edir_in h2 h1.2 _ _).1.trans w
    · exact w
  obtain ⟨g1, g2, g3⟩ := tenc_read (v := (blen x : Int)) hf 6 (t := t) (j := 1) s hok hi w1
  have h26 : (2 ^ 6 : Int) = 64 := rfl
  rw [h26] at g3
  have hj : (tdec 6 t d 1).2.2 - 64 = blen x := by omega
  rw [hj]
  dsimp only at w ⊢
  generalize blen x = l at *
  by_cases h0 : l ≤ 1
  · rw [if_neg (show ¬ 2 ≤ l by omega), if_pos (show l ≤ 1 ∨ l = 63 from .inl h0), if_pos h0]
    refine ⟨g1, g2, ?_⟩
    have : l = 0 ∨ l = 1 := by omega
    rcases this with rfl | rfl
    · rw [Nat.pow_zero] at hlt; omega
    · rw [Nat.pow_one] at hlt
      have : x ≠ 0 := fun h => absurd (hz2 h) (by decide)
      omega
  · rw [if_pos (show 2 ≤ l by omega), if_neg (show ¬ (l ≤ 1 ∨ l = 63) by omega), if_neg h0, if_neg (show ¬ l = 63 by omega)]
    rw [if_pos (show 2 ≤ l by omega)] at w
    have hx0 : x ≠ 0 := fun h => by have := hz2 h; omega
    have e1 : ∀ E V, edir E ((l : Int) - 1) V = ebits V (l - 1) E := fun E V => by unfold edir; rw [if_neg (by omega), show ((l : Int) - 1).toNat = l - 1 by omega]
    have e2 : ∀ D, ddir D ((l : Int) - 1) = dbits (l - 1) D 0 := fun D => by unfold ddir; rw [if_neg (by omega), show ((l : Int) - 1).toNat = l - 1 by omega]
    rw [e1] at w ⊢
    rw [e2]
    obtain ⟨k1, k2⟩ := bits_read hf.len hf.val hf.size (v := (x : Int)) (l - 1) (a := 0) g1 h2 h1.2 w
    refine ⟨k1, g2, ?_⟩
    rw [k2]
    have hg := hge hx0
    have hp2 : 2 ^ l = 2 ^ (l - 1) * 2 := by rw [← Nat.pow_succ]; congr 1; omega
    rw [hp2] at hlt
    have hc : ((2 : Int) ^ (l - 1)) = ((2 ^ (l - 1) : Nat) : Int) := by simp
    rw [hc]
    generalize 2 ^ (l - 1) = p at *
    have : x % p = x - p := by rw [Nat.mod_eq_sub_mod hg, Nat.mod_eq_of_lt (by omega)]
    rw [← Int.natCast_emod, this]
    omega
theorem ndec_miss {t : List Int} {d : Dec} (h : (ndec t d).2.1.missing = false) : d.missing = false ∧ (tdec 6 t d 1).2.1.missing = false := by
  have : (tdec 6 t d 1).2.1.missing = false := by
    unfold ndec at h
    dsimp only at h
    split at h
    · exact h
    · exact ddir_miss h
  exact ⟨tdec_miss 6 (t := t) (j := 1) this, this⟩
theorem ndec_full {t : List Int} {d : Dec} : (ndec t d).2.1.full = d.full := by
  unfold ndec
  dsimp only
  split
  · exact tdec_full 6 (t := t) (j := 1)
  · exact (ddir_full _ _).trans (tdec_full 6 (t := t) (j := 1))
theorem ndec_ext {t : List Int} {d : Dec} {x : UInt8} (h : (ndec t d).2.1.missing = false) : ndec t (ext d x) = ((ndec t d).1, ext (ndec t d).2.1 x, (ndec t d).2.2) := by
  have h1 := tdec_ext (c := x) 6 (t := t) (j := 1) (ndec_miss h).2
  unfold ndec at h ⊢
  rw [h1]
  dsimp only at h ⊢
  generalize tdec 6 t d 1 = T at *
  by_cases h0 : T.2.2 - 64 ≤ 1 ∨ T.2.2 - 64 = 63
  · rw [if_pos h0, if_pos h0]
    by_cases h2 : T.2.2 - 64 ≤ 1
    · rw [if_pos h2, if_pos h2]
    · rw [if_neg h2, if_neg h2, if_pos (by omega), if_pos (by omega)]
  · rw [if_neg h0] at h
    rw [if_neg h0, if_neg h0, if_neg (by omega), if_neg (by omega), if_neg (by omega), if_neg (by omega), ddir_ext h]
end Go.Proofs.Ytgooffiipnkmiaa
end
section
set_option linter.unusedVariables false
set_option linter.unusedSimpArgs false
set_option maxRecDepth 4000
namespace Go.Proofs.Ytgooffiipnkmiaa
open Go.Gh Go.RowKit

/-- The start behind an encoder. -/
theorem start_full {n : Nat} {f : Enc} (hok : EncOk n f) (w : Within encZ f) : (dnew (fin f)).full = false := by
  have hv := fin_val hok.low
  have ha := within_at w (fin_len _) hv (by have := hok.size; omega)
  have hlen : 4 ≤ (fin f).length := by rw [fin_len]; omega
  generalize fin f = D at *
  obtain ⟨a, b, c, d, r, rfl⟩ := four hlen
  · have h1 := a.toNat_lt; have h2 := b.toNat_lt; have h3 := c.toNat_lt; have h5 := d.toNat_lt
    have hv4 : val [a, b, c, d] = ((a.toNat * 256 + b.toNat) * 256 + c.toNat) * 256 + d.toNat := by simp [val]
    have ha2 : (val [a, b, c, d] : Int) < 4294967295 := by
      have := ha.2
      rw [show num' encZ + encZ.size = 4294967295 from rfl] at this
      exact this
    show decide ((((0 * 256 % 4294967296 + (a.toNat : Int)) * 256 % 4294967296 + (b.toNat : Int)) * 256 % 4294967296 + (c.toNat : Int)) * 256 % 4294967296 + (d.toNat : Int) = 4294967295) = false
    rw [decide_eq_false_iff_not]
    omega
theorem start_syn {n : Nat} {f : Enc} (hok : EncOk n f) (w : Within encZ f) : Syn (fin f) encZ (dnew (fin f)) := dnew_syn (by rw [fin_len]; omega) (start_full hok w)
end Go.Proofs.Ytgooffiipnkmiaa
end
section
set_option linter.unusedVariables false
set_option linter.unusedSimpArgs false
set_option maxRecDepth 4000
namespace Go.Proofs.Ytgooffiipnkmiaa
open Go.Gh Go.RowKit

theorem lead_fin : ∀ f : Nat, f < 256 → (f < 128 → vlead (f : Int) 8 0 = 0 ∧ vlow (f : Int) 0 = f) ∧ (128 ≤ f → f < 192 → vlead (f : Int) 8 0 = 1 ∧ vlow (f : Int) 1 = (f : Int) - 128) ∧ (192 ≤ f → 2 ≤ vlead (f : Int) 8 0) := by decide +kernel
theorem hd_fin : ∀ m : Nat, m < 128 → vhd 0 (m : Int) = m ∧ (m < 64 → vhd 1 (m : Int) = 128 + (m : Int)) := by decide +kernel
theorem vbnd0 : vbnd 0 = 0 := rfl
theorem vbnd1 : vbnd 1 = 128 := by decide
theorem vbnd2 : vbnd 2 = 16512 := by decide
theorem vk_lo {n : Int} (h : n < 128) : vk n = 0 := by
  show (if vbnd 1 ≤ n then vks n 7 1 else 0) = 0
  rw [vbnd1, if_neg (by omega)]
theorem vk_hi {n : Int} (h : 128 ≤ n) (h2 : n < 16512) : vk n = 1 := by
  show (if vbnd 1 ≤ n then (if vbnd 2 ≤ n then vks n 6 2 else 1) else 0) = 1
  rw [vbnd1, vbnd2, if_pos h, if_neg (by omega)]
theorem vnum_lo {n : Int} (h0 : 0 ≤ n) (h : n < 128) : vnum n = [b8 n] := by
  obtain ⟨m, rfl⟩ := Int.eq_ofNat_of_zero_le h0
  unfold vnum
  rw [if_neg (by omega), vk_lo h, vbnd0, Int.sub_zero]
  show [b8 (vhd 0 (m : Int))] = _
  rw [(hd_fin m (by omega)).1]
theorem vnum_hi {n : Int} (h0 : 128 ≤ n) (h : n < 16512) : vnum n = [b8 (128 + (n - 128) / 256), b8 ((n - 128) % 256)] := by
  unfold vnum
  rw [if_neg (by omega), vk_hi h0 h, vbnd1]
  show [b8 (vhd 1 ((n - 128) / 256)), b8 ((n - 128) % 256)] = _
  obtain ⟨m, hm⟩ := Int.eq_ofNat_of_zero_le (show 0 ≤ (n - 128) / 256 by omega)
  rw [hm, (hd_fin m (by omega)).2 (by omega)]
theorem bat_zero (x : UInt8) (r : List UInt8) : bat (x :: r) 0 = x.toNat := rfl
theorem vpeek_lo {x : UInt8} {r : List UInt8} (h : x.toNat < 128) : vpeek (x :: r) = ((x.toNat : Int), 1, true) := by
  have hl := (lead_fin x.toNat (by omega)).1 h
  unfold vpeek
  rw [if_neg (by simp), bat_zero, hl.1, if_neg (by simp), hl.2, vbnd0]
  rw [show vacc (x :: r) 0 1 (x.toNat : Int) = x.toNat from rfl, if_neg (by omega), Int.add_zero]
  rfl
theorem vpeek_hi {x y : UInt8} {r : List UInt8} (h : 128 ≤ x.toNat) (h2 : x.toNat < 192) : vpeek (x :: y :: r) = (((x.toNat : Int) - 128) * 256 + y.toNat + 128, 2, true) := by
  have hl := (lead_fin x.toNat (by omega)).2.1 h h2
  have hy := y.toNat_lt
  unfold vpeek
  rw [if_neg (by simp), bat_zero, hl.1, if_neg (by simp), hl.2, vbnd1]
  rw [show vacc (x :: y :: r) 1 1 ((x.toNat : Int) - 128) = ((x.toNat : Int) - 128) * 256 + y.toNat from rfl, if_neg (by omega)]
  rfl
theorem vpeek_num {n : Int} (h0 : 0 ≤ n) (h : n ≤ 4096) (r : List UInt8) : vpeek (vnum n ++ r) = (n, ((vnum n).length : Int), true) := by
  by_cases h1 : n < 128
  · rw [vnum_lo h0 h1]
    have := b8_val (n := n) (by omega)
    show vpeek (b8 n :: r) = _
    rw [vpeek_lo (by omega), this]
    rfl
  · rw [vnum_hi (by omega) (by omega)]
    have e1 := b8_val (n := 128 + (n - 128) / 256) (by omega)
    have e2 := b8_val (n := (n - 128) % 256) (by omega)
    show vpeek (b8 (128 + (n - 128) / 256) :: b8 ((n - 128) % 256) :: r) = _
    rw [vpeek_hi (by omega) (by omega), e1, e2]
    have : (128 + (n - 128) / 256 - 128) * 256 + (n - 128) % 256 + 128 = n := by omega
    rw [this]
    rfl
theorem rdN_num {n : Int} (h0 : 0 ≤ n) (h : n ≤ 4096) (r : List UInt8) : rdN (vnum n ++ r) 4096 = (n, r, 0) := by
  unfold rdN
  rw [vpeek_num h0 h]
  dsimp only
  rw [if_neg (by decide), if_neg (by omega), Int.toNat_natCast, List.drop_left]
end Go.Proofs.Ytgooffiipnkmiaa
end
section
set_option linter.unusedVariables false
set_option linter.unusedSimpArgs false
set_option maxRecDepth 4000
namespace Go.Proofs.Ytgooffiipnkmiaa
open Go.Gh Go.RowKit

theorem wst_in {n : Nat} {s : Ms × Enc} {t : Pc} (hok : EncOk n s.2) (hi : InB s.2) : Within s.2 (wst s t).2 ∧ InB (wst s t).2 := by
  unfold wst
  split
  · have h1 := tenc_ok (v := 0) (k := 1) (t := s.1.K) (j := 1) hok
    have g1 := tenc_in (v := 0) 1 (t := s.1.K) (j := 1) hok hi
    have g2 := benc_in (P := s.1.P) (c := s.1.c) (v := t.2.2) h1.1 g1.2
    exact ⟨g1.1.trans g2.1, g2.2⟩
  · have h1 := tenc_ok (v := 1) (k := 1) (t := s.1.K) (j := 1) hok
    have h2 := nenc_ok (t := s.1.L) h1.1 (t.1 - 2)
    have g1 := tenc_in (v := 1) 1 (t := s.1.K) (j := 1) hok hi
    have g2 := nenc_in (t := s.1.L) (v := t.1 - 2) h1.1 g1.2
    have g3 := nenc_in (t := s.1.D) (v := t.2.1 - 1) h2.1 g2.2
    exact ⟨(g1.1.trans g2.1).trans g3.1, g3.2⟩
theorem wrun_in (l : List Pc) : ∀ {n : Nat} {s : Ms × Enc}, MsOk s.1 → EncOk n s.2 → InB s.2 → (∀ t ∈ l, vPb t) → Within s.2 (wrun l s).2 ∧ InB (wrun l s).2 := by
  induction l with
  | nil => intro n s _ _ hi _; exact ⟨.refl _, hi⟩
  | cons t r ih =>
    intro n s hx hok hi ht
    have h1 := wst_ok hx hok (ht t (by simp))
    have g1 := wst_in (t := t) hok hi
    have g2 := ih h1.1 h1.2 g1.2 (fun u hu => ht u (by simp [hu]))
    rw [wrun_cons]
    exact ⟨g1.1.trans g2.1, g2.2⟩
theorem wst_read {D : List UInt8} {f : Enc} {n : Nat} {s : Ms × Enc} {d : Dec} {t : Pc} (hf : Beh D f) (sy : Syn D s.2 d) (hok : EncOk n s.2) (hi : InB s.2) (ht : vPb t) (w : Within (wst s t).2 f) :
    Syn D (wst s t).2 (zrd s.1 d).d ∧ (zrd s.1 d).x = (wst s t).1 ∧ (zrd s.1 d).t = t ∧ ((zrd s.1 d).lit = true ↔ t.2.1 = 0) ∧ (zrd s.1 d).d.full = d.full := by
  obtain ⟨hv, hy⟩ := ht
  obtain ⟨a, b, y⟩ := t
  dsimp only at hv hy
  unfold wst at w ⊢
  dsimp only at w ⊢
  by_cases h0 : b = 0
  · have ha : a = 1 := by rcases hv with g | g <;> (dsimp only at g; omega)
    subst h0 ha
    rw [if_pos rfl] at w ⊢
    dsimp only at w ⊢
    have h1 := tenc_ok (v := 0) (k := 1) (t := s.1.K) (j := 1) hok
    have g1 := tenc_in (v := 0) 1 (t := s.1.K) (j := 1) hok hi
    have g2 := benc_in (P := s.1.P) (c := s.1.c) (v := y) h1.1 g1.2
    obtain ⟨k1, k2, k3⟩ := tenc_read (v := 0) hf 1 (t := s.1.K) (j := 1) sy hok hi (g2.1.trans w)
    obtain ⟨m1, m2, m3⟩ := benc_read hf k1 h1.1 g1.2 (P := s.1.P) (c := s.1.c) (v := y) w
    have hj : (tdec 1 s.1.K d 1).2.2 = 2 := by
      have e : (2 : Int) ^ 1 * ((1 : Nat) : Int) + 0 % 2 ^ 1 = 2 := by decide
      rw [e] at k3; omega
    have hfu := tdec_full 1 (t := s.1.K) (d := d) (j := 1)
    have hfu2 := bdec_full (P := s.1.P) (c := s.1.c) (d := (tdec 1 s.1.K d 1).2.1)
    have hyy : y % 256 = y := by omega
    unfold zrd
    rw [if_pos hj]
    dsimp only
    rw [m2, m3, k2, hyy]
    exact ⟨m1, rfl, rfl, ⟨fun _ => rfl, fun _ => rfl⟩, hfu2.trans hfu⟩
  · have hg : 1 ≤ b ∧ b ≤ 4096 ∧ 2 ≤ a ∧ a ≤ 273 ∧ y = 0 := by rcases hv with g | g <;> (dsimp only at g; omega)
    rw [if_neg h0] at w ⊢
    dsimp only at w ⊢
    have h1 := tenc_ok (v := 1) (k := 1) (t := s.1.K) (j := 1) hok
    have h2 := nenc_ok (t := s.1.L) h1.1 (a - 2)
    have g1 := tenc_in (v := 1) 1 (t := s.1.K) (j := 1) hok hi
    have g2 := nenc_in (t := s.1.L) (v := a - 2) h1.1 g1.2
    have g3 := nenc_in (t := s.1.D) (v := b - 1) h2.1 g2.2
    obtain ⟨k1, k2, k3⟩ := tenc_read (v := 1) hf 1 (t := s.1.K) (j := 1) sy hok hi ((g2.1.trans g3.1).trans w)
    obtain ⟨m1, m2, m3⟩ := nenc_read hf k1 h1.1 g1.2 (t := s.1.L) (v := a - 2) (g3.1.trans w)
    obtain ⟨p1, p2, p3⟩ := nenc_read hf m1 h2.1 g2.2 (t := s.1.D) (v := b - 1) w
    have hj : ¬ (tdec 1 s.1.K d 1).2.2 = 2 := by
      have e : (2 : Int) ^ 1 * ((1 : Nat) : Int) + 1 % 2 ^ 1 = 3 := by decide
      rw [e] at k3; omega
    have hfu := tdec_full 1 (t := s.1.K) (d := d) (j := 1)
    have hfu2 := ndec_full (t := s.1.L) (d := (tdec 1 s.1.K d 1).2.1)
    have hfu3 := ndec_full (t := s.1.D) (d := (ndec s.1.L (tdec 1 s.1.K d 1).2.1).2.1)
    rw [show ncut (a - 2) = a - 2 from if_neg (by omega)] at m3
    rw [show ncut (b - 1) = b - 1 from if_neg (by omega)] at p3
    unfold zrd
    rw [if_neg hj]
    dsimp only
    rw [p2, p3, m2, m3, k2, Int.sub_add_cancel, Int.sub_add_cancel, hg.2.2.2.2]
    exact ⟨p1, rfl, rfl, ⟨fun g => (by cases g), fun g => absurd g h0⟩, (hfu3.trans hfu2).trans hfu⟩
/-- Pieces that make bytes of n bytes. -/
def Fit (n : Nat) : List UInt8 → List Pc → Prop
  | o, [] => o.length = n
  | o, t :: r => o.length < n ∧ (t.2.1 = 0 ∨ okC n o t) ∧ Fit n (estp o t) r
theorem rdP_read {D : List UInt8} {f : Enc} {n : Nat} (hf : Beh D f) (ps : List Pc) : ∀ {m k : Nat} {s : Ms × Enc} {d : Dec} {o : List UInt8}, MsOk s.1 → EncOk m s.2 → InB s.2 → Syn D s.2 d → Fit n o ps → (∀ t ∈ ps, vPb t) → Within (wrun ps s).2 f → n - o.length ≤ k →
    ∃ d', rdP n k s.1 d o = some (ps, d') ∧ Syn D (wrun ps s).2 d' ∧ d'.full = d.full := by
  induction ps with
  | nil => intro m k s d o _ _ _ sy hfit _ _ _; exact ⟨d, rdP_end (by have : o.length = n := hfit; omega), sy, rfl⟩
  | cons t r ih =>
    intro m k s d o hx hok hi sy hfit ht w hk
    obtain ⟨f1, f2, f3⟩ := hfit
    have h1 := wst_ok hx hok (ht t (by simp))
    have g1 := wst_in (t := t) hok hi
    have htr : ∀ u ∈ r, vPb u := fun u hu => ht u (by simp [hu])
    have g2 := wrun_in r h1.1 h1.2 g1.2 htr
    rw [wrun_cons] at w ⊢
    obtain ⟨q1, q2, q3, q4, q5⟩ := wst_read hf sy hok hi (ht t (by simp)) (g2.1.trans w)
    obtain ⟨k', rfl, e⟩ := rdP_go (x := s.1) (d := d) f1 hk
    have hlen : o.length + 1 ≤ (estp o t).length := by
      have hv := (ht t (by simp)).1
      have := estp_len (o := o) hv
      rcases hv with g | g <;> omega
    obtain ⟨d', e1, e2, e3⟩ := ih (k := k') (o := estp o t) h1.1 h1.2 g1.2 q1 f3 htr w (by omega)
    rw [e, q3, q2, e1, if_pos (f2.imp q4.2 id)]
    exact ⟨d', rfl, e2, e3.trans q5⟩
theorem cov_fit {l : List UInt8} {w : Int} (hw : w ≤ 4096) : ∀ {ps : List Pc} {i : Nat}, i ≤ l.length → Cov l w i ps → Fit l.length (l.take i) ps ∧ exps ps (l.take i) = l
  | [], i, _, h => by
    obtain rfl : i = l.length := h
    rw [List.take_length]; exact ⟨rfl, rfl⟩
  | t :: r, i, hi, h => by
    have hl : (l.take i).length = i := by rw [List.length_take]; omega
    have hf := h.1.fits hw
    have hest : estp (l.take i) t = l.take (i + t.1.toNat) ∧ (t.2.1 = 0 ∨ okC l.length (l.take i) t) := by
      rcases h.1 with ⟨hil, rfl⟩ | ⟨n, d, rfl, h1, h2, h3, h4, h5, h6, h7⟩
      · refine ⟨?_, .inl (litP_at l i)⟩
        unfold estp
        rw [if_pos (litP_at l i)]
        show l.take i ++ [byt (bat l i)] = l.take (i + 1)
        rw [byt_bat hil, List.take_append_getElem hil]
      · refine ⟨?_, .inr (by unfold okC; rw [hl]; dsimp only; omega)⟩
        unfold estp
        rw [if_neg (by show ¬ (d : Int) = 0; omega)]
        show copyN (d : Int).toNat (n : Int).toNat _ = l.take (i + (n : Int).toNat)
        rw [Int.toNat_natCast, Int.toNat_natCast]
        exact copyN_take h3 n i h5 h6 h7
    have hn := cov_fit hw (ps := r) (i := i + t.1.toNat) (by omega) h.2
    refine ⟨⟨by rw [hl]; omega, hest.2, by rw [hest.1]; exact hn.1⟩, ?_⟩
    show exps r (estp (l.take i) t) = l
    rw [hest.1]; exact hn.2
theorem rstp_miss {x : Ms} {d : Dec} (h : (zrd x d).d.missing = false) : d.missing = false := by
  unfold zrd at h
  split at h
  · exact tdec_miss 1 (bdec_miss h)
  · exact tdec_miss 1 (ndec_miss (ndec_miss h).1).1
theorem rstp_ext {x : Ms} {d : Dec} {c : UInt8} (h : (zrd x d).d.missing = false) : zrd x (ext d c) = ⟨(zrd x d).x, ext (zrd x d).d c, (zrd x d).lit, (zrd x d).t⟩ := by
  unfold zrd at h ⊢
  by_cases hj : (tdec 1 x.K d 1).2.2 = 2
  · rw [if_pos hj] at h ⊢
    have h1 := tdec_ext (c := c) 1 (t := x.K) (j := 1) (bdec_miss h)
    have h2 := bdec_ext (x := c) h
    rw [h1]
    dsimp only
    rw [if_pos hj, h2]
  · rw [if_neg hj] at h ⊢
    have h1 := tdec_ext (c := c) 1 (t := x.K) (j := 1) (ndec_miss (ndec_miss h).1).1
    have h2 := ndec_ext (x := c) (ndec_miss h).1
    have h3 := ndec_ext (x := c) h
    rw [h1]
    dsimp only
    rw [if_neg hj, h2]
    dsimp only
    rw [h3]
theorem rdP_miss {n : Nat} : ∀ {f : Nat} {x : Ms} {d : Dec} {o : List UInt8} {r : List Pc × Dec}, rdP n f x d o = some r → r.2.missing = false → d.missing = false
  | 0, x, d, o, r, h, hm => by obtain rfl := Option.some.inj h; exact hm
  | f + 1, x, d, o, r, h, hm => by
    by_cases hlt : o.length < n
    · rw [show rdP n (f + 1) x d o = _ from if_pos hlt] at h
      split at h
      · obtain ⟨r', e1, rfl⟩ := Option.map_eq_some_iff.1 h
        exact rstp_miss (rdP_miss e1 hm)
      · cases h
    · rw [rdP_end hlt] at h
      obtain rfl := Option.some.inj h; exact hm
theorem rdP_ext {n : Nat} {c : UInt8} : ∀ {f : Nat} {x : Ms} {d : Dec} {o : List UInt8} {r : List Pc × Dec}, rdP n f x d o = some r → r.2.missing = false → rdP n f x (ext d c) o = some (r.1, ext r.2 c)
  | 0, x, d, o, r, h, hm => by obtain rfl := Option.some.inj h; rfl
  | f + 1, x, d, o, r, h, hm => by
    by_cases hlt : o.length < n
    · rw [show rdP n (f + 1) x d o = _ from if_pos hlt] at h
      rw [show rdP n (f + 1) x (ext d c) o = _ from if_pos hlt]
      split at h
      · rename_i hg
        obtain ⟨r', e1, rfl⟩ := Option.map_eq_some_iff.1 h
        have hm1 := rdP_miss e1 hm
        rw [rstp_ext hm1]
        dsimp only
        rw [if_pos hg, rdP_ext e1 hm]
        rfl
      · cases h
    · rw [rdP_end hlt] at h ⊢
      obtain rfl := Option.some.inj h; rfl
/-- What is written as pieces is read. -/
theorem lzR_wrt {l : List UInt8} {w : Int} {ps : List Pc} (hw : w ≤ 4096) (hc : Cov l w 0 ps) : ∃ d', rdP l.length l.length ms0 (dnew (fin (wrun ps zs0).2)) [] = some (ps, d') ∧ dend d' = 0 ∧ (∀ c, rdP l.length l.length ms0 (dnew (fin (wrun ps zs0).2 ++ [c])) [] = some (ps, ext d' c)) ∧ exps ps [] = l := by
  have hv := cov_vPb hw hc
  have h1 := wrun_ok (s := zs0) ms0_ok encZ_ok hv
  have h2 := wrun_in ps (s := zs0) ms0_ok encZ_ok e00_InB hv
  have hfit := cov_fit hw (Nat.zero_le _) hc
  rw [List.take_zero] at hfit
  obtain ⟨d', e1, e2, e3⟩ := rdP_read (n := l.length) (Beh.fin h1.2) ps (k := l.length) (s := zs0) (o := []) ms0_ok encZ_ok e00_InB (start_syn h1.2 h2.1) hfit.1 hv (.refl _) (Nat.sub_le _ _)
  have hend := inv_end h1.2.low e2 (e3.trans (start_full h1.2 h2.1))
  obtain ⟨k1, _⟩ := dend_zero hend
  refine ⟨d', e1, hend, fun c => ?_, hfit.2⟩
  rw [dnew_ext (by rw [fin_len]; omega)]
  exact rdP_ext e1 k1
end Go.Proofs.Ytgooffiipnkmiaa
end
section
set_option linter.unusedVariables false
set_option linter.unusedSimpArgs false
set_option maxRecDepth 4000
namespace Go.Proofs.Ytgooffiipnkmiaa
open Go.Gh Go.RowKit

theorem lzE_ne {l : List UInt8} (hl : l.length ≤ 4096) (h0 : l ≠ []) : lzE l = (wrt l.length (pcs l), 0) := by unfold lzE; rw [if_neg (by omega), if_neg h0]
/-- A text that is written as some pieces. -/
theorem lzD_wrt {l : List UInt8} {w : Int} {ps : List Pc} (hl : l.length ≤ 4096) (hw : w ≤ 4096) (hc : Cov l w 0 ps) (most : Int) :
    lzD (wrt l.length ps) most = (if most < l.length then ([], 2) else if lzE l = (wrt l.length ps, 0) then (l, 0) else ([], 12)) ∧
    ∀ c, lzD (wrt l.length ps ++ [c]) most = (if most < l.length then ([], 2) else if lzE l = (wrt l.length ps ++ [c], 0) then (l, 0) else ([], 12)) := by
  obtain ⟨d', e1, e2, e3, e4⟩ := lzR_wrt hw hc
  have k1 : lzR (fin (wrun ps zs0).2) l.length = (l, true) := by unfold lzR; rw [e1]; dsimp only; rw [e4]
  have k2 : ∀ c, lzR (fin (wrun ps zs0).2 ++ [c]) l.length = (l, true) := fun c => by unfold lzR; rw [e3 c]; dsimp only; rw [e4]
  have key : ∀ (R : List UInt8), lzR R l.length = (l, true) → lzD (vnum l.length ++ R) most = (if most < l.length then ([], 2) else if lzE l = (vnum l.length ++ R, 0) then (l, 0) else ([], 12)) := fun R hR => by
    unfold lzD
    rw [rdN_num (by omega) (by omega)]
    dsimp only
    rw [Int.toNat_natCast, hR]
    dsimp only
    rw [if_neg (by decide)]
    by_cases h : most < (l.length : Int)
    · rw [if_pos h, if_pos h]
    · rw [if_neg h, if_neg h, if_neg (by decide)]
  refine ⟨key _ k1, fun c => ?_⟩
  unfold wrt
  rw [List.append_assoc]
  exact key _ (k2 c)
theorem lzD_nil (c : UInt8) : lzD [0] 0 = ([], 0) ∧ lzD [0] (-1) = ([], 2) ∧ lzD [0, c] 0 = ([], 12) := by
  refine ⟨by decide +kernel, by decide +kernel, ?_⟩
  have e : rdN [0, c] 4096 = (0, [c], 0) := rdN_num (n := 0) (by decide) (by decide) [c]
  unfold lzD
  rw [e]
  dsimp only
  rw [if_neg (by decide), if_neg (by decide), if_neg (by show ¬ true = false; decide), if_neg]
  show ¬ lzE (exps [] []) = ([0, c], 0)
  rw [show lzE (exps [] []) = ([0], 0) from zx1]
  intro g
  have := congrArg List.length (congrArg Prod.fst g)
  cases this
theorem lzD_own {l : List UInt8} (hl : l.length ≤ 4096) : (lzE l).2 = 0 ∧ lzD (lzE l).1 l.length = (l, 0) ∧ lzD (lzE l).1 ((l.length : Int) - 1) = ([], 2) ∧ ∀ c, lzD ((lzE l).1 ++ [c]) l.length = ([], 12) := by
  by_cases h0 : l = []
  · subst h0
    rw [zx1]
    refine ⟨rfl, (lzD_nil 0).1, (lzD_nil 0).2.1, fun c => (lzD_nil c).2.2⟩
  · have h1 := lzE_ne hl h0
    have h2 := lzD_wrt hl (by omega) (pcs_cov hl)
    rw [h1]
    refine ⟨rfl, ?_, ?_, fun c => ?_⟩
    · show lzD (wrt l.length (pcs l)) l.length = _
      rw [(h2 l.length).1, if_neg (by omega), if_pos h1]
    · show lzD (wrt l.length (pcs l)) ((l.length : Int) - 1) = _
      rw [(h2 _).1, if_pos (by omega)]
    · show lzD (wrt l.length (pcs l) ++ [c]) l.length = _
      rw [(h2 l.length).2, if_neg (by omega), if_neg]
      rw [h1]
      intro g
      have := congrArg List.length (congrArg Prod.fst g)
      dsimp only at this
      rw [List.length_append, List.length_singleton] at this
      omega
theorem lzE_len {l : List UInt8} (hl : l.length ≤ 4096) : (lzE l).1.length ≤ 137 * l.length + 13 := by
  by_cases h0 : l = []
  · subst h0; rw [zx1]; decide
  · rw [lzE_ne hl h0]
    have hc := pcs_cov hl
    have h1 := wrun_ok (s := zs0) ms0_ok encZ_ok (cov_vPb (by omega) hc)
    have h2 := cov_psum (by omega) hc
    have h3 := h1.2.out
    have h4 := vnum_len (n := (l.length : Int)) (by omega)
    have h5 := (vk_ok (n := (l.length : Int)) (by omega)).2
    show (vnum l.length ++ fin (wrun (pcs l) zs0).2).length ≤ _
    rw [List.length_append, fin_len]
    omega
theorem InvertsZ_any (D : List UInt8) (c : Int) (_ : D.length ≤ 9223372036854775807) (hc : 0 ≤ c ∧ c < 256) : SRun Try.prog 5 [S D, Y c] [] fun r _ => r = B true := by
  by_cases hbig : 300 < D.length
  · refine w_body2 Try.func5 rfl rfl ?_
    repeat' (first | apply w_seq | apply w_region | apply o_nil | (apply o_g tyOk; exact rfl; exact rfl) | (apply o_ar tyOk; exact rfl; exact rfl) | (apply o_not; exact rfl; exact rfl) | (apply o_notB; exact rfl; exact rfl) | (apply o_eqs; (iterate 3 exact rfl); (focus (kernel_rfl)); exact rfl; exact rfl; (focus (kernel_rfl)); exact rfl) | (apply o_buildSlice tyOk; (iterate 5 exact rfl); (focus (decide)); exact rfl; (focus (decide)); (focus (repeat (first | exact CatR.nil | exact CatR.last rfl | (apply CatR.one; exact rfl; exact rfl) | (apply CatR.agg; exact rfl)))); exact rfl) | (apply o_convs tyOk; iterate 6 exact rfl) | (apply o_toBytes tyOk; iterate 7 exact rfl) | (apply o_toString tyOk; (iterate 6 exact rfl); (focus (exact pk))) | (apply o_toString_nil tyOk; iterate 7 exact rfl) | (apply o_call; exact rfl; exact rfl; (focus (first | exact rfl | assumption)); exact rfl; (focus (exact ⟨_, awakeZ_any _, by repeat (first | with_reducible exact Take.nil | with_reducible apply Take.c | with_reducible apply Take.drop)⟩)); rintro _ _ ⟨rfl, rfl⟩) | (apply o_callN; (iterate 3 exact rfl); (focus (exact ⟨_, awakeZ_any _, by repeat (first | with_reducible exact Take.nil | with_reducible apply Take.c | with_reducible apply Take.drop)⟩)); rintro _ _ ⟨rfl, rfl⟩) | (apply o_want; exact rfl; exact rfl) | (apply o_skip; iterate 4 exact rfl) | (apply o_skip_undef; iterate 3 exact rfl) | (apply o_gT; (iterate 3 exact rfl); (focus (first | exact ‹_› | with_reducible exact rfl | omega))) | (apply o_gF; (iterate 3 exact rfl); (focus (first | exact ‹_› | with_reducible exact rfl | omega))) | (apply o_sF; (iterate 3 exact rfl); (focus (first | exact ‹_› | with_reducible exact rfl | omega)); exact rfl) | (apply o_sT; (iterate 3 exact rfl); (focus (first | exact ‹_› | with_reducible exact rfl | omega)); exact rfl) | (apply o_guardTN; (iterate 3 exact rfl); all_goals intro hc) | (apply o_guardFN; (iterate 3 exact rfl); all_goals intro hc) | (apply o_guardT; (iterate 3 exact rfl); all_goals intro hc) | (apply o_guardF; (iterate 3 exact rfl); all_goals intro hc) | (apply o_guardB; (iterate 3 exact rfl); all_goals intro hc) | (apply w_true; exact rfl) | (apply w_false; exact rfl) | (apply w_dT; exact rfl; (focus (first | exact ‹_› | with_reducible exact rfl | omega))) | (apply w_dF; exact rfl; (focus (first | exact ‹_› | with_reducible exact rfl | omega))) | (apply w_ifN; exact rfl; all_goals intro hc) | (apply w_if; exact rfl; all_goals intro hc) | (apply w_ifB; exact rfl; all_goals intro hc) | apply thenS_normal | apply thenS_ret | apply thenS_exit | apply blockS_normal | apply blockS_ret | apply blockS_exit | apply w_skip | apply w_ret | apply w_exit | apply w_block | apply scopeS_normal | apply scopeS_ret | apply scopeS_exit | apply w_scope | (apply blockS_exit_ne; exact rfl) | ((with_reducible apply Sd.mk); (first | exact True.intro | omega | (constructor <;> first | omega | (unfold maxLen; omega)) | (unfold maxLen; omega))) | ((with_reducible apply Ln.mk); (first | rfl | exact ‹_› | omega | (simp ; first | done | omega))) | ((with_reducible apply Wr.mk); (first | exact IntWalk.i64_in _ (by omega) | exact IntWalk.u8_in _ (by omega) | exact IntWalk.u32_in _ (by omega) | exact IntWalk.u64_in _ (by omega) | exact IntKind.wrap_u8 _ | exact IntKind.wrap_u32 _ | rfl)) | with_reducible exact Pick.head | with_reducible apply Pick.tail | ((with_reducible apply Su.mk); (first | exact subAt_all | exact subAt_recZ (fun _ => rfl) (by omega) | exact subAt_rec (fun _ => rfl) (by omega))) | exact True.intro | intro A | exact rfl)
    all_goals first
      | (apply s_fin; (exact (show ResS _ _ _ _ [_] from ⟨rfl, trivial⟩)); (focus (rfl)); (focus (repeat (first | with_reducible exact Take.nil | with_reducible apply Take.c | ((with_reducible apply Take.cE); (first | exact rfl | (apply blkE; (focus (first | exact rfl | exact recs_snocE rfl | exact map_snocE rfl | exact congrArg (fun v => [v]) (gslE rfl rfl (by first | rfl | exact ‹_› | omega | (simp ; first | done | omega)) (by first | rfl | exact ‹_› | omega | (simp ; first | done | omega)) rfl)))))) | with_reducible apply Take.drop))))
      | (exfalso; omega)
  have hsb : SubAt [Y c] 0 (bytesV [b8 c]) := by
    rw [show bytesV [b8 c] = [Y c] by show [byteV (b8 c)] = _; unfold byteV; rw [b8_val hc]]
    exact subAt_all
  have hE := fun h => Encode_any' D h (by omega)
  have hlen := lzE_len (l := D) (by omega)
  obtain ⟨k1, k2, k3, k4⟩ := lzD_own (l := D) (by omega)
  have hD1 := fun h => Decode_any' (lzE D).1 D.length h (by omega)
  have hD2 := fun h => Decode_any' (lzE D).1 ((D.length : Int) - 1) h (by omega)
  have hD3 := fun h => Decode_any' ((lzE D).1 ++ [b8 c]) D.length h (by rw [List.length_append, List.length_singleton]; omega)
  rw [k2] at hD1
  rw [k3] at hD2
  rw [k4] at hD3
  rw [k1] at hE
  dsimp only at hD1 hD2 hD3
  clear k1 k2 k3 k4
  generalize (lzE D).1 = s at *
  refine w_body2 Try.func5 rfl rfl ?_
  repeat' (first | apply w_seq | apply w_region | apply o_nil | (apply o_g tyOk; exact rfl; exact rfl) | (apply o_ar tyOk; exact rfl; exact rfl) | (apply o_not; exact rfl; exact rfl) | (apply o_notB; exact rfl; exact rfl) | (apply o_eqs; (iterate 3 exact rfl); (focus (kernel_rfl)); exact rfl; exact rfl; (focus (kernel_rfl)); exact rfl) | (apply o_buildSlice tyOk; (iterate 5 exact rfl); (focus (decide)); exact rfl; (focus (decide)); (focus (repeat (first | exact CatR.nil | exact CatR.last rfl | (apply CatR.one; exact rfl; exact rfl) | (apply CatR.agg; exact rfl)))); exact rfl) | (apply o_convs tyOk; iterate 6 exact rfl) | (apply o_toBytes tyOk; iterate 7 exact rfl) | (apply o_toString tyOk; (iterate 6 exact rfl); (focus (exact pk))) | (apply o_toString_nil tyOk; iterate 7 exact rfl) | (apply o_call; exact rfl; exact rfl; (focus (first | exact rfl | assumption)); exact rfl; (focus (exact ⟨_, awakeZ_any _, by repeat (first | with_reducible exact Take.nil | with_reducible apply Take.c | with_reducible apply Take.drop)⟩)); rintro _ _ ⟨rfl, rfl⟩) | (apply o_callN; (iterate 3 exact rfl); (focus (exact ⟨_, awakeZ_any _, by repeat (first | with_reducible exact Take.nil | with_reducible apply Take.c | with_reducible apply Take.drop)⟩)); rintro _ _ ⟨rfl, rfl⟩) | (apply o_call; exact rfl; exact rfl; (focus (first | exact rfl | assumption)); exact rfl; (focus (exact ⟨_, hE _, by repeat (first | with_reducible exact Take.nil | with_reducible apply Take.c | with_reducible apply Take.drop)⟩)); rintro _ _ ⟨rfl, rfl⟩) | (apply o_callN; (iterate 3 exact rfl); (focus (exact ⟨_, hE _, by repeat (first | with_reducible exact Take.nil | with_reducible apply Take.c | with_reducible apply Take.drop)⟩)); rintro _ _ ⟨rfl, rfl⟩) | (apply o_call; exact rfl; exact rfl; (focus (first | exact rfl | assumption)); exact rfl; (focus (exact ⟨_, hD1 _, by repeat (first | with_reducible exact Take.nil | with_reducible apply Take.c | with_reducible apply Take.drop)⟩)); rintro _ _ ⟨rfl, rfl⟩) | (apply o_callN; (iterate 3 exact rfl); (focus (exact ⟨_, hD1 _, by repeat (first | with_reducible exact Take.nil | with_reducible apply Take.c | with_reducible apply Take.drop)⟩)); rintro _ _ ⟨rfl, rfl⟩) | (apply o_call; exact rfl; exact rfl; (focus (first | exact rfl | assumption)); exact rfl; (focus (exact ⟨_, hD2 _, by repeat (first | with_reducible exact Take.nil | with_reducible apply Take.c | with_reducible apply Take.drop)⟩)); rintro _ _ ⟨rfl, rfl⟩) | (apply o_callN; (iterate 3 exact rfl); (focus (exact ⟨_, hD2 _, by repeat (first | with_reducible exact Take.nil | with_reducible apply Take.c | with_reducible apply Take.drop)⟩)); rintro _ _ ⟨rfl, rfl⟩) | (apply o_call; exact rfl; exact rfl; (focus (first | exact rfl | assumption)); exact rfl; (focus (exact ⟨_, hD3 _, by repeat (first | with_reducible exact Take.nil | with_reducible apply Take.c | with_reducible apply Take.drop)⟩)); rintro _ _ ⟨rfl, rfl⟩) | (apply o_callN; (iterate 3 exact rfl); (focus (exact ⟨_, hD3 _, by repeat (first | with_reducible exact Take.nil | with_reducible apply Take.c | with_reducible apply Take.drop)⟩)); rintro _ _ ⟨rfl, rfl⟩) | (apply o_want; exact rfl; exact rfl) | (apply o_skip; iterate 4 exact rfl) | (apply o_skip_undef; iterate 3 exact rfl) | (apply o_gT; (iterate 3 exact rfl); (focus (first | exact ‹_› | with_reducible exact rfl | omega))) | (apply o_gF; (iterate 3 exact rfl); (focus (first | exact ‹_› | with_reducible exact rfl | omega))) | (apply o_sF; (iterate 3 exact rfl); (focus (first | exact ‹_› | with_reducible exact rfl | omega)); exact rfl) | (apply o_sT; (iterate 3 exact rfl); (focus (first | exact ‹_› | with_reducible exact rfl | omega)); exact rfl) | (apply o_guardTN; (iterate 3 exact rfl); all_goals intro hc) | (apply o_guardFN; (iterate 3 exact rfl); all_goals intro hc) | (apply o_guardT; (iterate 3 exact rfl); all_goals intro hc) | (apply o_guardF; (iterate 3 exact rfl); all_goals intro hc) | (apply o_guardB; (iterate 3 exact rfl); all_goals intro hc) | (apply w_true; exact rfl) | (apply w_false; exact rfl) | (apply w_dT; exact rfl; (focus (first | exact ‹_› | with_reducible exact rfl | omega))) | (apply w_dF; exact rfl; (focus (first | exact ‹_› | with_reducible exact rfl | omega))) | (apply w_ifN; exact rfl; all_goals intro hc) | (apply w_if; exact rfl; all_goals intro hc) | (apply w_ifB; exact rfl; all_goals intro hc) | apply thenS_normal | apply thenS_ret | apply thenS_exit | apply blockS_normal | apply blockS_ret | apply blockS_exit | apply w_skip | apply w_ret | apply w_exit | apply w_block | apply scopeS_normal | apply scopeS_ret | apply scopeS_exit | apply w_scope | (apply blockS_exit_ne; exact rfl) | ((with_reducible apply Sd.mk); (first | exact True.intro | omega | (constructor <;> first | omega | (unfold maxLen; omega)) | (unfold maxLen; omega) | (simp only [List.length_singleton]; omega))) | ((with_reducible apply Ln.mk); (first | rfl | exact ‹_› | omega | (simp ; first | done | omega))) | ((with_reducible apply Wr.mk); (first | exact IntWalk.i64_in _ (by omega) | exact IntWalk.u8_in _ (by omega) | exact IntWalk.u32_in _ (by omega) | exact IntWalk.u64_in _ (by omega) | exact IntKind.wrap_u8 _ | exact IntKind.wrap_u32 _ | rfl)) | with_reducible exact Pick.head | with_reducible apply Pick.tail | ((with_reducible apply Su.mk); (first | exact hsb | exact subAt_all | exact subAt_recZ (fun _ => rfl) (by omega) | exact subAt_rec (fun _ => rfl) (by omega))) | exact True.intro | intro A | exact rfl)
  all_goals first
    | contradiction
    | (apply s_fin; (exact (show ResS _ _ _ _ [_] from ⟨rfl, trivial⟩)); (focus (exact rfl)); (focus (repeat (first | with_reducible exact Take.nil | with_reducible apply Take.c | ((with_reducible apply Take.cE); (first | exact rfl | (apply blkE; (focus (first | exact rfl | exact recs_snocE rfl | exact map_snocE rfl | exact congrArg (fun v => [v]) (gslE rfl rfl (by first | rfl | exact ‹_› | omega | (simp ; first | done | omega)) (by first | rfl | exact ‹_› | omega | (simp ; first | done | omega)) rfl)))))) | with_reducible apply Take.drop))))
    | (apply s_fin; (exact (show ResS _ _ _ _ [_] from ⟨rfl, trivial⟩)); (focus (exact congrArg Value.bool (decide_eq_true rfl))); (focus (repeat (first | with_reducible exact Take.nil | with_reducible apply Take.c | ((with_reducible apply Take.cE); (first | exact rfl | (apply blkE; (focus (first | exact rfl | exact recs_snocE rfl | exact map_snocE rfl | exact congrArg (fun v => [v]) (gslE rfl rfl (by first | rfl | exact ‹_› | omega | (simp ; first | done | omega)) (by first | rfl | exact ‹_› | omega | (simp ; first | done | omega)) rfl)))))) | with_reducible apply Take.drop))))
    | trace_state
end Go.Proofs.Ytgooffiipnkmiaa
end
