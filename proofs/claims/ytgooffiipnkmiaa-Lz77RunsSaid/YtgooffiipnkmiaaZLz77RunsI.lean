/- Part 9 of the proof of the law Lz77Runs: texts merged. No condition. -/
import Derived.Test.YtgooffiipnkmiaaZLz77RunsH
section
set_option linter.unusedVariables false
set_option linter.unusedSimpArgs false
set_option maxRecDepth 4000
namespace Go.Proofs.Ytgooffiipnkmiaa
open Go.Gh Go.RowKit

theorem inT_mem {lo : Nat} {t : List Int} : InT lo t ↔ ∀ z ∈ t, (lo : Int) ≤ z ∧ z ≤ 2048 - lo := by
  constructor
  · intro h z hz
    obtain ⟨i, hi, rfl⟩ := List.mem_iff_getElem.1 hz
    have := h i hi
    rwa [getElem!_pos t i hi] at this
  · intro h i hi
    rw [getElem!_pos t i hi]
    exact h _ (List.getElem_mem hi)
theorem gq_65 {lo : Nat} (hl : 1 ≤ lo ∧ lo ≤ 1024) : 65 ≤ gq lo := by
  have := gq_mono hl.2 (by omega)
  rwa [show gq 1024 = 65 by decide +kernel] at this
theorem nenc_paid {v : Int} {lo n G : Nat} {t : List Int} {e : Enc} (hl : 1 ≤ lo ∧ lo ≤ 1024) (ht : t.length = 64) (hI : InT lo t) (hok : EncOk n e) (hi : InB e) (hp : Paid e G) (hv : 0 ≤ v ∧ v < 4096) :
    Paid (nenc t e v).2 (G + 6 * gq lo + (blen v.toNat - 1) * 65) ∧ InT (lo - lo / 32) (nenc t e v).1 := by
  have hcv : ncut v = v := if_neg (by omega)
  have hb : blen v.toNat ≤ 12 := blen_le (by have : (2 : Nat) ^ 12 = 4096 := rfl; omega)
  unfold nenc
  rw [hcv]
  obtain ⟨h1, h2⟩ := tree_paid (v := (blen v.toNat : Int)) (k := 6) hl ht hI hok hi hp
  have h3 := (tenc_ok (v := (blen v.toNat : Int)) (k := 6) (t := t) (j := 1) hok).1
  have h4 := (tenc_in (v := (blen v.toNat : Int)) 6 (t := t) (j := 1) hok hi).2
  refine ⟨?_, h2⟩
  dsimp only
  split
  · have e1 : edir (tenc (blen v.toNat) 6 t e 1).2 ((blen v.toNat : Int) - 1) v = ebits v (blen v.toNat - 1) (tenc (blen v.toNat) 6 t e 1).2 := by
      unfold edir
      rw [if_neg (by omega), show ((blen v.toNat : Int) - 1).toNat = blen v.toNat - 1 by omega]
    rw [e1]
    exact ebits_paid (v := v) _ h3 h4 h1
  · exact h1.mono (by omega)
theorem benc_paid {c v : Int} {lo n G : Nat} {P : List Int} {e : Enc} (hl : 1 ≤ lo ∧ lo ≤ 1024) (hP : P.length = 2048) (hc : 0 ≤ c ∧ c ≤ 255) (hI : InT lo P) (hok : EncOk n e) (hi : InB e) (hp : Paid e G) :
    Paid (benc P c e v).2 (G + 8 * gq lo) ∧ InT (lo - lo / 32) (benc P c e v).1 := by
  have hk : (c / 32).toNat < 8 := by omega
  have hs : InT lo (bsel P (c / 32).toNat) := inT_mem.2 fun z hz => inT_mem.1 hI z (List.mem_of_mem_drop (List.mem_of_mem_take hz))
  obtain ⟨h1, h2⟩ := tree_paid (v := v) (k := 8) hl (bsel_len hP hk) hs hok hi hp
  refine ⟨h1, inT_mem.2 fun z hz => ?_⟩
  have hI' := inT_mem.1 (hI.le (lo' := lo - lo / 32) (by omega))
  have hz : z ∈ P.take ((c / 32).toNat * 256) ++ (tenc v 8 (bsel P (c / 32).toNat) e 1).1 ++ P.drop ((c / 32).toNat * 256 + 256) := hz
  rcases List.mem_append.1 hz with hz | hz
  · rcases List.mem_append.1 hz with hz | hz
    · exact hI' z (List.mem_of_mem_take hz)
    · exact inT_mem.1 h2 z hz
  · exact hI' z (List.mem_of_mem_drop hz)
structure MsT (lo : Nat) (x : Ms) : Prop where
  K : InT lo x.K
  P : InT lo x.P
  L : InT lo x.L
  D : InT lo x.D
theorem inT_rep (n : Nat) : InT 1024 (List.replicate n 1024) := inT_mem.2 fun z hz => by rw [List.eq_of_mem_replicate hz]; decide
theorem ms0_T : MsT (los 0) ms0 := ⟨inT_rep 2, inT_rep 2048, inT_rep 64, inT_rep 64⟩
theorem blen_pos {n : Nat} (h : 1 ≤ n) : 1 ≤ blen n := by unfold blen; rw [if_neg (by omega)]; omega
theorem wst_paid {lo n G : Nat} {s : Ms × Enc} {t : Pc} (hl : 1 ≤ lo ∧ lo ≤ 1024) (hx : MsOk s.1) (hT : MsT lo s.1) (hok : EncOk n s.2) (hi : InB s.2) (hp : Paid s.2 G) (ht : vPb t) :
    Paid (wst s t).2 (G + (price lcst t).toNat * gq lo) ∧ MsT (lo - lo / 32) (wst s t).1 := by
  obtain ⟨hv, hy⟩ := ht
  have h65 := gq_65 hl
  have hlo : lo - lo / 32 ≤ lo := by omega
  obtain ⟨a, b, y⟩ := t
  dsimp only at hv hy
  unfold wst price lcst
  dsimp only
  by_cases h0 : b = 0
  · rw [if_pos h0, if_pos h0]
    obtain ⟨p1, q1⟩ := tree_paid (v := 0) (k := 1) hl hx.K hT.K hok hi hp
    have o1 := (tenc_ok (v := 0) (k := 1) (t := s.1.K) (j := 1) hok).1
    have i1 := (tenc_in (v := 0) 1 (t := s.1.K) (j := 1) hok hi).2
    obtain ⟨p2, q2⟩ := benc_paid (c := s.1.c) (v := y) hl hx.P hx.c hT.P o1 i1 p1
    exact ⟨p2.mono (by show _ ≤ G + 9 * gq lo; omega), ⟨q1, q2, hT.L.le hlo, hT.D.le hlo⟩⟩
  · rw [if_neg h0, if_neg h0]
    have hg : 1 ≤ b ∧ b ≤ 4096 ∧ 2 ≤ a ∧ a ≤ 273 := by rcases hv with g | g <;> (dsimp only at g; omega)
    obtain ⟨p1, q1⟩ := tree_paid (v := 1) (k := 1) hl hx.K hT.K hok hi hp
    have o1 := (tenc_ok (v := 1) (k := 1) (t := s.1.K) (j := 1) hok).1
    have i1 := (tenc_in (v := 1) 1 (t := s.1.K) (j := 1) hok hi).2
    obtain ⟨p2, q2⟩ := nenc_paid (v := a - 2) hl hx.L hT.L o1 i1 p1 (by omega)
    have o2 := (nenc_ok (t := s.1.L) o1 (a - 2)).1
    have i2 := (nenc_in (t := s.1.L) (v := a - 2) o1 i1).2
    obtain ⟨p3, q3⟩ := nenc_paid (v := b - 1) hl hx.D hT.D o2 i2 p2 (by omega)
    refine ⟨p3.mono ?_, ⟨q1, hT.P.le hlo, q2, q3⟩⟩
    have b1 := blen_mono (n := (a - 2).toNat) (m := a.toNat) (by omega)
    have b2 := blen_mono (n := (b - 1).toNat) (m := b.toNat) (by omega)
    have b3 := blen_pos (n := a.toNat) (by omega)
    have b4 := blen_pos (n := b.toNat) (by omega)
    have hpr : (12 + 1 * iblen b + 1 * iblen a).toNat = 12 + blen b.toNat + blen a.toNat := by unfold iblen; omega
    rw [hpr]
    generalize gq lo = g at *
    have m1 := Nat.mul_le_mul (show blen (a - 2).toNat - 1 ≤ blen a.toNat - 1 by omega) h65
    have m2 := Nat.mul_le_mul (show blen (b - 1).toNat - 1 ≤ blen b.toNat - 1 by omega) h65
    have m3 : (12 + blen b.toNat + blen a.toNat) * g = 14 * g + (blen b.toNat - 1) * g + (blen a.toNat - 1) * g := by
      rw [← Nat.add_mul, ← Nat.add_mul]; congr 1; omega
    omega
/-- What pieces cost behind k others. -/
def zcst : List Pc → Nat → Nat
  | [], _ => 0
  | t :: r, k => (price lcst t).toNat * gq (los k) + zcst r (k + 1)
theorem wrun_paid (ps : List Pc) : ∀ {n k G : Nat} {s : Ms × Enc}, MsOk s.1 → MsT (los k) s.1 → EncOk n s.2 → InB s.2 → Paid s.2 G → (∀ t ∈ ps, vPb t) → Paid (wrun ps s).2 (G + zcst ps k) := by
  induction ps with
  | nil => intro n k G s _ _ _ _ hp _; exact hp
  | cons t r ih =>
    intro n k G s hx hT hok hi hp ht
    have h1 := wst_ok hx hok (ht t (by simp))
    have g1 := wst_in (t := t) hok hi
    obtain ⟨p1, q1⟩ := wst_paid (los_in k) hx hT hok hi hp (ht t (by simp))
    have := ih (k := k + 1) h1.1 q1 h1.2 g1.2 p1 (fun u hu => ht u (by simp [hu]))
    rw [wrun_cons]
    exact this.mono (by show _ ≤ G + ((price lcst t).toNat * gq (los k) + zcst r (k + 1)); omega)
theorem price_9 {t : Pc} (h : vP t) : 9 ≤ price lcst t := by
  have := iblen_pos (n := t.2.1) (by rcases h with g | g <;> omega)
  have := iblen_pos (n := t.1) (by rcases h with g | g <;> omega)
  unfold price lcst
  dsimp only
  split <;> omega
theorem costs_9 : ∀ {ps : List Pc}, (∀ t ∈ ps, vP t) → 9 * (ps.length : Int) ≤ costs lcst ps
  | [], _ => by show 9 * ((0 : Nat) : Int) ≤ 0; omega
  | t :: r, h => by
    have h1 := price_9 (h t (by simp))
    have h2 := costs_9 (ps := r) (fun u hu => h u (by simp [hu]))
    show 9 * (((r.length + 1 : Nat)) : Int) ≤ price lcst t + costs lcst r
    omega
theorem zcst_le : ∀ (ps : List Pc) (k S C : Nat), (∀ t ∈ ps, vP t) → 9 * k ≤ S → k + ps.length ≤ 45 → costs lcst ps = C → 6 * zcst ps k + (S * S + 396 * S) ≤ (S + C) * (S + C) + 396 * (S + C)
  | [], k, S, C, _, _, _, hC => by
    have : C = 0 := by have : (0 : Int) = C := hC; omega
    subst this
    show 6 * 0 + _ ≤ _
    rw [Nat.add_zero]; omega
  | t :: r, k, S, C, h, hk, hl, hC => by
    have h1 := price_9 (h t (by simp))
    obtain ⟨p, hp⟩ := Int.eq_ofNat_of_zero_le (show 0 ≤ price lcst t by omega)
    have hr := costs_9 (ps := r) (fun u hu => h u (by simp [hu]))
    obtain ⟨c, hc⟩ := Int.eq_ofNat_of_zero_le (show 0 ≤ costs lcst r by omega)
    have hC' : (price lcst t) + costs lcst r = C := hC
    have hCe : C = p + c := by omega
    have hlr : k + 1 + r.length ≤ 45 := by rw [List.length_cons] at hl; omega
    have ih := zcst_le r (k + 1) (S + p) c (fun u hu => h u (by simp [hu])) (by omega) hlr hc
    have hg := gq_los k (by omega)
    show 6 * ((price lcst t).toNat * gq (los k) + zcst r (k + 1)) + _ ≤ _
    rw [hp, Int.toNat_natCast, hCe, show S + (p + c) = S + p + c from (Nat.add_assoc S p c).symm]
    have hg2 : 6 * gq (los k) ≤ 396 + 2 * S := by omega
    have m1 := Nat.mul_le_mul_left p hg2
    have m2 : p * (396 + 2 * S) = 396 * p + 2 * (S * p) := by rw [Nat.mul_add, Nat.mul_comm p 396, Nat.mul_left_comm p 2 S, Nat.mul_comm p S]
    have m3 : (S + p) * (S + p) = S * S + 2 * (S * p) + p * p := by rw [Nat.add_mul, Nat.mul_add, Nat.mul_add, Nat.mul_comm p S]; omega
    have m4 : p * (6 * gq (los k)) = 6 * (p * gq (los k)) := Nat.mul_left_comm _ _ _
    generalize gq (los k) = g at *
    generalize p * g = pg at *
    generalize (S + p + c) * (S + p + c) = F at *
    generalize S * p = sp at *
    generalize p * p = pp at *
    generalize S * S = ss at *
    omega
/-- The bytes of a text whose pieces cost at most C. -/
theorem out_le {l : List UInt8} {ps : List Pc} {C : Nat} (hc : Cov l 4096 0 ps) (hC : costs lcst ps ≤ C) (h : C ≤ 400) : 3072 * (wrun ps zs0).2.out.length ≤ 384 + C * C + 396 * C := by
  have hv := cov_vPb (by omega) hc
  have hv' : ∀ t ∈ ps, vP t := fun t ht => (hv t ht).1
  have h9 := costs_9 hv'
  obtain ⟨c, hcc⟩ := Int.eq_ofNat_of_zero_le (show 0 ≤ costs lcst ps by omega)
  have h0 : Paid encZ 0 := by
    show (256 ^ 0) ^ 64 * lnC ≤ 4294967295 ^ 64 * 2 ^ 0
    rw [Nat.pow_zero, Nat.one_pow, Nat.one_mul, Nat.mul_one]
    exact Nat.le_refl _
  have hp := wrun_paid ps (k := 0) (s := zs0) ms0_ok ms0_T encZ_ok e00_InB h0 hv
  have hok := (wrun_ok (s := zs0) ms0_ok encZ_ok hv).2
  have h1 := paid_len hok hp
  have h2 := zcst_le ps 0 0 c hv' (by omega) (by omega) hcc
  simp only [Nat.zero_add, Nat.mul_zero, Nat.add_zero] at h1 h2
  have h3 : c * c ≤ C * C := Nat.mul_le_mul (by omega) (by omega)
  omega
end Go.Proofs.Ytgooffiipnkmiaa
end
section
set_option linter.unusedVariables false
set_option linter.unusedSimpArgs false
set_option maxRecDepth 4000
namespace Go.Proofs.Ytgooffiipnkmiaa
open Go.Gh Go.RowKit

theorem zrep_get (w : List UInt8) (c k : Nat) (h : k < c * w.length) : (Lib.repeatL w (c + 1))[k + w.length]? = (Lib.repeatL w (c + 1))[k]? := by
  have h1 : Lib.repeatL w (c + 1) = w ++ Lib.repeatL w c := rfl
  have h2 : Lib.repeatL w (c + 1) = Lib.repeatL w c ++ Lib.repeatL w 1 := Lib.repeatL_add w c 1
  have hl := Lib.repeatL_length w c
  have e1 : (Lib.repeatL w (c + 1))[k + w.length]? = (Lib.repeatL w c)[k]? := by rw [h1, List.getElem?_append_right (by omega), Nat.add_sub_cancel]
  have e2 : (Lib.repeatL w (c + 1))[k]? = (Lib.repeatL w c)[k]? := by rw [h2, List.getElem?_append_left (by omega)]
  rw [e1, e2]
theorem zrep_bat (w : List UInt8) (c k : Nat) (h : k < c * w.length) : bat (Lib.repeatL w (c + 1)) ((k + w.length : Nat) : Int) = bat (Lib.repeatL w (c + 1)) (k : Int) := by
  unfold bat
  rw [Int.toNat_natCast, Int.toNat_natCast, List.getD_eq_getElem?_getD, List.getD_eq_getElem?_getD, zrep_get w c k h]
theorem lits_front {l : List UInt8} {w : Int} {qs : List Pc} : ∀ (f i : Nat), i + f ≤ l.length → Cov l w (i + f) qs → Cov l w i (allLit l f i ++ qs) ∧ costs lcst (allLit l f i ++ qs) = 9 * (f : Int) + costs lcst qs
  | 0, i, _, h => ⟨h, by show costs lcst qs = _; omega⟩
  | f + 1, i, h, hq => by
    have := lits_front (l := l) (w := w) (qs := qs) f (i + 1) (by omega) (by rw [show i + 1 + f = i + (f + 1) by omega]; exact hq)
    refine ⟨⟨.inl ⟨by omega, rfl⟩, this.1⟩, ?_⟩
    show price lcst (litP l i) + costs lcst (allLit l f (i + 1) ++ qs) = _
    rw [this.2, show price lcst (litP l i) = 9 from if_pos (litP_at l i)]
    omega
theorem price_far {n d : Nat} (hn : n ≤ 511) (hd : 1 ≤ d ∧ d ≤ 31) : price lcst ((n : Int), (d : Int), 0) ≤ 26 := by
  have h1 := blen_le (n := n) (k := 9) (by have : (2 : Nat) ^ 9 = 512 := rfl; omega)
  have h2 := blen_le (n := d) (k := 5) (by have : (2 : Nat) ^ 5 = 32 := rfl; omega)
  unfold price lcst iblen
  dsimp only
  rw [if_neg (by omega), Int.toNat_natCast, Int.toNat_natCast]
  omega
theorem rep_cover (w : List UInt8) (c : Nat) (hw : 1 ≤ w.length ∧ w.length ≤ 20) (hc : c + 1 ≤ 20) : ∃ qs, Cov (Lib.repeatL w (c + 1)) 4096 0 qs ∧ costs lcst qs ≤ 232 := by
  have hlen := Lib.repeatL_length w (c + 1)
  have hm := Nat.mul_le_mul (show c ≤ 19 by omega) hw.2
  have hsplit : (c + 1) * w.length = c * w.length + w.length := by rw [Nat.add_mul, Nat.one_mul]
  have hper := zrep_bat w c
  generalize Lib.repeatL w (c + 1) = l at *
  generalize w.length = m at *
  generalize c * m = r at *
  have oc : ∀ i n, m ≤ i → 2 ≤ n → n ≤ 273 → i + n ≤ l.length → occ l 4096 i ((n : Int), (m : Int), 0) := fun i n g1 g2 g3 g4 =>
    .inr ⟨n, m, rfl, g2, g3, hw.1, by omega, g1, g4, fun k hk => by
      have := hper (i - m + k) (by omega)
      rw [show i - m + k + m = i + k by omega] at this
      exact this.symm⟩
  have rest : ∃ qs, Cov l 4096 (0 + m) qs ∧ costs lcst qs ≤ 52 := by
    rw [Nat.zero_add]
    by_cases r0 : r = 0
    · exact ⟨[], by show m = l.length; omega, by show (0 : Int) ≤ 52; decide⟩
    · by_cases r1 : r = 1
      · refine ⟨[litP l m], ⟨.inl ⟨by omega, rfl⟩, by show m + 1 = l.length; omega⟩, ?_⟩
        show price lcst (litP l m) + 0 ≤ 52
        rw [show price lcst (litP l m) = 9 from if_pos (litP_at l m)]
        decide
      · by_cases r2 : r ≤ 273
        · refine ⟨[((r : Int), (m : Int), 0)], ⟨oc m r (Nat.le_refl _) (by omega) r2 (by omega), by show m + (r : Int).toNat = l.length; omega⟩, ?_⟩
          have := price_far (n := r) (d := m) (by omega) (by omega)
          show price lcst _ + 0 ≤ 52
          omega
        · refine ⟨[((200 : Nat), (m : Int), 0), (((r - 200 : Nat) : Int), (m : Int), 0)], ⟨oc m 200 (Nat.le_refl _) (by omega) (by omega) (by omega), oc _ (r - 200) (by show m ≤ m + 200; omega) (by omega) (by omega) (by show m + 200 + _ ≤ _; omega), by show m + 200 + ((r - 200 : Nat) : Int).toNat = l.length; omega⟩, ?_⟩
          have h1 := price_far (n := 200) (d := m) (by omega) (by omega)
          have h2 := price_far (n := r - 200) (d := m) (by omega) (by omega)
          show price lcst _ + (price lcst _ + 0) ≤ 52
          omega
  obtain ⟨qs, q1, q2⟩ := rest
  have := lits_front m 0 (by omega) q1
  exact ⟨_, this.1, by rw [this.2]; omega⟩
theorem run_len (w : List UInt8) (k : Nat) (hw : w.length ≤ 20) (hk : k ≤ 20) : (lzE (Lib.repeatL w k)).1.length ≤ 60 := by
  have hlen := Lib.repeatL_length w k
  have hm := Nat.mul_le_mul hk hw
  by_cases h0 : Lib.repeatL w k = []
  · rw [h0, zx1]; decide
  · rw [lzE_ne (by omega) h0]
    have hk0 : 1 ≤ k ∧ 1 ≤ w.length := by
      refine ⟨?_, ?_⟩
      · rcases Nat.eq_zero_or_pos k with rfl | g
        · exact absurd rfl h0
        · exact g
      · rcases Nat.eq_zero_or_pos w.length with g | g
        · rw [g, Nat.mul_zero] at hlen
          exact absurd (List.length_eq_zero_iff.1 hlen) h0
        · exact g
    obtain ⟨c, rfl⟩ : ∃ c, k = c + 1 := ⟨k - 1, by omega⟩
    obtain ⟨qs, q1, q2⟩ := rep_cover w c ⟨hk0.2, hw⟩ hk
    generalize Lib.repeatL w (c + 1) = l at *
    have hle := parse_le lcst_ok (by decide) (by omega) q1
    have hC : costs lcst (pcs l) ≤ ((232 : Nat) : Int) := by
      show costs lcst (parse lcst l 4096).1 ≤ _
      omega
    have h1 := out_le (pcs_cov (l := l) (by omega)) hC (by decide)
    have h4 := vnum_len (n := (l.length : Int)) (by omega)
    have h5 : vk (l.length : Int) ≤ 1 := by
      by_cases g : (l.length : Int) < 128
      · rw [vk_lo g]; exact Nat.zero_le _
      · rw [vk_hi (by omega) (by omega)]; exact Nat.le_refl _
    show (vnum l.length ++ fin (wrun (pcs l) zs0).2).length ≤ _
    rw [List.length_append, fin_len]
    omega
theorem RunsZ_any (l : List UInt8) (n : Int) (_ : l.length ≤ 9223372036854775807) (hn : 0 ≤ n ∧ n < 256) : SRun Try.prog 8 [S l, Y n] [] fun r _ => r = B true := by
  by_cases hbig : 20 < l.length
  · refine w_body2 Try.func8 rfl rfl ?_
    repeat' (first | apply w_seq | apply w_region | apply o_nil | (apply o_g tyOk; exact rfl; exact rfl) | (apply o_ar tyOk; exact rfl; exact rfl) | (apply o_ex; exact rfl; exact rfl) | (apply o_not; exact rfl; exact rfl) | (apply o_notB; exact rfl; exact rfl) | (apply o_eqs; (iterate 3 exact rfl); (focus (kernel_rfl)); exact rfl; exact rfl; (focus (kernel_rfl)); exact rfl) | (apply o_convs tyOk; iterate 6 exact rfl) | (apply o_toBytes tyOk; iterate 7 exact rfl) | (apply o_toString tyOk; (iterate 6 exact rfl); (focus (exact pk))) | (apply o_toString_nil tyOk; iterate 7 exact rfl) | (apply o_call; exact rfl; exact rfl; (focus (first | exact rfl | assumption)); exact rfl; (focus (exact ⟨_, awakeZ_any _, by repeat (first | with_reducible exact Take.nil | with_reducible apply Take.c | with_reducible apply Take.drop)⟩)); rintro _ _ ⟨rfl, rfl⟩) | (apply o_callN; (iterate 3 exact rfl); (focus (exact ⟨_, awakeZ_any _, by repeat (first | with_reducible exact Take.nil | with_reducible apply Take.c | with_reducible apply Take.drop)⟩)); rintro _ _ ⟨rfl, rfl⟩) | (apply o_want; exact rfl; exact rfl) | (apply o_skip; iterate 4 exact rfl) | (apply o_skip_undef; iterate 3 exact rfl) | (apply o_gT; (iterate 3 exact rfl); (focus (first | exact ‹_› | with_reducible exact rfl | omega))) | (apply o_gF; (iterate 3 exact rfl); (focus (first | exact ‹_› | with_reducible exact rfl | omega))) | (apply o_sF; (iterate 3 exact rfl); (focus (first | exact ‹_› | with_reducible exact rfl | omega)); exact rfl) | (apply o_sT; (iterate 3 exact rfl); (focus (first | exact ‹_› | with_reducible exact rfl | omega)); exact rfl) | (apply o_guardTN; (iterate 3 exact rfl); all_goals intro hc) | (apply o_guardFN; (iterate 3 exact rfl); all_goals intro hc) | (apply o_guardT; (iterate 3 exact rfl); all_goals intro hc) | (apply o_guardF; (iterate 3 exact rfl); all_goals intro hc) | (apply o_guardB; (iterate 3 exact rfl); all_goals intro hc) | (apply w_true; exact rfl) | (apply w_false; exact rfl) | (apply w_dT; exact rfl; (focus (first | exact ‹_› | with_reducible exact rfl | omega))) | (apply w_dF; exact rfl; (focus (first | exact ‹_› | with_reducible exact rfl | omega))) | (apply w_ifN; exact rfl; all_goals intro hc) | (apply w_if; exact rfl; all_goals intro hc) | (apply w_ifB; exact rfl; all_goals intro hc) | apply thenS_normal | apply thenS_ret | apply thenS_exit | apply blockS_normal | apply blockS_ret | apply blockS_exit | apply w_skip | apply w_ret | apply w_exit | apply w_block | apply scopeS_normal | apply scopeS_ret | apply scopeS_exit | apply w_scope | (apply blockS_exit_ne; exact rfl) | ((with_reducible apply Sd.mk); (first | exact True.intro | omega | (constructor <;> first | omega | (unfold maxLen; omega)) | (unfold maxLen; omega))) | ((with_reducible apply Ln.mk); (first | rfl | exact ‹_› | omega | (simp ; first | done | omega))) | ((with_reducible apply Wr.mk); (first | exact IntWalk.i64_in _ (by omega) | exact IntWalk.u8_in _ (by omega) | exact IntWalk.u32_in _ (by omega) | exact IntWalk.u64_in _ (by omega) | exact IntKind.wrap_u8 _ | exact IntKind.wrap_u32 _ | rfl)) | ((with_reducible apply Ex.mk); (first | exact Int.tmod_eq_emod_of_nonneg (by omega) | rfl)) | with_reducible exact Pick.head | with_reducible apply Pick.tail | ((with_reducible apply Su.mk); (first | exact subAt_all | exact subAt_recZ (fun _ => rfl) (by omega) | exact subAt_rec (fun _ => rfl) (by omega))) | exact True.intro | intro A | exact rfl)
    all_goals first
      | (apply s_fin; (exact (show ResS _ _ _ _ [_] from ⟨rfl, trivial⟩)); (focus (rfl)); (focus (repeat (first | with_reducible exact Take.nil | with_reducible apply Take.c | ((with_reducible apply Take.cE); (first | exact rfl | (apply blkE; (focus (first | exact rfl | exact recs_snocE rfl | exact map_snocE rfl | exact congrArg (fun v => [v]) (gslE rfl rfl (by first | rfl | exact ‹_› | omega | (simp ; first | done | omega)) (by first | rfl | exact ‹_› | omega | (simp ; first | done | omega)) rfl)))))) | with_reducible apply Take.drop))))
      | (exfalso; omega)
  obtain ⟨m, rfl⟩ := Int.eq_ofNat_of_zero_le hn.1
  have hmod : (m : Int) % 21 = ((m % 21 : Nat) : Int) := by omega
  obtain ⟨k, hk⟩ : ∃ k, k = m % 21 := ⟨_, rfl⟩
  rw [← hk] at hmod
  have hk2 : k ≤ 20 := by omega
  have hm := Nat.mul_le_mul (show l.length ≤ 20 by omega) hk2
  have hR := fun h => Repeat_any l k h (by omega) (by omega)
  have hlen := Lib.repeatL_length l k
  rw [Nat.mul_comm] at hlen
  have hrl := run_len l k (by omega) hk2
  generalize Lib.repeatL l k = s at *
  have hE := fun h => Encode_any' s h (by omega)
  rw [← hmod] at hR
  obtain ⟨k1, k2, k3, k4⟩ := lzD_own (l := s) (by omega)
  have hD : ∀ h, SRun Try.prog 16 [S (lzE s).1, I 400] h fun r q => r = .tuple #[S s, I 0] ∧ q = h := fun h => by
    have h1 := Decode_any' (lzE s).1 400 h (by omega)
    have h2 : lzD (lzE s).1 400 = (s, 0) := by
      by_cases h0 : s = []
      · subst h0; decide +kernel
      · have e := lzE_ne (l := s) (by omega) h0
        have e2 := lzD_wrt (l := s) (by omega) (by omega) (pcs_cov (l := s) (by omega))
        rw [e]
        show lzD (wrt s.length (pcs s)) 400 = _
        rw [(e2 400).1, if_neg (by omega), if_pos e]
    rw [h2] at h1
    exact h1
  rw [k1] at hE
  clear k1 k2 k3 k4
  generalize (lzE s).1 = z at *
  refine w_body2 Try.func8 rfl rfl ?_
  repeat' (first | apply w_seq | apply w_region | apply o_nil | (apply o_g tyOk; exact rfl; exact rfl) | (apply o_ar tyOk; exact rfl; exact rfl) | (apply o_ex; exact rfl; exact rfl) | (apply o_not; exact rfl; exact rfl) | (apply o_notB; exact rfl; exact rfl) | (apply o_eqs; (iterate 3 exact rfl); (focus (kernel_rfl)); exact rfl; exact rfl; (focus (kernel_rfl)); exact rfl) | (apply o_convs tyOk; iterate 6 exact rfl) | (apply o_toBytes tyOk; iterate 7 exact rfl) | (apply o_toString tyOk; (iterate 6 exact rfl); (focus (exact pk))) | (apply o_toString_nil tyOk; iterate 7 exact rfl) | (apply o_call; exact rfl; exact rfl; (focus (first | exact rfl | assumption)); exact rfl; (focus (exact ⟨_, awakeZ_any _, by repeat (first | with_reducible exact Take.nil | with_reducible apply Take.c | with_reducible apply Take.drop)⟩)); rintro _ _ ⟨rfl, rfl⟩) | (apply o_callN; (iterate 3 exact rfl); (focus (exact ⟨_, awakeZ_any _, by repeat (first | with_reducible exact Take.nil | with_reducible apply Take.c | with_reducible apply Take.drop)⟩)); rintro _ _ ⟨rfl, rfl⟩) | (apply o_call; exact rfl; exact rfl; (focus (first | exact rfl | assumption)); exact rfl; (focus (exact ⟨_, hR _, by repeat (first | with_reducible exact Take.nil | with_reducible apply Take.c | with_reducible apply Take.drop)⟩)); rintro _ _ ⟨rfl, rfl⟩) | (apply o_callN; (iterate 3 exact rfl); (focus (exact ⟨_, hR _, by repeat (first | with_reducible exact Take.nil | with_reducible apply Take.c | with_reducible apply Take.drop)⟩)); rintro _ _ ⟨rfl, rfl⟩) | (apply o_call; exact rfl; exact rfl; (focus (first | exact rfl | assumption)); exact rfl; (focus (exact ⟨_, hE _, by repeat (first | with_reducible exact Take.nil | with_reducible apply Take.c | with_reducible apply Take.drop)⟩)); rintro _ _ ⟨rfl, rfl⟩) | (apply o_callN; (iterate 3 exact rfl); (focus (exact ⟨_, hE _, by repeat (first | with_reducible exact Take.nil | with_reducible apply Take.c | with_reducible apply Take.drop)⟩)); rintro _ _ ⟨rfl, rfl⟩) | (apply o_call; exact rfl; exact rfl; (focus (first | exact rfl | assumption)); exact rfl; (focus (exact ⟨_, hD _, by repeat (first | with_reducible exact Take.nil | with_reducible apply Take.c | with_reducible apply Take.drop)⟩)); rintro _ _ ⟨rfl, rfl⟩) | (apply o_callN; (iterate 3 exact rfl); (focus (exact ⟨_, hD _, by repeat (first | with_reducible exact Take.nil | with_reducible apply Take.c | with_reducible apply Take.drop)⟩)); rintro _ _ ⟨rfl, rfl⟩) | (apply o_want; exact rfl; exact rfl) | (apply o_skip; iterate 4 exact rfl) | (apply o_skip_undef; iterate 3 exact rfl) | (apply o_gT; (iterate 3 exact rfl); (focus (first | exact ‹_› | with_reducible exact rfl | omega))) | (apply o_gF; (iterate 3 exact rfl); (focus (first | exact ‹_› | with_reducible exact rfl | omega))) | (apply o_sF; (iterate 3 exact rfl); (focus (first | exact ‹_› | with_reducible exact rfl | omega)); exact rfl) | (apply o_sT; (iterate 3 exact rfl); (focus (first | exact ‹_› | with_reducible exact rfl | omega)); exact rfl) | (apply o_guardTN; (iterate 3 exact rfl); all_goals intro hc) | (apply o_guardFN; (iterate 3 exact rfl); all_goals intro hc) | (apply o_guardT; (iterate 3 exact rfl); all_goals intro hc) | (apply o_guardF; (iterate 3 exact rfl); all_goals intro hc) | (apply o_guardB; (iterate 3 exact rfl); all_goals intro hc) | (apply w_true; exact rfl) | (apply w_false; exact rfl) | (apply w_dT; exact rfl; (focus (first | exact ‹_› | with_reducible exact rfl | omega))) | (apply w_dF; exact rfl; (focus (first | exact ‹_› | with_reducible exact rfl | omega))) | (apply w_ifN; exact rfl; all_goals intro hc) | (apply w_if; exact rfl; all_goals intro hc) | (apply w_ifB; exact rfl; all_goals intro hc) | apply thenS_normal | apply thenS_ret | apply thenS_exit | apply blockS_normal | apply blockS_ret | apply blockS_exit | apply w_skip | apply w_ret | apply w_exit | apply w_block | apply scopeS_normal | apply scopeS_ret | apply scopeS_exit | apply w_scope | (apply blockS_exit_ne; exact rfl) | ((with_reducible apply Sd.mk); (first | exact True.intro | omega | (constructor <;> first | omega | (unfold maxLen; omega)) | (unfold maxLen; omega))) | ((with_reducible apply Ln.mk); (first | rfl | exact ‹_› | omega | (simp ; first | done | omega))) | ((with_reducible apply Wr.mk); (first | exact w_quoI (by omega) (by omega) | exact IntWalk.i64_in _ (by omega) | exact IntWalk.u8_in _ (by omega) | exact IntWalk.u32_in _ (by omega) | exact IntWalk.u64_in _ (by omega) | exact IntKind.wrap_u8 _ | exact IntKind.wrap_u32 _ | rfl)) | ((with_reducible apply Ex.mk); (first | exact Int.tmod_eq_emod_of_nonneg (by omega) | rfl)) | with_reducible exact Pick.head | with_reducible apply Pick.tail | ((with_reducible apply Su.mk); (first | exact subAt_all | exact subAt_recZ (fun _ => rfl) (by omega) | exact subAt_rec (fun _ => rfl) (by omega))) | exact True.intro | intro A | exact rfl)
  all_goals first
    | (exfalso; omega)
    | contradiction
    | (apply s_fin; (exact (show ResS _ _ _ _ [_] from ⟨rfl, trivial⟩)); (focus (exact rfl)); (focus (repeat (first | with_reducible exact Take.nil | with_reducible apply Take.c | ((with_reducible apply Take.cE); (first | exact rfl | (apply blkE; (focus (first | exact rfl | exact recs_snocE rfl | exact map_snocE rfl | exact congrArg (fun v => [v]) (gslE rfl rfl (by first | rfl | exact ‹_› | omega | (simp ; first | done | omega)) (by first | rfl | exact ‹_› | omega | (simp ; first | done | omega)) rfl)))))) | with_reducible apply Take.drop))))
    | (apply s_fin; (exact (show ResS _ _ _ _ [_] from ⟨rfl, trivial⟩)); (focus (exact congrArg Value.bool (decide_eq_true (by omega)))); (focus (repeat (first | with_reducible exact Take.nil | with_reducible apply Take.c | ((with_reducible apply Take.cE); (first | exact rfl | (apply blkE; (focus (first | exact rfl | exact recs_snocE rfl | exact map_snocE rfl | exact congrArg (fun v => [v]) (gslE rfl rfl (by first | rfl | exact ‹_› | omega | (simp ; first | done | omega)) (by first | rfl | exact ‹_› | omega | (simp ; first | done | omega)) rfl)))))) | with_reducible apply Take.drop))))
    | trace_state
end Go.Proofs.Ytgooffiipnkmiaa
end
