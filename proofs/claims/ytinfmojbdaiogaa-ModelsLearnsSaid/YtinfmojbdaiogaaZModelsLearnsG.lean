/- Part 7 of the proof of the law ModelsLearns: texts merged. No condition. -/
import Derived.Test.YtinfmojbdaiogaaZModelsLearnsF
import Derived.ProofKit
section
set_option linter.unusedVariables false
set_option linter.unusedSimpArgs false
set_option maxRecDepth 4000
namespace Go.Proofs.Ytinfmojbdaiogaa
open Go.Gh Go.RowKit

/-- A price, in numbers that are quick to compute. -/
def hN (s n : Nat) : Nat × Nat := (s / 2 ^ (s.log2 - 15), n + (s.log2 - 15))
/-- One after the other. -/
def rnd (x : Nat × Nat) : Nat × Nat := hN (x.1 * x.1) (2 * x.2)
theorem halve_N : ∀ (k s n : Nat), s < 65536 * 2 ^ k → halve k (s : Int) (n : Int) = (((s / 2 ^ (s.log2 - 15) : Nat) : Int), ((n + (s.log2 - 15) : Nat) : Int))
  | 0, s, n, h => by
    have : s.log2 ≤ 15 := by
      by_cases h0 : s = 0
      · subst h0; decide
      · have := (Nat.log2_lt h0).2 (show s < 2 ^ 16 by have : (2 : Nat) ^ 16 = 65536 := rfl; omega)
        omega
    rw [show s.log2 - 15 = 0 by omega, Nat.pow_zero, Nat.div_one]
    rfl
  | k + 1, s, n, h => by
    by_cases hs : 65536 ≤ s
    · rw [show halve (k + 1) (s : Int) (n : Int) = halve k ((s : Int) / 2) ((n : Int) + 1) from if_pos (by omega)]
      rw [show (s : Int) / 2 = ((s / 2 : Nat) : Int) by omega, show (n : Int) + 1 = ((n + 1 : Nat) : Int) by omega]
      rw [halve_N k (s / 2) (n + 1) (by rw [Nat.pow_succ] at h; omega)]
      have h16 : 16 ≤ s.log2 := (Nat.le_log2 (by omega)).2 (by have : (2 : Nat) ^ 16 = 65536 := rfl; omega)
      have hl : (s / 2).log2 = s.log2 - 1 := by
        have h1 : 2 ^ (s.log2 - 1) ≤ s / 2 := by
          have := Nat.log2_self_le (n := s) (by omega)
          rw [show s.log2 = (s.log2 - 1) + 1 by omega, Nat.pow_succ] at this
          omega
        have h2 : s / 2 < 2 ^ (s.log2 - 1 + 1) := by
          have := Nat.lt_log2_self (n := s)
          rw [show s.log2 - 1 + 1 = s.log2 by omega]
          rw [Nat.pow_succ] at this
          omega
        have a1 := (Nat.le_log2 (n := s / 2) (k := s.log2 - 1) (by omega)).2 h1
        have a2 := (Nat.log2_lt (n := s / 2) (k := s.log2 - 1 + 1) (by omega)).2 h2
        omega
      rw [hl, Nat.div_div_eq_div_mul, show 2 * 2 ^ (s.log2 - 1 - 15) = 2 ^ (s.log2 - 15) by rw [← Nat.pow_succ']; congr 1; omega]
      congr 2
      omega
    · rw [show halve (k + 1) (s : Int) (n : Int) = ((s : Int), (n : Int)) from if_neg (by omega)]
      have : s.log2 ≤ 15 := by
        by_cases h0 : s = 0
        · subst h0; decide
        · have := (Nat.log2_lt h0).2 (show s < 2 ^ 16 by have : (2 : Nat) ^ 16 = 65536 := rfl; omega)
          omega
      rw [show s.log2 - 15 = 0 by omega, Nat.pow_zero, Nat.div_one]
      rfl
theorem rnd_lt {x : Nat × Nat} : (rnd x).1 < 65536 := by
  unfold rnd hN
  dsimp only
  have h1 := Nat.lt_log2_self (n := x.1 * x.1)
  generalize x.1 * x.1 = s at *
  by_cases h : s.log2 ≤ 15
  · rw [show s.log2 - 15 = 0 by omega, Nat.pow_zero, Nat.div_one]
    exact Nat.lt_of_lt_of_le h1 (Nat.pow_le_pow_right (j := 16) (by decide) (by omega))
  · refine (Nat.div_lt_iff_lt_mul (Nat.two_pow_pos _)).2 ?_
    have : 65536 * 2 ^ (s.log2 - 15) = 2 ^ (s.log2 + 1) := by
      rw [show (65536 : Nat) = 2 ^ 16 from rfl, ← Nat.pow_add]; congr 1; omega
    rw [this]; exact h1
theorem sq4_N : ∀ (k : Nat) (x : Nat × Nat), x.1 < 65536 → sq4 k ((x.1 : Int), (x.2 : Int)) = (((Nat.repeat rnd k x).1 : Int), ((Nat.repeat rnd k x).2 : Int)) := by
  have hcomm : ∀ (k : Nat) (x : Nat × Nat), Nat.repeat rnd k (rnd x) = rnd (Nat.repeat rnd k x) := by
    intro k
    induction k with
    | zero => intro x; rfl
    | succ k ih => intro x; show rnd (Nat.repeat rnd k (rnd x)) = _; rw [ih]; rfl
  intro k
  induction k with
  | zero => intro x _; rfl
  | succ k ih =>
    intro x hx
    have hs : x.1 * x.1 < 65536 * 2 ^ 32 := by
      have := Nat.mul_le_mul (show x.1 ≤ 65535 by omega) (show x.1 ≤ 65535 by omega)
      omega
    have hh := halve_N 32 (x.1 * x.1) (2 * x.2) hs
    rw [sq4_step (s := ((x.1 : Int), (x.2 : Int))) (p := ((rnd x).1 : Int)) (n := ((rnd x).2 : Int)) (by
      show halve 32 ((x.1 : Int) * x.1) (2 * x.2) = _
      rw [← Int.natCast_mul, show (2 : Int) * (x.2 : Int) = ((2 * x.2 : Nat) : Int) by omega]
      exact hh)]
    rw [ih (rnd x) rnd_lt, hcomm]
    rfl
def pN (p : Nat) : Nat := (rnd (rnd (rnd (rnd (p, 0))))).2
theorem prz_N {z : Nat} (h : 1 ≤ z ∧ z ≤ 2047) : prz (z : Int) 0 = 161 - (pN z : Int) ∧ prz (z : Int) 1 = 161 - (pN (2048 - z) : Int) := by
  have hc : clp (z : Int) = z := by unfold clp; omega
  unfold prz
  rw [hc, if_pos rfl, if_neg (by decide), show (2048 - (z : Int)) = ((2048 - z : Nat) : Int) by omega]
  have h1 := sq4_N 4 (z, 0) (by show z < 65536; omega)
  have h2 := sq4_N 4 (2048 - z, 0) (by show 2048 - z < 65536; omega)
  rw [show ((0 : Nat) : Int) = 0 from rfl] at h1 h2
  rw [show sq4 4 ((z : Int), 0) = _ from h1, show sq4 4 (((2048 - z : Nat) : Int), 0) = _ from h2]
  exact ⟨rfl, rfl⟩
def pchk : Nat → Bool
  | 0 => true
  | m + 1 => Nat.ble (pN (m + 1)) (pN (m + 2)) && pchk m
theorem pchk_ok : pchk 2046 = true := by decide +kernel
theorem pchk_at : ∀ (n m : Nat), pchk n = true → m < n → pN (m + 1) ≤ pN (m + 2)
  | 0, m, _, h => absurd h (Nat.not_lt_zero m)
  | n + 1, m, h, hm => by
    have h : (Nat.ble (pN (n + 1)) (pN (n + 2)) && pchk n) = true := h
    rw [Bool.and_eq_true] at h
    by_cases e : m = n
    · subst e; exact Nat.le_of_ble_eq_true h.1
    · exact pchk_at n m h.2 (by omega)
theorem price_fin {z : Int} (h : 1 ≤ z ∧ z ≤ 2046) : prz (z + 1) 0 ≤ prz z 0 ∧ prz z 1 ≤ prz (z + 1) 1 := by
  obtain ⟨m, rfl⟩ := Int.eq_ofNat_of_zero_le (show 0 ≤ z by omega)
  obtain ⟨a1, a2⟩ := prz_N (z := m) (by omega)
  obtain ⟨b1, b2⟩ := prz_N (z := m + 1) (by omega)
  rw [show ((m + 1 : Nat) : Int) = (m : Int) + 1 by omega] at b1 b2
  rw [a1, a2, b1, b2]
  have c1 := pchk_at 2046 (m - 1) pchk_ok (by omega)
  have c2 := pchk_at 2046 (2048 - (m + 1) - 1) pchk_ok (by omega)
  rw [show m - 1 + 1 = m by omega, show m - 1 + 2 = m + 1 by omega] at c1
  rw [show 2048 - (m + 1) - 1 + 1 = 2048 - (m + 1) by omega, show 2048 - (m + 1) - 1 + 2 = 2048 - m by omega] at c2
  omega
theorem price_mir {z : Int} (h : 1 ≤ z ∧ z ≤ 2047) : prz z 0 = prz (2048 - z) 1 := by
  unfold prz
  rw [if_pos rfl, if_neg (by decide)]
  have h1 : clp z = z := by unfold clp; omega
  have h2 : clp (2048 - z) = 2048 - z := by unfold clp; omega
  rw [h1, h2, show 2048 - (2048 - z) = z by omega]
theorem rep_one (c : UInt8) : ∀ k : Nat, Lib.repeatL [c] k = List.replicate k c
  | 0 => rfl
  | k + 1 => by
    rw [List.replicate_succ, ← rep_one c k]
    rfl
theorem subAtL {c : Int} (hc : 0 ≤ c ∧ c < 256) : SubAt [Y c] 0 (bytesV [b8 c]) := by
  rw [show bytesV [b8 c] = [Y c] by show [byteV (b8 c)] = _; unfold byteV; rw [b8_val hc]]
  exact subAt_all
theorem Learns_any (c n z : Int) (hc0 : 0 ≤ c ∧ c < 256) (hn : 0 ≤ n ∧ n < 65536) (_ : -9223372036854775808 ≤ z ∧ z ≤ 9223372036854775807) :
    SRun Try.prog 10 [Y c, .int .u16 n, I z] [] fun r _ => r = B true := by
  have hsb := subAtL hc0
  obtain ⟨m, rfl⟩ := Int.eq_ofNat_of_zero_le hn.1
  have hmod : (m : Int) % 4096 = ((m % 4096 : Nat) : Int) := by omega
  obtain ⟨k, hk⟩ : ∃ k, k = m % 4096 := ⟨_, rfl⟩
  rw [← hk] at hmod
  have hk2 : k < 4096 := by omega
  have hR1 := fun h => Repeat_any [b8 c] k h (by omega) (by rw [List.length_singleton]; omega)
  have hR2 := fun h => Repeat_any [b8 c] (k + 1) h (by omega) (by rw [List.length_singleton]; omega)
  have hE1 := fun h => EncodeBytes_any (List.replicate k (b8 c)) h (by rw [List.length_replicate]; omega)
  have hE2 := fun h => EncodeBytes_any (List.replicate (k + 1) (b8 c)) h (by rw [List.length_replicate]; omega)
  have hl := rep_len (b8 c) k (by omega)
  have hmn := rep_mono (b8 c) k hk2
  have hz1 : (mEnc (List.replicate k (b8 c))).2 = 0 := (mDec_mEnc (by rw [List.length_replicate]; omega)).1
  have hz2 : (mEnc (List.replicate (k + 1) (b8 c))).2 = 0 := (mDec_mEnc (by rw [List.length_replicate]; omega)).1
  rw [rep_one] at hR1 hR2
  rw [hz1] at hE1
  rw [hz2] at hE2
  generalize (mEnc (List.replicate k (b8 c))).1 = a at *
  generalize (mEnc (List.replicate (k + 1) (b8 c))).1 = b at *
  rw [show ((k + 1 : Nat) : Int) = (k : Int) + 1 by omega] at hR2
  rw [← hmod] at hR1 hR2
  have hP := fun z b h => Price_any z b h
  by_cases hz : z < 1 ∨ 2046 < z
  · rcases hz with hz | hz
    all_goals
      refine w_body3 Try.func10 rfl rfl ?_
      repeat' (first | apply w_seq | apply w_region | apply o_nil | (apply o_g tyOk; exact rfl; exact rfl) | (apply o_ar tyOk; exact rfl; exact rfl) | (apply o_ex; exact rfl; exact rfl) | (apply o_not; exact rfl; exact rfl) | (apply o_notB; exact rfl; exact rfl) | (apply o_eqs; (iterate 3 exact rfl); (focus (kernel_rfl)); exact rfl; exact rfl; (focus (kernel_rfl)); exact rfl) | (apply o_neqs; (iterate 3 exact rfl); (focus (kernel_rfl)); exact rfl; exact rfl; (focus (kernel_rfl)); exact rfl) | (apply o_buildSlice tyOk; (iterate 5 exact rfl); (focus (decide)); exact rfl; (focus (decide)); (focus (repeat (first | exact CatR.nil | exact CatR.last rfl | (apply CatR.one; exact rfl; exact rfl) | (apply CatR.agg; exact rfl)))); exact rfl) | (apply o_convs tyOk; iterate 6 exact rfl) | (apply o_toBytes tyOk; iterate 7 exact rfl) | (apply o_toString tyOk; (iterate 6 exact rfl); (focus (exact pk))) | (apply o_toString_nil tyOk; iterate 7 exact rfl) | (apply o_call; exact rfl; exact rfl; (focus (first | exact rfl | assumption)); exact rfl; (focus (exact ⟨_, awakeM_any _, by repeat (first | with_reducible exact Take.nil | with_reducible apply Take.c | with_reducible apply Take.drop)⟩)); rintro _ _ ⟨rfl, rfl⟩) | (apply o_callN; (iterate 3 exact rfl); (focus (exact ⟨_, awakeM_any _, by repeat (first | with_reducible exact Take.nil | with_reducible apply Take.c | with_reducible apply Take.drop)⟩)); rintro _ _ ⟨rfl, rfl⟩) | (apply o_call; exact rfl; exact rfl; (focus (first | exact rfl | assumption)); exact rfl; (focus (exact ⟨_, hR1 _, by repeat (first | with_reducible exact Take.nil | with_reducible apply Take.c | with_reducible apply Take.drop)⟩)); rintro _ _ ⟨rfl, rfl⟩) | (apply o_callN; (iterate 3 exact rfl); (focus (exact ⟨_, hR1 _, by repeat (first | with_reducible exact Take.nil | with_reducible apply Take.c | with_reducible apply Take.drop)⟩)); rintro _ _ ⟨rfl, rfl⟩) | (apply o_call; exact rfl; exact rfl; (focus (first | exact rfl | assumption)); exact rfl; (focus (exact ⟨_, hR2 _, by repeat (first | with_reducible exact Take.nil | with_reducible apply Take.c | with_reducible apply Take.drop)⟩)); rintro _ _ ⟨rfl, rfl⟩) | (apply o_callN; (iterate 3 exact rfl); (focus (exact ⟨_, hR2 _, by repeat (first | with_reducible exact Take.nil | with_reducible apply Take.c | with_reducible apply Take.drop)⟩)); rintro _ _ ⟨rfl, rfl⟩) | (apply o_call; exact rfl; exact rfl; (focus (first | exact rfl | assumption)); exact rfl; (focus (exact ⟨_, hE1 _, by repeat (first | with_reducible exact Take.nil | with_reducible apply Take.c | with_reducible apply Take.drop)⟩)); rintro _ _ ⟨rfl, rfl⟩) | (apply o_callN; (iterate 3 exact rfl); (focus (exact ⟨_, hE1 _, by repeat (first | with_reducible exact Take.nil | with_reducible apply Take.c | with_reducible apply Take.drop)⟩)); rintro _ _ ⟨rfl, rfl⟩) | (apply o_call; exact rfl; exact rfl; (focus (first | exact rfl | assumption)); exact rfl; (focus (exact ⟨_, hE2 _, by repeat (first | with_reducible exact Take.nil | with_reducible apply Take.c | with_reducible apply Take.drop)⟩)); rintro _ _ ⟨rfl, rfl⟩) | (apply o_callN; (iterate 3 exact rfl); (focus (exact ⟨_, hE2 _, by repeat (first | with_reducible exact Take.nil | with_reducible apply Take.c | with_reducible apply Take.drop)⟩)); rintro _ _ ⟨rfl, rfl⟩) | (apply o_want; exact rfl; exact rfl) | (apply o_skip; iterate 4 exact rfl) | (apply o_skip_undef; iterate 3 exact rfl) | (apply o_gT; (iterate 3 exact rfl); (focus (first | exact ‹_› | with_reducible exact rfl | omega))) | (apply o_gF; (iterate 3 exact rfl); (focus (first | exact ‹_› | with_reducible exact rfl | omega))) | (apply o_sF; (iterate 3 exact rfl); (focus (first | exact ‹_› | with_reducible exact rfl | omega)); exact rfl) | (apply o_sT; (iterate 3 exact rfl); (focus (first | exact ‹_› | with_reducible exact rfl | omega)); exact rfl) | (apply o_guardTN; (iterate 3 exact rfl); all_goals intro hc) | (apply o_guardFN; (iterate 3 exact rfl); all_goals intro hc) | (apply o_guardT; (iterate 3 exact rfl); all_goals intro hc) | (apply o_guardF; (iterate 3 exact rfl); all_goals intro hc) | (apply o_guardB; (iterate 3 exact rfl); all_goals intro hc) | (apply w_true; exact rfl) | (apply w_false; exact rfl) | (apply w_dT; exact rfl; (focus (first | exact ‹_› | with_reducible exact rfl | omega))) | (apply w_dF; exact rfl; (focus (first | exact ‹_› | with_reducible exact rfl | omega))) | (apply w_ifN; exact rfl; all_goals intro hc) | (apply w_if; exact rfl; all_goals intro hc) | (apply w_ifB; exact rfl; all_goals intro hc) | apply thenS_normal | apply thenS_ret | apply thenS_exit | apply blockS_normal | apply blockS_ret | apply blockS_exit | apply w_skip | apply w_ret | apply w_exit | apply w_block | apply scopeS_normal | apply scopeS_ret | apply scopeS_exit | apply w_scope | (apply blockS_exit_ne; exact rfl) | ((with_reducible apply Sd.mk); (first | exact True.intro | omega | (constructor <;> first | omega | (unfold maxLen; omega)) | (unfold maxLen; omega))) | ((with_reducible apply Ln.mk); (first | rfl | exact ‹_› | omega | (simp ; first | done | omega))) | ((with_reducible apply Wr.mk); (first | exact w_quoI (by omega) (by omega) | exact IntWalk.i64_in _ (by omega) | exact IntWalk.u8_in _ (by omega) | exact IntWalk.u32_in _ (by omega) | exact IntWalk.u64_in _ (by omega) | exact IntKind.wrap_u8 _ | exact IntKind.wrap_u32 _ | rfl)) | ((with_reducible apply Ex.mk); (first | exact Int.tmod_eq_emod_of_nonneg (by omega) | rfl)) | with_reducible exact Pick.head | with_reducible apply Pick.tail | ((with_reducible apply Su.mk); (first | exact hsb | exact subAt_all | exact subAt_recZ (fun _ => rfl) (by omega) | exact subAt_rec (fun _ => rfl) (by omega))) | exact True.intro | intro A | exact rfl)
      all_goals first
        | (exfalso; omega)
        | (apply s_fin; (exact (show ResS _ _ _ _ [_] from ⟨rfl, trivial⟩)); (focus (rfl)); (focus (repeat (first | with_reducible exact Take.nil | with_reducible apply Take.c | ((with_reducible apply Take.cE); (first | exact rfl | (apply blkE; (focus (first | exact rfl | exact recs_snocE rfl | exact map_snocE rfl | exact congrArg (fun v => [v]) (gslE rfl rfl (by first | rfl | exact ‹_› | omega | (simp ; first | done | omega)) (by first | rfl | exact ‹_› | omega | (simp ; first | done | omega)) rfl)))))) | with_reducible apply Take.drop))))
        | trace_state
  · have hpf := price_fin (z := z) (by omega)
    have hpm := price_mir (z := z) (by omega)
    refine w_body3 Try.func10 rfl rfl ?_
    repeat' (first | apply w_seq | apply w_region | apply o_nil | (apply o_g tyOk; exact rfl; exact rfl) | (apply o_ar tyOk; exact rfl; exact rfl) | (apply o_ex; exact rfl; exact rfl) | (apply o_not; exact rfl; exact rfl) | (apply o_notB; exact rfl; exact rfl) | (apply o_eqs; (iterate 3 exact rfl); (focus (kernel_rfl)); exact rfl; exact rfl; (focus (kernel_rfl)); exact rfl) | (apply o_neqs; (iterate 3 exact rfl); (focus (kernel_rfl)); exact rfl; exact rfl; (focus (kernel_rfl)); exact rfl) | (apply o_buildSlice tyOk; (iterate 5 exact rfl); (focus (decide)); exact rfl; (focus (decide)); (focus (repeat (first | exact CatR.nil | exact CatR.last rfl | (apply CatR.one; exact rfl; exact rfl) | (apply CatR.agg; exact rfl)))); exact rfl) | (apply o_convs tyOk; iterate 6 exact rfl) | (apply o_toBytes tyOk; iterate 7 exact rfl) | (apply o_toString tyOk; (iterate 6 exact rfl); (focus (exact pk))) | (apply o_toString_nil tyOk; iterate 7 exact rfl) | (apply o_call; exact rfl; exact rfl; (focus (first | exact rfl | assumption)); exact rfl; (focus (exact ⟨_, awakeM_any _, by repeat (first | with_reducible exact Take.nil | with_reducible apply Take.c | with_reducible apply Take.drop)⟩)); rintro _ _ ⟨rfl, rfl⟩) | (apply o_callN; (iterate 3 exact rfl); (focus (exact ⟨_, awakeM_any _, by repeat (first | with_reducible exact Take.nil | with_reducible apply Take.c | with_reducible apply Take.drop)⟩)); rintro _ _ ⟨rfl, rfl⟩) | (apply o_call; exact rfl; exact rfl; (focus (first | exact rfl | assumption)); exact rfl; (focus (exact ⟨_, hR1 _, by repeat (first | with_reducible exact Take.nil | with_reducible apply Take.c | with_reducible apply Take.drop)⟩)); rintro _ _ ⟨rfl, rfl⟩) | (apply o_callN; (iterate 3 exact rfl); (focus (exact ⟨_, hR1 _, by repeat (first | with_reducible exact Take.nil | with_reducible apply Take.c | with_reducible apply Take.drop)⟩)); rintro _ _ ⟨rfl, rfl⟩) | (apply o_call; exact rfl; exact rfl; (focus (first | exact rfl | assumption)); exact rfl; (focus (exact ⟨_, hR2 _, by repeat (first | with_reducible exact Take.nil | with_reducible apply Take.c | with_reducible apply Take.drop)⟩)); rintro _ _ ⟨rfl, rfl⟩) | (apply o_callN; (iterate 3 exact rfl); (focus (exact ⟨_, hR2 _, by repeat (first | with_reducible exact Take.nil | with_reducible apply Take.c | with_reducible apply Take.drop)⟩)); rintro _ _ ⟨rfl, rfl⟩) | (apply o_call; exact rfl; exact rfl; (focus (first | exact rfl | assumption)); exact rfl; (focus (exact ⟨_, hE1 _, by repeat (first | with_reducible exact Take.nil | with_reducible apply Take.c | with_reducible apply Take.drop)⟩)); rintro _ _ ⟨rfl, rfl⟩) | (apply o_callN; (iterate 3 exact rfl); (focus (exact ⟨_, hE1 _, by repeat (first | with_reducible exact Take.nil | with_reducible apply Take.c | with_reducible apply Take.drop)⟩)); rintro _ _ ⟨rfl, rfl⟩) | (apply o_call; exact rfl; exact rfl; (focus (first | exact rfl | assumption)); exact rfl; (focus (exact ⟨_, hE2 _, by repeat (first | with_reducible exact Take.nil | with_reducible apply Take.c | with_reducible apply Take.drop)⟩)); rintro _ _ ⟨rfl, rfl⟩) | (apply o_callN; (iterate 3 exact rfl); (focus (exact ⟨_, hE2 _, by repeat (first | with_reducible exact Take.nil | with_reducible apply Take.c | with_reducible apply Take.drop)⟩)); rintro _ _ ⟨rfl, rfl⟩) | (apply o_call; exact rfl; exact rfl; (focus (first | exact rfl | assumption)); exact rfl; (focus (exact ⟨_, Price_any _ _ _, by repeat (first | with_reducible exact Take.nil | with_reducible apply Take.c | with_reducible apply Take.drop)⟩)); rintro _ _ ⟨rfl, rfl⟩) | (apply o_callN; (iterate 3 exact rfl); (focus (exact ⟨_, Price_any _ _ _, by repeat (first | with_reducible exact Take.nil | with_reducible apply Take.c | with_reducible apply Take.drop)⟩)); rintro _ _ ⟨rfl, rfl⟩) | (apply o_want; exact rfl; exact rfl) | (apply o_skip; iterate 4 exact rfl) | (apply o_skip_undef; iterate 3 exact rfl) | (apply o_gT; (iterate 3 exact rfl); (focus (first | exact ‹_› | with_reducible exact rfl | omega))) | (apply o_gF; (iterate 3 exact rfl); (focus (first | exact ‹_› | with_reducible exact rfl | omega))) | (apply o_sF; (iterate 3 exact rfl); (focus (first | exact ‹_› | with_reducible exact rfl | omega)); exact rfl) | (apply o_sT; (iterate 3 exact rfl); (focus (first | exact ‹_› | with_reducible exact rfl | omega)); exact rfl) | (apply o_guardTN; (iterate 3 exact rfl); all_goals intro hc) | (apply o_guardFN; (iterate 3 exact rfl); all_goals intro hc) | (apply o_guardT; (iterate 3 exact rfl); all_goals intro hc) | (apply o_guardF; (iterate 3 exact rfl); all_goals intro hc) | (apply o_guardB; (iterate 3 exact rfl); all_goals intro hc) | (apply w_true; exact rfl) | (apply w_false; exact rfl) | (apply w_dT; exact rfl; (focus (first | exact ‹_› | with_reducible exact rfl | omega))) | (apply w_dF; exact rfl; (focus (first | exact ‹_› | with_reducible exact rfl | omega))) | (apply w_ifN; exact rfl; all_goals intro hc) | (apply w_if; exact rfl; all_goals intro hc) | (apply w_ifB; exact rfl; all_goals intro hc) | apply thenS_normal | apply thenS_ret | apply thenS_exit | apply blockS_normal | apply blockS_ret | apply blockS_exit | apply w_skip | apply w_ret | apply w_exit | apply w_block | apply scopeS_normal | apply scopeS_ret | apply scopeS_exit | apply w_scope | (apply blockS_exit_ne; exact rfl) | ((with_reducible apply Sd.mk); (first | exact True.intro | omega | (constructor <;> first | omega | (unfold maxLen; omega)) | (unfold maxLen; omega))) | ((with_reducible apply Ln.mk); (first | rfl | exact ‹_› | omega | (simp ; first | done | omega))) | ((with_reducible apply Wr.mk); (first | exact w_quoI (by omega) (by omega) | exact IntWalk.i64_in _ (by omega) | exact IntWalk.u8_in _ (by omega) | exact IntWalk.u32_in _ (by omega) | exact IntWalk.u64_in _ (by omega) | exact IntKind.wrap_u8 _ | exact IntKind.wrap_u32 _ | rfl)) | ((with_reducible apply Ex.mk); (first | exact Int.tmod_eq_emod_of_nonneg (by omega) | rfl)) | with_reducible exact Pick.head | with_reducible apply Pick.tail | ((with_reducible apply Su.mk); (first | exact hsb | exact subAt_all | exact subAt_recZ (fun _ => rfl) (by omega) | exact subAt_rec (fun _ => rfl) (by omega))) | exact True.intro | intro A | exact rfl)
    all_goals first
      | (exfalso; omega)
      | (apply s_fin; (exact (show ResS _ _ _ _ [_] from ⟨rfl, trivial⟩)); (focus (rfl)); (focus (repeat (first | with_reducible exact Take.nil | with_reducible apply Take.c | ((with_reducible apply Take.cE); (first | exact rfl | (apply blkE; (focus (first | exact rfl | exact recs_snocE rfl | exact map_snocE rfl | exact congrArg (fun v => [v]) (gslE rfl rfl (by first | rfl | exact ‹_› | omega | (simp ; first | done | omega)) (by first | rfl | exact ‹_› | omega | (simp ; first | done | omega)) rfl)))))) | with_reducible apply Take.drop))))
      | (apply s_fin; (exact (show ResS _ _ _ _ [_] from ⟨rfl, trivial⟩)); (focus (show B _ = B true; simp [hpm])); (focus (repeat (first | with_reducible exact Take.nil | with_reducible apply Take.c | ((with_reducible apply Take.cE); (first | exact rfl | (apply blkE; (focus (first | exact rfl | exact recs_snocE rfl | exact map_snocE rfl | exact congrArg (fun v => [v]) (gslE rfl rfl (by first | rfl | exact ‹_› | omega | (simp ; first | done | omega)) (by first | rfl | exact ‹_› | omega | (simp ; first | done | omega)) rfl)))))) | with_reducible apply Take.drop))))
      | trace_state
end Go.Proofs.Ytinfmojbdaiogaa
end
section
set_option linter.unusedVariables false
set_option linter.unusedSimpArgs false
set_option maxRecDepth 4000
namespace Go.Gh
open Go.RowKit Go.ChangeShapes

theorem vrel_const {φ : Nat → Loc} {L : Lens} : ∀ {as0 : List Value}, as0.all constOk = true → VRel φ L as0 as0.toArray
  | as0, h => ⟨by simp, fun i v hi => ⟨v, by simpa using hi, Val.const ((List.all_eq_true.1 h) v (List.mem_of_getElem? hi))⟩⟩

/-- A contract over arguments without addresses, as the model's calls. -/
theorem calls_of {P : Program} {f : FuncId} {as0 : List Value} (h : SRun P f as0 [] fun r _ => r = B true) (hc : as0.all constOk = true) (W : World) :
    Calls P f as0.toArray W fun e W' => e = .returned (.bool true) ∧ Below W.heap.size W W' := by
  unfold SRun at h
  have h1 := h [] (.start (fun x hx => (by cases hx)) List.nodup_nil)
  unfold Run at h1
  have h2 := h1 W.heap.size W (fun _ => ⟨0, 0, 0, false⟩) (lens []) (fun _ => ⟨0, 0, 0, false⟩) W as0.toArray (.refl _ _)
    ⟨Below.refl _ _, Nat.le_refl _, fun A g hA => (by cases hA), fun A g hA => (by cases hA), fun A A' g _ hA => (by cases hA)⟩ (vrel_const hc)
  refine h2.mono ?_
  rintro e W' ⟨φ', r, H', v, g1, g2, rfl, g4, q, rfl, g5⟩
  cases g4
  exact ⟨rfl, g2.below⟩

section
variable {H : Type} {enc : TypeId × Value → H} {P : Program}
theorem trodAll_below (hl : laidOutB P = true) {W W' : World} (hb : Below W.heap.size W W') : ∀ {ts : List TypeId} {vs : List Value} {ds : List (DataW H)} {ps : List MemPlace},
    (ts.all fun t => P.readableRec t && decide (t < P.types.size)) = true → DataW.TrodAll enc P W 0 (fun _ => true) true ts vs ds ps → (∀ x ∈ ps, x.block < W.heap.size) →
    DataW.TrodAll enc P W' 0 (fun b => decide (b < W.heap.size)) true ts vs ds ps := by
  intro ts
  induction ts with
  | nil => intro vs ds ps _ h _; cases vs <;> cases ds <;> first | exact h | exact h.elim
  | cons t ts ih =>
    intro vs ds ps hr h hlt
    simp only [List.all_cons, Bool.and_eq_true, decide_eq_true_eq] at hr
    cases vs with
    | nil => exact h.elim
    | cons v vs =>
      cases ds with
      | nil => exact h.elim
      | cons d ds =>
        obtain ⟨p, q, h1, h2, rfl⟩ := h
        exact ⟨p, q, Below.trod hl hr.1.1 hr.1.2 h1 hb (fun x hx => hlt x (List.mem_append_left _ hx)), ih (by simpa using hr.2) h2 (fun x hx => hlt x (List.mem_append_right _ hx)), rfl⟩

/-- The end of a law: it returned true, only new blocks came. -/
theorem post_law {f : Func} {s : ChangeSpec} {W W' : World} {args : Array Value} {ds gs : List (DataW H)} {before : List MemPlace} {tb : TypeId} (hl : laidOutB P = true)
    (hW : DataW.Whole enc P f.params.toList s.vars false W args.toList ds gs before) (hv : s.vars = []) (hr : (f.params.toList.all fun t => P.readableRec t && decide (t < P.types.size)) = true)
    (ht : f.resultTypes = #[tb]) (hk : P.underlying tb = some .bool) (hs : (s.fn H ds).results = [.lit (.bool true)] ∧ (s.fn H ds).args = ds ∧ (s.fn H ds).vars = []) (hb : Below W.heap.size W W') :
    s.post enc P f false true false false W args (.bool true) W' := by
  have hlt : ∀ p ∈ before, p.block < W.heap.size := fun p hp => hW.lt p hp
  have hW1 := hW
  obtain ⟨p, q, h1, h2, h3, h4, h5⟩ := hW1
  rw [hv] at h2
  have hg : gs = [] ∧ q = [] := by
    cases gs with
    | nil => exact ⟨rfl, h2⟩
    | cons g gs => exact h2.elim
  obtain ⟨rfl, rfl⟩ := hg
  rw [List.append_nil] at h3
  subst h3
  refine ⟨ds, [], before, [], before, [], hW, ?_, ?_, ?_, World.keptBut_mono (fun x hx => ⟨hx, .inr (.inl hx)⟩) (hb.frame (· ∈ before)), fun h => by cases h⟩
  · rw [List.append_nil, hs.1, ht]
    exact ⟨[], [], shut_bool hk true, rfl, rfl⟩
  · rw [List.append_nil, hs.2.1]
    exact trodAll_below hl hb hr h1 hlt
  · rw [List.append_nil, hs.2.2, hv]; rfl
end
end Go.Gh
namespace Go.Gh
open Go.RowKit
theorem wf_i64 {n : Int} (h : (Lit.int .i64 n).wf = true) : -9223372036854775808 ≤ n ∧ n ≤ 9223372036854775807 := by simp [Lit.wf, IntKind.min, IntKind.max, IntKind.signed, IntKind.bits] at h; omega
theorem wf_u8 {n : Int} (h : (Lit.int .u8 n).wf = true) : 0 ≤ n ∧ n < 256 := by simp [Lit.wf, IntKind.min, IntKind.max, IntKind.signed, IntKind.bits] at h; omega
theorem wf_u16 {n : Int} (h : (Lit.int .u16 n).wf = true) : 0 ≤ n ∧ n < 65536 := by simp [Lit.wf, IntKind.min, IntKind.max, IntKind.signed, IntKind.bits] at h; omega
end Go.Gh
end
