/- Part 8 of the proof of the law ModelsNumbers: texts merged. No condition. -/
import Derived.Test.YtinfmojbdaiogaaZModelsNumbersG
section
set_option linter.unusedVariables false
set_option linter.unusedSimpArgs false
set_option maxRecDepth 4000
namespace Go.Proofs.Ytinfmojbdaiogaa
open Go.Gh Go.RowKit

theorem rFrom_any (k : Nat) (h : SH) (hk : k ≤ 8) : SRun Try.prog 76 [I k] h fun r q => r = I (vbnd k) ∧ q = h := by
  refine w_body1 Try.func76 rfl rfl ?_
  repeat' (first | apply w_seq | apply w_region | apply o_nil | (apply o_g tyOk; exact rfl; exact rfl) | apply thenS_normal | apply w_block | ((with_reducible apply Sd.mk); (first | exact True.intro | omega | (constructor <;> first | omega | (unfold maxLen; omega)) | (unfold maxLen; omega))))
  refine w_loop (S := Nat) (fun i => [(0, I k), (3, I (vbnd i)), (4, I ((i : Int) + 1))]) (fun _ => h) (fun i => i ≤ k) (fun i => k - i) 0 (Nat.zero_le _) (by repeat' (first | exact trivial | refine ⟨rfl, ?_⟩ | refine ⟨congrArg some ?_, ?_⟩)) (by repeat (first | with_reducible exact Take.nil | with_reducible apply Take.c | ((with_reducible apply Take.cE); (first | exact rfl | (apply blkE; (focus (first | exact rfl | exact recs_snocE rfl | exact map_snocE rfl | exact congrArg (fun v => [v]) (gslE rfl rfl (by first | rfl | exact ‹_› | omega | (simp ; first | done | omega)) (by first | rfl | exact ‹_› | omega | (simp ; first | done | omega)) rfl)))))) | with_reducible apply Take.drop)) ?_
  intro i hi
  by_cases hik : i < k
  · have hsh := shl7 (i := i + 1) (by omega)
    have e : 7 * (((i + 1 : Nat)) : Int) = 7 * ((i : Int) + 1) := by omega
    rw [e] at hsh
    have hb := vbnd_in i (by omega)
    have hb2 := vbnd_in (i + 1) (by omega)
    have hst : vbnd (i + 1) = vbnd i + 2 ^ (7 * (i + 1)) := rfl
    rw [hst] at hb2
    generalize (2 : Int) ^ (7 * (i + 1)) = w at *
    repeat' (first | apply w_seq | apply w_region | apply o_nil | (apply o_g tyOk; exact rfl; exact rfl) | (apply o_ar tyOk; exact rfl; exact rfl) | (apply w_dT; exact rfl; (focus (first | exact ‹_› | with_reducible exact rfl | omega))) | apply thenS_normal | apply blockS_normal | apply w_skip | apply w_block | ((with_reducible apply Sd.mk); (first | exact True.intro | omega | (constructor <;> first | omega | (unfold maxLen; omega)) | (unfold maxLen; omega))) | ((with_reducible apply Wr.mk); (first | exact hsh | exact IntWalk.i64_in _ (by omega) | exact IntWalk.u8_in _ (by omega) | exact IntWalk.u32_in _ (by omega) | exact IntWalk.u64_in _ (by omega) | exact IntKind.wrap_u8 _ | exact IntKind.wrap_u32 _ | rfl)))
    all_goals first
      | (exfalso; omega)
      | exact ⟨i + 1, hik, by show k - (i + 1) < k - i; omega, ⟨rfl, congrArg some (congrArg (Value.int .i64) hst.symm), rfl, trivial⟩, (by repeat (first | with_reducible exact Take.nil | with_reducible apply Take.c | ((with_reducible apply Take.cE); (first | exact rfl | (apply blkE; (focus (first | exact rfl | exact recs_snocE rfl | exact map_snocE rfl | exact congrArg (fun v => [v]) (gslE rfl rfl (by first | rfl | exact ‹_› | omega | (simp ; first | done | omega)) (by first | rfl | exact ‹_› | omega | (simp ; first | done | omega)) rfl)))))) | with_reducible apply Take.drop))⟩
      | trace_state
  · obtain rfl : i = k := by omega
    repeat' (first | apply w_seq | apply w_region | apply o_nil | (apply o_g tyOk; exact rfl; exact rfl) | (apply w_dF; exact rfl; (focus (first | exact ‹_› | with_reducible exact rfl | omega))) | apply thenS_normal | apply thenS_exit | apply blockS_exit | apply w_ret | apply w_exit | ((with_reducible apply Sd.mk); (first | exact True.intro | omega | (constructor <;> first | omega | (unfold maxLen; omega)) | (unfold maxLen; omega))))
    all_goals first
      | (exfalso; omega)
      | (apply s_fin; (exact (show ResS _ _ _ _ [_] from ⟨rfl, trivial⟩)); (focus (exact ⟨rfl, rfl⟩)); (focus (repeat (first | with_reducible exact Take.nil | with_reducible apply Take.c | ((with_reducible apply Take.cE); (first | exact rfl | (apply blkE; (focus (first | exact rfl | exact recs_snocE rfl | exact map_snocE rfl | exact congrArg (fun v => [v]) (gslE rfl rfl (by first | rfl | exact ‹_› | omega | (simp ; first | done | omega)) (by first | rfl | exact ‹_› | omega | (simp ; first | done | omega)) rfl)))))) | with_reducible apply Take.drop))))
      | trace_state
theorem rSize_any (n : Int) (h : SH) (hn : 0 ≤ n) : SRun Try.prog 75 [I n] h fun r q => r = I ((vk n : Int) + 1) ∧ q = h := by
  obtain ⟨K, hK⟩ : ∃ K, vk n = K := ⟨_, rfl⟩
  rw [hK]
  refine w_body1 Try.func75 rfl rfl ?_
  repeat' (first | apply w_seq | apply w_region | apply o_nil | (apply o_g tyOk; exact rfl; exact rfl) | (apply w_dF; exact rfl; (focus (first | exact ‹_› | with_reducible exact rfl | omega))) | apply thenS_normal | apply w_skip | apply w_block | ((with_reducible apply Sd.mk); (first | exact True.intro | omega | (constructor <;> first | omega | (unfold maxLen; omega)) | (unfold maxLen; omega))))
  all_goals first | (exfalso; omega) | skip
  refine w_loop (S := Nat) (fun k => [(0, I n), (3, I k)]) (fun _ => h) (fun k => k ≤ 8 ∧ vks n (8 - k) k = K) (fun k => 8 - k) 0 ⟨Nat.zero_le _, hK⟩ (by repeat' (first | exact trivial | refine ⟨rfl, ?_⟩ | refine ⟨congrArg some ?_, ?_⟩)) (by repeat (first | with_reducible exact Take.nil | with_reducible apply Take.c | ((with_reducible apply Take.cE); (first | exact rfl | (apply blkE; (focus (first | exact rfl | exact recs_snocE rfl | exact map_snocE rfl | exact congrArg (fun v => [v]) (gslE rfl rfl (by first | rfl | exact ‹_› | omega | (simp ; first | done | omega)) (by first | rfl | exact ‹_› | omega | (simp ; first | done | omega)) rfl)))))) | with_reducible apply Take.drop)) ?_
  intro k ⟨hk, he⟩
  by_cases h8 : k < 8
  · have hst : vks n (8 - k) k = if vbnd (k + 1) ≤ n then vks n (8 - (k + 1)) (k + 1) else k := by rw [show 8 - k = (8 - (k + 1)) + 1 by omega]; rfl
    have hB : ∀ h, SRun Try.prog 76 [I ((k : Int) + 1)] h fun r q => r = I (vbnd (k + 1)) ∧ q = h := fun h => rFrom_any (k + 1) h (by omega)
    rw [hst] at he
    generalize vbnd (k + 1) = w at *
    repeat' (first | apply w_seq | apply w_region | apply o_nil | (apply o_g tyOk; exact rfl; exact rfl) | (apply o_ar tyOk; exact rfl; exact rfl) | (apply o_call; exact rfl; exact rfl; (focus (first | exact rfl | assumption)); exact rfl; (focus (exact ⟨_, hB _, by repeat (first | with_reducible exact Take.nil | with_reducible apply Take.c | with_reducible apply Take.drop)⟩)); rintro _ _ ⟨rfl, rfl⟩) | (apply o_want; exact rfl; exact rfl) | (apply o_gT; (iterate 3 exact rfl); (focus (first | exact ‹_› | with_reducible exact rfl | omega))) | (apply w_if; exact rfl; all_goals intro hc) | apply thenS_normal | apply thenS_exit | apply blockS_normal | apply blockS_exit | apply w_skip | apply w_ret | apply w_exit | apply w_block | ((with_reducible apply Sd.mk); (first | exact True.intro | omega | (constructor <;> first | omega | (unfold maxLen; omega)) | (unfold maxLen; omega))) | ((with_reducible apply Wr.mk); (first | exact IntWalk.i64_in _ (by omega) | exact IntWalk.u8_in _ (by omega) | exact IntWalk.u32_in _ (by omega) | exact IntWalk.u64_in _ (by omega) | exact IntKind.wrap_u8 _ | exact IntKind.wrap_u32 _ | rfl)))
    all_goals first
      | (exfalso; omega)
      | (rw [if_pos (by omega)] at he; exact ⟨k + 1, ⟨h8, he⟩, by show 8 - (k + 1) < 8 - k; omega, (by repeat' (first | exact trivial | refine ⟨rfl, ?_⟩ | refine ⟨congrArg some ?_, ?_⟩)), (by repeat (first | with_reducible exact Take.nil | with_reducible apply Take.c | ((with_reducible apply Take.cE); (first | exact rfl | (apply blkE; (focus (first | exact rfl | exact recs_snocE rfl | exact map_snocE rfl | exact congrArg (fun v => [v]) (gslE rfl rfl (by first | rfl | exact ‹_› | omega | (simp ; first | done | omega)) (by first | rfl | exact ‹_› | omega | (simp ; first | done | omega)) rfl)))))) | with_reducible apply Take.drop))⟩)
      | (rw [if_neg (by omega)] at he; rw [← he]; (apply s_fin; (exact (show ResS _ _ _ _ [_] from ⟨rfl, trivial⟩)); (focus (exact ⟨rfl, rfl⟩)); (focus (repeat (first | with_reducible exact Take.nil | with_reducible apply Take.c | ((with_reducible apply Take.cE); (first | exact rfl | (apply blkE; (focus (first | exact rfl | exact recs_snocE rfl | exact map_snocE rfl | exact congrArg (fun v => [v]) (gslE rfl rfl (by first | rfl | exact ‹_› | omega | (simp ; first | done | omega)) (by first | rfl | exact ‹_› | omega | (simp ; first | done | omega)) rfl)))))) | with_reducible apply Take.drop)))))
      | trace_state
  · obtain rfl : k = 8 := by omega
    have he : 8 = K := he
    repeat' (first | apply w_seq | apply w_region | apply o_nil | (apply o_g tyOk; exact rfl; exact rfl) | (apply o_ar tyOk; exact rfl; exact rfl) | (apply o_skip; iterate 4 exact rfl) | (apply w_false; exact rfl) | apply thenS_normal | apply thenS_exit | apply blockS_exit | apply w_ret | apply w_exit | ((with_reducible apply Sd.mk); (first | exact True.intro | omega | (constructor <;> first | omega | (unfold maxLen; omega)) | (unfold maxLen; omega))) | ((with_reducible apply Wr.mk); (first | exact IntWalk.i64_in _ (by omega) | exact IntWalk.u8_in _ (by omega) | exact IntWalk.u32_in _ (by omega) | exact IntWalk.u64_in _ (by omega) | exact IntKind.wrap_u8 _ | exact IntKind.wrap_u32 _ | rfl)))
    all_goals first
      | (exfalso; omega)
      | (rw [← he]; (apply s_fin; (exact (show ResS _ _ _ _ [_] from ⟨rfl, trivial⟩)); (focus (exact ⟨rfl, rfl⟩)); (focus (repeat (first | with_reducible exact Take.nil | with_reducible apply Take.c | ((with_reducible apply Take.cE); (first | exact rfl | (apply blkE; (focus (first | exact rfl | exact recs_snocE rfl | exact map_snocE rfl | exact congrArg (fun v => [v]) (gslE rfl rfl (by first | rfl | exact ‹_› | omega | (simp ; first | done | omega)) (by first | rfl | exact ‹_› | omega | (simp ; first | done | omega)) rfl)))))) | with_reducible apply Take.drop)))))
      | trace_state
/-- The head of a number. -/
theorem vhd_fin : ∀ k : Nat, k < 9 → ∀ m : Nat, m < 128 → (k < 8 → m < 2 ^ (7 - k)) → (k = 8 → m = 0) → vhd k (m : Int) = 256 - 2 ^ (8 - k) + (m : Int) ∧ 256 - 2 ^ (8 - k) + (m : Int) < 256 := by decide +kernel
theorem vbe_div : ∀ (k : Nat) (m : Int) (T : List UInt8), (vbe k m T).2 = m / 256 ^ k
  | 0, m, T => by show m = m / 256 ^ 0; rw [Int.pow_zero, Int.ediv_one]
  | k + 1, m, T => by
    show (vbe k (m / 256) (b8 (m % 256) :: T)).2 = _
    rw [vbe_div k, Int.pow_succ, Int.mul_comm, Int.ediv_ediv_of_nonneg (by decide)]
theorem vks_lt {n : Int} (f k : Nat) : vks n f k < k + f → n < vbnd (vks n f k + 1) := by
  induction f generalizing k with
  | zero => intro h; exact absurd h (Nat.lt_irrefl _)
  | succ f ih =>
    intro h
    by_cases g : vbnd (k + 1) ≤ n
    · rw [show vks n (f + 1) k = vks n f (k + 1) from if_pos g] at h ⊢
      exact ih (k + 1) (by omega)
    · rw [show vks n (f + 1) k = k from if_neg g]
      omega
theorem vbnd_step : ∀ k : Nat, k < 8 → vbnd (k + 1) = vbnd k + 2 ^ (7 - k) * 256 ^ k := by decide
theorem vhd_num {n : Int} (h0 : 0 ≤ n) (h : n ≤ 9223372036854775807) : vhd (vk n) (vbe (vk n) (n - vbnd (vk n)) []).2 = 256 - 2 ^ (8 - vk n) + (vbe (vk n) (n - vbnd (vk n)) []).2 ∧
    0 ≤ (vbe (vk n) (n - vbnd (vk n)) []).2 ∧ 256 - 2 ^ (8 - vk n) + (vbe (vk n) (n - vbnd (vk n)) []).2 < 256 ∧ (vbe (vk n) (n - vbnd (vk n)) []).2 < 128 := by
  obtain ⟨hk1, hk2⟩ := vk_ok h0
  have hlt : vk n < 8 → n < vbnd (vk n + 1) := fun g => vks_lt (n := n) 8 0 (by show vk n < 0 + 8; omega)
  rw [vbe_div]
  generalize hK : vk n = K at *
  have hm0 : 0 ≤ (n - vbnd K) / 256 ^ K := Int.ediv_nonneg (by omega) (Int.le_of_lt (Int.pow_pos (by decide)))
  have hmk : K < 8 → (n - vbnd K) / 256 ^ K < 2 ^ (7 - K) := fun g => by
    have := hlt g
    rw [vbnd_step K g] at this
    exact Int.ediv_lt_of_lt_mul (Int.pow_pos (by decide)) (by omega)
  have hm8 : K = 8 → (n - vbnd K) / 256 ^ K = 0 := fun g => by
    subst g
    exact Int.ediv_eq_zero_of_lt (by omega) (by have := (vbnd_in 8 (by decide)).1; have : (256 : Int) ^ 8 = 18446744073709551616 := rfl; omega)
  obtain ⟨m, hm⟩ := Int.eq_ofNat_of_zero_le hm0
  rw [hm] at hmk hm8 ⊢
  have hmk' : K < 8 → m < 2 ^ (7 - K) := fun g => by have := hmk g; have e : ((2 : Int) ^ (7 - K)) = ((2 ^ (7 - K) : Nat) : Int) := by simp
                                                     omega
  have hm128 : m < 128 := by
    by_cases g : K < 8
    · have := hmk' g
      have h2 : 2 ^ (7 - K) ≤ 2 ^ 7 := Nat.pow_le_pow_right (by decide) (by omega)
      have h3 : (2 ^ 7 : Nat) = 128 := rfl
      omega
    · have := hm8 (by omega); omega
  obtain ⟨g1, g2⟩ := vhd_fin K (by omega) m hm128 hmk' (fun g => by have := hm8 g; omega)
  exact ⟨g1, by omega, g2, by omega⟩
theorem w_rem256 {m : Int} (h : 0 ≤ m ∧ m ≤ 9223372036854775807) : IntKind.u8.wrap (m % 256) = m % 256 := IntWalk.u8_in _ (by omega)
theorem subAt1 {c : Int} (hc : 0 ≤ c ∧ c < 256) : SubAt [Y c] 0 (bytesV [b8 c]) := by
  rw [show bytesV [b8 c] = [Y c] by show [byteV (b8 c)] = _; unfold byteV; rw [b8_val hc]]
  exact subAt_all
theorem shl8K {k : Nat} (hk : k ≤ 8) : IntKind.i64.wrap (1 * 2 ^ (min (8 - (k : Int)).toNat IntKind.i64.bits)) = 2 ^ (8 - k) ∧ (1 : Int) ≤ 2 ^ (8 - k) ∧ (2 : Int) ^ (8 - k) ≤ 256 := by
  have : k = 0 ∨ k = 1 ∨ k = 2 ∨ k = 3 ∨ k = 4 ∨ k = 5 ∨ k = 6 ∨ k = 7 ∨ k = 8 := by omega
  rcases this with rfl | rfl | rfl | rfl | rfl | rfl | rfl | rfl | rfl <;> decide
theorem rNumber4_any (n : Int) (h : SH) (h0 : 0 ≤ n) (hn : n ≤ 9223372036854775807) : SRun Try.prog 47 [I n] h fun r q => r = S (vnum n) ∧ q = h := by
  obtain ⟨f1, f2, f3, f4⟩ := vhd_num h0 hn
  rw [show vnum n = b8 (vhd (vk n) (vbe (vk n) (n - vbnd (vk n)) []).2) :: (vbe (vk n) (n - vbnd (vk n)) []).1 from if_neg (by omega)]
  rw [f1]
  obtain ⟨hk1, hk2⟩ := vk_ok (n := n) (by omega)
  have hS := fun h => rSize_any n h (by omega)
  have hB := fun h => rFrom_any (vk n) h hk2
  have hbd := vbnd_in (vk n) hk2
  generalize vk n = K at *
  generalize vbnd K = w at *
  obtain ⟨R, hR⟩ : ∃ R, vbe K (n - w) [] = R := ⟨_, rfl⟩
  rw [hR] at f1 f2 f3 f4 ⊢
  have hK1 : IntKind.i64.wrap ((K : Int) + 1 - 1) = K := by rw [Int.add_sub_cancel]; exact IntWalk.i64_in _ (by omega)
  obtain ⟨hsh, hsh1, hsh2⟩ := shl8K hk2
  refine w_body1 Try.func47 rfl rfl ?_
  repeat' (first | apply w_seq | apply w_region | apply o_nil | (apply o_g tyOk; exact rfl; exact rfl) | (apply o_ar tyOk; exact rfl; exact rfl) | (apply o_call; exact rfl; exact rfl; (focus (first | exact rfl | assumption)); exact rfl; (focus (exact ⟨_, hS _, by repeat (first | with_reducible exact Take.nil | with_reducible apply Take.c | with_reducible apply Take.drop)⟩)); rintro _ _ ⟨rfl, rfl⟩) | (apply o_call; exact rfl; exact rfl; (focus (first | exact rfl | assumption)); exact rfl; (focus (exact ⟨_, hB _, by repeat (first | with_reducible exact Take.nil | with_reducible apply Take.c | with_reducible apply Take.drop)⟩)); rintro _ _ ⟨rfl, rfl⟩) | (apply w_dF; exact rfl; (focus (first | exact ‹_› | with_reducible exact rfl | omega))) | apply thenS_normal | apply w_skip | apply w_block | ((with_reducible apply Sd.mk); (first | exact True.intro | omega | (constructor <;> first | omega | (unfold maxLen; omega)) | (unfold maxLen; omega))) | ((with_reducible apply Wr.mk); (first | exact hK1 | exact IntWalk.i64_in _ (by omega) | exact IntWalk.u8_in _ (by omega) | exact IntWalk.u32_in _ (by omega) | exact IntWalk.u64_in _ (by omega) | exact IntKind.wrap_u8 _ | exact IntKind.wrap_u32 _ | rfl)))
  all_goals first | (exfalso; omega) | skip
  rename_i q0
  refine w_loop (S := Nat × Int × List UInt8) (fun x => [(0, I x.2.1), (3, I K), (4, S x.2.2), (5, I x.1)]) (fun _ => q0)
    (fun x => x.1 ≤ K ∧ x.2.2.length = x.1 ∧ (0 ≤ x.2.1 ∧ x.2.1 ≤ 9223372036854775807) ∧ vbe (K - x.1) x.2.1 x.2.2 = R) (fun x => K - x.1) (0, n - w, []) ⟨Nat.zero_le _, rfl, by dsimp only; omega, hR⟩ (by repeat' (first | exact trivial | refine ⟨rfl, ?_⟩ | refine ⟨congrArg some ?_, ?_⟩)) (by repeat (first | with_reducible exact Take.nil | with_reducible apply Take.c | ((with_reducible apply Take.cE); (first | exact rfl | (apply blkE; (focus (first | exact rfl | exact recs_snocE rfl | exact map_snocE rfl | exact congrArg (fun v => [v]) (gslE rfl rfl (by first | rfl | exact ‹_› | omega | (simp ; first | done | omega)) (by first | rfl | exact ‹_› | omega | (simp ; first | done | omega)) rfl)))))) | with_reducible apply Take.drop)) ?_
  rintro ⟨i, m, T⟩ ⟨hi, hT, hm, he⟩
  dsimp only at hi hT hm he ⊢
  by_cases hiK : i < K
  · rw [show K - i = (K - (i + 1)) + 1 by omega] at he
    have hsb := subAt1 (c := m % 256) (by omega)
    have hw := w_rem256 hm
    repeat' (first | apply w_seq | apply w_region | apply o_nil | (apply o_g tyOk; exact rfl; exact rfl) | (apply o_ar tyOk; exact rfl; exact rfl) | (apply o_ex; exact rfl; exact rfl) | (apply o_buildSlice tyOk; (iterate 5 exact rfl); (focus (decide)); exact rfl; (focus (decide)); (focus (repeat (first | exact CatR.nil | exact CatR.last rfl | (apply CatR.one; exact rfl; exact rfl) | (apply CatR.agg; exact rfl)))); exact rfl) | (apply o_toString tyOk; (iterate 6 exact rfl); (focus (exact pk))) | (apply w_dT; exact rfl; (focus (first | exact ‹_› | with_reducible exact rfl | omega))) | apply thenS_normal | apply blockS_normal | apply w_skip | apply w_block | ((with_reducible apply Sd.mk); (first | exact True.intro | omega | (constructor <;> first | omega | (unfold maxLen; omega)) | (unfold maxLen; omega) | (simp only [List.length_singleton]; omega))) | ((with_reducible apply Ln.mk); (first | rfl | exact ‹_› | omega | (simp ; first | done | omega))) | ((with_reducible apply Wr.mk); (first | exact hw | exact w_quoI (by omega) (by omega) | exact IntWalk.i64_in _ (by omega) | exact IntWalk.u8_in _ (by omega) | exact IntWalk.u32_in _ (by omega) | exact IntWalk.u64_in _ (by omega) | exact IntKind.wrap_u8 _ | exact IntKind.wrap_u32 _ | rfl)) | ((with_reducible apply Ex.mk); (first | exact Int.tmod_eq_emod_of_nonneg (by omega) | rfl)) | ((with_reducible apply Su.mk); (first | exact hsb | exact subAt_all | exact subAt_recZ (fun _ => rfl) (by omega) | exact subAt_rec (fun _ => rfl) (by omega))) | exact True.intro | intro A | exact rfl)
    all_goals first
      | (exfalso; omega)
      | exact ⟨(i + 1, m / 256, b8 (m % 256) :: T), ⟨hiK, by simp [hT], by dsimp only; omega, he⟩, by show K - (i + 1) < K - i; omega, (by repeat' (first | exact trivial | refine ⟨rfl, ?_⟩ | refine ⟨congrArg some ?_, ?_⟩)), (by repeat (first | with_reducible exact Take.nil | with_reducible apply Take.c | ((with_reducible apply Take.cE); (first | exact rfl | (apply blkE; (focus (first | exact rfl | exact recs_snocE rfl | exact map_snocE rfl | exact congrArg (fun v => [v]) (gslE rfl rfl (by first | rfl | exact ‹_› | omega | (simp ; first | done | omega)) (by first | rfl | exact ‹_› | omega | (simp ; first | done | omega)) rfl)))))) | with_reducible apply Take.drop))⟩
      | trace_state
  · obtain rfl : i = K := by omega
    rw [Nat.sub_self] at he
    have he : (T, m) = R := he
    rw [← he] at f2 f3 f4 ⊢
    dsimp only at f2 f3 f4 ⊢
    have hw : IntKind.u8.wrap (256 - 2 ^ (8 - i) + m) = 256 - 2 ^ (8 - i) + m := IntWalk.u8_in _ (by omega)
    have hsb := subAt1 (c := 256 - 2 ^ (8 - i) + m) (by omega)
    generalize (2 : Int) ^ (8 - i) = W at *
    repeat' (first | apply w_seq | apply w_region | apply o_nil | (apply o_g tyOk; exact rfl; exact rfl) | (apply o_ar tyOk; exact rfl; exact rfl) | (apply o_buildSlice tyOk; (iterate 5 exact rfl); (focus (decide)); exact rfl; (focus (decide)); (focus (repeat (first | exact CatR.nil | exact CatR.last rfl | (apply CatR.one; exact rfl; exact rfl) | (apply CatR.agg; exact rfl)))); exact rfl) | (apply o_toString tyOk; (iterate 6 exact rfl); (focus (exact pk))) | (apply w_dF; exact rfl; (focus (first | exact ‹_› | with_reducible exact rfl | omega))) | apply thenS_normal | apply thenS_exit | apply blockS_exit | apply w_ret | apply w_exit | ((with_reducible apply Sd.mk); (first | exact True.intro | omega | (constructor <;> first | omega | (unfold maxLen; omega)) | (unfold maxLen; omega) | (simp only [List.length_singleton]; omega))) | ((with_reducible apply Ln.mk); (first | rfl | exact ‹_› | omega | (simp ; first | done | omega))) | ((with_reducible apply Wr.mk); (first | exact hw | exact hsh | exact IntWalk.i64_in _ (by omega) | exact IntWalk.u8_in _ (by omega) | exact IntWalk.u32_in _ (by omega) | exact IntWalk.u64_in _ (by omega) | exact IntKind.wrap_u8 _ | exact IntKind.wrap_u32 _ | rfl)) | ((with_reducible apply Su.mk); (first | exact hsb | exact subAt_all | exact subAt_recZ (fun _ => rfl) (by omega) | exact subAt_rec (fun _ => rfl) (by omega))) | exact True.intro | intro A | exact rfl)
    all_goals first
      | (exfalso; omega)
      | (apply s_fin; (exact (show ResS _ _ _ _ [_] from ⟨rfl, trivial⟩)); (focus (exact ⟨rfl, rfl⟩)); (focus (repeat (first | with_reducible exact Take.nil | with_reducible apply Take.c | ((with_reducible apply Take.cE); (first | exact rfl | (apply blkE; (focus (first | exact rfl | exact recs_snocE rfl | exact map_snocE rfl | exact congrArg (fun v => [v]) (gslE rfl rfl (by first | rfl | exact ‹_› | omega | (simp ; first | done | omega)) (by first | rfl | exact ‹_› | omega | (simp ; first | done | omega)) rfl)))))) | with_reducible apply Take.drop))))
      | trace_state
end Go.Proofs.Ytinfmojbdaiogaa
end
section
set_option linter.unusedVariables false
set_option linter.unusedSimpArgs false
set_option maxRecDepth 4000
namespace Go.Proofs.Ytinfmojbdaiogaa
open Go.Gh Go.RowKit

theorem lead_bit : ∀ f : Nat, f < 256 → ∀ k : Nat, k < 8 → (vb1 (f : Int) k ≠ 0 ↔ (f : Int) / 2 ^ (7 - k) % 2 = 1) := by decide +kernel
theorem low_fin : ∀ f : Nat, f < 256 → vlow (f : Int) (vlead (f : Int) 8 0) = (f : Int) - (256 - 2 ^ (8 - vlead (f : Int) 8 0)) := by decide +kernel
theorem vacc_big (l : List UInt8) (m : Nat) : ∀ (i : Nat) (v : Int), 0 ≤ v → v * 256 ^ m ≤ vacc l m i v := by
  induction m with
  | zero => intro i v h; show v * 256 ^ 0 ≤ v; rw [Int.pow_zero, Int.mul_one]; exact Int.le_refl _
  | succ m ih =>
    intro i v h
    have hb := bat_255 l (i : Int)
    have h1 := ih (i + 1) (v * 256 + bat l (i : Int)) (by omega)
    have hp : (0 : Int) < 256 ^ m := Int.pow_pos (by decide)
    have h2 := Int.mul_le_mul_of_nonneg_right (show v * 256 ≤ v * 256 + bat l (i : Int) by omega) (Int.le_of_lt hp)
    rw [Int.pow_succ, Int.mul_comm (256 ^ m) 256, ← Int.mul_assoc]
    exact Int.le_trans h2 h1
theorem one_le_256p (m : Nat) : (1 : Int) ≤ 256 ^ m := Int.pow_pos (by decide : (0 : Int) < 256)
theorem w_shr7 {f : Int} {k : Nat} (hk : k < 8) : f / 2 ^ (min (7 - (k : Int)).toNat IntKind.i64.bits) = f / 2 ^ (7 - k) := by
  rw [show (7 - (k : Int)).toNat = 7 - k by omega, show IntKind.i64.bits = 64 from rfl, Nat.min_eq_left (by omega)]
theorem rRead4_any (l : List UInt8) (h : SH) (hl : l.length ≤ 100000) : SRun Try.prog 84 [S l] h fun r q => r = .tuple #[I (vpeek l).1, I (vpeek l).2.1] ∧ q = h := by
  by_cases h0 : l.length = 0
  · obtain rfl : l = [] := List.length_eq_zero_iff.1 h0
    rw [show vpeek [] = (0, 0, false) from rfl]
    refine w_body1 Try.func84 rfl rfl ?_
    repeat' (first | apply w_seq | apply w_region | apply o_nil | (apply o_g tyOk; exact rfl; exact rfl) | (apply w_true; exact rfl) | apply thenS_normal | apply thenS_ret | apply w_ret | ((with_reducible apply Sd.mk); (first | exact True.intro | omega | (constructor <;> first | omega | (unfold maxLen; omega)) | (unfold maxLen; omega))))
    all_goals first
      | (exfalso; omega)
      | contradiction
      | (apply s_fin; (exact (show ResS _ _ _ _ [_, _] from ⟨rfl, ⟨rfl, trivial⟩⟩)); (focus (exact ⟨rfl, rfl⟩)); (focus (repeat (first | with_reducible exact Take.nil | with_reducible apply Take.c | ((with_reducible apply Take.cE); (first | exact rfl | (apply blkE; (focus (first | exact rfl | exact recs_snocE rfl | exact map_snocE rfl | exact congrArg (fun v => [v]) (gslE rfl rfl (by first | rfl | exact ‹_› | omega | (simp ; first | done | omega)) (by first | rfl | exact ‹_› | omega | (simp ; first | done | omega)) rfl)))))) | with_reducible apply Take.drop))))
      | trace_state
  obtain ⟨f, hf⟩ : ∃ f, f = bat l 0 := ⟨_, rfl⟩
  have hf2 := bat_255 l 0
  rw [← hf] at hf2
  obtain ⟨fn, hfn⟩ := Int.eq_ofNat_of_zero_le hf2.1
  have hlow := low_fin fn (by omega)
  have hbit := lead_bit fn (by omega)
  rw [← hfn] at hlow hbit
  obtain ⟨K, hK⟩ : ∃ K, vlead f 8 0 = K := ⟨_, rfl⟩
  have hK8 := (vlead_le f 8 0).2
  rw [hK] at hlow hK8
  have hv : vpeek l = if l.length < K + 1 then (0, 0, false) else if 9223372036854775807 - vbnd K < vacc l K 1 (vlow f K) then (0, 0, false) else (vacc l K 1 (vlow f K) + vbnd K, (K : Int) + 1, true) := by
    unfold vpeek; rw [if_neg h0, ← hf, hK]
  rw [hv]
  have hcell : (bytesV l)[0]? = some (Y f) := by
    rw [hf]; exact cell_bytes (i := 0) (by omega)
  refine w_body1 Try.func84 rfl rfl ?_
  repeat' (first | apply w_seq | apply w_region | apply o_nil | (apply o_g tyOk; exact rfl; exact rfl) | (apply w_dF; exact rfl; (focus (first | exact ‹_› | with_reducible exact rfl | omega))) | apply thenS_normal | apply w_skip | apply w_block | ((with_reducible apply Sd.mk); (first | exact True.intro | omega | (constructor <;> first | omega | (unfold maxLen; omega)) | (unfold maxLen; omega))))
  all_goals first | contradiction | (exfalso; omega) | skip
  refine w_loop (S := Nat) (fun i => [(0, S l), (4, I i)]) (fun _ => h) (fun i => i ≤ 8 ∧ vlead f (8 - i) i = K) (fun i => 8 - i) 0 ⟨Nat.zero_le _, hK⟩ (by repeat' (first | exact trivial | refine ⟨rfl, ?_⟩ | refine ⟨congrArg some ?_, ?_⟩)) (by repeat (first | with_reducible exact Take.nil | with_reducible apply Take.c | ((with_reducible apply Take.cE); (first | exact rfl | (apply blkE; (focus (first | exact rfl | exact recs_snocE rfl | exact map_snocE rfl | exact congrArg (fun v => [v]) (gslE rfl rfl (by first | rfl | exact ‹_› | omega | (simp ; first | done | omega)) (by first | rfl | exact ‹_› | omega | (simp ; first | done | omega)) rfl)))))) | with_reducible apply Take.drop)) ?_
  rintro i ⟨hi, he⟩
  by_cases hgo : i < 8 ∧ vb1 f i ≠ 0
  · obtain ⟨hg1, hg2⟩ := hgo
    have hst : vlead f (8 - i) i = vlead f (8 - (i + 1)) (i + 1) := by rw [show 8 - i = (8 - (i + 1)) + 1 by omega]; exact if_pos hg2
    rw [hst] at he
    have hg3 := (hbit i hg1).1 hg2
    have hx := w_shr7 (f := f) hg1
    have hcnd : (bat l 0 / 2 ^ (min (7 - (i : Int)).toNat IntKind.i64.bits)).tmod 2 = 1 := by
      rw [← hf, hx, Int.tmod_eq_emod_of_nonneg (Int.ediv_nonneg hf2.1 (Int.le_of_lt (Int.pow_pos (by decide))))]; exact hg3
    repeat' (first | apply w_seq | apply w_region | apply o_nil | (apply o_g tyOk; exact rfl; exact rfl) | (apply o_ar tyOk; exact rfl; exact rfl) | (apply o_ex; exact rfl; exact rfl) | (apply o_want; exact rfl; exact rfl) | (apply o_gT; (iterate 3 exact rfl); (focus (first | exact ‹_› | with_reducible exact rfl | omega | exact hcnd))) | (apply w_dT; exact rfl; (focus (first | exact ‹_› | with_reducible exact rfl | omega | exact hcnd))) | apply thenS_normal | apply blockS_normal | apply w_skip | apply w_block | ((with_reducible apply Sd.mk); (first | exact True.intro | omega | (constructor <;> first | omega | (unfold maxLen; omega)) | (unfold maxLen; omega))) | ((with_reducible apply Wr.mk); (first | exact IntWalk.i64_in _ (by omega) | exact IntWalk.u8_in _ (by omega) | exact IntWalk.u32_in _ (by omega) | exact IntWalk.u64_in _ (by omega) | exact IntKind.wrap_u8 _ | exact IntKind.wrap_u32 _ | rfl)) | ((with_reducible apply Ex.mk); (first | exact Int.tmod_eq_emod_of_nonneg (by omega) | rfl)))
    all_goals first
      | (exfalso; omega)
      | exact ⟨i + 1, ⟨hg1, he⟩, by show 8 - (i + 1) < 8 - i; omega, (by repeat' (first | exact trivial | refine ⟨rfl, ?_⟩ | refine ⟨congrArg some ?_, ?_⟩)), (by repeat (first | with_reducible exact Take.nil | with_reducible apply Take.c | ((with_reducible apply Take.cE); (first | exact rfl | (apply blkE; (focus (first | exact rfl | exact recs_snocE rfl | exact map_snocE rfl | exact congrArg (fun v => [v]) (gslE rfl rfl (by first | rfl | exact ‹_› | omega | (simp ; first | done | omega)) (by first | rfl | exact ‹_› | omega | (simp ; first | done | omega)) rfl)))))) | with_reducible apply Take.drop))⟩
      | (exfalso; exact (by assumption : ¬ (_ = _)) hcnd)
      | trace_state
  · have hKi : i = K := by
      rw [← he]
      by_cases h8 : i < 8
      · have hz : ¬ vb1 f i ≠ 0 := fun g => hgo ⟨h8, g⟩
        rw [show 8 - i = (8 - (i + 1)) + 1 by omega]
        exact (if_neg hz).symm
      · rw [show 8 - i = 0 by omega]; rfl
    subst hKi
    have hcnd : i < 8 → ¬ (bat l 0 / 2 ^ (min (7 - (i : Int)).toNat IntKind.i64.bits)).tmod 2 = 1 := fun h8 g => by
      rw [← hf, w_shr7 h8, Int.tmod_eq_emod_of_nonneg (Int.ediv_nonneg hf2.1 (Int.le_of_lt (Int.pow_pos (by decide))))] at g
      exact hgo ⟨h8, (hbit i h8).2 g⟩
    obtain ⟨hsh, hsh1, hsh2⟩ := shl8K hi
    have hlo := (vlow_in f hi).1
    have hcap := (vlow_in f hi).2
    rw [hlow] at hlo hcap ⊢
    obtain ⟨W, hW⟩ : ∃ W, (2 : Int) ^ (8 - i) = W := ⟨_, rfl⟩
    rw [hW] at hsh hsh1 hsh2 hlo hcap hlow ⊢
    obtain ⟨R, hR⟩ : ∃ R, vacc l i 1 (f - (256 - W)) = R := ⟨_, rfl⟩
    have hbd := vbnd_in i hi
    have hBo := fun h => rFrom_any i h hi
    rw [hR]
    have hcl0 : (bytesV l)[0]? = some (Y f) := hcell
    repeat' (first | apply w_seq | apply w_region | apply o_nil | (apply w_draw; (focus (kernel_rfl)); (focus (kernel_rfl))) | (apply o_g tyOk; exact rfl; exact rfl) | (apply o_ar tyOk; exact rfl; exact rfl) | (apply o_ex; exact rfl; exact rfl) | (apply o_want; exact rfl; exact rfl) | (apply o_skip; iterate 4 exact rfl) | (apply o_guardT; (iterate 3 exact rfl); all_goals intro hc) | (apply w_false; exact rfl) | (apply w_dF; exact rfl; (focus (first | exact ‹_› | with_reducible exact rfl | omega | exact hcnd (by omega)))) | (apply w_if; exact rfl; all_goals intro hc) | apply thenS_normal | apply thenS_ret | apply thenS_exit | apply blockS_exit | apply w_skip | apply w_ret | apply w_exit | apply w_block | ((with_reducible apply Sd.mk); (first | exact True.intro | omega | (constructor <;> first | omega | (unfold maxLen; omega)) | (unfold maxLen; omega))) | ((with_reducible apply Wr.mk); (first | exact hsh | exact IntWalk.i64_in _ (by omega) | exact IntWalk.u8_in _ (by omega) | exact IntWalk.u32_in _ (by omega) | exact IntWalk.u64_in _ (by omega) | exact IntKind.wrap_u8 _ | exact IntKind.wrap_u32 _ | rfl)) | ((with_reducible apply Ex.mk); (first | exact Int.tmod_eq_emod_of_nonneg (by omega) | rfl)))
    all_goals first
      | (exfalso; omega)
      | (exfalso; exact hcnd (by omega) (by assumption))
      | (rw [if_pos (by omega)]; (apply s_fin; (exact (show ResS _ _ _ _ [_, _] from ⟨rfl, ⟨rfl, trivial⟩⟩)); (focus (exact ⟨rfl, rfl⟩)); (focus (repeat (first | with_reducible exact Take.nil | with_reducible apply Take.c | ((with_reducible apply Take.cE); (first | exact rfl | (apply blkE; (focus (first | exact rfl | exact recs_snocE rfl | exact map_snocE rfl | exact congrArg (fun v => [v]) (gslE rfl rfl (by first | rfl | exact ‹_› | omega | (simp ; first | done | omega)) (by first | rfl | exact ‹_› | omega | (simp ; first | done | omega)) rfl)))))) | with_reducible apply Take.drop)))))
      | skip
    all_goals
      refine w_loop (S := Nat × Int) (fun x => [(0, S l), (4, I i), (5, I x.2), (6, I ((x.1 : Int) + 1))]) (fun _ => h) (fun x => x.1 ≤ i ∧ (0 ≤ x.2 ∧ x.2 ≤ 9223372036854775807) ∧ vacc l (i - x.1) (x.1 + 1) x.2 = R)
        (fun x => i - x.1) (0, bat l 0 - (256 - W)) ⟨Nat.zero_le _, by dsimp only; omega, by rw [← hf]; exact hR⟩ (by repeat' (first | exact trivial | refine ⟨rfl, ?_⟩ | refine ⟨congrArg some ?_, ?_⟩)) (by repeat (first | with_reducible exact Take.nil | with_reducible apply Take.c | ((with_reducible apply Take.cE); (first | exact rfl | (apply blkE; (focus (first | exact rfl | exact recs_snocE rfl | exact map_snocE rfl | exact congrArg (fun v => [v]) (gslE rfl rfl (by first | rfl | exact ‹_› | omega | (simp ; first | done | omega)) (by first | rfl | exact ‹_› | omega | (simp ; first | done | omega)) rfl)))))) | with_reducible apply Take.drop)) ?_
      rintro ⟨j, v⟩ ⟨hj, hv0, he2⟩
      dsimp only at hj hv0 he2 ⊢
      by_cases hji : j < i
      · rw [show i - j = (i - (j + 1)) + 1 by omega] at he2
        have hb := bat_255 l ((j : Int) + 1)
        by_cases hbig : 36028797018963967 < v
        · have h1 := vacc_big l (i - (j + 1) + 1) (j + 1) v hv0.1
          rw [he2, Int.pow_succ] at h1
          have h2 := Int.mul_le_mul_of_nonneg_left (one_le_256p (i - (j + 1))) (show 0 ≤ v * 256 by omega)
          rw [Int.mul_comm (256 ^ (i - (j + 1))) 256, ← Int.mul_assoc] at h1
          repeat' (first | apply w_seq | apply w_region | apply o_nil | (apply o_g tyOk; exact rfl; exact rfl) | (apply w_dT; exact rfl; (focus (first | exact ‹_› | with_reducible exact rfl | omega))) | apply thenS_normal | apply thenS_ret | apply blockS_ret | apply w_skip | apply w_ret | apply w_block | ((with_reducible apply Sd.mk); (first | exact True.intro | omega | (constructor <;> first | omega | (unfold maxLen; omega)) | (unfold maxLen; omega))))
          all_goals first
            | (exfalso; omega)
            | (rw [if_neg (by omega), if_pos (by omega)]; (apply s_fin; (exact (show ResS _ _ _ _ [_, _] from ⟨rfl, ⟨rfl, trivial⟩⟩)); (focus (exact ⟨rfl, rfl⟩)); (focus (repeat (first | with_reducible exact Take.nil | with_reducible apply Take.c | ((with_reducible apply Take.cE); (first | exact rfl | (apply blkE; (focus (first | exact rfl | exact recs_snocE rfl | exact map_snocE rfl | exact congrArg (fun v => [v]) (gslE rfl rfl (by first | rfl | exact ‹_› | omega | (simp ; first | done | omega)) (by first | rfl | exact ‹_› | omega | (simp ; first | done | omega)) rfl)))))) | with_reducible apply Take.drop)))))
            | trace_state
        · have he2 : vacc l (i - (j + 1)) (j + 1 + 1) (v * 256 + bat l ((j : Int) + 1)) = R := he2
          have hm : 256 * v = v * 256 := Int.mul_comm _ _
          repeat' (first | apply w_seq | apply w_region | apply o_nil | (apply o_g tyOk; exact rfl; exact rfl) | (apply o_ar tyOk; exact rfl; exact rfl) | (apply w_dT; exact rfl; (focus (first | exact ‹_› | with_reducible exact rfl | omega))) | (apply w_dF; exact rfl; (focus (first | exact ‹_› | with_reducible exact rfl | omega))) | apply thenS_normal | apply blockS_normal | apply w_skip | apply w_block | ((with_reducible apply Sd.mk); (first | exact True.intro | omega | (constructor <;> first | omega | (unfold maxLen; omega)) | (unfold maxLen; omega))) | ((with_reducible apply Wr.mk); (first | exact IntWalk.i64_in _ (by omega) | exact IntWalk.u8_in _ (by omega) | exact IntWalk.u32_in _ (by omega) | exact IntWalk.u64_in _ (by omega) | exact IntKind.wrap_u8 _ | exact IntKind.wrap_u32 _ | rfl)))
          all_goals first
            | (exfalso; omega)
            | exact ⟨(j + 1, v * 256 + bat l ((j : Int) + 1)), ⟨hji, by dsimp only; omega, he2⟩, by show i - (j + 1) < i - j; omega, ⟨rfl, rfl, congrArg some (congrArg (Value.int .i64) (by show 256 * v + _ = v * 256 + _; omega)), rfl, trivial⟩, (by repeat (first | with_reducible exact Take.nil | with_reducible apply Take.c | ((with_reducible apply Take.cE); (first | exact rfl | (apply blkE; (focus (first | exact rfl | exact recs_snocE rfl | exact map_snocE rfl | exact congrArg (fun v => [v]) (gslE rfl rfl (by first | rfl | exact ‹_› | omega | (simp ; first | done | omega)) (by first | rfl | exact ‹_› | omega | (simp ; first | done | omega)) rfl)))))) | with_reducible apply Take.drop))⟩
            | trace_state
      · obtain rfl : j = i := by omega
        rw [Nat.sub_self] at he2
        have he2 : v = R := he2
        subst he2
        repeat' (first | apply w_seq | apply w_region | apply o_nil | (apply o_g tyOk; exact rfl; exact rfl) | (apply o_ar tyOk; exact rfl; exact rfl) | (apply o_call; exact rfl; exact rfl; (focus (first | exact rfl | assumption)); exact rfl; (focus (exact ⟨_, hBo _, by repeat (first | with_reducible exact Take.nil | with_reducible apply Take.c | with_reducible apply Take.drop)⟩)); rintro _ _ ⟨rfl, rfl⟩) | (apply w_dF; exact rfl; (focus (first | exact ‹_› | with_reducible exact rfl | omega))) | (apply w_if; exact rfl; all_goals intro hc) | apply thenS_normal | apply thenS_ret | apply thenS_exit | apply blockS_exit | apply w_skip | apply w_ret | apply w_exit | ((with_reducible apply Sd.mk); (first | exact True.intro | omega | (constructor <;> first | omega | (unfold maxLen; omega)) | (unfold maxLen; omega))) | ((with_reducible apply Wr.mk); (first | exact IntWalk.i64_in _ (by omega) | exact IntWalk.u8_in _ (by omega) | exact IntWalk.u32_in _ (by omega) | exact IntWalk.u64_in _ (by omega) | exact IntKind.wrap_u8 _ | exact IntKind.wrap_u32 _ | rfl)))
        all_goals first
          | (exfalso; omega)
          | (rw [if_neg (by omega), if_pos (by omega)]; (apply s_fin; (exact (show ResS _ _ _ _ [_, _] from ⟨rfl, ⟨rfl, trivial⟩⟩)); (focus (exact ⟨rfl, rfl⟩)); (focus (repeat (first | with_reducible exact Take.nil | with_reducible apply Take.c | ((with_reducible apply Take.cE); (first | exact rfl | (apply blkE; (focus (first | exact rfl | exact recs_snocE rfl | exact map_snocE rfl | exact congrArg (fun v => [v]) (gslE rfl rfl (by first | rfl | exact ‹_› | omega | (simp ; first | done | omega)) (by first | rfl | exact ‹_› | omega | (simp ; first | done | omega)) rfl)))))) | with_reducible apply Take.drop)))))
          | (rw [if_neg (by omega), if_neg (by omega)]; (apply s_fin; (exact (show ResS _ _ _ _ [_, _] from ⟨rfl, ⟨rfl, trivial⟩⟩)); (focus (exact ⟨rfl, rfl⟩)); (focus (repeat (first | with_reducible exact Take.nil | with_reducible apply Take.c | ((with_reducible apply Take.cE); (first | exact rfl | (apply blkE; (focus (first | exact rfl | exact recs_snocE rfl | exact map_snocE rfl | exact congrArg (fun v => [v]) (gslE rfl rfl (by first | rfl | exact ‹_› | omega | (simp ; first | done | omega)) (by first | rfl | exact ‹_› | omega | (simp ; first | done | omega)) rfl)))))) | with_reducible apply Take.drop)))))
          | trace_state
end Go.Proofs.Ytinfmojbdaiogaa
end
section
set_option linter.unusedVariables false
set_option linter.unusedSimpArgs false
set_option maxRecDepth 4000
namespace Go.Proofs.Ytinfmojbdaiogaa
open Go.Gh Go.RowKit

/-- What decode[byte] gives: bytes, error. -/
def rdec (l : List UInt8) (most : Int) (P : List Int) (c : Int) : List UInt8 × Int :=
  if (rdN l 4096).2.2 ≠ 0 then ([], 12) else if most < (rdN l 4096).1 then ([], 2) else if (rdN l 4096).1 = 0 then ([], rend (rdN l 4096).2.1 0)
  else if dend (bdecN (rdN l 4096).1.toNat P c (dnew (rdN l 4096).2.1)).2 ≠ 0 then ([], dend (bdecN (rdN l 4096).1.toNat P c (dnew (rdN l 4096).2.1)).2)
  else ((bdecN (rdN l 4096).1.toNat P c (dnew (rdN l 4096).2.1)).1, 0)
theorem rdN_ok (l : List UInt8) (m : Int) : (rdN l m).2.1.length ≤ l.length ∧ ((rdN l m).2.2 = 0 → 0 ≤ (rdN l m).1 ∧ (rdN l m).1 ≤ m) := by
  unfold rdN
  split
  · exact ⟨Nat.le_refl _, fun h => absurd h (by show ¬ (12 : Int) = 0; decide)⟩
  · split
    · exact ⟨Nat.le_refl _, fun h => absurd h (by show ¬ (2 : Int) = 0; decide)⟩
    · dsimp only
      rw [List.length_drop]
      omega
/-- Bytes in a block of their own; none where there is an error or no byte. -/
def IsB (h : SH) (x : List UInt8 × Int) (r : Value) (q : SH) : Prop := (x.1 = [] ∧ r = .tuple #[.slice none 0 0, Er x.2] ∧ q = h) ∨
  (x.2 = 0 ∧ ∃ A, r = .tuple #[gsl A 0 x.1.length x.1.length 1, Er 0] ∧ q = (A, ⟨bytesV x.1, false⟩) :: h)
theorem decodeB_any (M N : Nat) (P : List Int) (c : Int) (l : List UInt8) (most : Int) (h : SH) (hl : l.length ≤ 100000) (hP : P.length = 2048) (hc0 : 0 ≤ c ∧ c ≤ 255) :
    SRun Try.prog 50 [.iface 34 (gptr M 0 17), S l, I 4096, I most] ((M, ⟨byC N c, false⟩) :: (N, ⟨nodes P, false⟩) :: h) (IsB h (rdec l most P c)) := by
  have hR := fun n h => rNumber_any n l 4096 h hl
  have hok := rdN_ok l 4096
  obtain ⟨x, hx⟩ : ∃ x, rdec l most P c = x := ⟨_, rfl⟩
  rw [hx]
  unfold rdec at hx
  generalize rdN l 4096 = V at *
  obtain ⟨k, d, e⟩ := V
  dsimp only at *
  have hT := fun n h => rTake_any n d (d.length : Int) h (by omega) (by omega)
  rw [show ((d.length : Int)).toNat = d.length from rfl, List.take_length, List.drop_length] at hT
  by_cases he : e = 0
  case neg =>
    rw [if_pos he] at hx
    refine w_body4 Try.func50 rfl rfl ?_
    repeat' (first | apply w_seq | apply w_region | apply o_nil | (apply o_g tyOk; exact rfl; exact rfl) | (apply o_call; exact rfl; exact rfl; (focus (first | exact rfl | assumption)); exact rfl; (focus (exact ⟨_, NewReader_any _ _, by repeat (first | with_reducible exact Take.nil | with_reducible apply Take.c | with_reducible apply Take.drop)⟩)); rintro _ _ ⟨n, rfl, rfl⟩) | (apply o_call; exact rfl; exact rfl; (focus (first | exact rfl | assumption)); exact rfl; (focus (exact ⟨_, hR _ _, by repeat (first | with_reducible exact Take.nil | with_reducible apply Take.c | with_reducible apply Take.drop)⟩)); rintro _ _ ⟨rfl, rfl⟩) | (apply o_call; exact rfl; exact rfl; (focus (first | exact rfl | assumption)); exact rfl; (focus (exact ⟨_, rErr_any _ _ _ _, by repeat (first | with_reducible exact Take.nil | with_reducible apply Take.c | with_reducible apply Take.drop)⟩)); rintro _ _ ⟨rfl, rfl⟩) | (apply w_dT; exact rfl; (focus (first | exact ‹_› | with_reducible exact rfl | omega))) | apply thenS_normal | apply thenS_ret | apply w_ret | ((with_reducible apply Sd.mk); (first | exact True.intro | omega | (constructor <;> first | omega | (unfold maxLen; omega)) | (unfold maxLen; omega))))
    all_goals first
      | contradiction
      | (apply s_fin; (exact (show ResS _ _ _ _ [_, _] from ⟨rfl, ⟨rfl, trivial⟩⟩)); (focus (exact .inl ⟨by rw [← hx], by rw [← hx]; rfl, rfl⟩)); (focus (repeat (first | with_reducible exact Take.nil | with_reducible apply Take.c | ((with_reducible apply Take.cE); (first | exact rfl | (apply blkE; (focus (first | exact rfl | exact recs_snocE rfl | exact map_snocE rfl | exact congrArg (fun v => [v]) (gslE rfl rfl (by first | rfl | exact ‹_› | omega | (simp ; first | done | omega)) (by first | rfl | exact ‹_› | omega | (simp ; first | done | omega)) rfl)))))) | with_reducible apply Take.drop))))
      | trace_state
  subst he
  rw [if_neg (by decide)] at hx
  have hk := hok.2 rfl
  by_cases h1 : most < k
  case pos =>
    rw [if_pos h1] at hx
    refine w_body4 Try.func50 rfl rfl ?_
    repeat' (first | apply w_seq | apply w_region | apply o_nil | (apply o_g tyOk; exact rfl; exact rfl) | (apply o_call; exact rfl; exact rfl; (focus (first | exact rfl | assumption)); exact rfl; (focus (exact ⟨_, NewReader_any _ _, by repeat (first | with_reducible exact Take.nil | with_reducible apply Take.c | with_reducible apply Take.drop)⟩)); rintro _ _ ⟨n, rfl, rfl⟩) | (apply o_call; exact rfl; exact rfl; (focus (first | exact rfl | assumption)); exact rfl; (focus (exact ⟨_, hR _ _, by repeat (first | with_reducible exact Take.nil | with_reducible apply Take.c | with_reducible apply Take.drop)⟩)); rintro _ _ ⟨rfl, rfl⟩) | (apply o_call; exact rfl; exact rfl; (focus (first | exact rfl | assumption)); exact rfl; (focus (exact ⟨_, rErr_any _ _ _ _, by repeat (first | with_reducible exact Take.nil | with_reducible apply Take.c | with_reducible apply Take.drop)⟩)); rintro _ _ ⟨rfl, rfl⟩) | (apply w_false; exact rfl) | (apply w_dT; exact rfl; (focus (first | exact ‹_› | with_reducible exact rfl | omega))) | apply thenS_normal | apply thenS_ret | apply w_skip | apply w_ret | ((with_reducible apply Sd.mk); (first | exact True.intro | omega | (constructor <;> first | omega | (unfold maxLen; omega)) | (unfold maxLen; omega))))
    all_goals first
      | contradiction
      | (apply s_fin; (exact (show ResS _ _ _ _ [_, _] from ⟨rfl, ⟨rfl, trivial⟩⟩)); (focus (exact .inl ⟨by rw [← hx], by rw [← hx]; rfl, rfl⟩)); (focus (repeat (first | with_reducible exact Take.nil | with_reducible apply Take.c | ((with_reducible apply Take.cE); (first | exact rfl | (apply blkE; (focus (first | exact rfl | exact recs_snocE rfl | exact map_snocE rfl | exact congrArg (fun v => [v]) (gslE rfl rfl (by first | rfl | exact ‹_› | omega | (simp ; first | done | omega)) (by first | rfl | exact ‹_› | omega | (simp ; first | done | omega)) rfl)))))) | with_reducible apply Take.drop))))
      | trace_state
  rw [if_neg h1] at hx
  by_cases h2 : k = 0
  case pos =>
    rw [if_pos h2] at hx
    refine w_body4 Try.func50 rfl rfl ?_
    repeat' (first | apply w_seq | apply w_region | apply o_nil | (apply o_g tyOk; exact rfl; exact rfl) | (apply o_call; exact rfl; exact rfl; (focus (first | exact rfl | assumption)); exact rfl; (focus (exact ⟨_, NewReader_any _ _, by repeat (first | with_reducible exact Take.nil | with_reducible apply Take.c | with_reducible apply Take.drop)⟩)); rintro _ _ ⟨n, rfl, rfl⟩) | (apply o_call; exact rfl; exact rfl; (focus (first | exact rfl | assumption)); exact rfl; (focus (exact ⟨_, hR _ _, by repeat (first | with_reducible exact Take.nil | with_reducible apply Take.c | with_reducible apply Take.drop)⟩)); rintro _ _ ⟨rfl, rfl⟩) | (apply o_call; exact rfl; exact rfl; (focus (first | exact rfl | assumption)); exact rfl; (focus (exact ⟨_, rErr_any _ _ _ _, by repeat (first | with_reducible exact Take.nil | with_reducible apply Take.c | with_reducible apply Take.drop)⟩)); rintro _ _ ⟨rfl, rfl⟩) | (apply o_call; exact rfl; exact rfl; (focus (first | exact rfl | assumption)); exact rfl; (focus (exact ⟨_, vEnd_any _ _ _ _, by repeat (first | with_reducible exact Take.nil | with_reducible apply Take.c | with_reducible apply Take.drop)⟩)); rintro _ _ ⟨rfl, rfl⟩) | (apply w_false; exact rfl) | (apply w_dT; exact rfl; (focus (first | exact ‹_› | with_reducible exact rfl | omega))) | (apply w_dF; exact rfl; (focus (first | exact ‹_› | with_reducible exact rfl | omega))) | apply thenS_normal | apply thenS_ret | apply w_skip | apply w_ret | ((with_reducible apply Sd.mk); (first | exact True.intro | omega | (constructor <;> first | omega | (unfold maxLen; omega)) | (unfold maxLen; omega))))
    all_goals first
      | contradiction
      | (apply s_fin; (exact (show ResS _ _ _ _ [_, _] from ⟨rfl, ⟨rfl, trivial⟩⟩)); (focus (exact .inl ⟨by rw [← hx], by rw [← hx]; rfl, rfl⟩)); (focus (repeat (first | with_reducible exact Take.nil | with_reducible apply Take.c | ((with_reducible apply Take.cE); (first | exact rfl | (apply blkE; (focus (first | exact rfl | exact recs_snocE rfl | exact map_snocE rfl | exact congrArg (fun v => [v]) (gslE rfl rfl (by first | rfl | exact ‹_› | omega | (simp ; first | done | omega)) (by first | rfl | exact ‹_› | omega | (simp ; first | done | omega)) rfl)))))) | with_reducible apply Take.drop))))
      | trace_state
  rw [if_neg h2] at hx
  obtain ⟨m, rfl⟩ := Int.eq_ofNat_of_zero_le hk.1
  rw [Int.toNat_natCast] at hx
  have hzr : zrow (Value.int IntKind.u8 0) (((m : Int)).toNat * 1) = bytesV (List.replicate m 0) := by
    rw [Int.toNat_natCast]; exact map_zrow (f := fun c : UInt8 => Value.int .u8 c.toNat) 0 rfl rfl _
  refine w_body4 Try.func50 rfl rfl ?_
  repeat' (first | apply w_seq | apply w_region | apply o_nil | (apply o_g tyOk; exact rfl; exact rfl) | (apply o_makeSlice tyOk; (iterate 6 exact rfl); (focus (decide)); (focus (first | exact True.intro | omega | (constructor <;> first | omega | (unfold maxLen; omega)) | (unfold maxLen; omega))); (focus (first | rfl)); exact rfl) | (apply o_call; exact rfl; exact rfl; (focus (first | exact rfl | assumption)); exact rfl; (focus (exact ⟨_, NewReader_any _ _, by repeat (first | with_reducible exact Take.nil | with_reducible apply Take.c | with_reducible apply Take.drop)⟩)); rintro _ _ ⟨n, rfl, rfl⟩) | (apply o_call; exact rfl; exact rfl; (focus (first | exact rfl | assumption)); exact rfl; (focus (exact ⟨_, hR _ _, by repeat (first | with_reducible exact Take.nil | with_reducible apply Take.c | with_reducible apply Take.drop)⟩)); rintro _ _ ⟨rfl, rfl⟩) | (apply o_call; exact rfl; exact rfl; (focus (first | exact rfl | assumption)); exact rfl; (focus (exact ⟨_, rErr_any _ _ _ _, by repeat (first | with_reducible exact Take.nil | with_reducible apply Take.c | with_reducible apply Take.drop)⟩)); rintro _ _ ⟨rfl, rfl⟩) | (apply o_call; exact rfl; exact rfl; (focus (first | exact rfl | assumption)); exact rfl; (focus (exact ⟨_, rLeft_any _ _ _ _, by repeat (first | with_reducible exact Take.nil | with_reducible apply Take.c | with_reducible apply Take.drop)⟩)); rintro _ _ ⟨rfl, rfl⟩) | (apply o_call; exact rfl; exact rfl; (focus (first | exact rfl | assumption)); exact rfl; (focus (exact ⟨_, hT _ _, by repeat (first | with_reducible exact Take.nil | with_reducible apply Take.c | with_reducible apply Take.drop)⟩)); rintro _ _ ⟨rfl, rfl⟩) | (apply o_call; exact rfl; exact rfl; (focus (first | exact rfl | assumption)); exact rfl; (focus (exact ⟨_, NewDecoder_any _ _ (by omega), by repeat (first | with_reducible exact Take.nil | with_reducible apply Take.c | with_reducible apply Take.drop)⟩)); rintro _ _ ⟨n2, rfl, rfl⟩) | (apply w_false; exact rfl) | (apply w_dF; exact rfl; (focus (first | exact ‹_› | with_reducible exact rfl | omega))) | apply thenS_normal | apply w_skip | apply w_block | ((with_reducible apply Sd.mk); (first | exact True.intro | omega | (constructor <;> first | omega | (unfold maxLen; omega)) | (unfold maxLen; omega))) | intro A)
  rw [hzr, Int.toNat_natCast]
  refine w_loop (S := Nat × List UInt8 × List Int × Int × Dec) (fun x => [(0, .iface 34 (gptr M 0 17)), (12, gptr n2 0 5), (13, gsl A 0 (m * 1) m 1), (39, I m), (40, I x.1)])
    (fun x => (A, ⟨bytesV x.2.1, false⟩) :: decB n2 x.2.2.2.2 :: (M, ⟨byC N x.2.2.2.1, false⟩) :: (N, ⟨nodes x.2.2.1, false⟩) :: h)
    (fun x => x.1 ≤ m ∧ x.2.1.length = m ∧ x.2.2.1.length = 2048 ∧ (0 ≤ x.2.2.2.1 ∧ x.2.2.2.1 ≤ 255) ∧ DecOk x.2.2.2.2 ∧ (x.2.1.take x.1 ++ (bdecN (m - x.1) x.2.2.1 x.2.2.2.1 x.2.2.2.2).1, (bdecN (m - x.1) x.2.2.1 x.2.2.2.1 x.2.2.2.2).2) = bdecN m P c (dnew d))
    (fun x => m - x.1) (0, List.replicate m 0, P, c, dnew d) ⟨Nat.zero_le _, List.length_replicate, hP, hc0, dnew_ok (by omega), rfl⟩ (by repeat' (first | exact trivial | refine ⟨rfl, ?_⟩ | refine ⟨congrArg some ?_, ?_⟩)) (by repeat (first | with_reducible exact Take.nil | with_reducible apply Take.c | ((with_reducible apply Take.cE); (first | exact rfl | (apply blkE; (focus (first | exact rfl | exact recs_snocE rfl | exact map_snocE rfl | exact congrArg (fun v => [v]) (gslE rfl rfl (by first | rfl | exact ‹_› | omega | (simp ; first | done | omega)) (by first | rfl | exact ‹_› | omega | (simp ; first | done | omega)) rfl)))))) | with_reducible apply Take.drop)) ?_
  rintro ⟨i, L, P1, c1, d1⟩ ⟨hi, hL, hP1, hc1, hok1, he⟩
  dsimp only at hi hL hP1 hc1 hok1 he ⊢
  by_cases him : i < m
  · have hb := bdec_ok (P := P1) (c := c1) hok1 hP1 hc1
    have hD := BytesDecode_any n2 M N P1 c1 d1 ((A, ⟨bytesV L, false⟩) :: h) hP1 hc1 hok1
    rw [show m - i = (m - (i + 1)) + 1 by omega] at he
    rw [show ∀ k, bdecN (k + 1) P1 c1 d1 = (b8 (bdec P1 c1 d1).2.2 :: (bdecN k (bdec P1 c1 d1).1 (bdec P1 c1 d1).2.2 (bdec P1 c1 d1).2.1).1, (bdecN k (bdec P1 c1 d1).1 (bdec P1 c1 d1).2.2 (bdec P1 c1 d1).2.1).2) from fun _ => rfl] at he
    generalize bdec P1 c1 d1 = B at *
    obtain ⟨P2, d2, c2⟩ := B
    dsimp only at he hD hb
    repeat' (first | apply w_seq | apply w_region | apply o_nil | (apply o_g tyOk; exact rfl; exact rfl) | (apply o_ar tyOk; exact rfl; exact rfl) | (apply o_store tyOk; (iterate 4 exact rfl); (focus (exact up))) | (apply o_invoke; (iterate 3 exact rfl); (focus (exact ⟨_, hD, by repeat (first | with_reducible exact Take.nil | with_reducible apply Take.c | with_reducible apply Take.drop)⟩)); (focus (kernel_rfl)); exact rfl; rintro _ _ ⟨rfl, rfl⟩) | (apply w_dT; exact rfl; (focus (first | exact ‹_› | with_reducible exact rfl | omega))) | apply thenS_normal | apply blockS_normal | apply w_skip | apply w_block | ((with_reducible apply Sd.mk); (first | exact True.intro | omega | (constructor <;> first | omega | (unfold maxLen; omega)) | (unfold maxLen; omega))) | ((with_reducible apply Ln.mk); (first | rfl | exact ‹_› | omega | (simp ; first | done | omega))) | ((with_reducible apply Wr.mk); (first | exact IntWalk.i64_in _ (by omega) | exact IntWalk.u8_in _ (by omega) | exact IntWalk.u32_in _ (by omega) | exact IntWalk.u64_in _ (by omega) | exact IntKind.wrap_u8 _ | exact IntKind.wrap_u32 _ | rfl)) | ((with_reducible apply Se.mk); (first | (focus ((repeat (first | exact SetAt.zero | apply SetAt.succ)); done)) | exact setAt_bytes (by omega) (by omega) | exact setAt_mapZ (by omega) | exact setAt_map (by omega))) | exact True.intro)
    all_goals first
      | (exfalso; omega)
      | (refine ⟨(i + 1, L.set i (b8 c2), P2, c2, d2), ⟨him, by simp [hL], hb.2.1, hb.2.2, hb.1, ?_⟩, by show m - (i + 1) < m - i; omega, (by repeat' (first | exact trivial | refine ⟨rfl, ?_⟩ | refine ⟨congrArg some ?_, ?_⟩)), (by repeat (first | with_reducible exact Take.nil | with_reducible apply Take.c | ((with_reducible apply Take.cE); (first | exact rfl | (apply blkE; (focus (first | exact rfl | exact recs_snocE rfl | exact map_snocE rfl | exact congrArg (fun v => [v]) (gslE rfl rfl (by first | rfl | exact ‹_› | omega | (simp ; first | done | omega)) (by first | rfl | exact ‹_› | omega | (simp ; first | done | omega)) rfl)))))) | with_reducible apply Take.drop))⟩
         dsimp only
         rw [take_set (by omega), List.append_assoc]
         exact he)
      | trace_state
  · obtain rfl : i = m := by omega
    rw [Nat.sub_self, List.take_of_length_le (by omega)] at he
    have he : (L ++ [], d1) = bdecN i P c (dnew d) := he
    rw [List.append_nil] at he
    rw [← he] at hx
    dsimp only at hx
    by_cases h3 : dend d1 = 0
    · rw [if_neg (fun g => g h3)] at hx
      repeat' (first | apply w_seq | apply w_region | apply o_nil | (apply o_g tyOk; exact rfl; exact rfl) | (apply o_call; exact rfl; exact rfl; (focus (first | exact rfl | assumption)); exact rfl; (focus (exact ⟨_, End_any _ _ _, by repeat (first | with_reducible exact Take.nil | with_reducible apply Take.c | with_reducible apply Take.drop)⟩)); rintro _ _ ⟨rfl, rfl⟩) | (apply w_dF; exact rfl; (focus (first | exact ‹_› | with_reducible exact rfl | omega))) | apply thenS_normal | apply thenS_exit | apply blockS_exit | apply w_skip | apply w_ret | apply w_exit | ((with_reducible apply Sd.mk); (first | exact True.intro | omega | (constructor <;> first | omega | (unfold maxLen; omega)) | (unfold maxLen; omega))))
      all_goals try contradiction
      subst hx hL
      (apply s_fin; (exact (show ResS _ _ _ _ [_, _] from ⟨rfl, ⟨rfl, trivial⟩⟩)); (focus (exact .inr ⟨rfl, A, by rw [Nat.mul_one]; rfl, rfl⟩)); (focus (repeat (first | with_reducible exact Take.nil | with_reducible apply Take.c | ((with_reducible apply Take.cE); (first | exact rfl | (apply blkE; (focus (first | exact rfl | exact recs_snocE rfl | exact map_snocE rfl | exact congrArg (fun v => [v]) (gslE rfl rfl (by first | rfl | exact ‹_› | omega | (simp ; first | done | omega)) (by first | rfl | exact ‹_› | omega | (simp ; first | done | omega)) rfl)))))) | with_reducible apply Take.drop))))
    · rw [if_pos h3] at hx
      repeat' (first | apply w_seq | apply w_region | apply o_nil | (apply o_g tyOk; exact rfl; exact rfl) | (apply o_call; exact rfl; exact rfl; (focus (first | exact rfl | assumption)); exact rfl; (focus (exact ⟨_, End_any _ _ _, by repeat (first | with_reducible exact Take.nil | with_reducible apply Take.c | with_reducible apply Take.drop)⟩)); rintro _ _ ⟨rfl, rfl⟩) | (apply w_dT; exact rfl; (focus (first | exact ‹_› | with_reducible exact rfl | omega))) | (apply w_dF; exact rfl; (focus (first | exact ‹_› | with_reducible exact rfl | omega))) | apply thenS_normal | apply thenS_ret | apply thenS_exit | apply blockS_exit | apply w_ret | apply w_exit | ((with_reducible apply Sd.mk); (first | exact True.intro | omega | (constructor <;> first | omega | (unfold maxLen; omega)) | (unfold maxLen; omega))))
      all_goals first
        | contradiction
        | (apply s_fin; (exact (show ResS _ _ _ _ [_, _] from ⟨rfl, ⟨rfl, trivial⟩⟩)); (focus (exact .inl ⟨by rw [← hx], by rw [← hx]; rfl, rfl⟩)); (focus (repeat (first | with_reducible exact Take.nil | with_reducible apply Take.c | ((with_reducible apply Take.cE); (first | exact rfl | (apply blkE; (focus (first | exact rfl | exact recs_snocE rfl | exact map_snocE rfl | exact congrArg (fun v => [v]) (gslE rfl rfl (by first | rfl | exact ‹_› | omega | (simp ; first | done | omega)) (by first | rfl | exact ‹_› | omega | (simp ; first | done | omega)) rfl)))))) | with_reducible apply Take.drop))))
        | trace_state
end Go.Proofs.Ytinfmojbdaiogaa
end
section
set_option linter.unusedVariables false
set_option linter.unusedSimpArgs false
set_option maxRecDepth 4000
namespace Go.Proofs.Ytinfmojbdaiogaa
open Go.Gh Go.RowKit

/-- What DecodeBytes gives. -/
def mDec (l : List UInt8) (most : Int) : List UInt8 × Int := rdec l most nd0 0
theorem DecodeBytes_any (l : List UInt8) (most : Int) (h : SH) (hl : l.length ≤ 100000) : SRun Try.prog 18 [S l, I most] h fun r q => r = .tuple #[S (mDec l most).1, Er (mDec l most).2] ∧ q = h := by
  have hB : ∀ h, SRun Try.prog 21 [] h fun r q => ∃ M N, r = gptr M 0 17 ∧ q = (M, ⟨byC N 0, false⟩) :: (N, ⟨nodes nd0, false⟩) :: h := NewBytes_any
  have hE := fun M N h => decodeB_any M N nd0 0 l most h hl List.length_replicate (by decide)
  unfold mDec
  generalize rdec l most nd0 0 = R at *
  generalize nd0 = X at *
  obtain ⟨x, e⟩ := R
  refine w_body2 Try.func18 rfl rfl ?_
  repeat' (first | apply w_seq | apply w_region | apply o_nil | (apply o_g tyOk; exact rfl; exact rfl) | (apply o_call; exact rfl; exact rfl; (focus (first | exact rfl | assumption)); exact rfl; (focus (exact ⟨_, hB _, by repeat (first | with_reducible exact Take.nil | with_reducible apply Take.c | with_reducible apply Take.drop)⟩)); rintro _ _ ⟨M, N, rfl, rfl⟩) | apply thenS_normal | ((with_reducible apply Sd.mk); (first | exact True.intro | omega | (constructor <;> first | omega | (unfold maxLen; omega)) | (unfold maxLen; omega))))
  all_goals first | (exfalso; omega) | skip
  refine o_iface (d := .pointer 100) rfl (by kernel_rfl) rfl rfl ?_
  repeat' (first | (apply o_g tyOk; exact rfl; exact rfl) | (apply o_call; exact rfl; exact rfl; (focus (first | exact rfl | assumption)); exact rfl; (focus (exact ⟨_, hE M N _, by repeat (first | with_reducible exact Take.nil | with_reducible apply Take.c | with_reducible apply Take.drop)⟩)); rintro _ _ hh) | ((with_reducible apply Sd.mk); (first | exact True.intro | omega | (constructor <;> first | omega | (unfold maxLen; omega)) | (unfold maxLen; omega))))
  obtain ⟨rfl, rfl, rfl⟩ | ⟨rfl, A, rfl, rfl⟩ := hh
  · dsimp only
    repeat' (first | apply w_seq | apply w_region | apply o_nil | (apply o_g tyOk; exact rfl; exact rfl) | (apply o_toString_nil tyOk; iterate 7 exact rfl) | apply thenS_normal | apply w_ret | ((with_reducible apply Sd.mk); (first | exact True.intro | omega | (constructor <;> first | omega | (unfold maxLen; omega)) | (unfold maxLen; omega))))
    all_goals first
      | (apply s_fin; (exact (show ResS _ _ _ _ [_, _] from ⟨rfl, ⟨rfl, trivial⟩⟩)); (focus (exact ⟨rfl, rfl⟩)); (focus (repeat (first | with_reducible exact Take.nil | with_reducible apply Take.c | ((with_reducible apply Take.cE); (first | exact rfl | (apply blkE; (focus (first | exact rfl | exact recs_snocE rfl | exact map_snocE rfl | exact congrArg (fun v => [v]) (gslE rfl rfl (by first | rfl | exact ‹_› | omega | (simp ; first | done | omega)) (by first | rfl | exact ‹_› | omega | (simp ; first | done | omega)) rfl)))))) | with_reducible apply Take.drop))))
      | trace_state
  · dsimp only
    repeat' (first | apply w_seq | apply w_region | apply o_nil | (apply o_g tyOk; exact rfl; exact rfl) | (apply o_toString tyOk; (iterate 6 exact rfl); (focus (exact pk))) | apply thenS_normal | apply w_ret | ((with_reducible apply Sd.mk); (first | exact True.intro | omega | (constructor <;> first | omega | (unfold maxLen; omega)) | (unfold maxLen; omega))) | ((with_reducible apply Ln.mk); (first | rfl | exact ‹_› | omega | (simp ; first | done | omega))) | ((with_reducible apply Su.mk); (first | exact subAt_all | exact subAt_recZ (fun _ => rfl) (by omega) | exact subAt_rec (fun _ => rfl) (by omega))) | exact True.intro | exact rfl)
    all_goals first
      | (apply s_fin; (exact (show ResS _ _ _ _ [_, _] from ⟨rfl, ⟨rfl, trivial⟩⟩)); (focus (exact ⟨rfl, rfl⟩)); (focus (repeat (first | with_reducible exact Take.nil | with_reducible apply Take.c | ((with_reducible apply Take.cE); (first | exact rfl | (apply blkE; (focus (first | exact rfl | exact recs_snocE rfl | exact map_snocE rfl | exact congrArg (fun v => [v]) (gslE rfl rfl (by first | rfl | exact ‹_› | omega | (simp ; first | done | omega)) (by first | rfl | exact ‹_› | omega | (simp ; first | done | omega)) rfl)))))) | with_reducible apply Take.drop))))
      | trace_state
theorem awakeM_any (h : SH) : SRun Try.prog 11 [] h fun r q => r = B true ∧ q = h := by
  have h1 := fun h => EncodeBytes_any [] h (by decide)
  have h2 := fun h => EncodeBytes_any [0] h (by decide)
  have h3 := fun h => DecodeBytes_any [1, 0, 0, 0, 0, 0] 1 h (by decide)
  rw [show mEnc [] = ([0], 0) by decide +kernel] at h1
  rw [show mEnc [0] = ([1, 0, 0, 0, 0, 0], 0) by decide +kernel] at h2
  rw [show mDec [1, 0, 0, 0, 0, 0] 1 = ([0], 0) by decide +kernel] at h3
  have h4 := fun h => Adapt_any 1024 0 h
  have h5 := fun h => Adapt_any 1024 1 h
  have h6 := fun h => Price_any 1024 0 h
  rw [show adp 1024 0 = 1056 by decide +kernel] at h4
  rw [show adp 1024 1 = 992 by decide +kernel] at h5
  rw [show prz 1024 0 = 16 by decide +kernel] at h6
  refine w_body0 Try.func11 rfl rfl ?_
  repeat' (first | apply w_seq | apply w_region | apply o_nil | (apply o_g tyOk; exact rfl; exact rfl) | (apply o_call; exact rfl; exact rfl; (focus (first | exact rfl | assumption)); exact rfl; (focus (exact ⟨_, h1 _, by repeat (first | with_reducible exact Take.nil | with_reducible apply Take.c | with_reducible apply Take.drop)⟩)); rintro _ _ ⟨rfl, rfl⟩) | (apply o_call; exact rfl; exact rfl; (focus (first | exact rfl | assumption)); exact rfl; (focus (exact ⟨_, h2 _, by repeat (first | with_reducible exact Take.nil | with_reducible apply Take.c | with_reducible apply Take.drop)⟩)); rintro _ _ ⟨rfl, rfl⟩) | (apply o_call; exact rfl; exact rfl; (focus (first | exact rfl | assumption)); exact rfl; (focus (exact ⟨_, h3 _, by repeat (first | with_reducible exact Take.nil | with_reducible apply Take.c | with_reducible apply Take.drop)⟩)); rintro _ _ ⟨rfl, rfl⟩) | (apply o_call; exact rfl; exact rfl; (focus (first | exact rfl | assumption)); exact rfl; (focus (exact ⟨_, h4 _, by repeat (first | with_reducible exact Take.nil | with_reducible apply Take.c | with_reducible apply Take.drop)⟩)); rintro _ _ ⟨rfl, rfl⟩) | (apply o_call; exact rfl; exact rfl; (focus (first | exact rfl | assumption)); exact rfl; (focus (exact ⟨_, h5 _, by repeat (first | with_reducible exact Take.nil | with_reducible apply Take.c | with_reducible apply Take.drop)⟩)); rintro _ _ ⟨rfl, rfl⟩) | (apply o_call; exact rfl; exact rfl; (focus (first | exact rfl | assumption)); exact rfl; (focus (exact ⟨_, h6 _, by repeat (first | with_reducible exact Take.nil | with_reducible apply Take.c | with_reducible apply Take.drop)⟩)); rintro _ _ ⟨rfl, rfl⟩) | (apply o_want; exact rfl; exact rfl) | apply thenS_normal | apply w_ret | ((with_reducible apply Sd.mk); (first | exact True.intro | omega | (constructor <;> first | omega | (unfold maxLen; omega)) | (unfold maxLen; omega))))
  all_goals first
    | (apply s_fin; (exact (show ResS _ _ _ _ [_] from ⟨rfl, trivial⟩)); (focus (exact ⟨rfl, rfl⟩)); (focus (repeat (first | with_reducible exact Take.nil | with_reducible apply Take.c | ((with_reducible apply Take.cE); (first | exact rfl | (apply blkE; (focus (first | exact rfl | exact recs_snocE rfl | exact map_snocE rfl | exact congrArg (fun v => [v]) (gslE rfl rfl (by first | rfl | exact ‹_› | omega | (simp ; first | done | omega)) (by first | rfl | exact ‹_› | omega | (simp ; first | done | omega)) rfl)))))) | with_reducible apply Take.drop))))
    | trace_state
end Go.Proofs.Ytinfmojbdaiogaa
end
section
set_option linter.unusedVariables false
set_option linter.unusedSimpArgs false
set_option maxRecDepth 4000
namespace Go.Proofs.Ytinfmojbdaiogaa
open Go.Gh Go.RowKit

def rfr (l : List UInt8) (most : Int) : Int × List UInt8 × Int :=
  if (vpeek l).2.1 = 0 ∨ 4096 < (vpeek l).1 then (0, [], 12) else if most < (vpeek l).1 then (0, [], 2) else if (vpeek l).1 = 0 ∧ (vpeek l).2.1 < l.length then (0, [], 12) else ((vpeek l).1, l.drop (vpeek l).2.1.toNat, 0)
theorem rfront_any (l : List UInt8) (most : Int) (h : SH) (hl : l.length ≤ 100000) : SRun Try.prog 51 [S l, I 4096, I most] h fun r q =>
    r = .tuple #[I (rfr l most).1, S (rfr l most).2.1, I (rfr l most).2.2] ∧ q = h := by
  have hR := fun h => rRead4_any l h hl
  have hlen := vpeek_len l
  obtain ⟨x, hx⟩ : ∃ x, rfr l most = x := ⟨_, rfl⟩
  rw [hx]
  unfold rfr at hx
  generalize vpeek l = V at *
  obtain ⟨n, s, ok⟩ := V
  dsimp only at *
  obtain ⟨m, rfl⟩ := Int.eq_ofNat_of_zero_le hlen.1
  refine w_body3 Try.func51 rfl rfl ?_
  repeat' (first | apply w_seq | apply w_region | apply o_nil | (apply w_draw; (focus (kernel_rfl)); (focus (kernel_rfl))) | (apply o_g tyOk; exact rfl; exact rfl) | (apply o_call; exact rfl; exact rfl; (focus (first | exact rfl | assumption)); exact rfl; (focus (exact ⟨_, hR _, by repeat (first | with_reducible exact Take.nil | with_reducible apply Take.c | with_reducible apply Take.drop)⟩)); rintro _ _ ⟨rfl, rfl⟩) | (apply o_want; exact rfl; exact rfl) | (apply o_skip; iterate 4 exact rfl) | (apply o_guardT; (iterate 3 exact rfl); all_goals intro hc) | (apply o_guardF; (iterate 3 exact rfl); all_goals intro hc) | (apply w_true; exact rfl) | (apply w_false; exact rfl) | (apply w_if; exact rfl; all_goals intro hc) | apply thenS_normal | apply thenS_ret | apply blockS_normal | apply blockS_ret | apply w_skip | apply w_ret | apply w_block | ((with_reducible apply Sd.mk); (first | exact True.intro | omega | (constructor <;> first | omega | (unfold maxLen; omega)) | (unfold maxLen; omega))))
  all_goals first
    | (rw [if_pos (by omega)] at hx; (apply s_fin; (exact (show ResS _ _ _ _ [_, _, _] from ⟨rfl, ⟨rfl, ⟨rfl, trivial⟩⟩⟩)); (focus (exact ⟨by rw [← hx]; rfl, rfl⟩)); (focus (repeat (first | with_reducible exact Take.nil | with_reducible apply Take.c | ((with_reducible apply Take.cE); (first | exact rfl | (apply blkE; (focus (first | exact rfl | exact recs_snocE rfl | exact map_snocE rfl | exact congrArg (fun v => [v]) (gslE rfl rfl (by first | rfl | exact ‹_› | omega | (simp ; first | done | omega)) (by first | rfl | exact ‹_› | omega | (simp ; first | done | omega)) rfl)))))) | with_reducible apply Take.drop)))))
    | (rw [if_neg (by omega), if_pos (by omega)] at hx; (apply s_fin; (exact (show ResS _ _ _ _ [_, _, _] from ⟨rfl, ⟨rfl, ⟨rfl, trivial⟩⟩⟩)); (focus (exact ⟨by rw [← hx]; rfl, rfl⟩)); (focus (repeat (first | with_reducible exact Take.nil | with_reducible apply Take.c | ((with_reducible apply Take.cE); (first | exact rfl | (apply blkE; (focus (first | exact rfl | exact recs_snocE rfl | exact map_snocE rfl | exact congrArg (fun v => [v]) (gslE rfl rfl (by first | rfl | exact ‹_› | omega | (simp ; first | done | omega)) (by first | rfl | exact ‹_› | omega | (simp ; first | done | omega)) rfl)))))) | with_reducible apply Take.drop)))))
    | (rw [if_neg (by omega), if_neg (by omega), if_pos (by omega)] at hx; (apply s_fin; (exact (show ResS _ _ _ _ [_, _, _] from ⟨rfl, ⟨rfl, ⟨rfl, trivial⟩⟩⟩)); (focus (exact ⟨by rw [← hx]; rfl, rfl⟩)); (focus (repeat (first | with_reducible exact Take.nil | with_reducible apply Take.c | ((with_reducible apply Take.cE); (first | exact rfl | (apply blkE; (focus (first | exact rfl | exact recs_snocE rfl | exact map_snocE rfl | exact congrArg (fun v => [v]) (gslE rfl rfl (by first | rfl | exact ‹_› | omega | (simp ; first | done | omega)) (by first | rfl | exact ‹_› | omega | (simp ; first | done | omega)) rfl)))))) | with_reducible apply Take.drop)))))
    | (rw [if_neg (by omega), if_neg (by omega), if_neg (by omega)] at hx; (apply s_fin; (exact (show ResS _ _ _ _ [_, _, _] from ⟨rfl, ⟨rfl, ⟨rfl, trivial⟩⟩⟩)); (focus (exact ⟨by rw [← hx]; rfl, rfl⟩)); (focus (repeat (first | with_reducible exact Take.nil | with_reducible apply Take.c | ((with_reducible apply Take.cE); (first | exact rfl | (apply blkE; (focus (first | exact rfl | exact recs_snocE rfl | exact map_snocE rfl | exact congrArg (fun v => [v]) (gslE rfl rfl (by first | rfl | exact ‹_› | omega | (simp ; first | done | omega)) (by first | rfl | exact ‹_› | omega | (simp ; first | done | omega)) rfl)))))) | with_reducible apply Take.drop)))))
    | trace_state
theorem vacc_ge2 (l : List UInt8) (k i : Nat) (v : Int) (h : 0 ≤ v) : 0 ≤ vacc l k i v :=
  Int.le_trans (Int.mul_nonneg h (Int.le_of_lt (Int.pow_pos (by decide)))) (vacc_big l k i v h)
/-- What the reader of the package finds in front, and what the reference finds. -/
theorem vpeek_shape (l : List UInt8) : ((vpeek l).2.2 = false ∧ (vpeek l).2.1 = 0 ∧ (vpeek l).1 = 0) ∨ ((vpeek l).2.2 = true ∧ 1 ≤ (vpeek l).2.1 ∧ 0 ≤ (vpeek l).1) := by
  unfold vpeek
  split
  · exact .inl ⟨rfl, rfl, rfl⟩
  · split
    · exact .inl ⟨rfl, rfl, rfl⟩
    · split
      · exact .inl ⟨rfl, rfl, rfl⟩
      · refine .inr ⟨rfl, by dsimp only; omega, ?_⟩
        have hb := bat_255 l 0
        have h1 := (vlow_in (bat l 0) (k := vlead (bat l 0) 8 0) (vlead_le _ 8 0).2).1
        have h2 := vacc_ge2 l (vlead (bat l 0) 8 0) 1 _ h1
        have h3 := (vbnd_in (vlead (bat l 0) 8 0) (vlead_le _ 8 0).2).1
        dsimp only
        omega
end Go.Proofs.Ytinfmojbdaiogaa
end
section
set_option linter.unusedVariables false
set_option linter.unusedSimpArgs false
set_option maxRecDepth 4000
namespace Go.Proofs.Ytinfmojbdaiogaa
open Go.Gh Go.RowKit

/-- k numbers, one after the other: the numbers, the decoder behind them. -/
def ndecN : Nat → List Int → Dec → List Int × Dec
  | 0, _, d => ([], d)
  | k + 1, t, d => ((ndec t d).2.2 :: (ndecN k (ndec t d).1 (ndec t d).2.1).1, (ndecN k (ndec t d).1 (ndec t d).2.1).2)
theorem ndec_ok {t : List Int} {d : Dec} (h : DecOk d) (ht : t.length = 64) : DecOk (ndec t d).2.1 ∧ (ndec t d).1.length = 64 := by
  obtain ⟨h1, h2, h3⟩ := tdec_ok (k := 6) (t := t) (j := 1) h
  refine ⟨?_, h2.trans ht⟩
  show DecOk (if _ then _ else _)
  split
  · exact h1
  · exact ddir_ok h1 _
/-- What decode[int] gives: numbers, error. -/
def rdecN (l : List UInt8) (most : Int) (t : List Int) : List Int × Int :=
  if (rdN l 4096).2.2 ≠ 0 then ([], 12) else if most < (rdN l 4096).1 then ([], 2) else if (rdN l 4096).1 = 0 then ([], rend (rdN l 4096).2.1 0)
  else if dend (ndecN (rdN l 4096).1.toNat t (dnew (rdN l 4096).2.1)).2 ≠ 0 then ([], dend (ndecN (rdN l 4096).1.toNat t (dnew (rdN l 4096).2.1)).2)
  else ((ndecN (rdN l 4096).1.toNat t (dnew (rdN l 4096).2.1)).1, 0)
/-- Numbers in a block of their own; none where there is an error or no number. -/
def IsN (h : SH) (x : List Int × Int) (r : Value) (q : SH) : Prop := (x.1 = [] ∧ r = .tuple #[.slice none 0 0, Er x.2] ∧ q = h) ∨
  (x.2 = 0 ∧ ∃ A, r = .tuple #[gsl A 0 x.1.length x.1.length 1, Er 0] ∧ q = (A, ⟨nodes x.1, false⟩) :: h)
theorem decodeI_any (M N : Nat) (t : List Int) (l : List UInt8) (most : Int) (h : SH) (hl : l.length ≤ 100000) (ht : t.length = 64) :
    SRun Try.prog 66 [.iface 36 (gptr M 0 2), S l, I 4096, I most] ((M, ⟨numC N, false⟩) :: (N, ⟨nodes t, false⟩) :: h) (IsN h (rdecN l most t)) := by
  have hR := fun n h => rNumber_any n l 4096 h hl
  have hok := rdN_ok l 4096
  obtain ⟨x, hx⟩ : ∃ x, rdecN l most t = x := ⟨_, rfl⟩
  rw [hx]
  unfold rdecN at hx
  generalize rdN l 4096 = V at *
  obtain ⟨k, d, e⟩ := V
  dsimp only at *
  have hT := fun n h => rTake_any n d (d.length : Int) h (by omega) (by omega)
  rw [show ((d.length : Int)).toNat = d.length from rfl, List.take_length, List.drop_length] at hT
  by_cases he : e = 0
  case neg =>
    rw [if_pos he] at hx
    refine w_body4 Try.func66 rfl rfl ?_
    repeat' (first | apply w_seq | apply w_region | apply o_nil | (apply o_g tyOk; exact rfl; exact rfl) | (apply o_call; exact rfl; exact rfl; (focus (first | exact rfl | assumption)); exact rfl; (focus (exact ⟨_, NewReader_any _ _, by repeat (first | with_reducible exact Take.nil | with_reducible apply Take.c | with_reducible apply Take.drop)⟩)); rintro _ _ ⟨n, rfl, rfl⟩) | (apply o_call; exact rfl; exact rfl; (focus (first | exact rfl | assumption)); exact rfl; (focus (exact ⟨_, hR _ _, by repeat (first | with_reducible exact Take.nil | with_reducible apply Take.c | with_reducible apply Take.drop)⟩)); rintro _ _ ⟨rfl, rfl⟩) | (apply o_call; exact rfl; exact rfl; (focus (first | exact rfl | assumption)); exact rfl; (focus (exact ⟨_, rErr_any _ _ _ _, by repeat (first | with_reducible exact Take.nil | with_reducible apply Take.c | with_reducible apply Take.drop)⟩)); rintro _ _ ⟨rfl, rfl⟩) | (apply w_dT; exact rfl; (focus (first | exact ‹_› | with_reducible exact rfl | omega))) | apply thenS_normal | apply thenS_ret | apply w_ret | ((with_reducible apply Sd.mk); (first | exact True.intro | omega | (constructor <;> first | omega | (unfold maxLen; omega)) | (unfold maxLen; omega))))
    all_goals first
      | contradiction
      | (apply s_fin; (exact (show ResS _ _ _ _ [_, _] from ⟨rfl, ⟨rfl, trivial⟩⟩)); (focus (exact .inl ⟨by rw [← hx], by rw [← hx]; rfl, rfl⟩)); (focus (repeat (first | with_reducible exact Take.nil | with_reducible apply Take.c | ((with_reducible apply Take.cE); (first | exact rfl | (apply blkE; (focus (first | exact rfl | exact recs_snocE rfl | exact map_snocE rfl | exact congrArg (fun v => [v]) (gslE rfl rfl (by first | rfl | exact ‹_› | omega | (simp ; first | done | omega)) (by first | rfl | exact ‹_› | omega | (simp ; first | done | omega)) rfl)))))) | with_reducible apply Take.drop))))
      | trace_state
  subst he
  rw [if_neg (by decide)] at hx
  have hk := hok.2 rfl
  by_cases h1 : most < k
  case pos =>
    rw [if_pos h1] at hx
    refine w_body4 Try.func66 rfl rfl ?_
    repeat' (first | apply w_seq | apply w_region | apply o_nil | (apply o_g tyOk; exact rfl; exact rfl) | (apply o_call; exact rfl; exact rfl; (focus (first | exact rfl | assumption)); exact rfl; (focus (exact ⟨_, NewReader_any _ _, by repeat (first | with_reducible exact Take.nil | with_reducible apply Take.c | with_reducible apply Take.drop)⟩)); rintro _ _ ⟨n, rfl, rfl⟩) | (apply o_call; exact rfl; exact rfl; (focus (first | exact rfl | assumption)); exact rfl; (focus (exact ⟨_, hR _ _, by repeat (first | with_reducible exact Take.nil | with_reducible apply Take.c | with_reducible apply Take.drop)⟩)); rintro _ _ ⟨rfl, rfl⟩) | (apply o_call; exact rfl; exact rfl; (focus (first | exact rfl | assumption)); exact rfl; (focus (exact ⟨_, rErr_any _ _ _ _, by repeat (first | with_reducible exact Take.nil | with_reducible apply Take.c | with_reducible apply Take.drop)⟩)); rintro _ _ ⟨rfl, rfl⟩) | (apply w_false; exact rfl) | (apply w_dT; exact rfl; (focus (first | exact ‹_› | with_reducible exact rfl | omega))) | apply thenS_normal | apply thenS_ret | apply w_skip | apply w_ret | ((with_reducible apply Sd.mk); (first | exact True.intro | omega | (constructor <;> first | omega | (unfold maxLen; omega)) | (unfold maxLen; omega))))
    all_goals first
      | contradiction
      | (apply s_fin; (exact (show ResS _ _ _ _ [_, _] from ⟨rfl, ⟨rfl, trivial⟩⟩)); (focus (exact .inl ⟨by rw [← hx], by rw [← hx]; rfl, rfl⟩)); (focus (repeat (first | with_reducible exact Take.nil | with_reducible apply Take.c | ((with_reducible apply Take.cE); (first | exact rfl | (apply blkE; (focus (first | exact rfl | exact recs_snocE rfl | exact map_snocE rfl | exact congrArg (fun v => [v]) (gslE rfl rfl (by first | rfl | exact ‹_› | omega | (simp ; first | done | omega)) (by first | rfl | exact ‹_› | omega | (simp ; first | done | omega)) rfl)))))) | with_reducible apply Take.drop))))
      | trace_state
  rw [if_neg h1] at hx
  by_cases h2 : k = 0
  case pos =>
    rw [if_pos h2] at hx
    refine w_body4 Try.func66 rfl rfl ?_
    repeat' (first | apply w_seq | apply w_region | apply o_nil | (apply o_g tyOk; exact rfl; exact rfl) | (apply o_call; exact rfl; exact rfl; (focus (first | exact rfl | assumption)); exact rfl; (focus (exact ⟨_, NewReader_any _ _, by repeat (first | with_reducible exact Take.nil | with_reducible apply Take.c | with_reducible apply Take.drop)⟩)); rintro _ _ ⟨n, rfl, rfl⟩) | (apply o_call; exact rfl; exact rfl; (focus (first | exact rfl | assumption)); exact rfl; (focus (exact ⟨_, hR _ _, by repeat (first | with_reducible exact Take.nil | with_reducible apply Take.c | with_reducible apply Take.drop)⟩)); rintro _ _ ⟨rfl, rfl⟩) | (apply o_call; exact rfl; exact rfl; (focus (first | exact rfl | assumption)); exact rfl; (focus (exact ⟨_, rErr_any _ _ _ _, by repeat (first | with_reducible exact Take.nil | with_reducible apply Take.c | with_reducible apply Take.drop)⟩)); rintro _ _ ⟨rfl, rfl⟩) | (apply o_call; exact rfl; exact rfl; (focus (first | exact rfl | assumption)); exact rfl; (focus (exact ⟨_, vEnd_any _ _ _ _, by repeat (first | with_reducible exact Take.nil | with_reducible apply Take.c | with_reducible apply Take.drop)⟩)); rintro _ _ ⟨rfl, rfl⟩) | (apply w_false; exact rfl) | (apply w_dT; exact rfl; (focus (first | exact ‹_› | with_reducible exact rfl | omega))) | (apply w_dF; exact rfl; (focus (first | exact ‹_› | with_reducible exact rfl | omega))) | apply thenS_normal | apply thenS_ret | apply w_skip | apply w_ret | ((with_reducible apply Sd.mk); (first | exact True.intro | omega | (constructor <;> first | omega | (unfold maxLen; omega)) | (unfold maxLen; omega))))
    all_goals first
      | contradiction
      | (apply s_fin; (exact (show ResS _ _ _ _ [_, _] from ⟨rfl, ⟨rfl, trivial⟩⟩)); (focus (exact .inl ⟨by rw [← hx], by rw [← hx]; rfl, rfl⟩)); (focus (repeat (first | with_reducible exact Take.nil | with_reducible apply Take.c | ((with_reducible apply Take.cE); (first | exact rfl | (apply blkE; (focus (first | exact rfl | exact recs_snocE rfl | exact map_snocE rfl | exact congrArg (fun v => [v]) (gslE rfl rfl (by first | rfl | exact ‹_› | omega | (simp ; first | done | omega)) (by first | rfl | exact ‹_› | omega | (simp ; first | done | omega)) rfl)))))) | with_reducible apply Take.drop))))
      | trace_state
  rw [if_neg h2] at hx
  obtain ⟨m, rfl⟩ := Int.eq_ofNat_of_zero_le hk.1
  rw [Int.toNat_natCast] at hx
  have hzr : zrow (Value.int IntKind.i64 0) (((m : Int)).toNat * 1) = nodes (List.replicate m 0) := by
    rw [Int.toNat_natCast]; exact map_zrow (f := iV) 0 rfl rfl _
  refine w_body4 Try.func66 rfl rfl ?_
  repeat' (first | apply w_seq | apply w_region | apply o_nil | (apply o_g tyOk; exact rfl; exact rfl) | (apply o_makeSlice tyOk; (iterate 6 exact rfl); (focus (decide)); (focus (first | exact True.intro | omega | (constructor <;> first | omega | (unfold maxLen; omega)) | (unfold maxLen; omega))); (focus (first | rfl)); exact rfl) | (apply o_call; exact rfl; exact rfl; (focus (first | exact rfl | assumption)); exact rfl; (focus (exact ⟨_, NewReader_any _ _, by repeat (first | with_reducible exact Take.nil | with_reducible apply Take.c | with_reducible apply Take.drop)⟩)); rintro _ _ ⟨n, rfl, rfl⟩) | (apply o_call; exact rfl; exact rfl; (focus (first | exact rfl | assumption)); exact rfl; (focus (exact ⟨_, hR _ _, by repeat (first | with_reducible exact Take.nil | with_reducible apply Take.c | with_reducible apply Take.drop)⟩)); rintro _ _ ⟨rfl, rfl⟩) | (apply o_call; exact rfl; exact rfl; (focus (first | exact rfl | assumption)); exact rfl; (focus (exact ⟨_, rErr_any _ _ _ _, by repeat (first | with_reducible exact Take.nil | with_reducible apply Take.c | with_reducible apply Take.drop)⟩)); rintro _ _ ⟨rfl, rfl⟩) | (apply o_call; exact rfl; exact rfl; (focus (first | exact rfl | assumption)); exact rfl; (focus (exact ⟨_, rLeft_any _ _ _ _, by repeat (first | with_reducible exact Take.nil | with_reducible apply Take.c | with_reducible apply Take.drop)⟩)); rintro _ _ ⟨rfl, rfl⟩) | (apply o_call; exact rfl; exact rfl; (focus (first | exact rfl | assumption)); exact rfl; (focus (exact ⟨_, hT _ _, by repeat (first | with_reducible exact Take.nil | with_reducible apply Take.c | with_reducible apply Take.drop)⟩)); rintro _ _ ⟨rfl, rfl⟩) | (apply o_call; exact rfl; exact rfl; (focus (first | exact rfl | assumption)); exact rfl; (focus (exact ⟨_, NewDecoder_any _ _ (by omega), by repeat (first | with_reducible exact Take.nil | with_reducible apply Take.c | with_reducible apply Take.drop)⟩)); rintro _ _ ⟨n2, rfl, rfl⟩) | (apply w_false; exact rfl) | (apply w_dF; exact rfl; (focus (first | exact ‹_› | with_reducible exact rfl | omega))) | apply thenS_normal | apply w_skip | apply w_block | ((with_reducible apply Sd.mk); (first | exact True.intro | omega | (constructor <;> first | omega | (unfold maxLen; omega)) | (unfold maxLen; omega))) | intro A)
  rw [hzr, Int.toNat_natCast]
  refine w_loop (S := Nat × List Int × List Int × Dec) (fun x => [(0, .iface 36 (gptr M 0 2)), (12, gptr n2 0 5), (13, gsl A 0 (m * 1) m 1), (39, I m), (40, I x.1)])
    (fun x => (A, ⟨nodes x.2.1, false⟩) :: decB n2 x.2.2.2 :: (M, ⟨numC N, false⟩) :: (N, ⟨nodes x.2.2.1, false⟩) :: h)
    (fun x => x.1 ≤ m ∧ x.2.1.length = m ∧ x.2.2.1.length = 64 ∧ DecOk x.2.2.2 ∧ (x.2.1.take x.1 ++ (ndecN (m - x.1) x.2.2.1 x.2.2.2).1, (ndecN (m - x.1) x.2.2.1 x.2.2.2).2) = ndecN m t (dnew d))
    (fun x => m - x.1) (0, List.replicate m 0, t, dnew d) ⟨Nat.zero_le _, List.length_replicate, ht, dnew_ok (by omega), rfl⟩ (by repeat' (first | exact trivial | refine ⟨rfl, ?_⟩ | refine ⟨congrArg some ?_, ?_⟩)) (by repeat (first | with_reducible exact Take.nil | with_reducible apply Take.c | ((with_reducible apply Take.cE); (first | exact rfl | (apply blkE; (focus (first | exact rfl | exact recs_snocE rfl | exact map_snocE rfl | exact congrArg (fun v => [v]) (gslE rfl rfl (by first | rfl | exact ‹_› | omega | (simp ; first | done | omega)) (by first | rfl | exact ‹_› | omega | (simp ; first | done | omega)) rfl)))))) | with_reducible apply Take.drop)) ?_
  rintro ⟨i, L, t1, d1⟩ ⟨hi, hL, ht1, hok1, he⟩
  dsimp only at hi hL ht1 hok1 he ⊢
  by_cases him : i < m
  · have hb := ndec_ok (t := t1) hok1 ht1
    have hD := NumDecode_any n2 M N t1 d1 ((A, ⟨nodes L, false⟩) :: h) ht1 hok1
    rw [show m - i = (m - (i + 1)) + 1 by omega] at he
    rw [show ∀ k, ndecN (k + 1) t1 d1 = ((ndec t1 d1).2.2 :: (ndecN k (ndec t1 d1).1 (ndec t1 d1).2.1).1, (ndecN k (ndec t1 d1).1 (ndec t1 d1).2.1).2) from fun _ => rfl] at he
    generalize ndec t1 d1 = B at *
    obtain ⟨t2, d2, c2⟩ := B
    dsimp only at he hD hb
    repeat' (first | apply w_seq | apply w_region | apply o_nil | (apply o_g tyOk; exact rfl; exact rfl) | (apply o_ar tyOk; exact rfl; exact rfl) | (apply o_store tyOk; (iterate 4 exact rfl); (focus (exact up))) | (apply o_invoke; (iterate 3 exact rfl); (focus (exact ⟨_, hD, by repeat (first | with_reducible exact Take.nil | with_reducible apply Take.c | with_reducible apply Take.drop)⟩)); (focus (kernel_rfl)); exact rfl; rintro _ _ ⟨rfl, rfl⟩) | (apply w_dT; exact rfl; (focus (first | exact ‹_› | with_reducible exact rfl | omega))) | apply thenS_normal | apply blockS_normal | apply w_skip | apply w_block | ((with_reducible apply Sd.mk); (first | exact True.intro | omega | (constructor <;> first | omega | (unfold maxLen; omega)) | (unfold maxLen; omega))) | ((with_reducible apply Ln.mk); (first | rfl | exact ‹_› | omega | (simp ; first | done | omega))) | ((with_reducible apply Wr.mk); (first | exact IntWalk.i64_in _ (by omega) | exact IntWalk.u8_in _ (by omega) | exact IntWalk.u32_in _ (by omega) | exact IntWalk.u64_in _ (by omega) | exact IntKind.wrap_u8 _ | exact IntKind.wrap_u32 _ | rfl)) | ((with_reducible apply Se.mk); (first | (focus ((repeat (first | exact SetAt.zero | apply SetAt.succ)); done)) | exact setAt_bytes (by omega) (by omega) | exact setAt_mapZ (by omega) | exact setAt_map (by omega))) | exact True.intro)
    all_goals first
      | (exfalso; omega)
      | (refine ⟨(i + 1, L.set i c2, t2, d2), ⟨him, by simp [hL], hb.2, hb.1, ?_⟩, by show m - (i + 1) < m - i; omega, (by repeat' (first | exact trivial | refine ⟨rfl, ?_⟩ | refine ⟨congrArg some ?_, ?_⟩)), (by repeat (first | with_reducible exact Take.nil | with_reducible apply Take.c | ((with_reducible apply Take.cE); (first | exact rfl | (apply blkE; (focus (first | exact rfl | exact recs_snocE rfl | exact map_snocE rfl | exact congrArg (fun v => [v]) (gslE rfl rfl (by first | rfl | exact ‹_› | omega | (simp ; first | done | omega)) (by first | rfl | exact ‹_› | omega | (simp ; first | done | omega)) rfl)))))) | with_reducible apply Take.drop))⟩
         dsimp only
         rw [take_set (by omega), List.append_assoc]
         exact he)
      | trace_state
  · obtain rfl : i = m := by omega
    rw [Nat.sub_self, List.take_of_length_le (by omega)] at he
    have he : (L ++ [], d1) = ndecN i t (dnew d) := he
    rw [List.append_nil] at he
    rw [← he] at hx
    dsimp only at hx
    by_cases h3 : dend d1 = 0
    · rw [if_neg (fun g => g h3)] at hx
      repeat' (first | apply w_seq | apply w_region | apply o_nil | (apply o_g tyOk; exact rfl; exact rfl) | (apply o_call; exact rfl; exact rfl; (focus (first | exact rfl | assumption)); exact rfl; (focus (exact ⟨_, End_any _ _ _, by repeat (first | with_reducible exact Take.nil | with_reducible apply Take.c | with_reducible apply Take.drop)⟩)); rintro _ _ ⟨rfl, rfl⟩) | (apply w_dF; exact rfl; (focus (first | exact ‹_› | with_reducible exact rfl | omega))) | apply thenS_normal | apply thenS_exit | apply blockS_exit | apply w_skip | apply w_ret | apply w_exit | ((with_reducible apply Sd.mk); (first | exact True.intro | omega | (constructor <;> first | omega | (unfold maxLen; omega)) | (unfold maxLen; omega))))
      all_goals try contradiction
      subst hx hL
      (apply s_fin; (exact (show ResS _ _ _ _ [_, _] from ⟨rfl, ⟨rfl, trivial⟩⟩)); (focus (exact .inr ⟨rfl, A, by rw [Nat.mul_one]; rfl, rfl⟩)); (focus (repeat (first | with_reducible exact Take.nil | with_reducible apply Take.c | ((with_reducible apply Take.cE); (first | exact rfl | (apply blkE; (focus (first | exact rfl | exact recs_snocE rfl | exact map_snocE rfl | exact congrArg (fun v => [v]) (gslE rfl rfl (by first | rfl | exact ‹_› | omega | (simp ; first | done | omega)) (by first | rfl | exact ‹_› | omega | (simp ; first | done | omega)) rfl)))))) | with_reducible apply Take.drop))))
    · rw [if_pos h3] at hx
      repeat' (first | apply w_seq | apply w_region | apply o_nil | (apply o_g tyOk; exact rfl; exact rfl) | (apply o_call; exact rfl; exact rfl; (focus (first | exact rfl | assumption)); exact rfl; (focus (exact ⟨_, End_any _ _ _, by repeat (first | with_reducible exact Take.nil | with_reducible apply Take.c | with_reducible apply Take.drop)⟩)); rintro _ _ ⟨rfl, rfl⟩) | (apply w_dT; exact rfl; (focus (first | exact ‹_› | with_reducible exact rfl | omega))) | (apply w_dF; exact rfl; (focus (first | exact ‹_› | with_reducible exact rfl | omega))) | apply thenS_normal | apply thenS_ret | apply thenS_exit | apply blockS_exit | apply w_ret | apply w_exit | ((with_reducible apply Sd.mk); (first | exact True.intro | omega | (constructor <;> first | omega | (unfold maxLen; omega)) | (unfold maxLen; omega))))
      all_goals first
        | contradiction
        | (apply s_fin; (exact (show ResS _ _ _ _ [_, _] from ⟨rfl, ⟨rfl, trivial⟩⟩)); (focus (exact .inl ⟨by rw [← hx], by rw [← hx]; rfl, rfl⟩)); (focus (repeat (first | with_reducible exact Take.nil | with_reducible apply Take.c | ((with_reducible apply Take.cE); (first | exact rfl | (apply blkE; (focus (first | exact rfl | exact recs_snocE rfl | exact map_snocE rfl | exact congrArg (fun v => [v]) (gslE rfl rfl (by first | rfl | exact ‹_› | omega | (simp ; first | done | omega)) (by first | rfl | exact ‹_› | omega | (simp ; first | done | omega)) rfl)))))) | with_reducible apply Take.drop))))
        | trace_state
theorem ndecN_len : ∀ (k : Nat) (t : List Int) (d : Dec), (ndecN k t d).1.length = k
  | 0, _, _ => rfl
  | k + 1, t, d => by
    show ((ndec t d).2.2 :: (ndecN k (ndec t d).1 (ndec t d).2.1).1).length = k + 1
    rw [List.length_cons, ndecN_len k]
theorem rdecN_len (l : List UInt8) (most : Int) (t : List Int) : (rdecN l most t).1.length ≤ 4096 := by
  have := (rdN_ok l 4096).2
  unfold rdecN
  split
  · exact Nat.zero_le _
  · rename_i h
    split
    · exact Nat.zero_le _
    · split
      · exact Nat.zero_le _
      · split
        · exact Nat.zero_le _
        · show (ndecN _ _ _).1.length ≤ 4096
          rw [ndecN_len]
          have := this (Classical.not_not.1 h)
          omega
/-- What DecodeNumbers gives. -/
def mDecN (l : List UInt8) (most : Int) : List Int × Int :=
  if ∀ z ∈ (rdecN l most (List.replicate 64 1024)).1, 0 ≤ z then rdecN l most (List.replicate 64 1024) else ([], 12)
theorem DecodeNumbers_any (l : List UInt8) (most : Int) (h : SH) (hl : l.length ≤ 100000) : SRun Try.prog 41 [S l, I most] h (IsN h (mDecN l most)) := by
  have hB : ∀ h, SRun Try.prog 22 [] h fun r q => ∃ M N, r = gptr M 0 2 ∧ q = (M, ⟨numC N, false⟩) :: (N, ⟨nodes (List.replicate 64 1024), false⟩) :: h := NewNumbers_any
  have hE := fun M N h => decodeI_any M N (List.replicate 64 1024) l most h hl List.length_replicate
  obtain ⟨x, hx⟩ : ∃ x, mDecN l most = x := ⟨_, rfl⟩
  rw [hx]
  unfold mDecN at hx
  have hlen := rdecN_len l most (List.replicate 64 1024)
  generalize rdecN l most (List.replicate 64 1024) = R at *
  generalize (List.replicate 64 1024 : List Int) = X at *
  refine w_body2 Try.func41 rfl rfl ?_
  repeat' (first | apply w_seq | apply w_region | apply o_nil | (apply o_g tyOk; exact rfl; exact rfl) | (apply o_call; exact rfl; exact rfl; (focus (first | exact rfl | assumption)); exact rfl; (focus (exact ⟨_, hB _, by repeat (first | with_reducible exact Take.nil | with_reducible apply Take.c | with_reducible apply Take.drop)⟩)); rintro _ _ ⟨M, N, rfl, rfl⟩) | apply thenS_normal | ((with_reducible apply Sd.mk); (first | exact True.intro | omega | (constructor <;> first | omega | (unfold maxLen; omega)) | (unfold maxLen; omega))))
  all_goals first | (exfalso; omega) | skip
  refine o_iface (d := .pointer 102) rfl (by kernel_rfl) rfl rfl ?_
  repeat' (first | (apply o_g tyOk; exact rfl; exact rfl) | (apply o_call; exact rfl; exact rfl; (focus (first | exact rfl | assumption)); exact rfl; (focus (exact ⟨_, hE M N _, by repeat (first | with_reducible exact Take.nil | with_reducible apply Take.c | with_reducible apply Take.drop)⟩)); rintro _ _ hh) | ((with_reducible apply Sd.mk); (first | exact True.intro | omega | (constructor <;> first | omega | (unfold maxLen; omega)) | (unfold maxLen; omega))))
  obtain ⟨e1, rfl, rfl⟩ | ⟨e1, A, rfl, rfl⟩ := hh
  · rename_i q0
    rw [e1, if_pos (fun _ g => absurd g List.not_mem_nil)] at hx
    repeat' (first | apply w_seq | apply w_region | apply o_nil | (apply o_g tyOk; exact rfl; exact rfl) | apply thenS_normal | apply w_block | ((with_reducible apply Sd.mk); (first | exact True.intro | omega | (constructor <;> first | omega | (unfold maxLen; omega)) | (unfold maxLen; omega))))
    refine w_loop (S := Unit) (fun _ => [(6, .slice none 0 0), (7, Er R.2), (18, .slice none 0 0), (19, I 0), (20, I 0)]) (fun _ => q0) (fun _ => True) (fun _ => 0) () trivial (by repeat' (first | exact trivial | refine ⟨rfl, ?_⟩ | refine ⟨congrArg some ?_, ?_⟩)) (by repeat (first | with_reducible exact Take.nil | with_reducible apply Take.c | ((with_reducible apply Take.cE); (first | exact rfl | (apply blkE; (focus (first | exact rfl | exact recs_snocE rfl | exact map_snocE rfl | exact congrArg (fun v => [v]) (gslE rfl rfl (by first | rfl | exact ‹_› | omega | (simp ; first | done | omega)) (by first | rfl | exact ‹_› | omega | (simp ; first | done | omega)) rfl)))))) | with_reducible apply Take.drop)) ?_
    rintro - -
    repeat' (first | apply w_seq | apply w_region | apply o_nil | (apply o_g tyOk; exact rfl; exact rfl) | (apply w_false; exact rfl) | apply thenS_normal | apply thenS_exit | apply blockS_exit | apply w_ret | apply w_exit | ((with_reducible apply Sd.mk); (first | exact True.intro | omega | (constructor <;> first | omega | (unfold maxLen; omega)) | (unfold maxLen; omega))))
    all_goals first
      | (exfalso; omega)
      | (apply s_fin; (exact (show ResS _ _ _ _ [_, _] from ⟨rfl, ⟨rfl, trivial⟩⟩)); (focus (exact .inl ⟨by rw [← hx]; exact e1, by rw [← hx]; rfl, rfl⟩)); (focus (repeat (first | with_reducible exact Take.nil | with_reducible apply Take.c | ((with_reducible apply Take.cE); (first | exact rfl | (apply blkE; (focus (first | exact rfl | exact recs_snocE rfl | exact map_snocE rfl | exact congrArg (fun v => [v]) (gslE rfl rfl (by first | rfl | exact ‹_› | omega | (simp ; first | done | omega)) (by first | rfl | exact ‹_› | omega | (simp ; first | done | omega)) rfl)))))) | with_reducible apply Take.drop))))
      | trace_state
  · obtain ⟨L, e⟩ := R
    dsimp only at e1 hx hlen ⊢
    subst e1
    have hlb : (nodes L).length = L.length := by simp
    repeat' (first | apply w_seq | apply w_region | apply o_nil | (apply o_g tyOk; exact rfl; exact rfl) | apply thenS_normal | apply w_block | ((with_reducible apply Sd.mk); (first | exact True.intro | omega | (constructor <;> first | omega | (unfold maxLen; omega)) | (unfold maxLen; omega))))
    refine w_loop (S := Nat) (fun i => [(6, gsl A 0 L.length L.length 1), (7, Er 0), (18, gsl A 0 L.length L.length 1), (19, I L.length), (20, I i)]) (fun _ => (A, ⟨nodes L, false⟩) :: h)
      (fun i => i ≤ L.length ∧ ∀ j, j < i → 0 ≤ L[j]!) (fun i => L.length - i) 0 ⟨Nat.zero_le _, fun j hj => absurd hj (Nat.not_lt_zero _)⟩ (by repeat' (first | exact trivial | refine ⟨rfl, ?_⟩ | refine ⟨congrArg some ?_, ?_⟩)) (by repeat (first | with_reducible exact Take.nil | with_reducible apply Take.c | ((with_reducible apply Take.cE); (first | exact rfl | (apply blkE; (focus (first | exact rfl | exact recs_snocE rfl | exact map_snocE rfl | exact congrArg (fun v => [v]) (gslE rfl rfl (by first | rfl | exact ‹_› | omega | (simp ; first | done | omega)) (by first | rfl | exact ‹_› | omega | (simp ; first | done | omega)) rfl)))))) | with_reducible apply Take.drop)) ?_
    rintro i ⟨hi, hall⟩
    by_cases hil : i < L.length
    · obtain ⟨z, hz⟩ : ∃ z, z = L[i]! := ⟨_, rfl⟩
      have hcl : (nodes L)[0 + ((i : Int)).toNat * 1]? = some (I z) := by rw [hz]; exact cell_mapZ hil
      by_cases hz0 : z < 0
      · rw [if_neg (fun g => by have := g z (by rw [hz]; exact ibang_mem hil); omega)] at hx
        repeat' (first | apply w_seq | apply w_region | apply o_nil | (apply o_g tyOk; exact rfl; exact rfl) | (apply o_load tyOk; (iterate 3 exact rfl); (focus (exact pk))) | (apply w_dT; exact rfl; (focus (first | exact ‹_› | with_reducible exact rfl | omega))) | apply thenS_normal | apply thenS_ret | apply blockS_ret | apply w_skip | apply w_ret | apply w_block | ((with_reducible apply Sd.mk); (first | exact True.intro | omega | (constructor <;> first | omega | (unfold maxLen; omega)) | (unfold maxLen; omega))) | ((with_reducible apply Ln.mk); (first | rfl | exact ‹_› | omega | (simp [hlb]; first | done | omega))) | ((with_reducible apply Ce.mk); (first | rfl | exact ‹_› | exact hcl | exact cell_recZ (fun _ => rfl) (by omega) (by decide) rfl | exact cell_rec (fun _ => rfl) (by omega) (by decide) rfl | exact cell_bytes (by omega) | exact cell_mapZ (by omega) | exact cell_map (by omega))) | exact True.intro | exact rfl)
        all_goals first
          | (exfalso; omega)
          | (apply s_fin; (exact (show ResS _ _ _ _ [_, _] from ⟨rfl, ⟨rfl, trivial⟩⟩)); (focus (exact .inl ⟨by rw [← hx], by rw [← hx]; rfl, rfl⟩)); (focus (repeat (first | with_reducible exact Take.nil | with_reducible apply Take.c | ((with_reducible apply Take.cE); (first | exact rfl | (apply blkE; (focus (first | exact rfl | exact recs_snocE rfl | exact map_snocE rfl | exact congrArg (fun v => [v]) (gslE rfl rfl (by first | rfl | exact ‹_› | omega | (simp [hlb]; first | done | omega)) (by first | rfl | exact ‹_› | omega | (simp [hlb]; first | done | omega)) rfl)))))) | with_reducible apply Take.drop))))
          | trace_state
      · repeat' (first | apply w_seq | apply w_region | apply o_nil | (apply o_g tyOk; exact rfl; exact rfl) | (apply o_ar tyOk; exact rfl; exact rfl) | (apply o_load tyOk; (iterate 3 exact rfl); (focus (exact pk))) | (apply w_dT; exact rfl; (focus (first | exact ‹_› | with_reducible exact rfl | omega))) | (apply w_dF; exact rfl; (focus (first | exact ‹_› | with_reducible exact rfl | omega))) | apply thenS_normal | apply blockS_normal | apply w_skip | apply w_block | ((with_reducible apply Sd.mk); (first | exact True.intro | omega | (constructor <;> first | omega | (unfold maxLen; omega)) | (unfold maxLen; omega))) | ((with_reducible apply Ln.mk); (first | rfl | exact ‹_› | omega | (simp [hlb]; first | done | omega))) | ((with_reducible apply Wr.mk); (first | exact IntWalk.i64_in _ (by omega) | exact IntWalk.u8_in _ (by omega) | exact IntWalk.u32_in _ (by omega) | exact IntWalk.u64_in _ (by omega) | exact IntKind.wrap_u8 _ | exact IntKind.wrap_u32 _ | rfl)) | ((with_reducible apply Ce.mk); (first | rfl | exact ‹_› | exact hcl | exact cell_recZ (fun _ => rfl) (by omega) (by decide) rfl | exact cell_rec (fun _ => rfl) (by omega) (by decide) rfl | exact cell_bytes (by omega) | exact cell_mapZ (by omega) | exact cell_map (by omega))) | exact True.intro | exact rfl)
        all_goals first
          | (exfalso; omega)
          | exact ⟨i + 1, ⟨hil, fun j hj => by
              by_cases e : j = i
              · rw [e, ← hz]; omega
              · exact hall j (by omega)⟩, by show L.length - (i + 1) < L.length - i; omega, (by repeat' (first | exact trivial | refine ⟨rfl, ?_⟩ | refine ⟨congrArg some ?_, ?_⟩)), (by repeat (first | with_reducible exact Take.nil | with_reducible apply Take.c | ((with_reducible apply Take.cE); (first | exact rfl | (apply blkE; (focus (first | exact rfl | exact recs_snocE rfl | exact map_snocE rfl | exact congrArg (fun v => [v]) (gslE rfl rfl (by first | rfl | exact ‹_› | omega | (simp ; first | done | omega)) (by first | rfl | exact ‹_› | omega | (simp ; first | done | omega)) rfl)))))) | with_reducible apply Take.drop))⟩
          | trace_state
    · obtain rfl : i = L.length := by omega
      rw [if_pos (fun z hz => by
        obtain ⟨j, hj, e⟩ := List.mem_iff_getElem.1 hz
        have := hall j hj
        rwa [getElem!_pos L j hj, e] at this)] at hx
      subst hx
      repeat' (first | apply w_seq | apply w_region | apply o_nil | (apply o_g tyOk; exact rfl; exact rfl) | (apply w_dF; exact rfl; (focus (first | exact ‹_› | with_reducible exact rfl | omega))) | apply thenS_normal | apply thenS_exit | apply blockS_exit | apply w_ret | apply w_exit | ((with_reducible apply Sd.mk); (first | exact True.intro | omega | (constructor <;> first | omega | (unfold maxLen; omega)) | (unfold maxLen; omega))))
      all_goals first
        | (exfalso; omega)
        | (apply s_fin; (exact (show ResS _ _ _ _ [_, _] from ⟨rfl, ⟨rfl, trivial⟩⟩)); (focus (exact .inr ⟨rfl, A, rfl, rfl⟩)); (focus (repeat (first | with_reducible exact Take.nil | with_reducible apply Take.c | ((with_reducible apply Take.cE); (first | exact rfl | (apply blkE; (focus (first | exact rfl | exact recs_snocE rfl | exact map_snocE rfl | exact congrArg (fun v => [v]) (gslE rfl rfl (by first | rfl | exact ‹_› | omega | (simp ; first | done | omega)) (by first | rfl | exact ‹_› | omega | (simp ; first | done | omega)) rfl)))))) | with_reducible apply Take.drop))))
        | trace_state
end Go.Proofs.Ytinfmojbdaiogaa
end
section
set_option linter.unusedVariables false
set_option linter.unusedSimpArgs false
set_option maxRecDepth 4000
namespace Go.Proofs.Ytinfmojbdaiogaa
open Go.Gh Go.RowKit

abbrev nt0 : List Int := List.replicate 64 1024
end Go.Proofs.Ytinfmojbdaiogaa
end
section
set_option linter.unusedVariables false
set_option linter.unusedSimpArgs false
set_option maxRecDepth 4000
namespace Go.Proofs.Ytinfmojbdaiogaa
open Go.Gh Go.RowKit

/-- Lists of numbers that are compared. -/
theorem IntsM_any (xs ys : List Int) (v w : Value) (h : SH) (hv : Has h (nodes xs) 1 xs.length v) (hw : Has h (nodes ys) 1 ys.length w) (hl : xs.length ≤ 1000000) :
    SRun Try.prog 43 [v, w] h fun r q => r = B (decide (xs = ys)) ∧ q = h := by
  obtain ⟨ad, fl, rfl, hh⟩ := hv
  obtain ⟨ad2, fl2, rfl, hh2⟩ := hw
  have hx : (nodes xs).length = xs.length := by simp
  have hy : (nodes ys).length = ys.length := by simp
  refine w_body2 Try.func43 rfl rfl ?_
  repeat' (first | apply w_seq | apply w_region | apply o_nil | (apply o_g tyOk; exact rfl; exact rfl) | (apply w_ifN; exact rfl; all_goals intro hc) | apply thenS_normal | apply thenS_ret | apply w_skip | apply w_ret | apply w_block | ((with_reducible apply Sd.mk); (first | exact True.intro | omega | (constructor <;> first | omega | (unfold maxLen; omega)) | (unfold maxLen; omega))))
  · (apply s_fin; (exact (show ResS _ _ _ _ [_] from ⟨rfl, trivial⟩)); (focus (refine ⟨?_, rfl⟩; show B _ = B _; congr 1; symm; rw [decide_eq_false_iff_not]; rintro rfl; exact hc rfl)); (focus (repeat (first | with_reducible exact Take.nil | with_reducible apply Take.c | ((with_reducible apply Take.cE); (first | exact rfl | (apply blkE; (focus (first | exact rfl | exact recs_snocE rfl | exact map_snocE rfl | exact congrArg (fun v => [v]) (gslE rfl rfl (by first | rfl | exact ‹_› | omega | (simp ; first | done | omega)) (by first | rfl | exact ‹_› | omega | (simp ; first | done | omega)) rfl)))))) | with_reducible apply Take.drop))))
  have hll : xs.length = ys.length := by omega
  refine w_loop (S := Nat) (fun k => [(0, .slice ad xs.length fl), (1, .slice ad2 ys.length fl2), (5, I k)]) (fun _ => h) (fun k => k ≤ xs.length ∧ ∀ i, i < k → xs[i]! = ys[i]!) (fun k => xs.length - k) 0 ⟨by omega, by omega⟩ (by repeat' (first | exact trivial | refine ⟨rfl, ?_⟩ | refine ⟨congrArg some ?_, ?_⟩)) (by repeat (first | with_reducible exact Take.nil | with_reducible apply Take.c | ((with_reducible apply Take.cE); (first | exact rfl | (apply blkE; (focus (first | exact rfl | exact recs_snocE rfl | exact map_snocE rfl | exact congrArg (fun v => [v]) (gslE rfl rfl (by first | rfl | exact ‹_› | omega | (simp ; first | done | omega)) (by first | rfl | exact ‹_› | omega | (simp ; first | done | omega)) rfl)))))) | with_reducible apply Take.drop)) ?_
  rintro k ⟨hk, hs⟩
  by_cases hkl : k < xs.length
  · obtain ⟨A', ro, h1, rfl, hp⟩ := hh (by omega)
    obtain ⟨A2, ro2, h2, rfl, hp2⟩ := hh2 (by omega)
    have hcx : (nodes xs)[0 + ((k : Int)).toNat * 1]? = some (I xs[k]!) := cell_mapZ hkl
    have hcy : (nodes ys)[0 + ((k : Int)).toNat * 1]? = some (I ys[k]!) := cell_mapZ (by omega)
    repeat' (first | apply w_seq | apply w_region | apply o_nil | (apply w_draw; (focus (kernel_rfl)); (focus (kernel_rfl))) | (apply o_g tyOk; exact rfl; exact rfl) | (apply o_ar tyOk; exact rfl; exact rfl) | (apply o_load tyOk; (iterate 3 exact rfl); (focus (exact pk))) | (apply w_dT; exact rfl; (focus (first | exact ‹_› | with_reducible exact rfl | omega))) | (apply w_ifN; exact rfl; all_goals intro hc) | apply thenS_normal | apply thenS_ret | apply blockS_normal | apply blockS_ret | apply w_skip | apply w_ret | apply w_block | ((with_reducible apply Sd.mk); (first | exact True.intro | omega | (constructor <;> first | omega | (unfold maxLen; omega)) | (unfold maxLen; omega))) | ((with_reducible apply Ln.mk); (first | rfl | exact ‹_› | omega | (simp [hx, hy]; first | done | omega))) | ((with_reducible apply Wr.mk); (first | exact IntWalk.i64_in _ (by omega) | exact IntWalk.u8_in _ (by omega) | exact IntWalk.u32_in _ (by omega) | exact IntWalk.u64_in _ (by omega) | exact IntKind.wrap_u8 _ | exact IntKind.wrap_u32 _ | rfl)) | ((with_reducible apply Ce.mk); (first | rfl | exact ‹_› | exact hcx | exact hcy | exact cell_recZ (fun _ => rfl) (by omega) (by decide) rfl | exact cell_rec (fun _ => rfl) (by omega) (by decide) rfl | exact cell_bytes (by omega) | exact cell_mapZ (by omega) | exact cell_map (by omega))) | exact True.intro | exact rfl)
    · (apply s_fin; (exact (show ResS _ _ _ _ [_] from ⟨rfl, trivial⟩)); (focus (refine ⟨?_, rfl⟩; show B _ = B _; congr 1; symm; rw [decide_eq_false_iff_not]; rintro rfl; exact hc rfl)); (focus (repeat (first | with_reducible exact Take.nil | with_reducible apply Take.c | ((with_reducible apply Take.cE); (first | exact rfl | (apply blkE; (focus (first | exact rfl | exact recs_snocE rfl | exact map_snocE rfl | exact congrArg (fun v => [v]) (gslE rfl rfl (by first | rfl | exact ‹_› | omega | (simp ; first | done | omega)) (by first | rfl | exact ‹_› | omega | (simp ; first | done | omega)) rfl)))))) | with_reducible apply Take.drop))))
    · exact ⟨k + 1, ⟨hkl, fun i hi => by
        by_cases e : i = k
        · subst e; exact hc
        · exact hs i (by omega)⟩, by omega, (by repeat' (first | exact trivial | refine ⟨rfl, ?_⟩ | refine ⟨congrArg some ?_, ?_⟩)), (by repeat (first | with_reducible exact Take.nil | with_reducible apply Take.c | ((with_reducible apply Take.cE); (first | exact rfl | (apply blkE; (focus (first | exact rfl | exact recs_snocE rfl | exact map_snocE rfl | exact congrArg (fun v => [v]) (gslE rfl rfl (by first | rfl | exact ‹_› | omega | (simp ; first | done | omega)) (by first | rfl | exact ‹_› | omega | (simp ; first | done | omega)) rfl)))))) | with_reducible apply Take.drop))⟩
  · repeat' (first | apply w_seq | apply w_region | apply o_nil | (apply o_g tyOk; exact rfl; exact rfl) | (apply w_dF; exact rfl; (focus (first | exact ‹_› | with_reducible exact rfl | omega))) | apply thenS_normal | apply thenS_exit | apply blockS_exit | apply w_ret | apply w_exit | ((with_reducible apply Sd.mk); (first | exact True.intro | omega | (constructor <;> first | omega | (unfold maxLen; omega)) | (unfold maxLen; omega))))
    have : xs = ys := by
      refine List.ext_getElem hll fun i h1 h2 => ?_
      have := hs i (by omega)
      rwa [getElem!_pos xs i h1, getElem!_pos ys i h2] at this
    (apply s_fin; (exact (show ResS _ _ _ _ [_] from ⟨rfl, trivial⟩)); (focus (exact ⟨(congrArg B (decide_eq_true this)).symm, rfl⟩)); (focus (repeat (first | with_reducible exact Take.nil | with_reducible apply Take.c | ((with_reducible apply Take.cE); (first | exact rfl | (apply blkE; (focus (first | exact rfl | exact recs_snocE rfl | exact map_snocE rfl | exact congrArg (fun v => [v]) (gslE rfl rfl (by first | rfl | exact ‹_› | omega | (simp ; first | done | omega)) (by first | rfl | exact ‹_› | omega | (simp ; first | done | omega)) rfl)))))) | with_reducible apply Take.drop))))
/-- DecodeNumbers: the numbers lie somewhere. -/
theorem DecodeNumbers_has (l : List UInt8) (most : Int) (h : SH) (hl : l.length ≤ 100000) : SRun Try.prog 41 [S l, I most] h fun r q =>
    ∃ w, r = .tuple #[w, Er (mDecN l most).2] ∧ Has q (nodes (mDecN l most).1) 1 (mDecN l most).1.length w ∧ Take q h :=
  (DecodeNumbers_any l most h hl).mono fun r q g => by
    rcases g with ⟨g1, rfl, rfl⟩ | ⟨g1, A, rfl, rfl⟩
    · exact ⟨_, rfl, by rw [g1]; exact ⟨none, 0, rfl, fun k => absurd rfl k⟩, .nil⟩
    · rw [g1]
      exact ⟨_, rfl, ⟨_, _, rfl, fun _ => ⟨A, false, _, by rw [Nat.one_mul], .head⟩⟩, .drop .nil⟩
end Go.Proofs.Ytinfmojbdaiogaa
end
