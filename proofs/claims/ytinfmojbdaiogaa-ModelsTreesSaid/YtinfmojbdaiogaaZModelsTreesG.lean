/- Part 7 of the proof of the law ModelsTrees: texts merged. No condition. -/
import Derived.Test.YtinfmojbdaiogaaZModelsTreesF
section
set_option linter.unusedVariables false
set_option linter.unusedSimpArgs false
set_option maxRecDepth 4000
namespace Go.Proofs.Ytinfmojbdaiogaa
open Go.Gh Go.RowKit

theorem one_le_256 (m : Nat) : (1 : Int) ≤ 256 ^ m := by
  have h : 0 < 256 ^ m := Nat.pow_pos (by decide : 0 < 256)
  have e : ((256 : Int) ^ m) = ((256 ^ m : Nat) : Int) := by rw [Int.natCast_pow]; rfl
  rw [e]; omega
theorem peek_any (n : Nat) (l : List UInt8) (e : Int) (h : SH) (hl : l.length ≤ 100000) : SRun Try.prog 109 [gptr n 0 2] (rdB n l e :: h) fun r q => r = .tuple #[I (vpeek l).1, I (vpeek l).2.1, B (vpeek l).2.2] ∧ q = rdB n l e :: h := by
  by_cases h0 : l.length = 0
  · obtain rfl : l = [] := List.length_eq_zero_iff.1 h0
    rw [show vpeek [] = (0, 0, false) from rfl]
    refine w_body1 Try.func109 rfl rfl ?_
    repeat' (first | apply w_seq | apply w_region | apply o_nil | (apply o_g tyOk; exact rfl; exact rfl) | (apply o_load tyOk; (iterate 3 exact rfl); (focus (exact pk))) | (apply w_true; exact rfl) | apply thenS_normal | apply thenS_ret | apply w_ret | ((with_reducible apply Sd.mk); (first | exact True.intro | omega | (constructor <;> first | omega | (unfold maxLen; omega)) | (unfold maxLen; omega))) | ((with_reducible apply Ln.mk); (first | rfl | exact ‹_› | omega | (simp ; first | done | omega))) | ((with_reducible apply Ce.mk); (first | rfl | exact ‹_› | exact cell_recZ (fun _ => rfl) (by omega) (by decide) rfl | exact cell_rec (fun _ => rfl) (by omega) (by decide) rfl | exact cell_bytes (by omega) | exact cell_mapZ (by omega) | exact cell_map (by omega))) | exact True.intro | exact rfl)
    all_goals first
      | (exfalso; omega)
      | contradiction
      | (apply s_fin; (exact (show ResS _ _ _ _ [_, _, _] from ⟨rfl, ⟨rfl, ⟨rfl, trivial⟩⟩⟩)); (focus (exact ⟨rfl, rfl⟩)); (focus (repeat (first | with_reducible exact Take.nil | with_reducible apply Take.c | ((with_reducible apply Take.cE); (first | exact rfl | (apply blkE; (focus (first | exact rfl | exact recs_snocE rfl | exact map_snocE rfl | exact congrArg (fun v => [v]) (gslE rfl rfl (by first | rfl | exact ‹_› | omega | (simp ; first | done | omega)) (by first | rfl | exact ‹_› | omega | (simp ; first | done | omega)) rfl)))))) | with_reducible apply Take.drop))))
      | trace_state
  · have hne : l ≠ [] := fun g => h0 (by rw [g]; rfl)
    obtain ⟨f, hf⟩ : ∃ f, f = bat l 0 := ⟨_, rfl⟩
    have hf2 := bat_255 l 0
    rw [← hf] at hf2
    obtain ⟨K, hK⟩ : ∃ K, vlead f 8 0 = K := ⟨_, rfl⟩
    have hv : vpeek l = if l.length < K + 1 then (0, 0, false) else if 9223372036854775807 - vbnd K < vacc l K 1 (vlow f K) then (0, 0, false) else (vacc l K 1 (vlow f K) + vbnd K, (K : Int) + 1, true) := by
      unfold vpeek; rw [if_neg h0, ← hf, hK]
    rw [hv]
    refine w_body1 Try.func109 rfl rfl ?_
    repeat' (first | apply w_seq | apply w_region | apply o_nil | (apply o_g tyOk; exact rfl; exact rfl) | (apply o_load tyOk; (iterate 3 exact rfl); (focus (exact pk))) | (apply w_dF; exact rfl; (focus (first | exact ‹_› | with_reducible exact rfl | omega | exact hne))) | apply thenS_normal | apply w_skip | apply w_block | ((with_reducible apply Sd.mk); (first | exact True.intro | omega | (constructor <;> first | omega | (unfold maxLen; omega)) | (unfold maxLen; omega))) | ((with_reducible apply Ln.mk); (first | rfl | exact ‹_› | omega | (simp ; first | done | omega))) | ((with_reducible apply Ce.mk); (first | rfl | exact ‹_› | exact cell_recZ (fun _ => rfl) (by omega) (by decide) rfl | exact cell_rec (fun _ => rfl) (by omega) (by decide) rfl | exact cell_bytes (by omega) | exact cell_mapZ (by omega) | exact cell_map (by omega))) | exact True.intro | exact rfl)
    all_goals first | contradiction | (exfalso; omega) | skip
    refine w_loop (S := Nat) (fun i => [(0, gptr n 0 2), (5, Y f), (6, I i)]) (fun _ => rdB n l e :: h) (fun i => i ≤ 8 ∧ vlead f (8 - i) i = K) (fun i => 8 - i) 0 ⟨Nat.zero_le _, hK⟩ ⟨rfl, by rw [hf]; rfl, rfl, trivial⟩ (by repeat (first | with_reducible exact Take.nil | with_reducible apply Take.c | ((with_reducible apply Take.cE); (first | exact rfl | (apply blkE; (focus (first | exact rfl | exact recs_snocE rfl | exact map_snocE rfl | exact congrArg (fun v => [v]) (gslE rfl rfl (by first | rfl | exact ‹_› | omega | (simp ; first | done | omega)) (by first | rfl | exact ‹_› | omega | (simp ; first | done | omega)) rfl)))))) | with_reducible apply Take.drop)) ?_
    rintro i ⟨hi, he⟩
    have hsh : (128 : Int) / 2 ^ (min ((i : Int)).toNat IntKind.u8.bits) = 128 / 2 ^ i := by rw [Int.toNat_natCast, show IntKind.u8.bits = 8 from rfl, Nat.min_eq_left hi]
    have hand : IntKind.u8.wrap ((BitVec.ofInt IntKind.u8.bits f &&& BitVec.ofInt IntKind.u8.bits (128 / 2 ^ i)).toNat : Int) = vb1 f i := by
      show IntKind.u8.wrap (vb1 f i) = vb1 f i
      have : 0 ≤ vb1 f i ∧ vb1 f i < 256 := by
        unfold vb1
        have := (BitVec.ofInt 8 f &&& BitVec.ofInt 8 (128 / 2 ^ i)).isLt
        omega
      exact IntWalk.u8_in _ (by omega)
    by_cases hgo : i < 8 ∧ vb1 f i ≠ 0
    · obtain ⟨hg1, hg2⟩ := hgo
      have hst : vlead f (8 - i) i = vlead f (8 - (i + 1)) (i + 1) := by rw [show 8 - i = (8 - (i + 1)) + 1 by omega]; exact if_pos hg2
      rw [hst] at he
      repeat' (first | apply w_seq | apply w_region | apply o_nil | (apply o_g tyOk; exact rfl; exact rfl) | (apply o_ar tyOk; exact rfl; exact rfl) | (apply o_ex; exact rfl; exact rfl) | (apply o_want; exact rfl; exact rfl) | (apply o_gT; (iterate 3 exact rfl); (focus (first | exact ‹_› | with_reducible exact rfl | omega))) | (apply w_dT; exact rfl; (focus (first | exact ‹_› | with_reducible exact rfl | omega))) | apply thenS_normal | apply blockS_normal | apply w_skip | apply w_block | ((with_reducible apply Sd.mk); (first | exact True.intro | omega | (constructor <;> first | omega | (unfold maxLen; omega)) | (unfold maxLen; omega))) | ((with_reducible apply Wr.mk); (first | exact hand | exact IntWalk.i64_in _ (by omega) | exact IntWalk.u8_in _ (by omega) | exact IntWalk.u32_in _ (by omega) | exact IntWalk.u64_in _ (by omega) | exact IntKind.wrap_u8 _ | exact IntKind.wrap_u32 _ | rfl)) | ((with_reducible apply Ex.mk); (first | exact Int.tmod_eq_emod_of_nonneg (by omega) | exact hsh | rfl)))
      all_goals first
        | (exfalso; omega)
        | exact ⟨i + 1, ⟨hg1, he⟩, by show 8 - (i + 1) < 8 - i; omega, (by repeat' (first | exact trivial | refine ⟨rfl, ?_⟩ | refine ⟨congrArg some ?_, ?_⟩)), (by repeat (first | with_reducible exact Take.nil | with_reducible apply Take.c | ((with_reducible apply Take.cE); (first | exact rfl | (apply blkE; (focus (first | exact rfl | exact recs_snocE rfl | exact map_snocE rfl | exact congrArg (fun v => [v]) (gslE rfl rfl (by first | rfl | exact ‹_› | omega | (simp ; first | done | omega)) (by first | rfl | exact ‹_› | omega | (simp ; first | done | omega)) rfl)))))) | with_reducible apply Take.drop))⟩
        | trace_state
    · have hKi : i = K := by
        rw [← he]
        by_cases h8 : i < 8
        · have hz : ¬ vb1 f i ≠ 0 := fun g => hgo ⟨h8, g⟩
          rw [show 8 - i = (8 - (i + 1)) + 1 by omega]
          exact (if_neg hz).symm
        · rw [show 8 - i = 0 by omega]; rfl
      subst hKi
      by_cases hs : l.length < i + 1
      · rw [if_pos hs]
        repeat' (first | apply w_seq | apply w_region | apply o_nil | (apply o_g tyOk; exact rfl; exact rfl) | (apply o_ar tyOk; exact rfl; exact rfl) | (apply o_ex; exact rfl; exact rfl) | (apply o_load tyOk; (iterate 3 exact rfl); (focus (exact pk))) | (apply o_want; exact rfl; exact rfl) | (apply o_skip; iterate 4 exact rfl) | (apply o_guardT; (iterate 3 exact rfl); all_goals intro hc) | (apply w_false; exact rfl) | (apply w_dT; exact rfl; (focus (first | exact ‹_› | with_reducible exact rfl | omega | exact hgo (And.intro (by omega) (by assumption))))) | (apply w_dF; exact rfl; (focus (first | exact ‹_› | with_reducible exact rfl | omega | exact hgo (And.intro (by omega) (by assumption))))) | apply thenS_normal | apply thenS_ret | apply thenS_exit | apply blockS_exit | apply w_ret | apply w_exit | ((with_reducible apply Sd.mk); (first | exact True.intro | omega | (constructor <;> first | omega | (unfold maxLen; omega)) | (unfold maxLen; omega))) | ((with_reducible apply Ln.mk); (first | rfl | exact ‹_› | omega | (simp ; first | done | omega))) | ((with_reducible apply Wr.mk); (first | exact hand | exact IntWalk.i64_in _ (by omega) | exact IntWalk.u8_in _ (by omega) | exact IntWalk.u32_in _ (by omega) | exact IntWalk.u64_in _ (by omega) | exact IntKind.wrap_u8 _ | exact IntKind.wrap_u32 _ | rfl)) | ((with_reducible apply Ex.mk); (first | exact Int.tmod_eq_emod_of_nonneg (by omega) | exact hsh | rfl)) | ((with_reducible apply Ce.mk); (first | rfl | exact ‹_› | exact cell_recZ (fun _ => rfl) (by omega) (by decide) rfl | exact cell_rec (fun _ => rfl) (by omega) (by decide) rfl | exact cell_bytes (by omega) | exact cell_mapZ (by omega) | exact cell_map (by omega))) | exact True.intro | exact rfl)
        all_goals first
          | (exfalso; omega)
          | (exfalso; exact hgo ⟨by omega, by assumption⟩)
          | (apply s_fin; (exact (show ResS _ _ _ _ [_, _, _] from ⟨rfl, ⟨rfl, ⟨rfl, trivial⟩⟩⟩)); (focus (exact ⟨rfl, rfl⟩)); (focus (repeat (first | with_reducible exact Take.nil | with_reducible apply Take.c | ((with_reducible apply Take.cE); (first | exact rfl | (apply blkE; (focus (first | exact rfl | exact recs_snocE rfl | exact map_snocE rfl | exact congrArg (fun v => [v]) (gslE rfl rfl (by first | rfl | exact ‹_› | omega | (simp ; first | done | omega)) (by first | rfl | exact ‹_› | omega | (simp ; first | done | omega)) rfl)))))) | with_reducible apply Take.drop))))
          | trace_state
      · rw [if_neg hs]
        have hsh2 : (127 : Int) / 2 ^ (min ((i : Int)).toNat IntKind.u8.bits) = 127 / 2 ^ i := by rw [Int.toNat_natCast, show IntKind.u8.bits = 8 from rfl, Nat.min_eq_left hi]
        have hlo := vlow_in f hi
        have hlo2 : vlow f i < 256 := by
          unfold vlow
          have := (BitVec.ofInt 8 f &&& BitVec.ofInt 8 (127 / 2 ^ i)).isLt
          omega
        have hand2 : IntKind.u8.wrap ((BitVec.ofInt IntKind.u8.bits f &&& BitVec.ofInt IntKind.u8.bits (127 / 2 ^ i)).toNat : Int) = vlow f i := by
          show IntKind.u8.wrap (vlow f i) = vlow f i
          exact IntWalk.u8_in _ (by omega)
        repeat' (first | apply w_seq | apply w_region | apply o_nil | (apply o_g tyOk; exact rfl; exact rfl) | (apply o_ar tyOk; exact rfl; exact rfl) | (apply o_ex; exact rfl; exact rfl) | (apply o_load tyOk; (iterate 3 exact rfl); (focus (exact pk))) | (apply o_want; exact rfl; exact rfl) | (apply o_skip; iterate 4 exact rfl) | (apply o_guardT; (iterate 3 exact rfl); all_goals intro hc) | (apply w_false; exact rfl) | (apply w_dF; exact rfl; (focus (first | exact ‹_› | with_reducible exact rfl | omega))) | apply thenS_normal | apply thenS_exit | apply blockS_exit | apply w_skip | apply w_exit | apply w_block | ((with_reducible apply Sd.mk); (first | exact True.intro | omega | (constructor <;> first | omega | (unfold maxLen; omega)) | (unfold maxLen; omega))) | ((with_reducible apply Ln.mk); (first | rfl | exact ‹_› | omega | (simp ; first | done | omega))) | ((with_reducible apply Wr.mk); (first | exact hand | exact hand2 | exact IntWalk.i64_in _ (by omega) | exact IntWalk.u8_in _ (by omega) | exact IntWalk.u32_in _ (by omega) | exact IntWalk.u64_in _ (by omega) | exact IntKind.wrap_u8 _ | exact IntKind.wrap_u32 _ | rfl)) | ((with_reducible apply Ex.mk); (first | exact Int.tmod_eq_emod_of_nonneg (by omega) | exact hsh | exact hsh2 | rfl)) | ((with_reducible apply Ce.mk); (first | rfl | exact ‹_› | exact cell_recZ (fun _ => rfl) (by omega) (by decide) rfl | exact cell_rec (fun _ => rfl) (by omega) (by decide) rfl | exact cell_bytes (by omega) | exact cell_mapZ (by omega) | exact cell_map (by omega))) | exact True.intro | exact rfl)
        all_goals first
          | (exfalso; omega)
          | (exfalso; exact hgo ⟨by omega, by assumption⟩)
          | skip
        · have hcap := pow_cap hi
          obtain ⟨R, hR⟩ : ∃ R, vacc l i 1 (vlow f i) = R := ⟨_, rfl⟩
          have hbd := vbnd_in i hi
          have hBo := fun h => bound_any i h hi
          rw [hR]
          generalize hT : (2 : Int) ^ (7 - i) * 256 ^ i = T at hcap
          refine w_loop (S := Nat × Int × Int) (fun x => [(0, gptr n 0 2), (6, I i), (7, .int .u64 x.2.1), (8, I ((x.1 : Int) + 1))]) (fun _ => rdB n l e :: h) (fun x => x.1 ≤ i ∧ (0 ≤ x.2.1 ∧ x.2.1 < x.2.2 ∧ x.2.2 * 256 ^ (i - x.1) = T) ∧ vacc l (i - x.1) (x.1 + 1) x.2.1 = R) (fun x => i - x.1) (0, vlow f i, 2 ^ (7 - i)) ⟨Nat.zero_le _, ⟨hlo.1, hlo.2, hT⟩, hR⟩ (by repeat' (first | exact trivial | refine ⟨rfl, ?_⟩ | refine ⟨congrArg some ?_, ?_⟩)) (by repeat (first | with_reducible exact Take.nil | with_reducible apply Take.c | ((with_reducible apply Take.cE); (first | exact rfl | (apply blkE; (focus (first | exact rfl | exact recs_snocE rfl | exact map_snocE rfl | exact congrArg (fun v => [v]) (gslE rfl rfl (by first | rfl | exact ‹_› | omega | (simp ; first | done | omega)) (by first | rfl | exact ‹_› | omega | (simp ; first | done | omega)) rfl)))))) | with_reducible apply Take.drop)) ?_
          rintro ⟨j, v, W⟩ ⟨hj, ⟨hv0, hvW, hWT⟩, he2⟩
          dsimp only at hj hv0 hvW hWT he2 ⊢
          by_cases hji : j < i
          · rw [show i - j = (i - (j + 1)) + 1 by omega] at hWT he2
            have he2 : vacc l (i - (j + 1)) (j + 1 + 1) (v * 256 + bat l ((j : Int) + 1)) = R := he2
            rw [Int.pow_succ, Int.mul_comm (256 ^ (i - (j + 1))) 256, ← Int.mul_assoc] at hWT
            have hp1 : (1 : Int) ≤ 256 ^ (i - (j + 1)) := one_le_256 _
            have hle := Int.mul_le_mul_of_nonneg_left hp1 (show 0 ≤ W * 256 by omega)
            rw [hWT] at hle
            have hb := bat_255 l ((j : Int) + 1)
            have hshl : IntKind.u64.wrap (v * 2 ^ (min (Int.toNat 8) IntKind.u64.bits)) = v * 256 := by
              rw [show (2 : Int) ^ (min (Int.toNat 8) IntKind.u64.bits) = 256 from rfl]
              exact IntWalk.u64_in _ (by omega)
            have hor := or256 (v := v) (b := bat l ((j : Int) + 1)) (by omega) (by omega)
            repeat' (first | apply w_seq | apply w_region | apply o_nil | (apply o_g tyOk; exact rfl; exact rfl) | (apply o_ar tyOk; exact rfl; exact rfl) | (apply o_load tyOk; (iterate 3 exact rfl); (focus (exact pk))) | (apply w_dT; exact rfl; (focus (first | exact ‹_› | with_reducible exact rfl | omega))) | apply thenS_normal | apply blockS_normal | apply w_skip | apply w_block | ((with_reducible apply Sd.mk); (first | exact True.intro | omega | (constructor <;> first | omega | (unfold maxLen; omega)) | (unfold maxLen; omega))) | ((with_reducible apply Ln.mk); (first | rfl | exact ‹_› | omega | (simp ; first | done | omega))) | ((with_reducible apply Wr.mk); (first | exact hshl | exact hor | exact IntWalk.i64_in _ (by omega) | exact IntWalk.u8_in _ (by omega) | exact IntWalk.u32_in _ (by omega) | exact IntWalk.u64_in _ (by omega) | exact IntKind.wrap_u8 _ | exact IntKind.wrap_u32 _ | rfl)) | ((with_reducible apply Ce.mk); (first | rfl | exact ‹_› | exact cell_recZ (fun _ => rfl) (by omega) (by decide) rfl | exact cell_rec (fun _ => rfl) (by omega) (by decide) rfl | exact cell_bytes (by omega) | exact cell_mapZ (by omega) | exact cell_map (by omega))) | exact True.intro | exact rfl)
            all_goals first
              | (exfalso; omega)
              | exact ⟨(j + 1, v * 256 + bat l ((j : Int) + 1), W * 256), ⟨hji, ⟨by dsimp only; omega, by dsimp only; omega, hWT⟩, he2⟩, by show i - (j + 1) < i - j; omega, (by repeat' (first | exact trivial | refine ⟨rfl, ?_⟩ | refine ⟨congrArg some ?_, ?_⟩)), (by repeat (first | with_reducible exact Take.nil | with_reducible apply Take.c | ((with_reducible apply Take.cE); (first | exact rfl | (apply blkE; (focus (first | exact rfl | exact recs_snocE rfl | exact map_snocE rfl | exact congrArg (fun v => [v]) (gslE rfl rfl (by first | rfl | exact ‹_› | omega | (simp ; first | done | omega)) (by first | rfl | exact ‹_› | omega | (simp ; first | done | omega)) rfl)))))) | with_reducible apply Take.drop))⟩
              | trace_state
          · obtain rfl : j = i := by omega
            rw [Nat.sub_self] at hWT he2
            rw [Int.pow_zero, Int.mul_one] at hWT
            have he2 : v = R := he2
            rw [← he2]
            repeat' (first | apply w_seq | apply w_region | apply o_nil | (apply o_g tyOk; exact rfl; exact rfl) | (apply o_ar tyOk; exact rfl; exact rfl) | (apply o_call; exact rfl; exact rfl; (focus (first | exact rfl | assumption)); exact rfl; (focus (exact ⟨_, hBo _, by repeat (first | with_reducible exact Take.nil | with_reducible apply Take.c | with_reducible apply Take.drop)⟩)); rintro _ _ ⟨rfl, rfl⟩) | (apply w_dF; exact rfl; (focus (first | exact ‹_› | with_reducible exact rfl | omega))) | (apply w_if; exact rfl; all_goals intro hc) | apply thenS_normal | apply thenS_ret | apply thenS_exit | apply blockS_exit | apply w_skip | apply w_ret | apply w_exit | ((with_reducible apply Sd.mk); (first | exact True.intro | omega | (constructor <;> first | omega | (unfold maxLen; omega)) | (unfold maxLen; omega))) | ((with_reducible apply Wr.mk); (first | exact IntWalk.i64_in _ (by omega) | exact IntWalk.u8_in _ (by omega) | exact IntWalk.u32_in _ (by omega) | exact IntWalk.u64_in _ (by omega) | exact IntKind.wrap_u8 _ | exact IntKind.wrap_u32 _ | rfl)))
            all_goals first
              | (exfalso; omega)
              | (rw [if_pos (by assumption)]; (apply s_fin; (exact (show ResS _ _ _ _ [_, _, _] from ⟨rfl, ⟨rfl, ⟨rfl, trivial⟩⟩⟩)); (focus (exact ⟨rfl, rfl⟩)); (focus (repeat (first | with_reducible exact Take.nil | with_reducible apply Take.c | ((with_reducible apply Take.cE); (first | exact rfl | (apply blkE; (focus (first | exact rfl | exact recs_snocE rfl | exact map_snocE rfl | exact congrArg (fun v => [v]) (gslE rfl rfl (by first | rfl | exact ‹_› | omega | (simp ; first | done | omega)) (by first | rfl | exact ‹_› | omega | (simp ; first | done | omega)) rfl)))))) | with_reducible apply Take.drop)))))
              | (rw [if_neg (by assumption)]; (apply s_fin; (exact (show ResS _ _ _ _ [_, _, _] from ⟨rfl, ⟨rfl, ⟨rfl, trivial⟩⟩⟩)); (focus (exact ⟨rfl, rfl⟩)); (focus (repeat (first | with_reducible exact Take.nil | with_reducible apply Take.c | ((with_reducible apply Take.cE); (first | exact rfl | (apply blkE; (focus (first | exact rfl | exact recs_snocE rfl | exact map_snocE rfl | exact congrArg (fun v => [v]) (gslE rfl rfl (by first | rfl | exact ‹_› | omega | (simp ; first | done | omega)) (by first | rfl | exact ‹_› | omega | (simp ; first | done | omega)) rfl)))))) | with_reducible apply Take.drop)))))
              | trace_state
        · have hcap := pow_cap hi
          obtain ⟨R, hR⟩ : ∃ R, vacc l i 1 (vlow f i) = R := ⟨_, rfl⟩
          have hbd := vbnd_in i hi
          have hBo := fun h => bound_any i h hi
          rw [hR]
          generalize hT : (2 : Int) ^ (7 - i) * 256 ^ i = T at hcap
          refine w_loop (S := Nat × Int × Int) (fun x => [(0, gptr n 0 2), (6, I i), (7, .int .u64 x.2.1), (8, I ((x.1 : Int) + 1))]) (fun _ => rdB n l e :: h) (fun x => x.1 ≤ i ∧ (0 ≤ x.2.1 ∧ x.2.1 < x.2.2 ∧ x.2.2 * 256 ^ (i - x.1) = T) ∧ vacc l (i - x.1) (x.1 + 1) x.2.1 = R) (fun x => i - x.1) (0, vlow f i, 2 ^ (7 - i)) ⟨Nat.zero_le _, ⟨hlo.1, hlo.2, hT⟩, hR⟩ (by repeat' (first | exact trivial | refine ⟨rfl, ?_⟩ | refine ⟨congrArg some ?_, ?_⟩)) (by repeat (first | with_reducible exact Take.nil | with_reducible apply Take.c | ((with_reducible apply Take.cE); (first | exact rfl | (apply blkE; (focus (first | exact rfl | exact recs_snocE rfl | exact map_snocE rfl | exact congrArg (fun v => [v]) (gslE rfl rfl (by first | rfl | exact ‹_› | omega | (simp ; first | done | omega)) (by first | rfl | exact ‹_› | omega | (simp ; first | done | omega)) rfl)))))) | with_reducible apply Take.drop)) ?_
          rintro ⟨j, v, W⟩ ⟨hj, ⟨hv0, hvW, hWT⟩, he2⟩
          dsimp only at hj hv0 hvW hWT he2 ⊢
          by_cases hji : j < i
          · rw [show i - j = (i - (j + 1)) + 1 by omega] at hWT he2
            have he2 : vacc l (i - (j + 1)) (j + 1 + 1) (v * 256 + bat l ((j : Int) + 1)) = R := he2
            rw [Int.pow_succ, Int.mul_comm (256 ^ (i - (j + 1))) 256, ← Int.mul_assoc] at hWT
            have hp1 : (1 : Int) ≤ 256 ^ (i - (j + 1)) := one_le_256 _
            have hle := Int.mul_le_mul_of_nonneg_left hp1 (show 0 ≤ W * 256 by omega)
            rw [hWT] at hle
            have hb := bat_255 l ((j : Int) + 1)
            have hshl : IntKind.u64.wrap (v * 2 ^ (min (Int.toNat 8) IntKind.u64.bits)) = v * 256 := by
              rw [show (2 : Int) ^ (min (Int.toNat 8) IntKind.u64.bits) = 256 from rfl]
              exact IntWalk.u64_in _ (by omega)
            have hor := or256 (v := v) (b := bat l ((j : Int) + 1)) (by omega) (by omega)
            repeat' (first | apply w_seq | apply w_region | apply o_nil | (apply o_g tyOk; exact rfl; exact rfl) | (apply o_ar tyOk; exact rfl; exact rfl) | (apply o_load tyOk; (iterate 3 exact rfl); (focus (exact pk))) | (apply w_dT; exact rfl; (focus (first | exact ‹_› | with_reducible exact rfl | omega))) | apply thenS_normal | apply blockS_normal | apply w_skip | apply w_block | ((with_reducible apply Sd.mk); (first | exact True.intro | omega | (constructor <;> first | omega | (unfold maxLen; omega)) | (unfold maxLen; omega))) | ((with_reducible apply Ln.mk); (first | rfl | exact ‹_› | omega | (simp ; first | done | omega))) | ((with_reducible apply Wr.mk); (first | exact hshl | exact hor | exact IntWalk.i64_in _ (by omega) | exact IntWalk.u8_in _ (by omega) | exact IntWalk.u32_in _ (by omega) | exact IntWalk.u64_in _ (by omega) | exact IntKind.wrap_u8 _ | exact IntKind.wrap_u32 _ | rfl)) | ((with_reducible apply Ce.mk); (first | rfl | exact ‹_› | exact cell_recZ (fun _ => rfl) (by omega) (by decide) rfl | exact cell_rec (fun _ => rfl) (by omega) (by decide) rfl | exact cell_bytes (by omega) | exact cell_mapZ (by omega) | exact cell_map (by omega))) | exact True.intro | exact rfl)
            all_goals first
              | (exfalso; omega)
              | exact ⟨(j + 1, v * 256 + bat l ((j : Int) + 1), W * 256), ⟨hji, ⟨by dsimp only; omega, by dsimp only; omega, hWT⟩, he2⟩, by show i - (j + 1) < i - j; omega, (by repeat' (first | exact trivial | refine ⟨rfl, ?_⟩ | refine ⟨congrArg some ?_, ?_⟩)), (by repeat (first | with_reducible exact Take.nil | with_reducible apply Take.c | ((with_reducible apply Take.cE); (first | exact rfl | (apply blkE; (focus (first | exact rfl | exact recs_snocE rfl | exact map_snocE rfl | exact congrArg (fun v => [v]) (gslE rfl rfl (by first | rfl | exact ‹_› | omega | (simp ; first | done | omega)) (by first | rfl | exact ‹_› | omega | (simp ; first | done | omega)) rfl)))))) | with_reducible apply Take.drop))⟩
              | trace_state
          · obtain rfl : j = i := by omega
            rw [Nat.sub_self] at hWT he2
            rw [Int.pow_zero, Int.mul_one] at hWT
            have he2 : v = R := he2
            rw [← he2]
            repeat' (first | apply w_seq | apply w_region | apply o_nil | (apply o_g tyOk; exact rfl; exact rfl) | (apply o_ar tyOk; exact rfl; exact rfl) | (apply o_call; exact rfl; exact rfl; (focus (first | exact rfl | assumption)); exact rfl; (focus (exact ⟨_, hBo _, by repeat (first | with_reducible exact Take.nil | with_reducible apply Take.c | with_reducible apply Take.drop)⟩)); rintro _ _ ⟨rfl, rfl⟩) | (apply w_dF; exact rfl; (focus (first | exact ‹_› | with_reducible exact rfl | omega))) | (apply w_if; exact rfl; all_goals intro hc) | apply thenS_normal | apply thenS_ret | apply thenS_exit | apply blockS_exit | apply w_skip | apply w_ret | apply w_exit | ((with_reducible apply Sd.mk); (first | exact True.intro | omega | (constructor <;> first | omega | (unfold maxLen; omega)) | (unfold maxLen; omega))) | ((with_reducible apply Wr.mk); (first | exact IntWalk.i64_in _ (by omega) | exact IntWalk.u8_in _ (by omega) | exact IntWalk.u32_in _ (by omega) | exact IntWalk.u64_in _ (by omega) | exact IntKind.wrap_u8 _ | exact IntKind.wrap_u32 _ | rfl)))
            all_goals first
              | (exfalso; omega)
              | (rw [if_pos (by assumption)]; (apply s_fin; (exact (show ResS _ _ _ _ [_, _, _] from ⟨rfl, ⟨rfl, ⟨rfl, trivial⟩⟩⟩)); (focus (exact ⟨rfl, rfl⟩)); (focus (repeat (first | with_reducible exact Take.nil | with_reducible apply Take.c | ((with_reducible apply Take.cE); (first | exact rfl | (apply blkE; (focus (first | exact rfl | exact recs_snocE rfl | exact map_snocE rfl | exact congrArg (fun v => [v]) (gslE rfl rfl (by first | rfl | exact ‹_› | omega | (simp ; first | done | omega)) (by first | rfl | exact ‹_› | omega | (simp ; first | done | omega)) rfl)))))) | with_reducible apply Take.drop)))))
              | (rw [if_neg (by assumption)]; (apply s_fin; (exact (show ResS _ _ _ _ [_, _, _] from ⟨rfl, ⟨rfl, ⟨rfl, trivial⟩⟩⟩)); (focus (exact ⟨rfl, rfl⟩)); (focus (repeat (first | with_reducible exact Take.nil | with_reducible apply Take.c | ((with_reducible apply Take.cE); (first | exact rfl | (apply blkE; (focus (first | exact rfl | exact recs_snocE rfl | exact map_snocE rfl | exact congrArg (fun v => [v]) (gslE rfl rfl (by first | rfl | exact ‹_› | omega | (simp ; first | done | omega)) (by first | rfl | exact ‹_› | omega | (simp ; first | done | omega)) rfl)))))) | with_reducible apply Take.drop)))))
              | trace_state
end Go.Proofs.Ytinfmojbdaiogaa
end
section
set_option linter.unusedVariables false
set_option linter.unusedSimpArgs false
set_option maxRecDepth 4000
namespace Go.Proofs.Ytinfmojbdaiogaa
open Go.Gh Go.RowKit

theorem same_any (x : Int) (h : SH) : SRun Try.prog 104 [I x] h fun r q => r = I x ∧ q = h := by
  refine w_body1 Try.func104 rfl rfl ?_
  repeat' (first | apply w_seq | apply w_region | apply o_nil | (apply o_g tyOk; exact rfl; exact rfl) | apply thenS_normal | apply w_ret | ((with_reducible apply Sd.mk); (first | exact True.intro | omega | (constructor <;> first | omega | (unfold maxLen; omega)) | (unfold maxLen; omega))))
  all_goals first
    | (apply s_fin; (exact (show ResS _ _ _ _ [_] from ⟨rfl, trivial⟩)); (focus (exact ⟨rfl, rfl⟩)); (focus (repeat (first | with_reducible exact Take.nil | with_reducible apply Take.c | ((with_reducible apply Take.cE); (first | exact rfl | (apply blkE; (focus (first | exact rfl | exact recs_snocE rfl | exact map_snocE rfl | exact congrArg (fun v => [v]) (gslE rfl rfl (by first | rfl | exact ‹_› | omega | (simp ; first | done | omega)) (by first | rfl | exact ‹_› | omega | (simp ; first | done | omega)) rfl)))))) | with_reducible apply Take.drop))))
    | trace_state
/-- What a reader without an error reads: number, rest, error. -/
def rdN (l : List UInt8) (m : Int) : Int × List UInt8 × Int :=
  if (vpeek l).2.2 = false then (0, l, 12) else if (vpeek l).1 < 0 ∨ m < (vpeek l).1 then (0, l, 2) else ((vpeek l).1, l.drop (vpeek l).2.1.toNat, 0)
theorem vpeek_len (l : List UInt8) : 0 ≤ (vpeek l).2.1 ∧ (vpeek l).2.1 ≤ l.length := by
  unfold vpeek
  split
  · simp
  · split
    · simp
    · split
      · simp
      · dsimp only; omega
theorem read_any (n : Nat) (l : List UInt8) (m : Int) (h : SH) (hl : l.length ≤ 100000) : SRun Try.prog 103 [gptr n 0 2, .func (.func 104) ⟨[]⟩ ⟨[]⟩, I 0, I m] (rdB n l 0 :: h) fun r q =>
    r = I (rdN l m).1 ∧ q = rdB n (rdN l m).2.1 (rdN l m).2.2 :: h := by
  have hP := peek_any n l 0 h hl
  have hlen := vpeek_len l
  unfold rdN
  generalize vpeek l = V at *
  obtain ⟨a, s, ok⟩ := V
  dsimp only at *
  by_cases h0 : ok = false
  · subst h0
    rw [if_pos rfl]
    refine w_body4 Try.func103 rfl rfl ?_
    repeat' (first | apply w_seq | apply w_region | apply o_nil | (apply o_g tyOk; exact rfl; exact rfl) | (apply o_notB; exact rfl; exact rfl) | (apply o_load tyOk; (iterate 3 exact rfl); (focus (exact pk))) | (apply o_call; exact rfl; exact rfl; (focus (first | exact rfl | assumption)); exact rfl; (focus (exact ⟨_, hP, by repeat (first | with_reducible exact Take.nil | with_reducible apply Take.c | with_reducible apply Take.drop)⟩)); rintro _ _ ⟨rfl, rfl⟩) | (apply o_call; exact rfl; exact rfl; (focus (first | exact rfl | assumption)); exact rfl; (focus (exact ⟨_, same_any _ _, by repeat (first | with_reducible exact Take.nil | with_reducible apply Take.c | with_reducible apply Take.drop)⟩)); rintro _ _ ⟨rfl, rfl⟩) | (apply o_call; exact rfl; exact rfl; (focus (first | exact rfl | assumption)); exact rfl; (focus (exact ⟨_, rfail_any _ _ _ _ _, by repeat (first | with_reducible exact Take.nil | with_reducible apply Take.c | with_reducible apply Take.drop)⟩)); rintro _ _ rfl) | (apply w_true; exact rfl) | (apply w_false; exact rfl) | apply thenS_normal | apply blockS_normal | apply w_skip | apply w_ret | apply w_block | ((with_reducible apply Sd.mk); (first | exact True.intro | omega | (constructor <;> first | omega | (unfold maxLen; omega)) | (unfold maxLen; omega))) | ((with_reducible apply Ln.mk); (first | rfl | exact ‹_› | omega | (simp ; first | done | omega))) | ((with_reducible apply Ce.mk); (first | rfl | exact ‹_› | exact cell_recZ (fun _ => rfl) (by omega) (by decide) rfl | exact cell_rec (fun _ => rfl) (by omega) (by decide) rfl | exact cell_bytes (by omega) | exact cell_mapZ (by omega) | exact cell_map (by omega))) | exact True.intro | exact rfl)
    all_goals first
      | contradiction
      | (exfalso; omega)
      | (apply s_fin; (exact (show ResS _ _ _ _ [_] from ⟨rfl, trivial⟩)); (focus (exact ⟨rfl, rfl⟩)); (focus (repeat (first | with_reducible exact Take.nil | with_reducible apply Take.c | ((with_reducible apply Take.cE); (first | exact rfl | (apply blkE; (focus (first | exact rfl | exact recs_snocE rfl | exact map_snocE rfl | exact congrArg (fun v => [v]) (gslE rfl rfl (by first | rfl | exact ‹_› | omega | (simp ; first | done | omega)) (by first | rfl | exact ‹_› | omega | (simp ; first | done | omega)) rfl)))))) | with_reducible apply Take.drop))))
      | trace_state
  · obtain rfl : ok = true := by simpa using h0
    rw [if_neg (by decide)]
    by_cases h1 : a < 0 ∨ m < a
    · rw [if_pos h1]
      refine w_body4 Try.func103 rfl rfl ?_
      repeat' (first | apply w_seq | apply w_region | apply o_nil | (apply o_g tyOk; exact rfl; exact rfl) | (apply o_notB; exact rfl; exact rfl) | (apply o_load tyOk; (iterate 3 exact rfl); (focus (exact pk))) | (apply o_call; exact rfl; exact rfl; (focus (first | exact rfl | assumption)); exact rfl; (focus (exact ⟨_, hP, by repeat (first | with_reducible exact Take.nil | with_reducible apply Take.c | with_reducible apply Take.drop)⟩)); rintro _ _ ⟨rfl, rfl⟩) | (apply o_call; exact rfl; exact rfl; (focus (first | exact rfl | assumption)); exact rfl; (focus (exact ⟨_, same_any _ _, by repeat (first | with_reducible exact Take.nil | with_reducible apply Take.c | with_reducible apply Take.drop)⟩)); rintro _ _ ⟨rfl, rfl⟩) | (apply o_call; exact rfl; exact rfl; (focus (first | exact rfl | assumption)); exact rfl; (focus (exact ⟨_, rfail_any _ _ _ _ _, by repeat (first | with_reducible exact Take.nil | with_reducible apply Take.c | with_reducible apply Take.drop)⟩)); rintro _ _ rfl) | (apply o_want; exact rfl; exact rfl) | (apply o_skip; iterate 4 exact rfl) | (apply o_guardF; (iterate 3 exact rfl); all_goals intro hc) | (apply w_true; exact rfl) | (apply w_false; exact rfl) | (apply w_dT; exact rfl; (focus (first | exact ‹_› | with_reducible exact rfl | omega))) | apply thenS_normal | apply blockS_normal | apply w_skip | apply w_ret | apply w_block | ((with_reducible apply Sd.mk); (first | exact True.intro | omega | (constructor <;> first | omega | (unfold maxLen; omega)) | (unfold maxLen; omega))) | ((with_reducible apply Ln.mk); (first | rfl | exact ‹_› | omega | (simp ; first | done | omega))) | ((with_reducible apply Ce.mk); (first | rfl | exact ‹_› | exact cell_recZ (fun _ => rfl) (by omega) (by decide) rfl | exact cell_rec (fun _ => rfl) (by omega) (by decide) rfl | exact cell_bytes (by omega) | exact cell_mapZ (by omega) | exact cell_map (by omega))) | exact True.intro | exact rfl)
      all_goals first
        | contradiction
        | (exfalso; omega)
        | (apply s_fin; (exact (show ResS _ _ _ _ [_] from ⟨rfl, trivial⟩)); (focus (exact ⟨rfl, rfl⟩)); (focus (repeat (first | with_reducible exact Take.nil | with_reducible apply Take.c | ((with_reducible apply Take.cE); (first | exact rfl | (apply blkE; (focus (first | exact rfl | exact recs_snocE rfl | exact map_snocE rfl | exact congrArg (fun v => [v]) (gslE rfl rfl (by first | rfl | exact ‹_› | omega | (simp ; first | done | omega)) (by first | rfl | exact ‹_› | omega | (simp ; first | done | omega)) rfl)))))) | with_reducible apply Take.drop))))
        | trace_state
    · rw [if_neg h1]
      refine w_body4 Try.func103 rfl rfl ?_
      repeat' (first | apply w_seq | apply w_region | apply o_nil | (apply o_g tyOk; exact rfl; exact rfl) | (apply o_notB; exact rfl; exact rfl) | (apply o_load tyOk; (iterate 3 exact rfl); (focus (exact pk))) | (apply o_store tyOk; (iterate 4 exact rfl); (focus (exact up))) | (apply o_call; exact rfl; exact rfl; (focus (first | exact rfl | assumption)); exact rfl; (focus (exact ⟨_, hP, by repeat (first | with_reducible exact Take.nil | with_reducible apply Take.c | with_reducible apply Take.drop)⟩)); rintro _ _ ⟨rfl, rfl⟩) | (apply o_call; exact rfl; exact rfl; (focus (first | exact rfl | assumption)); exact rfl; (focus (exact ⟨_, same_any _ _, by repeat (first | with_reducible exact Take.nil | with_reducible apply Take.c | with_reducible apply Take.drop)⟩)); rintro _ _ ⟨rfl, rfl⟩) | (apply o_want; exact rfl; exact rfl) | (apply o_gF; (iterate 3 exact rfl); (focus (first | exact ‹_› | with_reducible exact rfl | omega))) | (apply w_false; exact rfl) | (apply w_dF; exact rfl; (focus (first | exact ‹_› | with_reducible exact rfl | omega))) | apply thenS_normal | apply thenS_ret | apply blockS_ret | apply w_skip | apply w_ret | apply w_block | ((with_reducible apply Sd.mk); (first | exact True.intro | omega | (constructor <;> first | omega | (unfold maxLen; omega)) | (unfold maxLen; omega))) | ((with_reducible apply Ln.mk); (first | rfl | exact ‹_› | omega | (simp ; first | done | omega))) | ((with_reducible apply Ce.mk); (first | rfl | exact ‹_› | exact cell_recZ (fun _ => rfl) (by omega) (by decide) rfl | exact cell_rec (fun _ => rfl) (by omega) (by decide) rfl | exact cell_bytes (by omega) | exact cell_mapZ (by omega) | exact cell_map (by omega))) | ((with_reducible apply Se.mk); (first | (focus ((repeat (first | exact SetAt.zero | apply SetAt.succ)); done)) | exact setAt_bytes (by omega) (by omega) | exact setAt_mapZ (by omega) | exact setAt_map (by omega))) | exact True.intro | exact rfl)
      all_goals first
        | contradiction
        | (exfalso; omega)
        | (apply s_fin; (exact (show ResS _ _ _ _ [_] from ⟨rfl, trivial⟩)); (focus (exact ⟨rfl, rfl⟩)); (focus (repeat (first | with_reducible exact Take.nil | with_reducible apply Take.c | ((with_reducible apply Take.cE); (first | exact rfl | (apply blkE; (focus (first | exact rfl | exact recs_snocE rfl | exact map_snocE rfl | exact congrArg (fun v => [v]) (gslE rfl rfl (by first | rfl | exact ‹_› | omega | (simp ; first | done | omega)) (by first | rfl | exact ‹_› | omega | (simp ; first | done | omega)) rfl)))))) | with_reducible apply Take.drop))))
        | trace_state
theorem rNumber_any (n : Nat) (l : List UInt8) (m : Int) (h : SH) (hl : l.length ≤ 100000) : SRun Try.prog 79 [gptr n 0 2, I m] (rdB n l 0 :: h) fun r q =>
    r = I (rdN l m).1 ∧ q = rdB n (rdN l m).2.1 (rdN l m).2.2 :: h := by
  have hR := read_any n l m h hl
  generalize rdN l m = V at *
  refine w_body2 Try.func79 rfl rfl ?_
  repeat' (first | apply w_seq | apply w_region | apply o_nil | (apply o_g tyOk; exact rfl; exact rfl) | (apply o_call; exact rfl; exact rfl; (focus (first | exact rfl | assumption)); exact rfl; (focus (exact ⟨_, hR, by repeat (first | with_reducible exact Take.nil | with_reducible apply Take.c | with_reducible apply Take.drop)⟩)); rintro _ _ ⟨rfl, rfl⟩) | apply thenS_normal | apply w_ret | ((with_reducible apply Sd.mk); (first | exact True.intro | omega | (constructor <;> first | omega | (unfold maxLen; omega)) | (unfold maxLen; omega))))
  all_goals first
    | (apply s_fin; (exact (show ResS _ _ _ _ [_] from ⟨rfl, trivial⟩)); (focus (exact ⟨rfl, rfl⟩)); (focus (repeat (first | with_reducible exact Take.nil | with_reducible apply Take.c | ((with_reducible apply Take.cE); (first | exact rfl | (apply blkE; (focus (first | exact rfl | exact recs_snocE rfl | exact map_snocE rfl | exact congrArg (fun v => [v]) (gslE rfl rfl (by first | rfl | exact ‹_› | omega | (simp ; first | done | omega)) (by first | rfl | exact ‹_› | omega | (simp ; first | done | omega)) rfl)))))) | with_reducible apply Take.drop))))
    | trace_state
end Go.Proofs.Ytinfmojbdaiogaa
end
section
set_option linter.unusedVariables false
set_option linter.unusedSimpArgs false
set_option maxRecDepth 4000
namespace Go.Proofs.Ytinfmojbdaiogaa
open Go.Gh Go.RowKit

/-- k bytes, one after the other: the bytes, the decoder behind them. -/
def bdecN : Nat → List Int → Int → Dec → List UInt8 × Dec
  | 0, _, _, d => ([], d)
  | k + 1, P, c, d => (b8 (bdec P c d).2.2 :: (bdecN k (bdec P c d).1 (bdec P c d).2.2 (bdec P c d).2.1).1, (bdecN k (bdec P c d).1 (bdec P c d).2.2 (bdec P c d).2.1).2)
theorem bdec_ok {P : List Int} {c : Int} {d : Dec} (h : DecOk d) (hP : P.length = 2048) (hc : 0 ≤ c ∧ c ≤ 255) : DecOk (bdec P c d).2.1 ∧ (bdec P c d).1.length = 2048 ∧ 0 ≤ (bdec P c d).2.2 ∧ (bdec P c d).2.2 ≤ 255 := by
  have hk : (c / 32).toNat < 8 := by omega
  obtain ⟨h1, h2, h3⟩ := tdec_ok (k := 8) (t := bsel P (c / 32).toNat) (j := 1) h
  have h28 : (2 ^ 8 : Nat) = 256 := rfl
  rw [h28] at h3
  refine ⟨h1, bput_len hP hk (by rw [h2]; exact bsel_len hP hk), Int.natCast_nonneg _, ?_⟩
  show (((tdec 8 (bsel P (c / 32).toNat) d 1).2.2 - 256 : Nat) : Int) ≤ 255
  omega
end Go.Proofs.Ytinfmojbdaiogaa
end
section
set_option linter.unusedVariables false
set_option linter.unusedSimpArgs false
set_option maxRecDepth 4000
namespace Go.Proofs.Ytinfmojbdaiogaa
open Go.Gh Go.RowKit

theorem norm_out : ∀ (k : Nat) (e : Enc), e.out.length ≤ (norm k e).out.length
  | 0, e => Nat.le_refl _
  | k + 1, e => by
    unfold norm
    split
    · have := norm_out k (eshift e)
      have h2 : (eshift e).out.length = e.out.length + 1 := by show (e.out ++ [_]).length = _; simp
      omega
    · exact Nat.le_refl _
theorem fin_len (e : Enc) : (fin e).length = e.out.length + 4 := by unfold fin; rw [List.length_append]; rfl
abbrev e00 : Enc := ⟨[], 0, 4294967295⟩
theorem EncB.re {n : Nat} {h h' p : SH} {e : Enc} (hb : EncB n h e p) (t : Take h h') : ∃ p', EncB n h' e p' ∧ Take p p' := by
  cases hb with
  | nil => exact ⟨_, .nil _ _, .cons .head t⟩
  | some => exact ⟨_, .some _ _ _ _, .cons .head (.cons .head t)⟩
theorem EncB.push {n : Nat} {h p : SH} {e : Enc} (hb : EncB n h e p) (x : Nat × Blk) : ∃ p', EncB n (x :: h) e p' ∧ Take (x :: p) p' := by
  cases hb with
  | nil => exact ⟨_, .nil _ _, .cons (.tail .head) .nil⟩
  | some => exact ⟨_, .some _ _ _ _, .cons (.tail .head) (.cons (.tail .head) .nil)⟩
theorem EncR.re {n : Nat} {p p' : SH} {e : Enc} (hr : EncR n p' e) (t : Take p p') : EncR n p e := by
  cases hr with
  | nil _ _ _ hp => obtain ⟨p1, g, _⟩ := t.pick hp; exact .nil _ _ _ g
  | some _ _ _ _ _ _ hp ha => obtain ⟨p1, g, _⟩ := t.pick hp; obtain ⟨p2, g2, _⟩ := t.pick ha; exact .some _ _ _ _ _ _ g g2
/-- Two encoders, in any order, over other blocks. -/
def E2 (n m : Nat) (h : SH) (e e2 : Enc) (p : SH) : Prop := ∃ q1 p', EncB m h e2 q1 ∧ EncB n q1 e p' ∧ Take p p'
theorem E2.swap {n m : Nat} {h p : SH} {e e2 : Enc} (k : E2 n m h e e2 p) : E2 m n h e2 e p := by
  obtain ⟨q1, p', h1, h2, t⟩ := k
  obtain ⟨r1, r, g1, g2, t2⟩ := h1.swap h2
  exact ⟨r1, r, g1, g2, t.trans t2⟩
theorem E2.re {n m : Nat} {h h' p : SH} {e e2 : Enc} (k : E2 n m h e e2 p) (t : Take h h') : E2 n m h' e e2 p := by
  obtain ⟨q1, p', h1, h2, t1⟩ := k
  obtain ⟨r1, g1, t2⟩ := h1.re t
  obtain ⟨r, g2, t3⟩ := h2.re t2
  exact ⟨r1, r, g1, g2, t1.trans t3⟩
theorem E2.push {n m : Nat} {h p : SH} {e e2 : Enc} (k : E2 n m h e e2 p) (x : Nat × Blk) : E2 n m (x :: h) e e2 (x :: p) := by
  obtain ⟨q1, p', h1, h2, t1⟩ := k
  obtain ⟨r1, g1, t2⟩ := h1.push x
  obtain ⟨r, g2, t3⟩ := h2.push x
  obtain ⟨r', g3, t4⟩ := g2.re t2
  exact ⟨r1, r', g1, g3, (Take.trans (h1 := x :: p') (by obtain ⟨A, b⟩ := x; exact .cons .head t1) t3).trans t4⟩
theorem E2.pick {n m : Nat} {h p : SH} {e e2 : Enc} (k : E2 n m h e e2 p) {A : Nat} {b : Blk} {h1 : SH} (hp : Pick h A b h1) : ∃ p1, Pick p A b p1 := by
  obtain ⟨q1, p', g1, g2, t1⟩ := k
  obtain ⟨r1, hp1⟩ := g1.pick hp
  obtain ⟨r2, hp2⟩ := g2.pick hp1
  obtain ⟨r3, hp3, _⟩ := t1.pick hp2
  exact ⟨r3, hp3⟩
theorem E2.r {n m : Nat} {h p : SH} {e e2 : Enc} (k : E2 n m h e e2 p) : EncR n p e := by
  obtain ⟨q1, p', g1, g2, t1⟩ := k
  exact g2.r.re t1
theorem E2.take {n m : Nat} {h p : SH} {e e2 : Enc} (k : E2 n m h e e2 p) : Take p h := by
  obtain ⟨q1, p', g1, g2, t1⟩ := k
  exact t1.trans (g2.take.trans g1.take)
end Go.Proofs.Ytinfmojbdaiogaa
end
section
set_option linter.unusedVariables false
set_option linter.unusedSimpArgs false
set_option maxRecDepth 4000
namespace Go.Proofs.Ytinfmojbdaiogaa
open Go.Gh Go.RowKit

structure Sz (N : Nat) (s k : Nat) : Prop where
  hi : s * 16384 ^ N ≤ 4294967295 * 256 ^ k * 8193 ^ N
  lo : 4294967295 * 256 ^ k * 8191 ^ N ≤ s * 16384 ^ N
theorem Sz.shift {N s k : Nat} (h : Sz N s k) : Sz N (s * 256) (k + 1) := by
  have e1 : ∀ c, 4294967295 * 256 ^ (k + 1) * c ^ N = 256 * (4294967295 * 256 ^ k * c ^ N) := fun c => by
    rw [Nat.pow_succ, Nat.mul_comm (256 ^ k) 256, ← Nat.mul_assoc, Nat.mul_comm 4294967295 256, Nat.mul_assoc 256, Nat.mul_assoc 256]
  have e2 : s * 256 * 16384 ^ N = 256 * (s * 16384 ^ N) := by rw [Nat.mul_comm s 256, Nat.mul_assoc]
  refine ⟨?_, ?_⟩
  · rw [e1, e2]; exact Nat.mul_le_mul_left _ h.hi
  · rw [e1, e2]; exact Nat.mul_le_mul_left _ h.lo
theorem sz0 : Sz 0 4294967295 0 := ⟨by decide, by decide⟩
theorem pow_small {a b : Nat} (hab : a ≤ b) (h : b ^ 1000 < 2 * a ^ 1000) {N : Nat} (hN : N ≤ 1000) : b ^ N < 2 * a ^ N := by
  rcases Nat.lt_or_ge (b ^ N) (2 * a ^ N) with k | k
  · exact k
  · exfalso
    have h1 : a ^ (1000 - N) ≤ b ^ (1000 - N) := Nat.pow_le_pow_left hab _
    have h2 := Nat.mul_le_mul k h1
    rw [Nat.mul_assoc, ← Nat.pow_add, ← Nat.pow_add, show N + (1000 - N) = 1000 by omega] at h2
    omega
theorem Sz.len {N s k : Nat} (h : Sz N s k) (hN : N ≤ 1000) (h1 : 16777216 ≤ s) (h2 : s ≤ 4294967295) : N / 8 ≤ k + 1 ∧ k ≤ N / 8 := by
  have p1 : 8193 ^ N < 2 * 8192 ^ N := pow_small (by decide) (by decide +kernel) hN
  have p2 : 8192 ^ N < 2 * 8191 ^ N := pow_small (by decide) (by decide +kernel) hN
  have e : 16384 ^ N = 2 ^ N * 8192 ^ N := by rw [← Nat.mul_pow]
  have e256 : 256 ^ k = 2 ^ (8 * k) := by rw [Nat.pow_mul]
  have a1 := h.hi
  have a2 := h.lo
  rw [e, e256] at a1 a2
  have q : 0 < 8192 ^ N := Nat.pow_pos (by decide)
  have q' : 0 < 8191 ^ N := Nat.pow_pos (by decide)
  generalize 8192 ^ N = x at *
  generalize 8193 ^ N = y at *
  generalize 8191 ^ N = z at *
  have b1 : 2 ^ N < 2 ^ (8 * k + 9) := by
    have c1 : 16777216 * (2 ^ N * x) ≤ s * (2 ^ N * x) := Nat.mul_le_mul_right _ h1
    have c2 : 4294967295 * 2 ^ (8 * k) * y ≤ 4294967295 * 2 ^ (8 * k) * (2 * x) := Nat.mul_le_mul_left _ (by omega)
    rcases Nat.lt_or_ge (2 ^ N) (2 ^ (8 * k + 9)) with g | g
    · exact g
    · exfalso
      have c3 : 16777216 * (2 ^ (8 * k + 9) * x) ≤ 16777216 * (2 ^ N * x) := Nat.mul_le_mul_left _ (Nat.mul_le_mul_right _ g)
      have c4 : 2 ^ (8 * k + 9) * x = 512 * (2 ^ (8 * k) * x) := by rw [Nat.pow_add, Nat.mul_comm (2 ^ (8 * k)), Nat.mul_assoc]
      have c5 : 4294967295 * 2 ^ (8 * k) * (2 * x) = 8589934590 * (2 ^ (8 * k) * x) := by rw [Nat.mul_left_comm, ← Nat.mul_assoc, ← Nat.mul_assoc, ← Nat.mul_assoc]
      have c6 : 0 < 2 ^ (8 * k) * x := Nat.mul_pos (Nat.pow_pos (by decide)) q
      omega
  have b2 : 2 ^ (8 * k) < 2 ^ (N + 1) := by
    have c1 : s * (2 ^ N * x) ≤ 4294967295 * (2 ^ N * x) := Nat.mul_le_mul_right _ h2
    have c2 : 2 ^ N * x < 2 ^ N * (2 * z) := Nat.mul_lt_mul_of_pos_left p2 (Nat.pow_pos (by decide))
    have c3 : 4294967295 * 2 ^ (8 * k) * z = 4294967295 * (2 ^ (8 * k) * z) := Nat.mul_assoc _ _ _
    have c4 : 2 ^ N * (2 * z) = 2 ^ (N + 1) * z := by rw [Nat.pow_succ, Nat.mul_assoc]
    have c5 : 2 ^ (8 * k) * z < 2 ^ (N + 1) * z := by omega
    exact Nat.lt_of_mul_lt_mul_right c5
  have d1 := (Nat.pow_lt_pow_iff_right (by decide : 1 < 2)).1 b1
  have d2 := (Nat.pow_lt_pow_iff_right (by decide : 1 < 2)).1 b2
  omega

abbrev boF (b : Bool) : List Value := [B b]
theorem boW (b : Bool) : (boF b).length = 1 := rfl
@[simp] theorem len_bos (l : List Bool) : (recs boF l).length = l.length := by rw [recs_len boW]; omega
end Go.Proofs.Ytinfmojbdaiogaa
end
section
set_option linter.unusedVariables false
set_option linter.unusedSimpArgs false
set_option maxRecDepth 4000
namespace Go.Proofs.Ytinfmojbdaiogaa
open Go.Gh Go.RowKit

def val (l : List UInt8) : Nat := l.foldl (fun a c => a * 256 + c.toNat) 0
theorem foldl_val (l : List UInt8) : ∀ a : Nat, l.foldl (fun a c => a * 256 + c.toNat) a = a * 256 ^ l.length + val l := by
  induction l with
  | nil => intro a; simp [val]
  | cons c r ih =>
    intro a
    have h1 := ih (a * 256 + c.toNat)
    have h2 := ih (0 * 256 + c.toNat)
    simp only [List.foldl_cons, List.length_cons]
    rw [h1, show val (c :: r) = (0 * 256 + c.toNat) * 256 ^ r.length + val r from h2, Nat.pow_succ]
    rw [Nat.add_mul, Nat.zero_mul, Nat.zero_add, Nat.mul_assoc, Nat.mul_comm 256]
    omega
theorem val_app (l m : List UInt8) : val (l ++ m) = val l * 256 ^ m.length + val m := by
  show (l ++ m).foldl _ 0 = _
  rw [List.foldl_append, foldl_val m]; rfl
theorem val_one (c : UInt8) : val [c] = c.toNat := by simp [val]
theorem val_snoc (l : List UInt8) (c : UInt8) : val (l ++ [c]) = val l * 256 + c.toNat := by rw [val_app, val_one]; rfl
theorem val_cons (c : UInt8) (l : List UInt8) : val (c :: l) = c.toNat * 256 ^ l.length + val l := by
  have := val_app [c] l
  rw [val_one] at this; exact this
theorem val_lt : ∀ l : List UInt8, val l < 256 ^ l.length
  | [] => by decide
  | c :: r => by
    have h1 := val_lt r
    have h2 := c.toNat_lt
    rw [val_cons, List.length_cons, Nat.pow_succ]
    have h3 : c.toNat * 256 ^ r.length ≤ 255 * 256 ^ r.length := Nat.mul_le_mul_right _ (by omega)
    omega
theorem b8_nat {n : Int} (h : 0 ≤ n ∧ n < 256) : ((b8 n).toNat : Int) = n := b8_val h

theorem bat_mid (P R : List UInt8) (c : UInt8) : bat (P ++ c :: R) (P.length : Nat) = c.toNat := by
  unfold bat
  rw [Int.toNat_natCast, List.getD_eq_getElem?_getD, List.getElem?_append_right (Nat.le_refl _), Nat.sub_self]; rfl
theorem set_mid (P R : List UInt8) (c d : UInt8) : (P ++ c :: R).set P.length d = P ++ d :: R := by
  rw [List.set_append_right _ _ (Nat.le_refl _), Nat.sub_self]; rfl
/-- One more, where there is room for it. -/
theorem carryAt_val : ∀ (n : Nat) (P R : List UInt8), P.length = n → val P + 1 < 256 ^ n → ∃ P', carryAt (P ++ R) n = P' ++ R ∧ P'.length = n ∧ val P' = val P + 1
  | 0, P, R, h, hv => by simp at hv
  | n + 1, P, R, h, hv => by
    obtain ⟨Q, c, rfl⟩ : ∃ Q c, P = Q ++ [c] := ⟨P.dropLast, P.getLast (fun e => by subst e; simp at h), (List.dropLast_concat_getLast _).symm⟩
    have hQ : Q.length = n := by simpa using h
    subst hQ
    rw [List.append_assoc, List.singleton_append]
    have hc := c.toNat_lt
    unfold carryAt
    rw [bat_mid, set_mid]
    split
    · rename_i h1
      refine ⟨Q ++ [b8 (((c.toNat : Int) + 1) % 256)], by simp, by simp, ?_⟩
      rw [val_snoc, val_snoc]
      have := b8_nat (n := ((c.toNat : Int) + 1) % 256) (by omega)
      omega
    · rename_i h1
      have h2 : ((c.toNat : Int) + 1) % 256 = 0 := Classical.not_not.1 h1
      have h3 : c.toNat = 255 := by omega
      rw [val_snoc, Nat.pow_succ] at hv
      obtain ⟨Q', g1, g2, g3⟩ := carryAt_val Q.length Q (b8 (((c.toNat : Int) + 1) % 256) :: R) rfl (by omega)
      refine ⟨Q' ++ [b8 (((c.toNat : Int) + 1) % 256)], by rw [g1]; simp, by simp [g2], ?_⟩
      rw [val_snoc, val_snoc, g3]
      have := b8_nat (n := ((c.toNat : Int) + 1) % 256) (by omega)
      omega
theorem carry_val {l : List UInt8} (h : val l + 1 < 256 ^ l.length) : val (carry l) = val l + 1 := by
  obtain ⟨P, g1, g2, g3⟩ := carryAt_val l.length l [] rfl h
  rw [List.append_nil, List.append_nil] at g1
  unfold carry; rw [g1, g3]

/-- The lower end of an encoder's interval, in units of 256^-(4 + bytes). -/
def num' (e : Enc) : Int := (val e.out : Int) * 4294967296 + e.low
/-- The interval lies between 0 and 1. -/
def InB (e : Enc) : Prop := num' e + e.size ≤ 4294967296 * ((256 ^ e.out.length : Nat) : Int)
theorem fin_val {e : Enc} (h : 0 ≤ e.low ∧ e.low ≤ 4294967295) : (val (fin e) : Int) = num' e := by
  unfold fin num'
  rw [val_app]
  have h4 : val (tail4 e.low) = e.low.toNat := by
    unfold tail4
    rw [val_cons, val_cons, val_cons, val_one]
    have a1 := b8_nat (n := e.low / 16777216) (by omega)
    have a2 := b8_nat (n := e.low / 65536 % 256) (by omega)
    have a3 := b8_nat (n := e.low / 256 % 256) (by omega)
    have a4 := b8_nat (n := e.low % 256) (by omega)
    simp only [List.length_cons, List.length_nil]
    omega
  rw [h4, show (tail4 e.low).length = 4 from rfl]
  omega
theorem estep_num {n : Nat} {e : Enc} (hok : EncOk n e) (hi : InB e) (z b : Int) : num' (estep e z b) = num' e + (if b = 0 then 0 else bound e.size z) ∧ InB (estep e z b) ∧ (estep e z b).out.length = e.out.length ∧
    (estep e z b).size = if b = 0 then bound e.size z else e.size - bound e.size z := by
  have hd := size_dvd hok.size z
  have hl := hok.low
  unfold InB num' at hi
  unfold estep
  split
  · refine ⟨by unfold num'; dsimp only; omega, ?_, rfl, rfl⟩
    unfold InB num'; dsimp only; omega
  · split
    · have hlt : val e.out + 1 < 256 ^ e.out.length := by
        generalize 256 ^ e.out.length = w at *; omega
      have hc := carry_val hlt
      refine ⟨by unfold num'; dsimp only; rw [hc]; omega, ?_, carry_len _, rfl⟩
      unfold InB num'; dsimp only; rw [hc, carry_len]; omega
    · refine ⟨by unfold num'; dsimp only; omega, ?_, rfl, rfl⟩
      unfold InB num'; dsimp only; omega
theorem eshift_num {e : Enc} (h : 0 ≤ e.low ∧ e.low ≤ 4294967295) : num' (eshift e) = num' e * 256 ∧ (eshift e).out.length = e.out.length + 1 ∧ (eshift e).size = e.size * 256 := by
  refine ⟨?_, by show (e.out ++ [_]).length = _; simp, rfl⟩
  show (val (e.out ++ [_]) : Int) * 4294967296 + e.low * 256 % 4294967296 = ((val e.out : Int) * 4294967296 + e.low) * 256
  rw [val_snoc]
  have := b8_nat (n := e.low / 16777216) (by omega)
  omega
end Go.Proofs.Ytinfmojbdaiogaa
end
section
set_option linter.unusedVariables false
set_option linter.unusedSimpArgs false
set_option maxRecDepth 4000
namespace Go.Proofs.Ytinfmojbdaiogaa
open Go.Gh Go.RowKit

/-- The decoder of D stands where the encoder stands. -/
structure Syn (D : List UInt8) (e : Enc) (d : Dec) : Prop where
  size : d.size = e.size
  len : e.out.length + 4 ≤ D.length
  rest : d.rest = D.drop (e.out.length + 4)
  miss : d.missing = false
  code : d.code = (val (D.take (e.out.length + 4)) : Int) - num' e
  rng : 0 ≤ d.code ∧ d.code < d.size
theorem dstep_syn {D : List UInt8} {n : Nat} {e : Enc} {d : Dec} (s : Syn D e d) (hok : EncOk n e) (hi : InB e) (z b : Int) (hb : b = 0 ↔ (dstep d z).2 = 0) : Syn D (estep e z b) (dstep d z).1 := by
  obtain ⟨h1, h2, h3, h4⟩ := estep_num hok hi z b
  have hd := size_dvd hok.size z
  have hs := s.size
  have hr := s.rng
  have hc := s.code
  unfold dstep at hb ⊢
  rw [hs] at hb ⊢
  split at hb
  · rename_i hlt
    rw [if_pos hlt]
    have hb0 : b = 0 := hb.2 rfl
    rw [if_pos hb0] at h1 h4
    exact ⟨h4.symm, by rw [h3]; exact s.len, by rw [h3]; exact s.rest, s.miss, by rw [h3, h1]; dsimp only; omega, by dsimp only; omega⟩
  · rename_i hlt
    rw [if_neg hlt]
    have hb0 : ¬ b = 0 := fun h => by have := hb.1 h; cases this
    rw [if_neg hb0] at h1 h4
    exact ⟨h4.symm, by rw [h3]; exact s.len, by rw [h3]; exact s.rest, s.miss, by rw [h3, h1]; dsimp only; omega, by dsimp only; omega⟩
/-- A byte more. -/
theorem dnext_syn {D : List UInt8} {e : Enc} {d : Dec} (s : Syn D e d) (hl : 0 ≤ e.low ∧ e.low ≤ 4294967295) (hsz : e.size < 16777216) (hD : e.out.length + 5 ≤ D.length) : Syn D (eshift e) { dnext d with size := (dnext d).size * 256 } := by
  obtain ⟨h1, h2, h3⟩ := eshift_num hl
  have hlt : e.out.length + 4 < D.length := by omega
  have hr : d.rest = D[e.out.length + 4] :: D.drop (e.out.length + 4 + 1) := by rw [s.rest, List.drop_eq_getElem_cons hlt]
  have hc := (D[e.out.length + 4]).toNat_lt
  have hv : val (D.take (e.out.length + 5)) = val (D.take (e.out.length + 4)) * 256 + (D[e.out.length + 4]).toNat := by
    rw [← val_snoc, List.take_append_getElem hlt]
  have hsi := s.size
  have hrg := s.rng
  have hco := s.code
  obtain ⟨rest, code, size, missing, full⟩ := d
  dsimp only at hr hsi hrg hco
  subst hr
  have e5 : (eshift e).out.length + 4 = e.out.length + 5 := by omega
  refine ⟨by rw [h3, ← hsi]; rfl, by omega, ?_, s.miss, ?_, ?_⟩
  · show D.drop (e.out.length + 4 + 1) = _
    rw [e5]
  · show code * 256 % 4294967296 + ((D[e.out.length + 4]).toNat : Int) = _
    rw [e5, hv, h1]
    omega
  · show 0 ≤ code * 256 % 4294967296 + ((D[e.out.length + 4]).toNat : Int) ∧ code * 256 % 4294967296 + ((D[e.out.length + 4]).toNat : Int) < size * 256
    omega
theorem norm_len (k : Nat) (e : Enc) : e.out.length ≤ (norm k e).out.length := norm_out k e
theorem eshift_low (e : Enc) : 0 ≤ (eshift e).low ∧ (eshift e).low ≤ 4294967295 := by
  show 0 ≤ e.low * 256 % 4294967296 ∧ e.low * 256 % 4294967296 ≤ 4294967295; omega
theorem norm_syn {D : List UInt8} : ∀ (k : Nat) {e : Enc} {d : Dec}, Syn D e d → (0 ≤ e.low ∧ e.low ≤ 4294967295) → (norm k e).out.length + 4 ≤ D.length → Syn D (norm k e) (dnorm k d)
  | 0, _, _, s, _, _ => s
  | k + 1, e, d, s, hl, hD => by
    unfold norm at hD ⊢
    unfold dnorm
    rw [s.size]
    by_cases hc : e.size < 16777216
    · rw [if_pos hc] at hD ⊢
      rw [if_pos hc]
      have h2 : (eshift e).out.length = e.out.length + 1 := (eshift_num hl).2.1
      have h3 := norm_len k (eshift e)
      exact norm_syn k (dnext_syn s hl hc (by omega)) (eshift_low e) hD
    · rw [if_neg hc, if_neg hc]; exact s
theorem eshift_InB {e : Enc} (hl : 0 ≤ e.low ∧ e.low ≤ 4294967295) (h : InB e) : InB (eshift e) := by
  obtain ⟨h1, h2, h3⟩ := eshift_num hl
  unfold InB at h ⊢
  rw [h1, h2, h3, Nat.pow_succ]
  generalize 256 ^ e.out.length = w at *
  omega
theorem norm_InB (k : Nat) : ∀ {e : Enc}, (0 ≤ e.low ∧ e.low ≤ 4294967295) → InB e → InB (norm k e) := by
  induction k with
  | zero => intro e _ h; exact h
  | succ k ih =>
    intro e hl h
    unfold norm
    split
    · exact ih (eshift_low e) (eshift_InB hl h)
    · exact h
theorem ebit_InB {n : Nat} {e : Enc} (hok : EncOk n e) (hi : InB e) (z b : Int) : InB (ebit e z b) := norm_InB 2 (estep_ok hok z b).2.1 (estep_num hok hi z b).2.1
theorem ebit_syn {D : List UInt8} {n : Nat} {e : Enc} {d : Dec} (s : Syn D e d) (hok : EncOk n e) (hi : InB e) (z b : Int) (hb : b = 0 ↔ (dbit d z).2 = 0) (hD : (ebit e z b).out.length + 4 ≤ D.length) : Syn D (ebit e z b) (dbit d z).1 :=
  norm_syn 2 (dstep_syn s hok hi z b hb) (estep_ok hok z b).2.1 hD
theorem e00_InB : InB e00 := by unfold InB; decide
/-- The start. -/
theorem dnew_syn {D : List UInt8} (h4 : 4 ≤ D.length) (hf : (dnew D).full = false) : Syn D e00 (dnew D) := by
  match D, h4 with
  | a :: b :: c :: d :: r, _ =>
    have h1 := a.toNat_lt; have h2 := b.toNat_lt; have h3 := c.toNat_lt; have h5 := d.toNat_lt
    have hv : val [a, b, c, d] = ((a.toNat * 256 + b.toNat) * 256 + c.toNat) * 256 + d.toNat := by simp [val]
    have hcode : (dnew (a :: b :: c :: d :: r)).code = (val [a, b, c, d] : Int) := by
      rw [hv]
      show (((0 * 256 % 4294967296 + (a.toNat : Int)) * 256 % 4294967296 + (b.toNat : Int)) * 256 % 4294967296 + (c.toNat : Int)) * 256 % 4294967296 + (d.toNat : Int) = _
      omega
    have hne : (dnew (a :: b :: c :: d :: r)).code ≠ 4294967295 := fun h => by
      have : (dnew (a :: b :: c :: d :: r)).full = true := by
        show decide ((dnew (a :: b :: c :: d :: r)).code = 4294967295) = true
        rw [h]; rfl
      rw [hf] at this; cases this
    refine ⟨rfl, by simp, rfl, rfl, ?_, ?_⟩
    · rw [hcode]; show _ = (val [a, b, c, d] : Int) - num' e00
      show _ = (val [a, b, c, d] : Int) - ((0 : Nat) * 4294967296 + 0 : Int)
      omega
    · show 0 ≤ (dnew (a :: b :: c :: d :: r)).code ∧ (dnew (a :: b :: c :: d :: r)).code < 4294967295
      rw [hcode] at hne ⊢
      rw [hv] at hne ⊢
      omega
end Go.Proofs.Ytinfmojbdaiogaa
end
section
set_option linter.unusedVariables false
set_option linter.unusedSimpArgs false
set_option maxRecDepth 4000
namespace Go.Proofs.Ytinfmojbdaiogaa
open Go.Gh Go.RowKit

theorem dnext_full (d : Dec) : (dnext d).full = d.full := by
  obtain ⟨rest, code, size, missing, full⟩ := d
  cases rest <;> rfl
theorem dnorm_full (k : Nat) : ∀ (d : Dec), (dnorm k d).full = d.full := by
  induction k with
  | zero => intro d; rfl
  | succ k ih =>
    intro d
    unfold dnorm
    split
    · rw [ih]; exact dnext_full d
    · rfl
theorem dbit_full (d : Dec) (z : Int) : (dbit d z).1.full = d.full := by
  show (dnorm 2 (dstep d z).1).full = _
  rw [dnorm_full]; unfold dstep; split <;> rfl
theorem dbit_01 (d : Dec) (z : Int) : (dbit d z).2 = 0 ∨ (dbit d z).2 = 1 := by have := dbit_bit d z; omega
end Go.Proofs.Ytinfmojbdaiogaa
end
section
set_option linter.unusedVariables false
set_option linter.unusedSimpArgs false
set_option maxRecDepth 4000
namespace Go.Proofs.Ytinfmojbdaiogaa
open Go.Gh Go.RowKit

def ext (d : Dec) (c : UInt8) : Dec := ⟨d.rest ++ [c], d.code, d.size, d.missing, d.full⟩
end Go.Proofs.Ytinfmojbdaiogaa
end
section
set_option linter.unusedVariables false
set_option linter.unusedSimpArgs false
set_option maxRecDepth 4000
namespace Go.Proofs.Ytinfmojbdaiogaa
open Go.Gh Go.RowKit

/-- Steps that are put together. -/
def StI (base : SH) (l : List (Int × Int)) (v : Value) (p : SH) : Prop := (l = [] ∧ v = .slice none 0 0 ∧ p = base) ∨ ∃ A, v = gsl A 0 (2 * l.length) l.length 2 ∧ p = (A, ⟨recs stF l, false⟩) :: base
theorem StI.take {base p : SH} {l : List (Int × Int)} {v : Value} (s : StI base l v p) : Take p base := by
  rcases s with ⟨rfl, rfl, rfl⟩ | ⟨A, rfl, rfl⟩
  · exact .nil
  · exact .drop .nil
theorem StI.one {base : SH} {x : Int × Int} {A : Nat} : StI base ([] ++ [x]) (gsl A 0 (1 * 2) 1 2) ((A, ⟨[I x.1, I x.2], false⟩) :: base) := .inr ⟨A, rfl, rfl⟩
end Go.Proofs.Ytinfmojbdaiogaa
end
section
set_option linter.unusedVariables false
set_option linter.unusedSimpArgs false
set_option maxRecDepth 4000
namespace Go.Proofs.Ytinfmojbdaiogaa
open Go.Gh Go.RowKit

def pw (j : Nat) : Int := ((256 ^ j : Nat) : Int)
theorem pw_pos (j : Nat) : 0 < pw j := by
  have : 0 < 256 ^ j := Nat.pow_pos (by decide)
  unfold pw; omega
theorem pw_zero : pw 0 = 1 := rfl
theorem pw_succ (j : Nat) : pw (j + 1) = 256 * pw j := by unfold pw; rw [Nat.pow_succ]; omega
theorem pw_add (i j : Nat) : pw (i + j) = pw i * pw j := by unfold pw; rw [Nat.pow_add, Int.natCast_mul]
theorem norm_in (k : Nat) : ∀ {e : Enc}, (0 ≤ e.low ∧ e.low ≤ 4294967295) → ∃ j, (norm k e).out.length = e.out.length + j ∧ num' (norm k e) = num' e * pw j ∧ (norm k e).size = e.size * pw j := by
  induction k with
  | zero => intro e _; exact ⟨0, rfl, by rw [pw_zero, Int.mul_one]; rfl, by rw [pw_zero, Int.mul_one]; rfl⟩
  | succ k ih =>
    intro e hl
    unfold norm
    split
    · obtain ⟨h1, h2, h3⟩ := eshift_num hl
      obtain ⟨j, g1, g2, g3⟩ := ih (eshift_low e)
      exact ⟨j + 1, by rw [g1, h2]; omega, by rw [g2, h1, pw_succ, Int.mul_assoc], by rw [g3, h3, pw_succ, Int.mul_assoc]⟩
    · exact ⟨0, rfl, by rw [pw_zero, Int.mul_one], by rw [pw_zero, Int.mul_one]⟩
/-- One interval within another. -/
def Within (e e' : Enc) : Prop := ∃ j, e'.out.length = e.out.length + j ∧ num' e * pw j ≤ num' e' ∧ num' e' + e'.size ≤ (num' e + e.size) * pw j
theorem Within.refl (e : Enc) : Within e e := ⟨0, rfl, by rw [pw_zero, Int.mul_one]; exact Int.le_refl _, by rw [pw_zero, Int.mul_one]; exact Int.le_refl _⟩
theorem Within.trans {e f g : Enc} (a : Within e f) (b : Within f g) : Within e g := by
  obtain ⟨i, a1, a2, a3⟩ := a
  obtain ⟨j, b1, b2, b3⟩ := b
  refine ⟨i + j, by omega, ?_, ?_⟩
  · rw [pw_add, ← Int.mul_assoc]
    exact Int.le_trans (Int.mul_le_mul_of_nonneg_right a2 (Int.le_of_lt (pw_pos j))) b2
  · rw [pw_add, ← Int.mul_assoc]
    exact Int.le_trans b3 (Int.mul_le_mul_of_nonneg_right a3 (Int.le_of_lt (pw_pos j)))
theorem within_norm {k : Nat} {e : Enc} (hl : 0 ≤ e.low ∧ e.low ≤ 4294967295) : Within e (norm k e) := by
  obtain ⟨j, g1, g2, g3⟩ := norm_in k hl
  exact ⟨j, g1, by rw [g2]; exact Int.le_refl _, by rw [g2, g3, Int.add_mul]; exact Int.le_refl _⟩
theorem within_ebit {n : Nat} {e : Enc} (hok : EncOk n e) (hi : InB e) (z b : Int) : Within (estep e z b) (ebit e z b) := within_norm (estep_ok hok z b).2.1
theorem within_estep {n : Nat} {e : Enc} (hok : EncOk n e) (hi : InB e) (z b : Int) : Within e (estep e z b) := by
  obtain ⟨h1, h2, h3, h4⟩ := estep_num hok hi z b
  have hd := size_dvd hok.size z
  refine ⟨0, h3, ?_, ?_⟩
  · rw [pw_zero, Int.mul_one, h1]; split <;> omega
  · rw [pw_zero, Int.mul_one, h1, h4]; split <;> omega
/-- Where a number lies whose end lies within. -/
theorem within_at {e f : Enc} {D : List UInt8} (w : Within e f) (hD : D.length = f.out.length + 4) (hv : (val D : Int) = num' f) (hs : 0 < f.size) :
    num' e ≤ (val (D.take (e.out.length + 4)) : Int) ∧ (val (D.take (e.out.length + 4)) : Int) < num' e + e.size := by
  obtain ⟨j, h1, h2, h3⟩ := w
  have hsp : val D = val (D.take (e.out.length + 4)) * 256 ^ j + val (D.drop (e.out.length + 4)) := by
    have := val_app (D.take (e.out.length + 4)) (D.drop (e.out.length + 4))
    rw [List.take_append_drop, List.length_drop, show D.length - (e.out.length + 4) = j by omega] at this
    exact this
  have hlt := val_lt (D.drop (e.out.length + 4))
  rw [List.length_drop, show D.length - (e.out.length + 4) = j by omega] at hlt
  have hp := pw_pos j
  have e1 : (val D : Int) = (val (D.take (e.out.length + 4)) : Int) * pw j + (val (D.drop (e.out.length + 4)) : Int) := by rw [hsp]; unfold pw; rw [Int.natCast_add, Int.natCast_mul]
  have e2 : (val (D.drop (e.out.length + 4)) : Int) < pw j := by unfold pw; omega
  generalize (val (D.take (e.out.length + 4)) : Int) = V at *
  have e3 : num' e * pw j < (V + 1) * pw j := by rw [Int.add_mul, Int.one_mul]; omega
  have e4 : V * pw j < (num' e + e.size) * pw j := by omega
  have e5 := Int.lt_of_mul_lt_mul_right e3 (Int.le_of_lt hp)
  have e6 := Int.lt_of_mul_lt_mul_right e4 (Int.le_of_lt hp)
  omega
/-- The decoder reads the bit that was written. -/
theorem bit_read {D : List UInt8} {n : Nat} {e f : Enc} {d : Dec} (s : Syn D e d) (hok : EncOk n e) (hi : InB e) (z b : Int) (w : Within (ebit e z b) f) (hD : D.length = f.out.length + 4) (hv : (val D : Int) = num' f) (hs : 0 < f.size) :
    b = 0 ↔ (dbit d z).2 = 0 := by
  obtain ⟨h1, h2, h3, h4⟩ := estep_num hok hi z b
  have hw := within_at ((within_ebit hok hi z b).trans w) hD hv hs
  have hd := size_dvd hok.size z
  rw [h3, h1, h4] at hw
  have hc := s.code
  show b = 0 ↔ (dstep d z).2 = 0
  unfold dstep
  rw [s.size]
  split
  · rename_i hlt
    refine ⟨fun _ => rfl, fun _ => ?_⟩
    by_cases hb : b = 0
    · exact hb
    · rw [if_neg hb, if_neg hb] at hw; omega
  · rename_i hlt
    refine ⟨fun hb => ?_, fun h => by cases h⟩
    rw [if_pos hb, if_pos hb] at hw; omega
end Go.Proofs.Ytinfmojbdaiogaa
end
section
set_option linter.unusedVariables false
set_option linter.unusedSimpArgs false
set_option maxRecDepth 4000
namespace Go.Proofs.Ytinfmojbdaiogaa
open Go.Gh Go.RowKit

theorem within_len {e f : Enc} (w : Within e f) : e.out.length ≤ f.out.length := by obtain ⟨j, h, _⟩ := w; omega
end Go.Proofs.Ytinfmojbdaiogaa
end
section
set_option linter.unusedVariables false
set_option linter.unusedSimpArgs false
set_option maxRecDepth 4000
namespace Go.Proofs.Ytinfmojbdaiogaa
open Go.Gh Go.RowKit

theorem four {D : List UInt8} (h : 4 ≤ D.length) : ∃ a b c d r, D = a :: b :: c :: d :: r := by
  match D, h with
  | a :: b :: c :: d :: r, _ => exact ⟨a, b, c, d, r, rfl⟩
/-- The end. -/
theorem inv_end {e : Enc} {d : Dec} (hl : 0 ≤ e.low ∧ e.low ≤ 4294967295) (s : Syn (fin e) e d) (hf : d.full = false) : dend d = 0 := by
  have h1 := s.rest
  have h2 := s.code
  rw [← fin_len] at h1 h2
  rw [List.drop_length] at h1
  rw [List.take_length, fin_val hl] at h2
  unfold dend
  rw [if_neg]
  rintro (h | h | h | h)
  · rw [s.miss] at h; cases h
  · rw [hf] at h; cases h
  · exact h h1
  · exact h (by omega)
end Go.Proofs.Ytinfmojbdaiogaa
end
section
set_option linter.unusedVariables false
set_option linter.unusedSimpArgs false
set_option maxRecDepth 4000
namespace Go.Proofs.Ytinfmojbdaiogaa
open Go.Gh Go.RowKit

/-- An end behind the encoder: the decoder's bytes are those of f. -/
structure Beh (D : List UInt8) (f : Enc) : Prop where
  len : D.length = f.out.length + 4
  val : (val D : Int) = num' f
  size : 0 < f.size
theorem Beh.fin {n : Nat} {f : Enc} (h : EncOk n f) : Beh (fin f) f := ⟨fin_len f, fin_val h.low, by have := h.size; omega⟩
theorem bit01 (v : Int) (k : Nat) : v / 2 ^ k % 2 = 0 ∨ v / 2 ^ k % 2 = 1 := by omega
theorem mod_split (v : Int) (k : Nat) : v % 2 ^ (k + 1) = 2 ^ k * (v / 2 ^ k % 2) + v % 2 ^ k := by
  have h1 := Int.emod_add_mul_ediv v (2 ^ k)
  have h2 := Int.emod_add_mul_ediv (v / 2 ^ k) 2
  have h3 := Int.emod_add_mul_ediv v (2 ^ (k + 1))
  have h4 : v / 2 ^ k / 2 = v / (2 ^ k * 2) := by rw [Int.ediv_ediv_of_nonneg (Int.le_of_lt (Int.pow_pos (by decide)))]
  rw [h4] at h2
  rw [Int.pow_succ] at h3 ⊢
  generalize v / (2 ^ k * 2) = q at *
  generalize v / 2 ^ k = p at *
  generalize (2 : Int) ^ k = t at *
  have h5 : t * p = t * (p % 2) + 2 * (t * q) := by
    conv => lhs; rw [← h2]
    rw [Int.mul_add, Int.mul_left_comm]
  have h6 : t * 2 * q = 2 * (t * q) := by rw [Int.mul_comm t 2, Int.mul_assoc]
  omega
theorem tenc_in {v : Int} (k : Nat) : ∀ {n : Nat} {t : List Int} {e : Enc} {j : Nat}, EncOk n e → InB e → Within e (tenc v k t e j).2 ∧ InB (tenc v k t e j).2 := by
  induction k with
  | zero => intro n t e j _ hi; exact ⟨.refl _, hi⟩
  | succ k ih =>
    intro n t e j hok hi
    obtain ⟨h1, h2⟩ := ih (t := t.set j (adp t[j]! (v / 2 ^ k % 2))) (j := 2 * j + (v / 2 ^ k % 2).toNat) (ebit_ok hok t[j]! (v / 2 ^ k % 2)) (ebit_InB hok hi t[j]! (v / 2 ^ k % 2))
    exact ⟨((within_estep hok hi _ _).trans (within_ebit hok hi _ _)).trans h1, h2⟩
/-- A tree reads what it wrote. -/
theorem tenc_read {D : List UInt8} {f : Enc} {v : Int} (hf : Beh D f) (k : Nat) : ∀ {n : Nat} {t : List Int} {e : Enc} {d : Dec} {j : Nat}, Syn D e d → EncOk n e → InB e → Within (tenc v k t e j).2 f →
    Syn D (tenc v k t e j).2 (tdec k t d j).2.1 ∧ (tdec k t d j).1 = (tenc v k t e j).1 ∧ ((tdec k t d j).2.2 : Int) = 2 ^ k * j + v % 2 ^ k := by
  induction k with
  | zero => intro n t e d j s _ _ _; exact ⟨s, rfl, by show (j : Int) = 2 ^ 0 * j + v % 2 ^ 0; rw [Int.pow_zero, Int.emod_one]; omega⟩
  | succ k ih =>
    intro n t e d j s hok hi w
    have hb1 := ebit_ok hok t[j]! (v / 2 ^ k % 2)
    have hb2 := ebit_InB hok hi t[j]! (v / 2 ^ k % 2)
    have w1 : Within (ebit e t[j]! (v / 2 ^ k % 2)) f := (tenc_in k hb1 hb2).1.trans w
    have hr := bit_read s hok hi t[j]! (v / 2 ^ k % 2) w1 hf.len hf.val hf.size
    have hbd := dbit_01 d t[j]!
    have hval : (dbit d t[j]!).2 = v / 2 ^ k % 2 := by omega
    have s1 := ebit_syn s hok hi t[j]! _ hr (by have := within_len w1; have := hf.len; omega)
    have ih := ih (t := t.set j (adp t[j]! (v / 2 ^ k % 2))) (j := 2 * j + (v / 2 ^ k % 2).toNat) s1 hb1 hb2 w
    have e1 : tdec (k + 1) t d j = tdec k (t.set j (adp t[j]! (v / 2 ^ k % 2))) (dbit d t[j]!).1 (2 * j + (v / 2 ^ k % 2).toNat) := by rw [← hval]; rfl
    rw [e1]
    refine ⟨ih.1, ih.2.1, ?_⟩
    rw [ih.2.2, mod_split, Int.pow_succ]
    have e2 : ((2 * j + (v / 2 ^ k % 2).toNat : Nat) : Int) = 2 * (j : Int) + v / 2 ^ k % 2 := by omega
    rw [e2, Int.mul_add, ← Int.mul_assoc]
    omega
theorem tdec_full : ∀ (k : Nat) {t : List Int} {d : Dec} {j : Nat}, (tdec k t d j).2.1.full = d.full
  | 0, _, _, _ => rfl
  | k + 1, t, d, j => (tdec_full k (t := t.set j (adp t[j]! (dbit d t[j]!).2)) (j := 2 * j + (dbit d t[j]!).2.toNat)).trans (dbit_full d _)
end Go.Proofs.Ytinfmojbdaiogaa
end
section
set_option linter.unusedVariables false
set_option linter.unusedSimpArgs false
set_option maxRecDepth 4000
namespace Go.Proofs.Ytinfmojbdaiogaa
open Go.Gh Go.RowKit

theorem rNewTree_any (b : Nat) (h : SH) (hb : b ≤ 8) : SRun Try.prog 32 [I b] h fun r q =>
    ∃ A, r = gsl A 0 (2 ^ b) (2 ^ b) 1 ∧ q = (A, ⟨nodes (List.replicate (2 ^ b) 1024), false⟩) :: h := by
  obtain ⟨K, hK⟩ : ∃ K, K = 2 ^ b := ⟨_, rfl⟩
  have hK8 : K ≤ 256 := by rw [hK]; exact Nat.pow_le_pow_right (n := 2) (by decide) hb
  have hsh := shl_nat (m := 1) (b := b) (M := K) (by omega) hb (by omega)
  rw [← hK]
  refine w_body1 Try.func32 rfl rfl ?_
  repeat' (first | apply w_seq | apply w_region | apply o_nil | (apply o_g tyOk; exact rfl; exact rfl) | (apply o_buildSlice tyOk; (iterate 5 exact rfl); (focus (decide)); exact rfl; (focus (decide)); (focus (repeat (first | exact CatR.nil | exact CatR.last rfl | (apply CatR.one; exact rfl; exact rfl) | (apply CatR.agg; exact rfl)))); exact rfl) | apply thenS_normal | apply w_block | ((with_reducible apply Sd.mk); (first | exact True.intro | omega | (constructor <;> first | omega | (unfold maxLen; omega)) | (unfold maxLen; omega))) | intro A)
  refine w_loop (S := List Int) (fun x => [(0, I b), (3, gsl A 0 x.length x.length 1), (4, I x.length)]) (fun x => (A, ⟨nodes x, false⟩) :: h) (fun x => x.length ≤ K ∧ x = List.replicate x.length 1024) (fun x => K - x.length)
    [] ⟨Nat.zero_le _, rfl⟩ (by repeat' (first | exact trivial | refine ⟨rfl, ?_⟩ | refine ⟨congrArg some ?_, ?_⟩)) (by repeat (first | with_reducible exact Take.nil | with_reducible apply Take.c | ((with_reducible apply Take.cE); (first | exact rfl | (apply blkE; (focus (first | exact rfl | exact recs_snocE rfl | exact map_snocE rfl | exact congrArg (fun v => [v]) (gslE rfl rfl (by first | rfl | exact ‹_› | omega | (simp ; first | done | omega)) (by first | rfl | exact ‹_› | omega | (simp ; first | done | omega)) rfl)))))) | with_reducible apply Take.drop)) ?_
  rintro x ⟨hx, he⟩
  have hlb : (nodes x).length = x.length := by simp
  by_cases hlt : x.length < K
  · repeat' (first | apply w_seq | apply w_region | apply o_nil | (apply o_g tyOk; exact rfl; exact rfl) | (apply o_ar tyOk; exact rfl; exact rfl) | (apply o_buildSlice tyOk; (iterate 5 exact rfl); (focus (decide)); exact rfl; (focus (decide)); (focus (repeat (first | exact CatR.nil | exact CatR.last rfl | (apply CatR.one; exact rfl; exact rfl) | (apply CatR.agg; exact rfl)))); exact rfl) | (apply o_append tyOk; (iterate 5 exact rfl); (focus (exact ⟨by decide⟩)); (focus (exact up)); (focus (exact pk))) | (apply w_dT; exact rfl; (focus (first | exact ‹_› | with_reducible exact rfl | omega))) | apply thenS_normal | apply blockS_normal | apply w_skip | apply w_block | ((with_reducible apply Sd.mk); (first | exact True.intro | omega | (constructor <;> first | omega | (unfold maxLen; omega)) | (unfold maxLen; omega))) | ((with_reducible apply Ln.mk); (first | rfl | exact ‹_› | omega | (simp [hlb]; first | done | omega))) | ((with_reducible apply Wr.mk); (first | (rw [Int.one_mul] at hsh; exact hsh) | exact hsh | exact IntWalk.i64_in _ (by omega) | exact IntWalk.u8_in _ (by omega) | exact IntWalk.u32_in _ (by omega) | exact IntWalk.u64_in _ (by omega) | exact IntKind.wrap_u8 _ | exact IntKind.wrap_u32 _ | rfl)) | ((with_reducible apply Su.mk); (first | exact subAt_all | exact subAt_recZ (fun _ => rfl) (by omega) | exact subAt_rec (fun _ => rfl) (by omega))) | exact True.intro | intro A | exact rfl)
    all_goals first
      | (exfalso; omega)
      | exact ⟨x ++ [1024], ⟨by rw [List.length_append, List.length_singleton]; omega, by rw [List.length_append, List.length_singleton, List.replicate_succ', ← he]⟩, by rw [List.length_append, List.length_singleton]; omega, ⟨rfl, congrArg some (gslE rfl rfl (by simp) (by simp) rfl), congrArg some (congrArg (Value.int .i64) (by simp)), trivial⟩, .consE (.tail .head) (blkE (by simp [nodes])) (.drop .nil)⟩
      | trace_state
  · repeat' (first | apply w_seq | apply w_region | apply o_nil | (apply o_g tyOk; exact rfl; exact rfl) | (apply o_ar tyOk; exact rfl; exact rfl) | (apply w_dF; exact rfl; (focus (first | exact ‹_› | with_reducible exact rfl | omega))) | apply thenS_normal | apply thenS_exit | apply blockS_exit | apply w_ret | apply w_exit | ((with_reducible apply Sd.mk); (first | exact True.intro | omega | (constructor <;> first | omega | (unfold maxLen; omega)) | (unfold maxLen; omega))) | ((with_reducible apply Wr.mk); (first | (rw [Int.one_mul] at hsh; exact hsh) | exact hsh | exact IntWalk.i64_in _ (by omega) | exact IntWalk.u8_in _ (by omega) | exact IntWalk.u32_in _ (by omega) | exact IntWalk.u64_in _ (by omega) | exact IntKind.wrap_u8 _ | exact IntKind.wrap_u32 _ | rfl)))
    all_goals first
      | (exfalso; omega)
      | (obtain rfl : x.length = K := by omega
         (apply s_fin; (exact (show ResS _ _ _ _ [_] from ⟨rfl, trivial⟩)); (focus (exact ⟨A, rfl, by rw [← he]⟩)); (focus (repeat (first | with_reducible exact Take.nil | with_reducible apply Take.c | ((with_reducible apply Take.cE); (first | exact rfl | (apply blkE; (focus (first | exact rfl | exact recs_snocE rfl | exact map_snocE rfl | exact congrArg (fun v => [v]) (gslE rfl rfl (by first | rfl | exact ‹_› | omega | (simp ; first | done | omega)) (by first | rfl | exact ‹_› | omega | (simp ; first | done | omega)) rfl)))))) | with_reducible apply Take.drop)))))
      | trace_state
/-- A tree with a changed node. -/
theorem rset_any (A : Nat) (t : List Int) (m : Nat) (z : Int) (h h1 : SH) (hp : Pick h A ⟨nodes t, false⟩ h1) (hm : m < t.length) (hl : t.length ≤ 256) :
    SRun Try.prog 62 [gsl A 0 t.length t.length 1, I m, I z] h fun r q => ∃ B, r = gsl B 0 t.length t.length 1 ∧ q = (B, ⟨nodes (t.set m z), false⟩) :: h := by
  have hlb : (nodes t).length = t.length := by simp
  refine w_body3 Try.func62 rfl rfl ?_
  repeat' (first | apply w_seq | apply w_region | apply o_nil | (apply o_g tyOk; exact rfl; exact rfl) | (apply o_store tyOk; (iterate 4 exact rfl); (focus (exact up))) | (apply o_buildSlice tyOk; (iterate 5 exact rfl); (focus (decide)); exact rfl; (focus (decide)); (focus (repeat (first | exact CatR.nil | exact CatR.last rfl | (apply CatR.one; exact rfl; exact rfl) | (apply CatR.agg; exact rfl)))); exact rfl) | (apply o_append tyOk; (iterate 5 exact rfl); (focus (exact ⟨by decide⟩)); (focus (exact up)); (focus (exact pk))) | apply thenS_normal | apply w_ret | ((with_reducible apply Sd.mk); (first | exact True.intro | omega | (constructor <;> first | omega | (unfold maxLen; omega)) | (unfold maxLen; omega))) | ((with_reducible apply Ln.mk); (first | rfl | exact ‹_› | omega | (simp [hlb]; first | done | omega))) | ((with_reducible apply Se.mk); (first | (focus ((repeat (first | exact SetAt.zero | apply SetAt.succ)); done)) | exact setAt_bytes (by omega) (by omega) | exact setAt_mapZ (by omega) | exact setAt_map (by omega))) | ((with_reducible apply Su.mk); (first | exact subAt_all | exact subAt_recZ (fun _ => rfl) (by omega) | exact subAt_rec (fun _ => rfl) (by omega))) | exact all_map (fun _ => rfl) | exact True.intro | intro A | exact rfl)
  all_goals first
    | (exfalso; omega)
    | (apply s_fin; (exact (show ResS _ _ _ _ [_] from ⟨rfl, trivial⟩)); (focus (exact ⟨A, gslE rfl rfl (by simp) (by simp) rfl, rfl⟩)); (focus (repeat (first | with_reducible exact Take.nil | with_reducible apply Take.c | ((with_reducible apply Take.cE); (first | exact rfl | (apply blkE; (focus (first | exact rfl | exact recs_snocE rfl | exact map_snocE rfl | exact congrArg (fun v => [v]) (gslE rfl rfl (by first | rfl | exact ‹_› | omega | (simp ; first | done | omega)) (by first | rfl | exact ‹_› | omega | (simp ; first | done | omega)) rfl)))))) | with_reducible apply Take.drop))))
    | trace_state
theorem nat_and_pow (n k : Nat) : n &&& 2 ^ k = (n.testBit k).toNat * 2 ^ k := by
  refine Nat.eq_of_testBit_eq fun i => ?_
  rw [Nat.testBit_and, Nat.testBit_two_pow]
  cases hb : n.testBit k with
  | false =>
    rw [show false.toNat * 2 ^ k = 0 from Nat.zero_mul _, Nat.zero_testBit]
    by_cases e : k = i
    · subst e; rw [hb]; rfl
    · rw [decide_eq_false e, Bool.and_false]
  | true =>
    rw [show true.toNat * 2 ^ k = 2 ^ k from Nat.one_mul _, Nat.testBit_two_pow]
    by_cases e : k = i
    · subst e; rw [hb]; rfl
    · rw [decide_eq_false e, Bool.and_false]
theorem and_pow (v : Int) {k : Nat} (hk : k < 63) : IntKind.i64.wrap ((BitVec.ofInt IntKind.i64.bits v &&& BitVec.ofInt IntKind.i64.bits (2 ^ k)).toNat : Int) = v / 2 ^ k % 2 * 2 ^ k := by
  have hp : (2 : Nat) ^ k < 2 ^ 63 := Nat.pow_lt_pow_right (by decide) hk
  have h63 : (2 : Nat) ^ 63 = 9223372036854775808 := rfl
  have e1 : BitVec.ofInt 64 ((2 : Int) ^ k) = BitVec.ofNat 64 (2 ^ k) := by
    rw [show ((2 : Int) ^ k) = ((2 ^ k : Nat) : Int) by simp, BitVec.ofInt_natCast]
  have e2 : ((BitVec.ofInt 64 v &&& BitVec.ofInt 64 (2 ^ k)).toNat) = ((BitVec.ofInt 64 v).toNat.testBit k).toNat * 2 ^ k := by
    rw [e1, BitVec.toNat_and, BitVec.toNat_ofNat, Nat.mod_eq_of_lt (by omega), nat_and_pow]
  have e3 : (((BitVec.ofInt 64 v).toNat.testBit k).toNat : Int) = v / 2 ^ k % 2 := by
    rw [Nat.testBit_eq_decide_div_mod_eq, BitVec.toNat_ofInt]
    have h1 : ((v % ((2 ^ 64 : Nat) : Int)).toNat : Int) = v % ((2 ^ 64 : Nat) : Int) := Int.toNat_of_nonneg (Int.emod_nonneg _ (by decide))
    have h2 : (((v % ((2 ^ 64 : Nat) : Int)).toNat / 2 ^ k % 2 : Nat) : Int) = v / 2 ^ k % 2 := by
      rw [Int.natCast_emod, Int.natCast_ediv, h1]
      have h3 : (2 ^ 64 : Nat) = 2 ^ k * (2 * 2 ^ (63 - k)) := by
        rw [← Nat.mul_assoc, ← Nat.pow_succ, ← Nat.pow_add]; congr 1; omega
      have h4 := Int.emod_add_mul_ediv v ((2 ^ 64 : Nat) : Int)
      generalize v / ((2 ^ 64 : Nat) : Int) = q at h4
      rw [h3] at h4 ⊢
      rw [Int.natCast_mul, Int.natCast_mul] at h4 ⊢
      generalize v % (((2 ^ k : Nat) : Int) * (((2 : Nat) : Int) * ((2 ^ (63 - k) : Nat) : Int))) = r at *
      have hpos : (0 : Int) < ((2 ^ k : Nat) : Int) := by have := Nat.two_pow_pos k; omega
      rw [show ((2 : Int) ^ k) = ((2 ^ k : Nat) : Int) by simp]
      generalize ((2 ^ k : Nat) : Int) = p at *
      generalize ((2 ^ (63 - k) : Nat) : Int) = w at *
      rw [← h4, Int.mul_assoc, Int.add_mul_ediv_left _ _ (by omega)]
      have : ((2 : Nat) : Int) * w * q = 2 * (w * q) := by rw [Int.mul_assoc]; rfl
      rw [this]
      have h2' : ((2 : Nat) : Int) = 2 := rfl
      rw [h2']
      omega
    rw [← h2]
    rcases (show (v % ((2 ^ 64 : Nat) : Int)).toNat / 2 ^ k % 2 = 0 ∨ (v % ((2 ^ 64 : Nat) : Int)).toNat / 2 ^ k % 2 = 1 by omega) with g | g <;> rw [g] <;> rfl
  show IntKind.i64.wrap _ = _
  have hb := bit01 v k
  rw [show IntKind.i64.bits = 64 from rfl, e2, Int.natCast_mul, e3]
  have hc : ((2 ^ k : Nat) : Int) = 2 ^ k := by simp
  rw [hc]
  refine IntWalk.i64_in _ ?_
  have : (0 : Int) < 2 ^ k := Int.pow_pos (by decide)
  rcases hb with hb | hb <;> rw [hb] <;> omega
end Go.Proofs.Ytinfmojbdaiogaa
end
section
set_option linter.unusedVariables false
set_option linter.unusedSimpArgs false
set_option maxRecDepth 4000
namespace Go.Proofs.Ytinfmojbdaiogaa
open Go.Gh Go.RowKit

/-- The price of the bits behind a place of a tree. -/
def tprz (t : List Int) (v : Int) : Nat → Nat → Int
  | 0, _ => 0
  | k + 1, j => prz t[j]! (v / 2 ^ k % 2) + tprz t v k (2 * j + (v / 2 ^ k % 2).toNat)
theorem sq4_in : ∀ (k : Nat) (p n : Int), 1 ≤ p ∧ p < 65536 → 0 ≤ n → 0 ≤ (sq4 k (p, n)).2 ∧ (sq4 k (p, n)).2 ≤ 2 ^ k * (n + 32) - 32
  | 0, p, n, _, h => ⟨h, by show n ≤ 2 ^ 0 * (n + 32) - 32; rw [Int.pow_zero]; omega⟩
  | k + 1, p, n, hp, h => by
    have hs := sq_in hp
    obtain ⟨g1, g2, g3, g4⟩ := halve_in 32 (p * p) (2 * n) hs.1 hs.2
    have ih := sq4_in k (halve 32 (p * p) (2 * n)).1 (halve 32 (p * p) (2 * n)).2 ⟨g1, g2⟩ (by omega)
    rw [sq4_step (s := (p, n)) (p := (halve 32 (p * p) (2 * n)).1) (n := (halve 32 (p * p) (2 * n)).2) rfl]
    refine ⟨ih.1, Int.le_trans ih.2 ?_⟩
    rw [Int.pow_succ, Int.mul_assoc]
    have hpos : (0 : Int) < 2 ^ k := Int.pow_pos (by decide)
    have := Int.mul_le_mul_of_nonneg_left (show (halve 32 (p * p) (2 * n)).2 + 32 ≤ 2 * (n + 32) by omega) (Int.le_of_lt hpos)
    omega
theorem prz_in (z b : Int) : -1000 ≤ prz z b ∧ prz z b ≤ 1000 := by
  have hz := clp_in z
  have := sq4_in 4 (if b = 0 then clp z else 2048 - clp z) 0 (by split <;> omega) (Int.le_refl 0)
  have h4 : (2 : Int) ^ 4 = 16 := rfl
  rw [h4] at this
  unfold prz
  omega
/-- Half of a power of 2, as the program counts down. -/
def hpw : Nat → Nat
  | 0 => 0
  | k + 1 => 2 ^ k
theorem hpw_half (k : Nat) : ((hpw (k + 1) : Nat) : Int) / 2 = hpw k := by
  cases k with
  | zero => rfl
  | succ k => show ((2 ^ (k + 1) : Nat) : Int) / 2 = ((2 ^ k : Nat) : Int); rw [Nat.pow_succ]; omega
theorem hpw_le {k bits : Nat} (h : k ≤ bits) (hb : bits ≤ 8) : hpw k ≤ 128 := by
  cases k with
  | zero => exact Nat.zero_le _
  | succ k => exact Nat.pow_le_pow_right (n := 2) (j := 7) (by decide) (by omega)
theorem and_hpw (v : Int) {k : Nat} (hk : k < 63) : IntKind.i64.wrap ((BitVec.ofInt IntKind.i64.bits v &&& BitVec.ofInt IntKind.i64.bits ((hpw (k + 1) : Nat) : Int)).toNat : Int) = v / 2 ^ k % 2 * ((hpw (k + 1) : Nat) : Int) := by
  have hat : ((hpw (k + 1) : Nat) : Int) = 2 ^ k := by show ((2 ^ k : Nat) : Int) = _; simp
  rw [hat]
  exact and_pow v hk
theorem way_step {k j K b : Nat} (h1 : K ≤ 2 ^ (k + 1) * j) (h2 : 2 ^ (k + 1) * (j + 1) ≤ 2 * K) (hb : b ≤ 1) : K ≤ 2 ^ k * (2 * j + b) ∧ 2 ^ k * (2 * j + b + 1) ≤ 2 * K ∧ j < K := by
  rw [Nat.pow_succ, Nat.mul_assoc] at h1 h2
  have a1 := Nat.mul_le_mul_left (2 ^ k) (show 2 * j ≤ 2 * j + b by omega)
  have a2 := Nat.mul_le_mul_left (2 ^ k) (show 2 * j + b + 1 ≤ 2 * (j + 1) by omega)
  have a3 := Nat.mul_le_mul_right (2 * (j + 1)) (Nat.one_le_two_pow (n := k))
  exact ⟨Nat.le_trans h1 a1, Nat.le_trans a2 h2, by omega⟩
theorem rTPrice_any (bits : Nat) (t : List Int) (v : Int) (A0 : Nat) (h h1 : SH) (hp : Pick h A0 ⟨nodes t, false⟩ h1) (ht : t.length = 2 ^ bits) (hbits : 1 ≤ bits ∧ bits ≤ 8) :
    SRun Try.prog 34 [gsl A0 0 t.length t.length 1, I v] h fun r q => r = I (tprz t v bits 1) ∧ q = h := by
  obtain ⟨K, hK⟩ : ∃ K, K = 2 ^ bits := ⟨_, rfl⟩
  have hK8 : K ≤ 256 := by rw [hK]; exact Nat.pow_le_pow_right (n := 2) (by decide) hbits.2
  obtain ⟨R, hR⟩ : ∃ R, tprz t v bits 1 = R := ⟨_, rfl⟩
  rw [hR]
  rw [← hK] at ht
  have hlb : (nodes t).length = t.length := by simp
  have hhalf : IntKind.i64.wrap ((t.length : Int).tdiv 2) = hpw bits := by
    rw [Int.tdiv_eq_ediv_of_nonneg (by omega), ht, hK]
    have : ((2 ^ bits : Nat) : Int) = hpw (bits + 1) := rfl
    rw [this, hpw_half]
    have := hpw_le (k := bits) (Nat.le_refl _) hbits.2
    exact IntWalk.i64_in _ (by omega)
  refine w_body2 Try.func34 rfl rfl ?_
  repeat' (first | apply w_seq | apply w_region | apply o_nil | (apply o_g tyOk; exact rfl; exact rfl) | (apply o_ar tyOk; exact rfl; exact rfl) | apply thenS_normal | apply w_block | ((with_reducible apply Sd.mk); (first | exact True.intro | omega | (constructor <;> first | omega | (unfold maxLen; omega)) | (unfold maxLen; omega))) | ((with_reducible apply Wr.mk); (first | exact hhalf | exact IntWalk.i64_in _ (by omega) | exact IntWalk.u8_in _ (by omega) | exact IntWalk.u32_in _ (by omega) | exact IntWalk.u64_in _ (by omega) | exact IntKind.wrap_u8 _ | exact IntKind.wrap_u32 _ | rfl)))
  refine w_loop (S := Nat × Nat × Int) (fun x => [(0, gsl A0 0 t.length t.length 1), (1, I v), (5, I x.2.1), (6, I x.2.2), (7, I (hpw x.1))]) (fun _ => h)
    (fun x => x.1 ≤ bits ∧ (K ≤ 2 ^ x.1 * x.2.1 ∧ 2 ^ x.1 * (x.2.1 + 1) ≤ 2 * K) ∧ (-1000 * ((bits - x.1 : Nat) : Int) ≤ x.2.2 ∧ x.2.2 ≤ 1000 * ((bits - x.1 : Nat) : Int)) ∧ x.2.2 + tprz t v x.1 x.2.1 = R) (fun x => x.1)
    (bits, 1, 0) ⟨Nat.le_refl _, ⟨by show K ≤ 2 ^ bits * 1; omega, by show 2 ^ bits * 2 ≤ 2 * K; omega⟩, by dsimp only; omega, by rw [Int.zero_add]; exact hR⟩ (by repeat' (first | exact trivial | refine ⟨rfl, ?_⟩ | refine ⟨congrArg some ?_, ?_⟩)) (by repeat (first | with_reducible exact Take.nil | with_reducible apply Take.c | ((with_reducible apply Take.cE); (first | exact rfl | (apply blkE; (focus (first | exact rfl | exact recs_snocE rfl | exact map_snocE rfl | exact congrArg (fun v => [v]) (gslE rfl rfl (by first | rfl | exact ‹_› | omega | (simp ; first | done | omega)) (by first | rfl | exact ‹_› | omega | (simp ; first | done | omega)) rfl)))))) | with_reducible apply Take.drop)) ?_
  rintro ⟨k, j, n⟩ ⟨hk, ⟨hj1, hj2⟩, hn, he⟩
  dsimp only at hk hj1 hj2 hn he ⊢
  cases k with
  | zero =>
    have he : n + 0 = R := he
    rw [Int.add_zero] at he
    subst he
    repeat' (first | apply w_seq | apply w_region | apply o_nil | (apply o_g tyOk; exact rfl; exact rfl) | (apply w_false; exact rfl) | apply thenS_normal | apply thenS_exit | apply blockS_exit | apply w_ret | apply w_exit | ((with_reducible apply Sd.mk); (first | exact True.intro | omega | (constructor <;> first | omega | (unfold maxLen; omega)) | (unfold maxLen; omega))))
    all_goals first
      | (exfalso; omega)
      | (apply s_fin; (exact (show ResS _ _ _ _ [_] from ⟨rfl, trivial⟩)); (focus (exact ⟨rfl, rfl⟩)); (focus (repeat (first | with_reducible exact Take.nil | with_reducible apply Take.c | ((with_reducible apply Take.cE); (first | exact rfl | (apply blkE; (focus (first | exact rfl | exact recs_snocE rfl | exact map_snocE rfl | exact congrArg (fun v => [v]) (gslE rfl rfl (by first | rfl | exact ‹_› | omega | (simp ; first | done | omega)) (by first | rfl | exact ‹_› | omega | (simp ; first | done | omega)) rfl)))))) | with_reducible apply Take.drop))))
      | trace_state
  | succ k =>
    obtain ⟨s1, s2, s3⟩ := way_step (b := (v / 2 ^ k % 2).toNat) hj1 hj2 (by omega)
    have hpz := prz_in t[j]! (v / 2 ^ k % 2)
    have hcl : (nodes t)[0 + ((j : Int)).toNat * 1]? = some (I t[j]!) := cell_mapZ (by omega)
    have hand := and_hpw v (k := k) (by omega)
    have hh := hpw_half k
    have hle := hpw_le hk hbits.2
    have he : n + (prz t[j]! (v / 2 ^ k % 2) + tprz t v k (2 * j + (v / 2 ^ k % 2).toNat)) = R := he
    have hpos : 1 ≤ hpw (k + 1) := Nat.one_le_two_pow
    have hP := fun b h => rPrice_any t[j]! b h
    rcases bit01 v k with hb | hb <;> rw [hb] at hand he s1 s2 hpz
    · rw [Int.zero_mul] at hand
      have hP := hP 0
      generalize hpw (k + 1) = W at *
      have hq : IntKind.i64.wrap ((W : Int).tdiv 2) = ((hpw k : Nat) : Int) := by rw [Int.tdiv_eq_ediv_of_nonneg (by omega), hh]; exact IntWalk.i64_in _ (by omega)
      generalize prz t[j]! 0 = pz at *
      repeat' (first | apply w_seq | apply w_region | apply o_nil | (apply o_g tyOk; exact rfl; exact rfl) | (apply o_ar tyOk; exact rfl; exact rfl) | (apply o_load tyOk; (iterate 3 exact rfl); (focus (exact pk))) | (apply o_call; exact rfl; exact rfl; (focus (first | exact rfl | assumption)); exact rfl; (focus (exact ⟨_, hP _, by repeat (first | with_reducible exact Take.nil | with_reducible apply Take.c | with_reducible apply Take.drop)⟩)); rintro _ _ ⟨rfl, rfl⟩) | (apply w_false; exact rfl) | (apply w_dT; exact rfl; (focus (first | exact ‹_› | with_reducible exact rfl | omega))) | apply thenS_normal | apply blockS_normal | apply w_skip | apply w_block | ((with_reducible apply Sd.mk); (first | exact True.intro | omega | (constructor <;> first | omega | (unfold maxLen; omega)) | (unfold maxLen; omega))) | ((with_reducible apply Ln.mk); (first | rfl | exact ‹_› | omega | (simp [hlb]; first | done | omega))) | ((with_reducible apply Wr.mk); (first | exact hand | exact hq | exact IntWalk.i64_in _ (by omega) | exact IntWalk.u8_in _ (by omega) | exact IntWalk.u32_in _ (by omega) | exact IntWalk.u64_in _ (by omega) | exact IntKind.wrap_u8 _ | exact IntKind.wrap_u32 _ | rfl)) | ((with_reducible apply Ce.mk); (first | rfl | exact ‹_› | exact hcl | exact cell_recZ (fun _ => rfl) (by omega) (by decide) rfl | exact cell_rec (fun _ => rfl) (by omega) (by decide) rfl | exact cell_bytes (by omega) | exact cell_mapZ (by omega) | exact cell_map (by omega))) | exact True.intro | exact rfl)
      all_goals first
        | (exfalso; omega)
        | exact ⟨(k, 2 * j + 0, n + pz), ⟨by show k ≤ bits; omega, ⟨s1, s2⟩, by dsimp only; omega, by rw [← he, Int.add_assoc]; rfl⟩, Nat.lt_succ_self _, (by repeat' (first | exact trivial | refine ⟨rfl, ?_⟩ | refine ⟨congrArg some ?_, ?_⟩)), (by repeat (first | with_reducible exact Take.nil | with_reducible apply Take.c | ((with_reducible apply Take.cE); (first | exact rfl | (apply blkE; (focus (first | exact rfl | exact recs_snocE rfl | exact map_snocE rfl | exact congrArg (fun v => [v]) (gslE rfl rfl (by first | rfl | exact ‹_› | omega | (simp ; first | done | omega)) (by first | rfl | exact ‹_› | omega | (simp ; first | done | omega)) rfl)))))) | with_reducible apply Take.drop))⟩
        | trace_state
    · rw [Int.one_mul] at hand
      have hP := hP 1
      generalize hpw (k + 1) = W at *
      have hq : IntKind.i64.wrap ((W : Int).tdiv 2) = ((hpw k : Nat) : Int) := by rw [Int.tdiv_eq_ediv_of_nonneg (by omega), hh]; exact IntWalk.i64_in _ (by omega)
      generalize prz t[j]! 1 = pz at *
      repeat' (first | apply w_seq | apply w_region | apply o_nil | (apply o_g tyOk; exact rfl; exact rfl) | (apply o_ar tyOk; exact rfl; exact rfl) | (apply o_load tyOk; (iterate 3 exact rfl); (focus (exact pk))) | (apply o_call; exact rfl; exact rfl; (focus (first | exact rfl | assumption)); exact rfl; (focus (exact ⟨_, hP _, by repeat (first | with_reducible exact Take.nil | with_reducible apply Take.c | with_reducible apply Take.drop)⟩)); rintro _ _ ⟨rfl, rfl⟩) | (apply w_dT; exact rfl; (focus (first | exact ‹_› | with_reducible exact rfl | omega))) | apply thenS_normal | apply blockS_normal | apply w_skip | apply w_block | ((with_reducible apply Sd.mk); (first | exact True.intro | omega | (constructor <;> first | omega | (unfold maxLen; omega)) | (unfold maxLen; omega))) | ((with_reducible apply Ln.mk); (first | rfl | exact ‹_› | omega | (simp [hlb]; first | done | omega))) | ((with_reducible apply Wr.mk); (first | exact hand | exact hq | exact IntWalk.i64_in _ (by omega) | exact IntWalk.u8_in _ (by omega) | exact IntWalk.u32_in _ (by omega) | exact IntWalk.u64_in _ (by omega) | exact IntKind.wrap_u8 _ | exact IntKind.wrap_u32 _ | rfl)) | ((with_reducible apply Ce.mk); (first | rfl | exact ‹_› | exact hcl | exact cell_recZ (fun _ => rfl) (by omega) (by decide) rfl | exact cell_rec (fun _ => rfl) (by omega) (by decide) rfl | exact cell_bytes (by omega) | exact cell_mapZ (by omega) | exact cell_map (by omega))) | exact True.intro | exact rfl)
      all_goals first
        | (exfalso; omega)
        | exact ⟨(k, 2 * j + 1, n + pz), ⟨by show k ≤ bits; omega, ⟨s1, s2⟩, by dsimp only; omega, by rw [← he, Int.add_assoc]; rfl⟩, Nat.lt_succ_self _, (by repeat' (first | exact trivial | refine ⟨rfl, ?_⟩ | refine ⟨congrArg some ?_, ?_⟩)), (by repeat (first | with_reducible exact Take.nil | with_reducible apply Take.c | ((with_reducible apply Take.cE); (first | exact rfl | (apply blkE; (focus (first | exact rfl | exact recs_snocE rfl | exact map_snocE rfl | exact congrArg (fun v => [v]) (gslE rfl rfl (by first | rfl | exact ‹_› | omega | (simp ; first | done | omega)) (by first | rfl | exact ‹_› | omega | (simp ; first | done | omega)) rfl)))))) | with_reducible apply Take.drop))⟩
        | trace_state
end Go.Proofs.Ytinfmojbdaiogaa
end
section
set_option linter.unusedVariables false
set_option linter.unusedSimpArgs false
set_option maxRecDepth 4000
namespace Go.Proofs.Ytinfmojbdaiogaa
open Go.Gh Go.RowKit

def tfr (v : Int) : Nat → List Int → Enc → Nat → Bool
  | 0, _, _, _ => false
  | k + 1, t, e, j => fresh e t[j]! (v / 2 ^ k % 2) || tfr v k (t.set j (adp t[j]! (v / 2 ^ k % 2))) (ebit e t[j]! (v / 2 ^ k % 2)) (2 * j + (v / 2 ^ k % 2).toNat)
theorem ROut.comp {h q1 q2 : SH} {o o1 o2 : List UInt8} {v v1 v2 : Value} {f1 f2 : Bool} (r1 : ROut h o v f1 o1 v1 q1) (r2 : ROut q1 o1 v1 f2 o2 v2 q2) : ∃ q3, ROut h o v (f1 || f2) o2 v2 q3 ∧ Take q2 q3 := by
  cases r2 with
  | same => exact ⟨q1, by rw [Bool.or_false]; exact r1, .nil⟩
  | new o A => exact ⟨_, by rw [Bool.or_true]; exact .new o2 A, .cons .head r1.take⟩
/-- A tree of the reference writes. -/
theorem rTEnc_any (bits : Nat) (t : List Int) (v : Int) (e : Enc) (w : Value) (A0 : Nat) (h h1 : SH) (hp : Pick h A0 ⟨nodes t, false⟩ h1) (hv : RO h e.out w) (ht : t.length = 2 ^ bits) (hbits : 1 ≤ bits ∧ bits ≤ 8) (hok : EncOk 900000 e) :
    SRun Try.prog 36 [reV w e.low e.size, gsl A0 0 t.length t.length 1, I v] h fun r q =>
      ∃ B w' qo, r = .tuple ⟨[reV w' (tenc v bits t e 1).2.low (tenc v bits t e 1).2.size, gsl B 0 t.length t.length 1]⟩ ∧ ROut h e.out w (tfr v bits t e 1) (tenc v bits t e 1).2.out w' qo ∧ q = (B, ⟨nodes (tenc v bits t e 1).1, false⟩) :: qo := by
  obtain ⟨K, hK⟩ : ∃ K, K = 2 ^ bits := ⟨_, rfl⟩
  have hK8 : K ≤ 256 := by rw [hK]; exact Nat.pow_le_pow_right (n := 2) (by decide) hbits.2
  obtain ⟨R, hR⟩ : ∃ R, tenc v bits t e 1 = R := ⟨_, rfl⟩
  obtain ⟨F, hF⟩ : ∃ F, tfr v bits t e 1 = F := ⟨_, rfl⟩
  rw [hR, hF]
  obtain ⟨o0, ho0⟩ : ∃ o0, o0 = e.out := ⟨_, rfl⟩
  rw [← ho0] at hv ⊢
  rw [← hK] at ht
  have ht0 := ht
  have hhalf : IntKind.i64.wrap ((t.length : Int).tdiv 2) = hpw bits := by
    rw [Int.tdiv_eq_ediv_of_nonneg (by omega), ht, hK]
    have : ((2 ^ bits : Nat) : Int) = hpw (bits + 1) := rfl
    rw [this, hpw_half]
    have := hpw_le (k := bits) (Nat.le_refl _) hbits.2
    exact IntWalk.i64_in _ (by omega)
  refine w_body3 Try.func36 rfl rfl ?_
  repeat' (first | apply w_seq | apply w_region | apply o_nil | (apply o_g tyOk; exact rfl; exact rfl) | (apply o_ar tyOk; exact rfl; exact rfl) | (apply o_alloc tyOk; iterate 5 exact rfl) | (apply o_box (tt := tyT); iterate 5 exact rfl) | apply thenS_normal | apply w_block | ((with_reducible apply Sd.mk); (first | exact True.intro | omega | (constructor <;> first | omega | (unfold maxLen; omega)) | (unfold maxLen; omega))) | ((with_reducible apply Wr.mk); (first | exact hhalf | exact IntWalk.i64_in _ (by omega) | exact IntWalk.u8_in _ (by omega) | exact IntWalk.u32_in _ (by omega) | exact IntWalk.u64_in _ (by omega) | exact IntKind.wrap_u8 _ | exact IntKind.wrap_u32 _ | rfl)) | intro A)
  rename_i E0
  refine w_loop (S := Nat × Nat × List Int × Enc × Nat × Value × Bool × SH × SH × Nat) (fun x => [(1, gsl x.2.2.2.2.1 0 x.2.2.1.length x.2.2.1.length 1), (2, I v), (3, gptr E0 0 3), (6, gptr A 0 3), (8, I x.2.1), (9, I (hpw x.1))])
    (fun x => (A, ⟨reC (.slice none 0 0) 0 0, false⟩) :: (E0, ⟨reC x.2.2.2.2.2.1 x.2.2.2.1.low x.2.2.2.1.size, false⟩) :: x.2.2.2.2.2.2.2.1)
    (fun x => x.1 ≤ bits ∧ (K ≤ 2 ^ x.1 * x.2.1 ∧ 2 ^ x.1 * (x.2.1 + 1) ≤ 2 * K) ∧ x.2.2.1.length = K ∧ EncOk x.2.2.2.2.2.2.2.2.2 x.2.2.2.1 ∧ x.2.2.2.2.2.2.2.2.2 + 2 * x.1 ≤ 900100 ∧ ROut h o0 w x.2.2.2.2.2.2.1 x.2.2.2.1.out x.2.2.2.2.2.1 x.2.2.2.2.2.2.2.2.1 ∧
      (∃ h2, Pick x.2.2.2.2.2.2.2.1 x.2.2.2.2.1 ⟨nodes x.2.2.1, false⟩ h2) ∧ (x.1 < bits → x.2.2.2.2.2.2.2.1 = (x.2.2.2.2.1, ⟨nodes x.2.2.1, false⟩) :: x.2.2.2.2.2.2.2.2.1) ∧ (x.1 = bits → x.2.2.2.2.2.2.2.1 = x.2.2.2.2.2.2.2.2.1) ∧
      tenc v x.1 x.2.2.1 x.2.2.2.1 x.2.1 = R ∧ (x.2.2.2.2.2.2.1 || tfr v x.1 x.2.2.1 x.2.2.2.1 x.2.1) = F) (fun x => x.1)
    (bits, 1, t, e, A0, w, false, h, h, 900000) ⟨Nat.le_refl _, ⟨by show K ≤ 2 ^ bits * 1; omega, by show 2 ^ bits * 2 ≤ 2 * K; omega⟩, ht, hok, by show 900000 + 2 * bits ≤ 900100; omega, by rw [ho0]; exact .same, ⟨_, hp⟩, fun g => absurd g (Nat.lt_irrefl _), fun _ => rfl, hR, hF⟩ (by repeat' (first | exact trivial | refine ⟨rfl, ?_⟩ | refine ⟨congrArg some ?_, ?_⟩)) (by repeat (first | with_reducible exact Take.nil | with_reducible apply Take.c | ((with_reducible apply Take.cE); (first | exact rfl | (apply blkE; (focus (first | exact rfl | exact recs_snocE rfl | exact map_snocE rfl | exact congrArg (fun v => [v]) (gslE rfl rfl (by first | rfl | exact ‹_› | omega | (simp ; first | done | omega)) (by first | rfl | exact ‹_› | omega | (simp ; first | done | omega)) rfl)))))) | with_reducible apply Take.drop)) ?_
  rintro ⟨k, j, t, e, B, w1, fr, q, qo, n⟩ ⟨hk, ⟨hj1, hj2⟩, ht, hok, hn, hro, ⟨h2, hp2⟩, hq1, hq2, he, hf⟩
  dsimp only at hk hj1 hj2 ht hok hn hro hp2 hq1 hq2 he hf ⊢
  have hlb : (nodes t).length = t.length := by simp
  have hroq := hro.ro hv
  have tqo : Take q qo := by
    by_cases g : k = bits
    · rw [hq2 g]; exact .nil
    · rw [hq1 (by omega)]; exact .drop .nil
  have hro1 := hroq.re tqo
  cases k with
  | zero =>
    have he : (t, e) = R := he
    have hf : (fr || false) = F := hf
    rw [Bool.or_false] at hf
    rw [← he, ← hf]
    rw [hq1 (by omega)] at hro1 ⊢
    rcases id hro1 with ⟨e0, rfl⟩ | ⟨A1, p2, rfl, hp3⟩
    all_goals
      repeat' (first | apply w_seq | apply w_region | apply o_nil | (apply o_g tyOk; exact rfl; exact rfl) | (apply o_loads tyOk; (iterate 3 exact rfl); (focus (exact pk))) | (apply o_stores tyOk; (iterate 4 exact rfl); (focus (exact ⟨rfl⟩)); (focus (exact up))) | (apply w_false; exact rfl) | apply thenS_normal | apply thenS_exit | apply blockS_exit | apply w_ret | apply w_exit | ((with_reducible apply Sd.mk); (first | exact True.intro | omega | (constructor <;> first | omega | (unfold maxLen; omega)) | (unfold maxLen; omega))) | ((with_reducible apply Ln.mk); (first | rfl | exact ‹_› | omega | (simp ; first | done | omega))) | ((with_reducible apply Pu.mk); (first | exact putAt_all rfl | exact putAt_recZ (fun _ => rfl) (by omega) | exact putAt_rec (fun _ => rfl) (by omega))) | ((with_reducible apply Su.mk); (first | exact subAt_all | exact subAt_recZ (fun _ => rfl) (by omega) | exact subAt_rec (fun _ => rfl) (by omega))) | exact True.intro | exact rfl)
      all_goals first
        | (exfalso; omega)
        | (apply s_fin; (exact (show ResS _ _ _ _ [_, _] from (res_cell tyOk rfl rfl rfl (by exact pk) (by first | rfl | exact ‹_› | omega | (simp ; first | done | omega)) (by first | rfl | exact ‹_› | omega | (simp ; first | done | omega)) ⟨rfl, trivial⟩))); (focus (exact ⟨B, _, qo, by show Value.tuple _ = Value.tuple _; rw [ht, ht0], hro, rfl⟩)); (focus (repeat (first | with_reducible exact Take.nil | with_reducible apply Take.c | ((with_reducible apply Take.cE); (first | exact rfl | (apply blkE; (focus (first | exact rfl | exact recs_snocE rfl | exact map_snocE rfl | exact congrArg (fun v => [v]) (gslE rfl rfl (by first | rfl | exact ‹_› | omega | (simp ; first | done | omega)) (by first | rfl | exact ‹_› | omega | (simp ; first | done | omega)) rfl)))))) | with_reducible apply Take.drop))))
        | trace_state
  | succ k =>
    obtain ⟨s1, s2, s3⟩ := way_step (b := (v / 2 ^ k % 2).toNat) hj1 hj2 (by omega)
    have hcl : (nodes t)[0 + ((j : Int)).toNat * 1]? = some (I t[j]!) := cell_mapZ (by omega)
    have hand := and_hpw v (k := k) (by omega)
    have hh := hpw_half k
    have hle := hpw_le hk hbits.2
    have hpos : 1 ≤ hpw (k + 1) := Nat.one_le_two_pow
    have hb01 := bit01 v k
    have he : tenc v k (t.set j (adp t[j]! (v / 2 ^ k % 2))) (ebit e t[j]! (v / 2 ^ k % 2)) (2 * j + (v / 2 ^ k % 2).toNat) = R := he
    have hf : (fr || (fresh e t[j]! (v / 2 ^ k % 2) || tfr v k (t.set j (adp t[j]! (v / 2 ^ k % 2))) (ebit e t[j]! (v / 2 ^ k % 2)) (2 * j + (v / 2 ^ k % 2).toNat))) = F := hf
    have hok2 := ebit_ok hok t[j]! (v / 2 ^ k % 2)
    have hfo := fun hfr => rBit_old e t[j]! (v / 2 ^ k % 2) w1 ((A, ⟨reC (.slice none 0 0) 0 0, false⟩) :: (E0, ⟨reC w1 e.low e.size, false⟩) :: q) (hro1.re (.drop (.drop .nil))) (hok.mono (by omega)) hfr
    have hfn := fun hfr => rBit_new e t[j]! (v / 2 ^ k % 2) w1 ((A, ⟨reC (.slice none 0 0) 0 0, false⟩) :: (E0, ⟨reC w1 e.low e.size, false⟩) :: q) (hro1.re (.drop (.drop .nil))) (hok.mono (by omega)) hfr
    generalize hbit : v / 2 ^ k % 2 = b at *
    generalize hpw (k + 1) = W at *
    have hq : IntKind.i64.wrap ((W : Int).tdiv 2) = ((hpw k : Nat) : Int) := by rw [Int.tdiv_eq_ediv_of_nonneg (by omega), hh]; exact IntWalk.i64_in _ (by omega)
    repeat' ((fail_if_success (show SWp _ _ (Code.cond (Operand.tmp 21) _ _) _ _ _)); first | apply w_seq | apply w_region | apply o_nil | (apply o_g tyOk; exact rfl; exact rfl) | (apply o_ar tyOk; exact rfl; exact rfl) | (apply w_dT; exact rfl; (focus (first | exact ‹_› | with_reducible exact rfl | omega))) | apply thenS_normal | apply w_skip | apply w_block | ((with_reducible apply Sd.mk); (first | exact True.intro | omega | (constructor <;> first | omega | (unfold maxLen; omega)) | (unfold maxLen; omega))) | ((with_reducible apply Wr.mk); (first | exact hand | exact IntWalk.i64_in _ (by omega) | exact IntWalk.u8_in _ (by omega) | exact IntWalk.u32_in _ (by omega) | exact IntWalk.u64_in _ (by omega) | exact IntKind.wrap_u8 _ | exact IntKind.wrap_u32 _ | rfl)))
    refine w_meet (S := Unit) (fun _ => [(1, gsl B 0 t.length t.length 1), (2, I v), (3, gptr E0 0 3), (6, gptr A 0 3), (8, I j), (9, I W), (10, I b)]) (fun _ => (A, ⟨reC (.slice none 0 0) 0 0, false⟩) :: (E0, ⟨reC w1 e.low e.size, false⟩) :: q) (fun _ => True) ?_ ?_
    · rcases hb01 with rfl | rfl
      · repeat' (first | (apply w_dF; exact rfl; (focus (first | exact ‹_› | with_reducible exact rfl | omega))) | apply thenS_normal | apply w_skip)
        all_goals first
          | (exfalso; omega)
          | exact ⟨(), trivial, (by repeat' (first | exact trivial | refine ⟨rfl, ?_⟩ | refine ⟨congrArg some ?_, ?_⟩)), (by repeat (first | with_reducible exact Take.nil | with_reducible apply Take.c | ((with_reducible apply Take.cE); (first | exact rfl | (apply blkE; (focus (first | exact rfl | exact recs_snocE rfl | exact map_snocE rfl | exact congrArg (fun v => [v]) (gslE rfl rfl (by first | rfl | exact ‹_› | omega | (simp ; first | done | omega)) (by first | rfl | exact ‹_› | omega | (simp ; first | done | omega)) rfl)))))) | with_reducible apply Take.drop))⟩
          | trace_state
      · repeat' (first | apply w_region | apply o_nil | (apply o_g tyOk; exact rfl; exact rfl) | (apply w_dT; exact rfl; (focus (first | exact ‹_› | with_reducible exact rfl | omega))) | apply thenS_normal | ((with_reducible apply Sd.mk); (first | exact True.intro | omega | (constructor <;> first | omega | (unfold maxLen; omega)) | (unfold maxLen; omega))))
        all_goals first
          | (exfalso; omega)
          | exact ⟨(), trivial, (by repeat' (first | exact trivial | refine ⟨rfl, ?_⟩ | refine ⟨congrArg some ?_, ?_⟩)), (by repeat (first | with_reducible exact Take.nil | with_reducible apply Take.c | ((with_reducible apply Take.cE); (first | exact rfl | (apply blkE; (focus (first | exact rfl | exact recs_snocE rfl | exact map_snocE rfl | exact congrArg (fun v => [v]) (gslE rfl rfl (by first | rfl | exact ‹_› | omega | (simp ; first | done | omega)) (by first | rfl | exact ‹_› | omega | (simp ; first | done | omega)) rfl)))))) | with_reducible apply Take.drop))⟩
          | trace_state
    · rintro - -
      have hS := rset_any B t j (adp t[j]! b)
      cases hfr : fresh e t[j]! b with
      | false =>
        rw [hfr, Bool.false_or] at hf
        obtain ⟨hout, hB⟩ := hfo hfr
        rcases id hro1 with ⟨e0, rfl⟩ | ⟨A1, p2, rfl, hp3⟩
        all_goals
          repeat' (first | apply w_seq | apply w_region | apply o_nil | (apply w_draw; (focus (kernel_rfl)); (focus (kernel_rfl))) | (apply o_g tyOk; exact rfl; exact rfl) | (apply o_ar tyOk; exact rfl; exact rfl) | (apply o_load tyOk; (iterate 3 exact rfl); (focus (exact pk))) | (apply o_loads tyOk; (iterate 3 exact rfl); (focus (exact pk))) | (apply o_stores tyOk; (iterate 4 exact rfl); (focus (exact ⟨rfl⟩)); (focus (exact up))) | (apply o_callE0; (iterate 4 exact rfl); (focus (exact ⟨hB, by repeat (first | with_reducible exact Take.nil | with_reducible apply Take.c | with_reducible apply Take.drop)⟩)); (focus (first | exact List.Perm.refl _ | (simp; done) | exact List.Perm.swap _ _ _)); (focus ((intro ρ D hρ hD; refine ⟨?_, ?_⟩; (focus (repeat (first | exact VR.const rfl | (apply VR.ptr'; (focus (first | exact e1 | exact e2 | exact e3 | ((apply rho_pick hρ); (exact pk)))); (focus (first | exact d1 | exact d2 | exact d3 | ((apply dom_pick hD); (exact pk))))) | (apply VR.slc'; (focus (first | exact e1 | exact e2 | exact e3 | ((apply rho_pick hρ); (exact pk)))); (focus (first | exact d1 | exact d2 | exact d3 | ((apply dom_pick hD); (exact pk))))) | exact VR.sdead | apply VRs.tuple | apply VRs.agg | exact VRs.nil | ((apply VRs.const); (focus (first | exact bytesV_const _ | exact map_const (fun _ => rfl) | exact recs_const (fun _ v hv => by simp only [List.mem_cons, List.not_mem_nil, or_false] at hv; rcases hv with rfl | rfl | rfl | rfl | rfl <;> rfl)))) | apply VRs.cons))); (focus (repeat (first | exact SHR.nil | ((apply SHR.same); (focus (intro x hx; (repeat (first | exact hx | apply List.mem_cons_of_mem)); done))) | ((apply SHR.keep); (focus ((repeat (first | with_reducible exact List.mem_cons_self | apply List.mem_cons_of_mem)); done))) | (apply SHR.cons; (focus (first | exact e1 | exact e2 | exact e3 | ((apply rho_pick hρ); (exact pk)))); (focus (repeat (first | exact VR.const rfl | (apply VR.ptr'; (focus (first | exact e1 | exact e2 | exact e3 | ((apply rho_pick hρ); (exact pk)))); (focus (first | exact d1 | exact d2 | exact d3 | ((apply dom_pick hD); (exact pk))))) | (apply VR.slc'; (focus (first | exact e1 | exact e2 | exact e3 | ((apply rho_pick hρ); (exact pk)))); (focus (first | exact d1 | exact d2 | exact d3 | ((apply dom_pick hD); (exact pk))))) | exact VR.sdead | apply VRs.tuple | apply VRs.agg | exact VRs.nil | ((apply VRs.const); (focus (first | exact bytesV_const _ | exact map_const (fun _ => rfl) | exact recs_const (fun _ v hv => by simp only [List.mem_cons, List.not_mem_nil, or_false] at hv; rcases hv with rfl | rfl | rfl | rfl | rfl <;> rfl)))) | apply VRs.cons))))))))))) | (apply o_call; exact rfl; exact rfl; (focus (first | exact rfl | assumption)); exact rfl; (focus (exact ⟨_, rAdapt_any _ _ _, by repeat (first | with_reducible exact Take.nil | with_reducible apply Take.c | with_reducible apply Take.drop)⟩)); rintro _ _ ⟨rfl, rfl⟩) | (apply o_call; exact rfl; exact rfl; (focus (first | exact rfl | assumption)); exact rfl; (focus (exact ⟨_, hS _ _ (.tail (.tail hp2)) (by omega) (by omega), by repeat (first | with_reducible exact Take.nil | with_reducible apply Take.c | with_reducible apply Take.drop)⟩)); rintro _ _ ⟨B2, rfl, rfl⟩) | apply thenS_normal | apply blockS_normal | ((with_reducible apply Sd.mk); (first | exact True.intro | omega | (constructor <;> first | omega | (unfold maxLen; omega)) | (unfold maxLen; omega))) | ((with_reducible apply Ln.mk); (first | rfl | exact ‹_› | omega | (simp [hlb]; first | done | omega))) | ((with_reducible apply Wr.mk); (first | exact hq | exact IntWalk.i64_in _ (by omega) | exact IntWalk.u8_in _ (by omega) | exact IntWalk.u32_in _ (by omega) | exact IntWalk.u64_in _ (by omega) | exact IntKind.wrap_u8 _ | exact IntKind.wrap_u32 _ | rfl)) | ((with_reducible apply Ce.mk); (first | rfl | exact ‹_› | exact hcl | exact cell_recZ (fun _ => rfl) (by omega) (by decide) rfl | exact cell_rec (fun _ => rfl) (by omega) (by decide) rfl | exact cell_bytes (by omega) | exact cell_mapZ (by omega) | exact cell_map (by omega))) | ((with_reducible apply Pu.mk); (first | exact putAt_all rfl | exact putAt_recZ (fun _ => rfl) (by omega) | exact putAt_rec (fun _ => rfl) (by omega))) | ((with_reducible apply Su.mk); (first | exact subAt_all | exact subAt_recZ (fun _ => rfl) (by omega) | exact subAt_rec (fun _ => rfl) (by omega))) | exact True.intro | exact Or.inl rfl | apply And.intro | exact rfl)
          all_goals first
            | (exfalso; omega)
            | exact ⟨(k, 2 * j + b.toNat, t.set j (adp t[j]! b), ebit e t[j]! b, B2, _, fr, (B2, ⟨nodes (t.set j (adp t[j]! b)), false⟩) :: qo, qo, n + 2), ⟨by show k ≤ bits; omega, ⟨s1, s2⟩, by rw [List.length_set]; exact ht, hok2, by show n + 2 + 2 * k ≤ 900100; omega, by rw [hout]; exact hro, ⟨_, .head⟩, fun _ => rfl, fun g => by dsimp only at g; omega, he, hf⟩, Nat.lt_succ_self _, ⟨congrArg some (gslE rfl rfl (by simp) (by simp) rfl), rfl, rfl, rfl, congrArg some (congrArg (Value.int .i64) (by show 2 * (j : Int) + b = ((2 * j + b.toNat : Nat) : Int); omega)), rfl, trivial⟩, .cons (.tail .head) (.cons (.tail .head) (.cons .head tqo))⟩
            | trace_state
      | true =>
        rw [hfr, Bool.true_or, Bool.or_true] at hf
        have hB := hfn hfr
        repeat' (first | apply w_seq | apply w_region | apply o_nil | (apply w_draw; (focus (kernel_rfl)); (focus (kernel_rfl))) | (apply o_g tyOk; exact rfl; exact rfl) | (apply o_ar tyOk; exact rfl; exact rfl) | (apply o_load tyOk; (iterate 3 exact rfl); (focus (exact pk))) | (apply o_loads tyOk; (iterate 3 exact rfl); (focus (exact pk))) | (apply o_stores tyOk; (iterate 4 exact rfl); (focus (exact ⟨rfl⟩)); (focus (exact up))) | (apply o_callE1; (iterate 4 exact rfl); (focus (exact ⟨hB, by repeat (first | with_reducible exact Take.nil | with_reducible apply Take.c | with_reducible apply Take.drop)⟩)); (focus ((intro _; (first | exact List.Perm.refl _ | (simp; done) | exact List.Perm.swap _ _ _)))); (focus ((intro A1 A2 ρ D e1 d1 hρ hD; refine ⟨?_, ?_⟩; (focus (repeat (first | exact VR.const rfl | (apply VR.ptr'; (focus (first | exact e1 | exact e2 | exact e3 | ((apply rho_pick hρ); (exact pk)))); (focus (first | exact d1 | exact d2 | exact d3 | ((apply dom_pick hD); (exact pk))))) | (apply VR.slc'; (focus (first | exact e1 | exact e2 | exact e3 | ((apply rho_pick hρ); (exact pk)))); (focus (first | exact d1 | exact d2 | exact d3 | ((apply dom_pick hD); (exact pk))))) | exact VR.sdead | apply VRs.tuple | apply VRs.agg | exact VRs.nil | ((apply VRs.const); (focus (first | exact bytesV_const _ | exact map_const (fun _ => rfl) | exact recs_const (fun _ v hv => by simp only [List.mem_cons, List.not_mem_nil, or_false] at hv; rcases hv with rfl | rfl | rfl | rfl | rfl <;> rfl)))) | apply VRs.cons))); (focus (repeat (first | exact SHR.nil | ((apply SHR.same); (focus (intro x hx; (repeat (first | exact hx | apply List.mem_cons_of_mem)); done))) | ((apply SHR.keep); (focus ((repeat (first | with_reducible exact List.mem_cons_self | apply List.mem_cons_of_mem)); done))) | (apply SHR.cons; (focus (first | exact e1 | exact e2 | exact e3 | ((apply rho_pick hρ); (exact pk)))); (focus (repeat (first | exact VR.const rfl | (apply VR.ptr'; (focus (first | exact e1 | exact e2 | exact e3 | ((apply rho_pick hρ); (exact pk)))); (focus (first | exact d1 | exact d2 | exact d3 | ((apply dom_pick hD); (exact pk))))) | (apply VR.slc'; (focus (first | exact e1 | exact e2 | exact e3 | ((apply rho_pick hρ); (exact pk)))); (focus (first | exact d1 | exact d2 | exact d3 | ((apply dom_pick hD); (exact pk))))) | exact VR.sdead | apply VRs.tuple | apply VRs.agg | exact VRs.nil | ((apply VRs.const); (focus (first | exact bytesV_const _ | exact map_const (fun _ => rfl) | exact recs_const (fun _ v hv => by simp only [List.mem_cons, List.not_mem_nil, or_false] at hv; rcases hv with rfl | rfl | rfl | rfl | rfl <;> rfl)))) | apply VRs.cons))))))))))) | (apply o_call; exact rfl; exact rfl; (focus (first | exact rfl | assumption)); exact rfl; (focus (exact ⟨_, rAdapt_any _ _ _, by repeat (first | with_reducible exact Take.nil | with_reducible apply Take.c | with_reducible apply Take.drop)⟩)); rintro _ _ ⟨rfl, rfl⟩) | (apply o_call; exact rfl; exact rfl; (focus (first | exact rfl | assumption)); exact rfl; (focus (exact ⟨_, hS _ _ (.tail (.tail (.tail hp2))) (by omega) (by omega), by repeat (first | with_reducible exact Take.nil | with_reducible apply Take.c | with_reducible apply Take.drop)⟩)); rintro _ _ ⟨B2, rfl, rfl⟩) | apply thenS_normal | apply blockS_normal | ((with_reducible apply Sd.mk); (first | exact True.intro | omega | (constructor <;> first | omega | (unfold maxLen; omega)) | (unfold maxLen; omega))) | ((with_reducible apply Ln.mk); (first | rfl | exact ‹_› | omega | (simp [hlb]; first | done | omega))) | ((with_reducible apply Wr.mk); (first | exact hq | exact IntWalk.i64_in _ (by omega) | exact IntWalk.u8_in _ (by omega) | exact IntWalk.u32_in _ (by omega) | exact IntWalk.u64_in _ (by omega) | exact IntKind.wrap_u8 _ | exact IntKind.wrap_u32 _ | rfl)) | ((with_reducible apply Ce.mk); (first | rfl | exact ‹_› | exact hcl | exact cell_recZ (fun _ => rfl) (by omega) (by decide) rfl | exact cell_rec (fun _ => rfl) (by omega) (by decide) rfl | exact cell_bytes (by omega) | exact cell_mapZ (by omega) | exact cell_map (by omega))) | ((with_reducible apply Pu.mk); (first | exact putAt_all rfl | exact putAt_recZ (fun _ => rfl) (by omega) | exact putAt_rec (fun _ => rfl) (by omega))) | ((with_reducible apply Su.mk); (first | exact subAt_all | exact subAt_recZ (fun _ => rfl) (by omega) | exact subAt_rec (fun _ => rfl) (by omega))) | exact True.intro | exact Or.inl rfl | apply And.intro | intro A | exact rfl)
        all_goals first
          | (exfalso; omega)
          | exact ⟨(k, 2 * j + b.toNat, t.set j (adp t[j]! b), ebit e t[j]! b, B2, _, true, (B2, ⟨nodes (t.set j (adp t[j]! b)), false⟩) :: (A, ⟨bytesV (ebit e t[j]! b).out, false⟩) :: h, _, n + 2), ⟨by show k ≤ bits; omega, ⟨s1, s2⟩, by rw [List.length_set]; exact ht, hok2, by show n + 2 + 2 * k ≤ 900100; omega, .new _ A, ⟨_, .head⟩, fun _ => rfl, fun g => by dsimp only at g; omega, he, by rw [Bool.true_or]; exact hf⟩, Nat.lt_succ_self _, ⟨congrArg some (gslE rfl rfl (by simp) (by simp) rfl), rfl, rfl, rfl, congrArg some (congrArg (Value.int .i64) (by show 2 * (j : Int) + b = ((2 * j + b.toNat : Nat) : Int); omega)), rfl, trivial⟩, .cons (.tail (.tail .head)) (.cons (.tail (.tail .head)) (.cons .head (.cons .head (tqo.trans hro.take))))⟩
          | trace_state
end Go.Proofs.Ytinfmojbdaiogaa
end
section
set_option linter.unusedVariables false
set_option linter.unusedSimpArgs false
set_option maxRecDepth 4000
namespace Go.Proofs.Ytinfmojbdaiogaa
open Go.Gh Go.RowKit

/-- What decode[byte] gives: bytes, error. -/
def rdec (l : List UInt8) (most : Int) (P : List Int) (c : Int) : List UInt8 × Int :=
  if (rdN l 4096).2.2 ≠ 0 then ([], 12) else if most < (rdN l 4096).1 then ([], 2) else if (rdN l 4096).1 = 0 then ([], rend (rdN l 4096).2.1 0)
  else if dend (bdecN (rdN l 4096).1.toNat P c (dnew (rdN l 4096).2.1)).2 ≠ 0 then ([], dend (bdecN (rdN l 4096).1.toNat P c (dnew (rdN l 4096).2.1)).2)
  else ((bdecN (rdN l 4096).1.toNat P c (dnew (rdN l 4096).2.1)).1, 0)
theorem rdN_ok (l : List UInt8) (m : Int) : (rdN l m).2.1.length ≤ l.length ∧ ((rdN l m).2.2 = 0 → 0 ≤ (rdN l m).1 ∧ (rdN l m).1 ≤ m) := by
  unfold rdN
  split
  · exact ⟨Nat.le_refl _, fun h => absurd h (by show ¬ (12 : Int) = 0; decide)⟩
  · split
    · exact ⟨Nat.le_refl _, fun h => absurd h (by show ¬ (2 : Int) = 0; decide)⟩
    · dsimp only
      rw [List.length_drop]
      omega
/-- Bytes in a block of their own; none where there is an error or no byte. -/
def IsB (h : SH) (x : List UInt8 × Int) (r : Value) (q : SH) : Prop := (x.1 = [] ∧ r = .tuple #[.slice none 0 0, Er x.2] ∧ q = h) ∨
  (x.2 = 0 ∧ ∃ A, r = .tuple #[gsl A 0 x.1.length x.1.length 1, Er 0] ∧ q = (A, ⟨bytesV x.1, false⟩) :: h)
theorem decodeB_any (M N : Nat) (P : List Int) (c : Int) (l : List UInt8) (most : Int) (h : SH) (hl : l.length ≤ 100000) (hP : P.length = 2048) (hc0 : 0 ≤ c ∧ c ≤ 255) :
    SRun Try.prog 50 [.iface 34 (gptr M 0 17), S l, I 4096, I most] ((M, ⟨byC N c, false⟩) :: (N, ⟨nodes P, false⟩) :: h) (IsB h (rdec l most P c)) := by
  have hR := fun n h => rNumber_any n l 4096 h hl
  have hok := rdN_ok l 4096
  obtain ⟨x, hx⟩ : ∃ x, rdec l most P c = x := ⟨_, rfl⟩
  rw [hx]
  unfold rdec at hx
  generalize rdN l 4096 = V at *
  obtain ⟨k, d, e⟩ := V
  dsimp only at *
  have hT := fun n h => rTake_any n d (d.length : Int) h (by omega) (by omega)
  rw [show ((d.length : Int)).toNat = d.length from rfl, List.take_length, List.drop_length] at hT
  by_cases he : e = 0
  case neg =>
    rw [if_pos he] at hx
    refine w_body4 Try.func50 rfl rfl ?_
    repeat' (first | apply w_seq | apply w_region | apply o_nil | (apply o_g tyOk; exact rfl; exact rfl) | (apply o_call; exact rfl; exact rfl; (focus (first | exact rfl | assumption)); exact rfl; (focus (exact ⟨_, NewReader_any _ _, by repeat (first | with_reducible exact Take.nil | with_reducible apply Take.c | with_reducible apply Take.drop)⟩)); rintro _ _ ⟨n, rfl, rfl⟩) | (apply o_call; exact rfl; exact rfl; (focus (first | exact rfl | assumption)); exact rfl; (focus (exact ⟨_, hR _ _, by repeat (first | with_reducible exact Take.nil | with_reducible apply Take.c | with_reducible apply Take.drop)⟩)); rintro _ _ ⟨rfl, rfl⟩) | (apply o_call; exact rfl; exact rfl; (focus (first | exact rfl | assumption)); exact rfl; (focus (exact ⟨_, rErr_any _ _ _ _, by repeat (first | with_reducible exact Take.nil | with_reducible apply Take.c | with_reducible apply Take.drop)⟩)); rintro _ _ ⟨rfl, rfl⟩) | (apply w_dT; exact rfl; (focus (first | exact ‹_› | with_reducible exact rfl | omega))) | apply thenS_normal | apply thenS_ret | apply w_ret | ((with_reducible apply Sd.mk); (first | exact True.intro | omega | (constructor <;> first | omega | (unfold maxLen; omega)) | (unfold maxLen; omega))))
    all_goals first
      | contradiction
      | (apply s_fin; (exact (show ResS _ _ _ _ [_, _] from ⟨rfl, ⟨rfl, trivial⟩⟩)); (focus (exact .inl ⟨by rw [← hx], by rw [← hx]; rfl, rfl⟩)); (focus (repeat (first | with_reducible exact Take.nil | with_reducible apply Take.c | ((with_reducible apply Take.cE); (first | exact rfl | (apply blkE; (focus (first | exact rfl | exact recs_snocE rfl | exact map_snocE rfl | exact congrArg (fun v => [v]) (gslE rfl rfl (by first | rfl | exact ‹_› | omega | (simp ; first | done | omega)) (by first | rfl | exact ‹_› | omega | (simp ; first | done | omega)) rfl)))))) | with_reducible apply Take.drop))))
      | trace_state
  subst he
  rw [if_neg (by decide)] at hx
  have hk := hok.2 rfl
  by_cases h1 : most < k
  case pos =>
    rw [if_pos h1] at hx
    refine w_body4 Try.func50 rfl rfl ?_
    repeat' (first | apply w_seq | apply w_region | apply o_nil | (apply o_g tyOk; exact rfl; exact rfl) | (apply o_call; exact rfl; exact rfl; (focus (first | exact rfl | assumption)); exact rfl; (focus (exact ⟨_, NewReader_any _ _, by repeat (first | with_reducible exact Take.nil | with_reducible apply Take.c | with_reducible apply Take.drop)⟩)); rintro _ _ ⟨n, rfl, rfl⟩) | (apply o_call; exact rfl; exact rfl; (focus (first | exact rfl | assumption)); exact rfl; (focus (exact ⟨_, hR _ _, by repeat (first | with_reducible exact Take.nil | with_reducible apply Take.c | with_reducible apply Take.drop)⟩)); rintro _ _ ⟨rfl, rfl⟩) | (apply o_call; exact rfl; exact rfl; (focus (first | exact rfl | assumption)); exact rfl; (focus (exact ⟨_, rErr_any _ _ _ _, by repeat (first | with_reducible exact Take.nil | with_reducible apply Take.c | with_reducible apply Take.drop)⟩)); rintro _ _ ⟨rfl, rfl⟩) | (apply w_false; exact rfl) | (apply w_dT; exact rfl; (focus (first | exact ‹_› | with_reducible exact rfl | omega))) | apply thenS_normal | apply thenS_ret | apply w_skip | apply w_ret | ((with_reducible apply Sd.mk); (first | exact True.intro | omega | (constructor <;> first | omega | (unfold maxLen; omega)) | (unfold maxLen; omega))))
    all_goals first
      | contradiction
      | (apply s_fin; (exact (show ResS _ _ _ _ [_, _] from ⟨rfl, ⟨rfl, trivial⟩⟩)); (focus (exact .inl ⟨by rw [← hx], by rw [← hx]; rfl, rfl⟩)); (focus (repeat (first | with_reducible exact Take.nil | with_reducible apply Take.c | ((with_reducible apply Take.cE); (first | exact rfl | (apply blkE; (focus (first | exact rfl | exact recs_snocE rfl | exact map_snocE rfl | exact congrArg (fun v => [v]) (gslE rfl rfl (by first | rfl | exact ‹_› | omega | (simp ; first | done | omega)) (by first | rfl | exact ‹_› | omega | (simp ; first | done | omega)) rfl)))))) | with_reducible apply Take.drop))))
      | trace_state
  rw [if_neg h1] at hx
  by_cases h2 : k = 0
  case pos =>
    rw [if_pos h2] at hx
    refine w_body4 Try.func50 rfl rfl ?_
    repeat' (first | apply w_seq | apply w_region | apply o_nil | (apply o_g tyOk; exact rfl; exact rfl) | (apply o_call; exact rfl; exact rfl; (focus (first | exact rfl | assumption)); exact rfl; (focus (exact ⟨_, NewReader_any _ _, by repeat (first | with_reducible exact Take.nil | with_reducible apply Take.c | with_reducible apply Take.drop)⟩)); rintro _ _ ⟨n, rfl, rfl⟩) | (apply o_call; exact rfl; exact rfl; (focus (first | exact rfl | assumption)); exact rfl; (focus (exact ⟨_, hR _ _, by repeat (first | with_reducible exact Take.nil | with_reducible apply Take.c | with_reducible apply Take.drop)⟩)); rintro _ _ ⟨rfl, rfl⟩) | (apply o_call; exact rfl; exact rfl; (focus (first | exact rfl | assumption)); exact rfl; (focus (exact ⟨_, rErr_any _ _ _ _, by repeat (first | with_reducible exact Take.nil | with_reducible apply Take.c | with_reducible apply Take.drop)⟩)); rintro _ _ ⟨rfl, rfl⟩) | (apply o_call; exact rfl; exact rfl; (focus (first | exact rfl | assumption)); exact rfl; (focus (exact ⟨_, vEnd_any _ _ _ _, by repeat (first | with_reducible exact Take.nil | with_reducible apply Take.c | with_reducible apply Take.drop)⟩)); rintro _ _ ⟨rfl, rfl⟩) | (apply w_false; exact rfl) | (apply w_dT; exact rfl; (focus (first | exact ‹_› | with_reducible exact rfl | omega))) | (apply w_dF; exact rfl; (focus (first | exact ‹_› | with_reducible exact rfl | omega))) | apply thenS_normal | apply thenS_ret | apply w_skip | apply w_ret | ((with_reducible apply Sd.mk); (first | exact True.intro | omega | (constructor <;> first | omega | (unfold maxLen; omega)) | (unfold maxLen; omega))))
    all_goals first
      | contradiction
      | (apply s_fin; (exact (show ResS _ _ _ _ [_, _] from ⟨rfl, ⟨rfl, trivial⟩⟩)); (focus (exact .inl ⟨by rw [← hx], by rw [← hx]; rfl, rfl⟩)); (focus (repeat (first | with_reducible exact Take.nil | with_reducible apply Take.c | ((with_reducible apply Take.cE); (first | exact rfl | (apply blkE; (focus (first | exact rfl | exact recs_snocE rfl | exact map_snocE rfl | exact congrArg (fun v => [v]) (gslE rfl rfl (by first | rfl | exact ‹_› | omega | (simp ; first | done | omega)) (by first | rfl | exact ‹_› | omega | (simp ; first | done | omega)) rfl)))))) | with_reducible apply Take.drop))))
      | trace_state
  rw [if_neg h2] at hx
  obtain ⟨m, rfl⟩ := Int.eq_ofNat_of_zero_le hk.1
  rw [Int.toNat_natCast] at hx
  have hzr : zrow (Value.int IntKind.u8 0) (((m : Int)).toNat * 1) = bytesV (List.replicate m 0) := by
    rw [Int.toNat_natCast]; exact map_zrow (f := fun c : UInt8 => Value.int .u8 c.toNat) 0 rfl rfl _
  refine w_body4 Try.func50 rfl rfl ?_
  repeat' (first | apply w_seq | apply w_region | apply o_nil | (apply o_g tyOk; exact rfl; exact rfl) | (apply o_makeSlice tyOk; (iterate 6 exact rfl); (focus (decide)); (focus (first | exact True.intro | omega | (constructor <;> first | omega | (unfold maxLen; omega)) | (unfold maxLen; omega))); (focus (first | rfl)); exact rfl) | (apply o_call; exact rfl; exact rfl; (focus (first | exact rfl | assumption)); exact rfl; (focus (exact ⟨_, NewReader_any _ _, by repeat (first | with_reducible exact Take.nil | with_reducible apply Take.c | with_reducible apply Take.drop)⟩)); rintro _ _ ⟨n, rfl, rfl⟩) | (apply o_call; exact rfl; exact rfl; (focus (first | exact rfl | assumption)); exact rfl; (focus (exact ⟨_, hR _ _, by repeat (first | with_reducible exact Take.nil | with_reducible apply Take.c | with_reducible apply Take.drop)⟩)); rintro _ _ ⟨rfl, rfl⟩) | (apply o_call; exact rfl; exact rfl; (focus (first | exact rfl | assumption)); exact rfl; (focus (exact ⟨_, rErr_any _ _ _ _, by repeat (first | with_reducible exact Take.nil | with_reducible apply Take.c | with_reducible apply Take.drop)⟩)); rintro _ _ ⟨rfl, rfl⟩) | (apply o_call; exact rfl; exact rfl; (focus (first | exact rfl | assumption)); exact rfl; (focus (exact ⟨_, rLeft_any _ _ _ _, by repeat (first | with_reducible exact Take.nil | with_reducible apply Take.c | with_reducible apply Take.drop)⟩)); rintro _ _ ⟨rfl, rfl⟩) | (apply o_call; exact rfl; exact rfl; (focus (first | exact rfl | assumption)); exact rfl; (focus (exact ⟨_, hT _ _, by repeat (first | with_reducible exact Take.nil | with_reducible apply Take.c | with_reducible apply Take.drop)⟩)); rintro _ _ ⟨rfl, rfl⟩) | (apply o_call; exact rfl; exact rfl; (focus (first | exact rfl | assumption)); exact rfl; (focus (exact ⟨_, NewDecoder_any _ _ (by omega), by repeat (first | with_reducible exact Take.nil | with_reducible apply Take.c | with_reducible apply Take.drop)⟩)); rintro _ _ ⟨n2, rfl, rfl⟩) | (apply w_false; exact rfl) | (apply w_dF; exact rfl; (focus (first | exact ‹_› | with_reducible exact rfl | omega))) | apply thenS_normal | apply w_skip | apply w_block | ((with_reducible apply Sd.mk); (first | exact True.intro | omega | (constructor <;> first | omega | (unfold maxLen; omega)) | (unfold maxLen; omega))) | intro A)
  rw [hzr, Int.toNat_natCast]
  refine w_loop (S := Nat × List UInt8 × List Int × Int × Dec) (fun x => [(0, .iface 34 (gptr M 0 17)), (12, gptr n2 0 5), (13, gsl A 0 (m * 1) m 1), (39, I m), (40, I x.1)])
    (fun x => (A, ⟨bytesV x.2.1, false⟩) :: decB n2 x.2.2.2.2 :: (M, ⟨byC N x.2.2.2.1, false⟩) :: (N, ⟨nodes x.2.2.1, false⟩) :: h)
    (fun x => x.1 ≤ m ∧ x.2.1.length = m ∧ x.2.2.1.length = 2048 ∧ (0 ≤ x.2.2.2.1 ∧ x.2.2.2.1 ≤ 255) ∧ DecOk x.2.2.2.2 ∧ (x.2.1.take x.1 ++ (bdecN (m - x.1) x.2.2.1 x.2.2.2.1 x.2.2.2.2).1, (bdecN (m - x.1) x.2.2.1 x.2.2.2.1 x.2.2.2.2).2) = bdecN m P c (dnew d))
    (fun x => m - x.1) (0, List.replicate m 0, P, c, dnew d) ⟨Nat.zero_le _, List.length_replicate, hP, hc0, dnew_ok (by omega), rfl⟩ (by repeat' (first | exact trivial | refine ⟨rfl, ?_⟩ | refine ⟨congrArg some ?_, ?_⟩)) (by repeat (first | with_reducible exact Take.nil | with_reducible apply Take.c | ((with_reducible apply Take.cE); (first | exact rfl | (apply blkE; (focus (first | exact rfl | exact recs_snocE rfl | exact map_snocE rfl | exact congrArg (fun v => [v]) (gslE rfl rfl (by first | rfl | exact ‹_› | omega | (simp ; first | done | omega)) (by first | rfl | exact ‹_› | omega | (simp ; first | done | omega)) rfl)))))) | with_reducible apply Take.drop)) ?_
  rintro ⟨i, L, P1, c1, d1⟩ ⟨hi, hL, hP1, hc1, hok1, he⟩
  dsimp only at hi hL hP1 hc1 hok1 he ⊢
  by_cases him : i < m
  · have hb := bdec_ok (P := P1) (c := c1) hok1 hP1 hc1
    have hD := BytesDecode_any n2 M N P1 c1 d1 ((A, ⟨bytesV L, false⟩) :: h) hP1 hc1 hok1
    rw [show m - i = (m - (i + 1)) + 1 by omega] at he
    rw [show ∀ k, bdecN (k + 1) P1 c1 d1 = (b8 (bdec P1 c1 d1).2.2 :: (bdecN k (bdec P1 c1 d1).1 (bdec P1 c1 d1).2.2 (bdec P1 c1 d1).2.1).1, (bdecN k (bdec P1 c1 d1).1 (bdec P1 c1 d1).2.2 (bdec P1 c1 d1).2.1).2) from fun _ => rfl] at he
    generalize bdec P1 c1 d1 = B at *
    obtain ⟨P2, d2, c2⟩ := B
    dsimp only at he hD hb
    repeat' (first | apply w_seq | apply w_region | apply o_nil | (apply o_g tyOk; exact rfl; exact rfl) | (apply o_ar tyOk; exact rfl; exact rfl) | (apply o_store tyOk; (iterate 4 exact rfl); (focus (exact up))) | (apply o_invoke; (iterate 3 exact rfl); (focus (exact ⟨_, hD, by repeat (first | with_reducible exact Take.nil | with_reducible apply Take.c | with_reducible apply Take.drop)⟩)); (focus (kernel_rfl)); exact rfl; rintro _ _ ⟨rfl, rfl⟩) | (apply w_dT; exact rfl; (focus (first | exact ‹_› | with_reducible exact rfl | omega))) | apply thenS_normal | apply blockS_normal | apply w_skip | apply w_block | ((with_reducible apply Sd.mk); (first | exact True.intro | omega | (constructor <;> first | omega | (unfold maxLen; omega)) | (unfold maxLen; omega))) | ((with_reducible apply Ln.mk); (first | rfl | exact ‹_› | omega | (simp ; first | done | omega))) | ((with_reducible apply Wr.mk); (first | exact IntWalk.i64_in _ (by omega) | exact IntWalk.u8_in _ (by omega) | exact IntWalk.u32_in _ (by omega) | exact IntWalk.u64_in _ (by omega) | exact IntKind.wrap_u8 _ | exact IntKind.wrap_u32 _ | rfl)) | ((with_reducible apply Se.mk); (first | (focus ((repeat (first | exact SetAt.zero | apply SetAt.succ)); done)) | exact setAt_bytes (by omega) (by omega) | exact setAt_mapZ (by omega) | exact setAt_map (by omega))) | exact True.intro)
    all_goals first
      | (exfalso; omega)
      | (refine ⟨(i + 1, L.set i (b8 c2), P2, c2, d2), ⟨him, by simp [hL], hb.2.1, hb.2.2, hb.1, ?_⟩, by show m - (i + 1) < m - i; omega, (by repeat' (first | exact trivial | refine ⟨rfl, ?_⟩ | refine ⟨congrArg some ?_, ?_⟩)), (by repeat (first | with_reducible exact Take.nil | with_reducible apply Take.c | ((with_reducible apply Take.cE); (first | exact rfl | (apply blkE; (focus (first | exact rfl | exact recs_snocE rfl | exact map_snocE rfl | exact congrArg (fun v => [v]) (gslE rfl rfl (by first | rfl | exact ‹_› | omega | (simp ; first | done | omega)) (by first | rfl | exact ‹_› | omega | (simp ; first | done | omega)) rfl)))))) | with_reducible apply Take.drop))⟩
         dsimp only
         rw [take_set (by omega), List.append_assoc]
         exact he)
      | trace_state
  · obtain rfl : i = m := by omega
    rw [Nat.sub_self, List.take_of_length_le (by omega)] at he
    have he : (L ++ [], d1) = bdecN i P c (dnew d) := he
    rw [List.append_nil] at he
    rw [← he] at hx
    dsimp only at hx
    by_cases h3 : dend d1 = 0
    · rw [if_neg (fun g => g h3)] at hx
      repeat' (first | apply w_seq | apply w_region | apply o_nil | (apply o_g tyOk; exact rfl; exact rfl) | (apply o_call; exact rfl; exact rfl; (focus (first | exact rfl | assumption)); exact rfl; (focus (exact ⟨_, End_any _ _ _, by repeat (first | with_reducible exact Take.nil | with_reducible apply Take.c | with_reducible apply Take.drop)⟩)); rintro _ _ ⟨rfl, rfl⟩) | (apply w_dF; exact rfl; (focus (first | exact ‹_› | with_reducible exact rfl | omega))) | apply thenS_normal | apply thenS_exit | apply blockS_exit | apply w_skip | apply w_ret | apply w_exit | ((with_reducible apply Sd.mk); (first | exact True.intro | omega | (constructor <;> first | omega | (unfold maxLen; omega)) | (unfold maxLen; omega))))
      all_goals try contradiction
      subst hx hL
      (apply s_fin; (exact (show ResS _ _ _ _ [_, _] from ⟨rfl, ⟨rfl, trivial⟩⟩)); (focus (exact .inr ⟨rfl, A, by rw [Nat.mul_one]; rfl, rfl⟩)); (focus (repeat (first | with_reducible exact Take.nil | with_reducible apply Take.c | ((with_reducible apply Take.cE); (first | exact rfl | (apply blkE; (focus (first | exact rfl | exact recs_snocE rfl | exact map_snocE rfl | exact congrArg (fun v => [v]) (gslE rfl rfl (by first | rfl | exact ‹_› | omega | (simp ; first | done | omega)) (by first | rfl | exact ‹_› | omega | (simp ; first | done | omega)) rfl)))))) | with_reducible apply Take.drop))))
    · rw [if_pos h3] at hx
      repeat' (first | apply w_seq | apply w_region | apply o_nil | (apply o_g tyOk; exact rfl; exact rfl) | (apply o_call; exact rfl; exact rfl; (focus (first | exact rfl | assumption)); exact rfl; (focus (exact ⟨_, End_any _ _ _, by repeat (first | with_reducible exact Take.nil | with_reducible apply Take.c | with_reducible apply Take.drop)⟩)); rintro _ _ ⟨rfl, rfl⟩) | (apply w_dT; exact rfl; (focus (first | exact ‹_› | with_reducible exact rfl | omega))) | (apply w_dF; exact rfl; (focus (first | exact ‹_› | with_reducible exact rfl | omega))) | apply thenS_normal | apply thenS_ret | apply thenS_exit | apply blockS_exit | apply w_ret | apply w_exit | ((with_reducible apply Sd.mk); (first | exact True.intro | omega | (constructor <;> first | omega | (unfold maxLen; omega)) | (unfold maxLen; omega))))
      all_goals first
        | contradiction
        | (apply s_fin; (exact (show ResS _ _ _ _ [_, _] from ⟨rfl, ⟨rfl, trivial⟩⟩)); (focus (exact .inl ⟨by rw [← hx], by rw [← hx]; rfl, rfl⟩)); (focus (repeat (first | with_reducible exact Take.nil | with_reducible apply Take.c | ((with_reducible apply Take.cE); (first | exact rfl | (apply blkE; (focus (first | exact rfl | exact recs_snocE rfl | exact map_snocE rfl | exact congrArg (fun v => [v]) (gslE rfl rfl (by first | rfl | exact ‹_› | omega | (simp ; first | done | omega)) (by first | rfl | exact ‹_› | omega | (simp ; first | done | omega)) rfl)))))) | with_reducible apply Take.drop))))
        | trace_state
end Go.Proofs.Ytinfmojbdaiogaa
end
section
set_option linter.unusedVariables false
set_option linter.unusedSimpArgs false
set_option maxRecDepth 4000
namespace Go.Proofs.Ytinfmojbdaiogaa
open Go.Gh Go.RowKit

/-- What DecodeBytes gives. -/
def mDec (l : List UInt8) (most : Int) : List UInt8 × Int := rdec l most nd0 0
theorem DecodeBytes_any (l : List UInt8) (most : Int) (h : SH) (hl : l.length ≤ 100000) : SRun Try.prog 18 [S l, I most] h fun r q => r = .tuple #[S (mDec l most).1, Er (mDec l most).2] ∧ q = h := by
  have hB : ∀ h, SRun Try.prog 21 [] h fun r q => ∃ M N, r = gptr M 0 17 ∧ q = (M, ⟨byC N 0, false⟩) :: (N, ⟨nodes nd0, false⟩) :: h := NewBytes_any
  have hE := fun M N h => decodeB_any M N nd0 0 l most h hl List.length_replicate (by decide)
  unfold mDec
  generalize rdec l most nd0 0 = R at *
  generalize nd0 = X at *
  obtain ⟨x, e⟩ := R
  refine w_body2 Try.func18 rfl rfl ?_
  repeat' (first | apply w_seq | apply w_region | apply o_nil | (apply o_g tyOk; exact rfl; exact rfl) | (apply o_call; exact rfl; exact rfl; (focus (first | exact rfl | assumption)); exact rfl; (focus (exact ⟨_, hB _, by repeat (first | with_reducible exact Take.nil | with_reducible apply Take.c | with_reducible apply Take.drop)⟩)); rintro _ _ ⟨M, N, rfl, rfl⟩) | apply thenS_normal | ((with_reducible apply Sd.mk); (first | exact True.intro | omega | (constructor <;> first | omega | (unfold maxLen; omega)) | (unfold maxLen; omega))))
  all_goals first | (exfalso; omega) | skip
  refine o_iface (d := .pointer 100) rfl (by kernel_rfl) rfl rfl ?_
  repeat' (first | (apply o_g tyOk; exact rfl; exact rfl) | (apply o_call; exact rfl; exact rfl; (focus (first | exact rfl | assumption)); exact rfl; (focus (exact ⟨_, hE M N _, by repeat (first | with_reducible exact Take.nil | with_reducible apply Take.c | with_reducible apply Take.drop)⟩)); rintro _ _ hh) | ((with_reducible apply Sd.mk); (first | exact True.intro | omega | (constructor <;> first | omega | (unfold maxLen; omega)) | (unfold maxLen; omega))))
  obtain ⟨rfl, rfl, rfl⟩ | ⟨rfl, A, rfl, rfl⟩ := hh
  · dsimp only
    repeat' (first | apply w_seq | apply w_region | apply o_nil | (apply o_g tyOk; exact rfl; exact rfl) | (apply o_toString_nil tyOk; iterate 7 exact rfl) | apply thenS_normal | apply w_ret | ((with_reducible apply Sd.mk); (first | exact True.intro | omega | (constructor <;> first | omega | (unfold maxLen; omega)) | (unfold maxLen; omega))))
    all_goals first
      | (apply s_fin; (exact (show ResS _ _ _ _ [_, _] from ⟨rfl, ⟨rfl, trivial⟩⟩)); (focus (exact ⟨rfl, rfl⟩)); (focus (repeat (first | with_reducible exact Take.nil | with_reducible apply Take.c | ((with_reducible apply Take.cE); (first | exact rfl | (apply blkE; (focus (first | exact rfl | exact recs_snocE rfl | exact map_snocE rfl | exact congrArg (fun v => [v]) (gslE rfl rfl (by first | rfl | exact ‹_› | omega | (simp ; first | done | omega)) (by first | rfl | exact ‹_› | omega | (simp ; first | done | omega)) rfl)))))) | with_reducible apply Take.drop))))
      | trace_state
  · dsimp only
    repeat' (first | apply w_seq | apply w_region | apply o_nil | (apply o_g tyOk; exact rfl; exact rfl) | (apply o_toString tyOk; (iterate 6 exact rfl); (focus (exact pk))) | apply thenS_normal | apply w_ret | ((with_reducible apply Sd.mk); (first | exact True.intro | omega | (constructor <;> first | omega | (unfold maxLen; omega)) | (unfold maxLen; omega))) | ((with_reducible apply Ln.mk); (first | rfl | exact ‹_› | omega | (simp ; first | done | omega))) | ((with_reducible apply Su.mk); (first | exact subAt_all | exact subAt_recZ (fun _ => rfl) (by omega) | exact subAt_rec (fun _ => rfl) (by omega))) | exact True.intro | exact rfl)
    all_goals first
      | (apply s_fin; (exact (show ResS _ _ _ _ [_, _] from ⟨rfl, ⟨rfl, trivial⟩⟩)); (focus (exact ⟨rfl, rfl⟩)); (focus (repeat (first | with_reducible exact Take.nil | with_reducible apply Take.c | ((with_reducible apply Take.cE); (first | exact rfl | (apply blkE; (focus (first | exact rfl | exact recs_snocE rfl | exact map_snocE rfl | exact congrArg (fun v => [v]) (gslE rfl rfl (by first | rfl | exact ‹_› | omega | (simp ; first | done | omega)) (by first | rfl | exact ‹_› | omega | (simp ; first | done | omega)) rfl)))))) | with_reducible apply Take.drop))))
      | trace_state
theorem awakeM_any (h : SH) : SRun Try.prog 11 [] h fun r q => r = B true ∧ q = h := by
  have h1 := fun h => EncodeBytes_any [] h (by decide)
  have h2 := fun h => EncodeBytes_any [0] h (by decide)
  have h3 := fun h => DecodeBytes_any [1, 0, 0, 0, 0, 0] 1 h (by decide)
  rw [show mEnc [] = ([0], 0) by decide +kernel] at h1
  rw [show mEnc [0] = ([1, 0, 0, 0, 0, 0], 0) by decide +kernel] at h2
  rw [show mDec [1, 0, 0, 0, 0, 0] 1 = ([0], 0) by decide +kernel] at h3
  have h4 := fun h => Adapt_any 1024 0 h
  have h5 := fun h => Adapt_any 1024 1 h
  have h6 := fun h => Price_any 1024 0 h
  rw [show adp 1024 0 = 1056 by decide +kernel] at h4
  rw [show adp 1024 1 = 992 by decide +kernel] at h5
  rw [show prz 1024 0 = 16 by decide +kernel] at h6
  refine w_body0 Try.func11 rfl rfl ?_
  repeat' (first | apply w_seq | apply w_region | apply o_nil | (apply o_g tyOk; exact rfl; exact rfl) | (apply o_call; exact rfl; exact rfl; (focus (first | exact rfl | assumption)); exact rfl; (focus (exact ⟨_, h1 _, by repeat (first | with_reducible exact Take.nil | with_reducible apply Take.c | with_reducible apply Take.drop)⟩)); rintro _ _ ⟨rfl, rfl⟩) | (apply o_call; exact rfl; exact rfl; (focus (first | exact rfl | assumption)); exact rfl; (focus (exact ⟨_, h2 _, by repeat (first | with_reducible exact Take.nil | with_reducible apply Take.c | with_reducible apply Take.drop)⟩)); rintro _ _ ⟨rfl, rfl⟩) | (apply o_call; exact rfl; exact rfl; (focus (first | exact rfl | assumption)); exact rfl; (focus (exact ⟨_, h3 _, by repeat (first | with_reducible exact Take.nil | with_reducible apply Take.c | with_reducible apply Take.drop)⟩)); rintro _ _ ⟨rfl, rfl⟩) | (apply o_call; exact rfl; exact rfl; (focus (first | exact rfl | assumption)); exact rfl; (focus (exact ⟨_, h4 _, by repeat (first | with_reducible exact Take.nil | with_reducible apply Take.c | with_reducible apply Take.drop)⟩)); rintro _ _ ⟨rfl, rfl⟩) | (apply o_call; exact rfl; exact rfl; (focus (first | exact rfl | assumption)); exact rfl; (focus (exact ⟨_, h5 _, by repeat (first | with_reducible exact Take.nil | with_reducible apply Take.c | with_reducible apply Take.drop)⟩)); rintro _ _ ⟨rfl, rfl⟩) | (apply o_call; exact rfl; exact rfl; (focus (first | exact rfl | assumption)); exact rfl; (focus (exact ⟨_, h6 _, by repeat (first | with_reducible exact Take.nil | with_reducible apply Take.c | with_reducible apply Take.drop)⟩)); rintro _ _ ⟨rfl, rfl⟩) | (apply o_want; exact rfl; exact rfl) | apply thenS_normal | apply w_ret | ((with_reducible apply Sd.mk); (first | exact True.intro | omega | (constructor <;> first | omega | (unfold maxLen; omega)) | (unfold maxLen; omega))))
  all_goals first
    | (apply s_fin; (exact (show ResS _ _ _ _ [_] from ⟨rfl, trivial⟩)); (focus (exact ⟨rfl, rfl⟩)); (focus (repeat (first | with_reducible exact Take.nil | with_reducible apply Take.c | ((with_reducible apply Take.cE); (first | exact rfl | (apply blkE; (focus (first | exact rfl | exact recs_snocE rfl | exact map_snocE rfl | exact congrArg (fun v => [v]) (gslE rfl rfl (by first | rfl | exact ‹_› | omega | (simp ; first | done | omega)) (by first | rfl | exact ‹_› | omega | (simp ; first | done | omega)) rfl)))))) | with_reducible apply Take.drop))))
    | trace_state
end Go.Proofs.Ytinfmojbdaiogaa
end
