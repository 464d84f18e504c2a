/- Part 6 of the proof of the law Lz77Forms: texts merged. No condition. -/
import Derived.Test.YtgooffiipnkmiaaZLz77FormsE
section
set_option linter.unusedVariables false
set_option linter.unusedSimpArgs false
set_option maxRecDepth 4000
namespace Go.Proofs.Ytgooffiipnkmiaa
open Go.Gh Go.RowKit

theorem one_le_256 (m : Nat) : (1 : Int) ≤ 256 ^ m := by
  have h : 0 < 256 ^ m := Nat.pow_pos (by decide : 0 < 256)
  have e : ((256 : Int) ^ m) = ((256 ^ m : Nat) : Int) := by rw [Int.natCast_pow]; rfl
  rw [e]; omega
theorem peek_any (n : Nat) (l : List UInt8) (e : Int) (h : SH) (hl : l.length ≤ 1000000) : SRun Try.prog 110 [gptr n 0 2] (rdB n l e :: h) fun r q => r = .tuple #[I (vpeek l).1, I (vpeek l).2.1, B (vpeek l).2.2] ∧ q = rdB n l e :: h := by
  by_cases h0 : l.length = 0
  · obtain rfl : l = [] := List.length_eq_zero_iff.1 h0
    rw [show vpeek [] = (0, 0, false) from rfl]
    refine w_body1 Try.func110 rfl rfl ?_
    repeat' (first | apply w_seq | apply w_region | apply o_nil | (apply o_g tyOk; exact rfl; exact rfl) | (apply o_load tyOk; (iterate 3 exact rfl); (focus (exact pk))) | (apply w_true; exact rfl) | apply thenS_normal | apply thenS_ret | apply w_ret | ((with_reducible apply Sd.mk); (first | exact True.intro | omega | (constructor <;> first | omega | (unfold maxLen; omega)) | (unfold maxLen; omega))) | ((with_reducible apply Ln.mk); (first | rfl | exact ‹_› | omega | (simp ; first | done | omega))) | ((with_reducible apply Ce.mk); (first | rfl | exact ‹_› | exact cell_recZ (fun _ => rfl) (by omega) (by decide) rfl | exact cell_rec (fun _ => rfl) (by omega) (by decide) rfl | exact cell_bytes (by omega) | exact cell_mapZ (by omega) | exact cell_map (by omega))) | exact True.intro | exact rfl)
    all_goals first
      | (exfalso; omega)
      | contradiction
      | (apply s_fin; (exact (show ResS _ _ _ _ [_, _, _] from ⟨rfl, ⟨rfl, ⟨rfl, trivial⟩⟩⟩)); (focus (exact ⟨rfl, rfl⟩)); (focus (repeat (first | with_reducible exact Take.nil | with_reducible apply Take.c | ((with_reducible apply Take.cE); (first | exact rfl | (apply blkE; (focus (first | exact rfl | exact recs_snocE rfl | exact map_snocE rfl | exact congrArg (fun v => [v]) (gslE rfl rfl (by first | rfl | exact ‹_› | omega | (simp ; first | done | omega)) (by first | rfl | exact ‹_› | omega | (simp ; first | done | omega)) rfl)))))) | with_reducible apply Take.drop))))
      | trace_state
  · have hne : l ≠ [] := fun g => h0 (by rw [g]; rfl)
    obtain ⟨f, hf⟩ : ∃ f, f = bat l 0 := ⟨_, rfl⟩
    have hf2 := bat_255 l 0
    rw [← hf] at hf2
    obtain ⟨K, hK⟩ : ∃ K, vlead f 8 0 = K := ⟨_, rfl⟩
    have hv : vpeek l = if l.length < K + 1 then (0, 0, false) else if 9223372036854775807 - vbnd K < vacc l K 1 (vlow f K) then (0, 0, false) else (vacc l K 1 (vlow f K) + vbnd K, (K : Int) + 1, true) := by
      unfold vpeek; rw [if_neg h0, ← hf, hK]
    rw [hv]
    refine w_body1 Try.func110 rfl rfl ?_
    repeat' (first | apply w_seq | apply w_region | apply o_nil | (apply o_g tyOk; exact rfl; exact rfl) | (apply o_load tyOk; (iterate 3 exact rfl); (focus (exact pk))) | (apply w_dF; exact rfl; (focus (first | exact ‹_› | with_reducible exact rfl | omega | exact hne))) | apply thenS_normal | apply w_skip | apply w_block | ((with_reducible apply Sd.mk); (first | exact True.intro | omega | (constructor <;> first | omega | (unfold maxLen; omega)) | (unfold maxLen; omega))) | ((with_reducible apply Ln.mk); (first | rfl | exact ‹_› | omega | (simp ; first | done | omega))) | ((with_reducible apply Ce.mk); (first | rfl | exact ‹_› | exact cell_recZ (fun _ => rfl) (by omega) (by decide) rfl | exact cell_rec (fun _ => rfl) (by omega) (by decide) rfl | exact cell_bytes (by omega) | exact cell_mapZ (by omega) | exact cell_map (by omega))) | exact True.intro | exact rfl)
    all_goals first | contradiction | (exfalso; omega) | skip
    refine w_loop (S := Nat) (fun i => [(0, gptr n 0 2), (5, Y f), (6, I i)]) (fun _ => rdB n l e :: h) (fun i => i ≤ 8 ∧ vlead f (8 - i) i = K) (fun i => 8 - i) 0 ⟨Nat.zero_le _, hK⟩ ⟨rfl, by rw [hf]; rfl, rfl, trivial⟩ (by repeat (first | with_reducible exact Take.nil | with_reducible apply Take.c | ((with_reducible apply Take.cE); (first | exact rfl | (apply blkE; (focus (first | exact rfl | exact recs_snocE rfl | exact map_snocE rfl | exact congrArg (fun v => [v]) (gslE rfl rfl (by first | rfl | exact ‹_› | omega | (simp ; first | done | omega)) (by first | rfl | exact ‹_› | omega | (simp ; first | done | omega)) rfl)))))) | with_reducible apply Take.drop)) ?_
    rintro i ⟨hi, he⟩
    have hsh : (128 : Int) / 2 ^ (min ((i : Int)).toNat IntKind.u8.bits) = 128 / 2 ^ i := by rw [Int.toNat_natCast, show IntKind.u8.bits = 8 from rfl, Nat.min_eq_left hi]
    have hand : IntKind.u8.wrap ((BitVec.ofInt IntKind.u8.bits f &&& BitVec.ofInt IntKind.u8.bits (128 / 2 ^ i)).toNat : Int) = vb1 f i := by
      show IntKind.u8.wrap (vb1 f i) = vb1 f i
      have : 0 ≤ vb1 f i ∧ vb1 f i < 256 := by
        unfold vb1
        have := (BitVec.ofInt 8 f &&& BitVec.ofInt 8 (128 / 2 ^ i)).isLt
        omega
      exact IntWalk.u8_in _ (by omega)
    by_cases hgo : i < 8 ∧ vb1 f i ≠ 0
    · obtain ⟨hg1, hg2⟩ := hgo
      have hst : vlead f (8 - i) i = vlead f (8 - (i + 1)) (i + 1) := by rw [show 8 - i = (8 - (i + 1)) + 1 by omega]; exact if_pos hg2
      rw [hst] at he
      repeat' (first | apply w_seq | apply w_region | apply o_nil | (apply o_g tyOk; exact rfl; exact rfl) | (apply o_ar tyOk; exact rfl; exact rfl) | (apply o_ex; exact rfl; exact rfl) | (apply o_want; exact rfl; exact rfl) | (apply o_gT; (iterate 3 exact rfl); (focus (first | exact ‹_› | with_reducible exact rfl | omega))) | (apply w_dT; exact rfl; (focus (first | exact ‹_› | with_reducible exact rfl | omega))) | apply thenS_normal | apply blockS_normal | apply w_skip | apply w_block | ((with_reducible apply Sd.mk); (first | exact True.intro | omega | (constructor <;> first | omega | (unfold maxLen; omega)) | (unfold maxLen; omega))) | ((with_reducible apply Wr.mk); (first | exact hand | exact IntWalk.i64_in _ (by omega) | exact IntWalk.u8_in _ (by omega) | exact IntWalk.u32_in _ (by omega) | exact IntWalk.u64_in _ (by omega) | exact IntKind.wrap_u8 _ | exact IntKind.wrap_u32 _ | rfl)) | ((with_reducible apply Ex.mk); (first | exact Int.tmod_eq_emod_of_nonneg (by omega) | exact hsh | rfl)))
      all_goals first
        | (exfalso; omega)
        | exact ⟨i + 1, ⟨hg1, he⟩, by show 8 - (i + 1) < 8 - i; omega, (by repeat' (first | exact trivial | refine ⟨rfl, ?_⟩ | refine ⟨congrArg some ?_, ?_⟩)), (by repeat (first | with_reducible exact Take.nil | with_reducible apply Take.c | ((with_reducible apply Take.cE); (first | exact rfl | (apply blkE; (focus (first | exact rfl | exact recs_snocE rfl | exact map_snocE rfl | exact congrArg (fun v => [v]) (gslE rfl rfl (by first | rfl | exact ‹_› | omega | (simp ; first | done | omega)) (by first | rfl | exact ‹_› | omega | (simp ; first | done | omega)) rfl)))))) | with_reducible apply Take.drop))⟩
        | trace_state
    · have hKi : i = K := by
        rw [← he]
        by_cases h8 : i < 8
        · have hz : ¬ vb1 f i ≠ 0 := fun g => hgo ⟨h8, g⟩
          rw [show 8 - i = (8 - (i + 1)) + 1 by omega]
          exact (if_neg hz).symm
        · rw [show 8 - i = 0 by omega]; rfl
      subst hKi
      by_cases hs : l.length < i + 1
      · rw [if_pos hs]
        repeat' (first | apply w_seq | apply w_region | apply o_nil | (apply o_g tyOk; exact rfl; exact rfl) | (apply o_ar tyOk; exact rfl; exact rfl) | (apply o_ex; exact rfl; exact rfl) | (apply o_load tyOk; (iterate 3 exact rfl); (focus (exact pk))) | (apply o_want; exact rfl; exact rfl) | (apply o_skip; iterate 4 exact rfl) | (apply o_guardT; (iterate 3 exact rfl); all_goals intro hc) | (apply w_false; exact rfl) | (apply w_dT; exact rfl; (focus (first | exact ‹_› | with_reducible exact rfl | omega | exact hgo (And.intro (by omega) (by assumption))))) | (apply w_dF; exact rfl; (focus (first | exact ‹_› | with_reducible exact rfl | omega | exact hgo (And.intro (by omega) (by assumption))))) | apply thenS_normal | apply thenS_ret | apply thenS_exit | apply blockS_exit | apply w_ret | apply w_exit | ((with_reducible apply Sd.mk); (first | exact True.intro | omega | (constructor <;> first | omega | (unfold maxLen; omega)) | (unfold maxLen; omega))) | ((with_reducible apply Ln.mk); (first | rfl | exact ‹_› | omega | (simp ; first | done | omega))) | ((with_reducible apply Wr.mk); (first | exact hand | exact IntWalk.i64_in _ (by omega) | exact IntWalk.u8_in _ (by omega) | exact IntWalk.u32_in _ (by omega) | exact IntWalk.u64_in _ (by omega) | exact IntKind.wrap_u8 _ | exact IntKind.wrap_u32 _ | rfl)) | ((with_reducible apply Ex.mk); (first | exact Int.tmod_eq_emod_of_nonneg (by omega) | exact hsh | rfl)) | ((with_reducible apply Ce.mk); (first | rfl | exact ‹_› | exact cell_recZ (fun _ => rfl) (by omega) (by decide) rfl | exact cell_rec (fun _ => rfl) (by omega) (by decide) rfl | exact cell_bytes (by omega) | exact cell_mapZ (by omega) | exact cell_map (by omega))) | exact True.intro | exact rfl)
        all_goals first
          | (exfalso; omega)
          | (exfalso; exact hgo ⟨by omega, by assumption⟩)
          | (apply s_fin; (exact (show ResS _ _ _ _ [_, _, _] from ⟨rfl, ⟨rfl, ⟨rfl, trivial⟩⟩⟩)); (focus (exact ⟨rfl, rfl⟩)); (focus (repeat (first | with_reducible exact Take.nil | with_reducible apply Take.c | ((with_reducible apply Take.cE); (first | exact rfl | (apply blkE; (focus (first | exact rfl | exact recs_snocE rfl | exact map_snocE rfl | exact congrArg (fun v => [v]) (gslE rfl rfl (by first | rfl | exact ‹_› | omega | (simp ; first | done | omega)) (by first | rfl | exact ‹_› | omega | (simp ; first | done | omega)) rfl)))))) | with_reducible apply Take.drop))))
          | trace_state
      · rw [if_neg hs]
        have hsh2 : (127 : Int) / 2 ^ (min ((i : Int)).toNat IntKind.u8.bits) = 127 / 2 ^ i := by rw [Int.toNat_natCast, show IntKind.u8.bits = 8 from rfl, Nat.min_eq_left hi]
        have hlo := vlow_in f hi
        have hlo2 : vlow f i < 256 := by
          unfold vlow
          have := (BitVec.ofInt 8 f &&& BitVec.ofInt 8 (127 / 2 ^ i)).isLt
          omega
        have hand2 : IntKind.u8.wrap ((BitVec.ofInt IntKind.u8.bits f &&& BitVec.ofInt IntKind.u8.bits (127 / 2 ^ i)).toNat : Int) = vlow f i := by
          show IntKind.u8.wrap (vlow f i) = vlow f i
          exact IntWalk.u8_in _ (by omega)
        repeat' (first | apply w_seq | apply w_region | apply o_nil | (apply o_g tyOk; exact rfl; exact rfl) | (apply o_ar tyOk; exact rfl; exact rfl) | (apply o_ex; exact rfl; exact rfl) | (apply o_load tyOk; (iterate 3 exact rfl); (focus (exact pk))) | (apply o_want; exact rfl; exact rfl) | (apply o_skip; iterate 4 exact rfl) | (apply o_guardT; (iterate 3 exact rfl); all_goals intro hc) | (apply w_false; exact rfl) | (apply w_dF; exact rfl; (focus (first | exact ‹_› | with_reducible exact rfl | omega))) | apply thenS_normal | apply thenS_exit | apply blockS_exit | apply w_skip | apply w_exit | apply w_block | ((with_reducible apply Sd.mk); (first | exact True.intro | omega | (constructor <;> first | omega | (unfold maxLen; omega)) | (unfold maxLen; omega))) | ((with_reducible apply Ln.mk); (first | rfl | exact ‹_› | omega | (simp ; first | done | omega))) | ((with_reducible apply Wr.mk); (first | exact hand | exact hand2 | exact IntWalk.i64_in _ (by omega) | exact IntWalk.u8_in _ (by omega) | exact IntWalk.u32_in _ (by omega) | exact IntWalk.u64_in _ (by omega) | exact IntKind.wrap_u8 _ | exact IntKind.wrap_u32 _ | rfl)) | ((with_reducible apply Ex.mk); (first | exact Int.tmod_eq_emod_of_nonneg (by omega) | exact hsh | exact hsh2 | rfl)) | ((with_reducible apply Ce.mk); (first | rfl | exact ‹_› | exact cell_recZ (fun _ => rfl) (by omega) (by decide) rfl | exact cell_rec (fun _ => rfl) (by omega) (by decide) rfl | exact cell_bytes (by omega) | exact cell_mapZ (by omega) | exact cell_map (by omega))) | exact True.intro | exact rfl)
        all_goals first
          | (exfalso; omega)
          | (exfalso; exact hgo ⟨by omega, by assumption⟩)
          | skip
        · have hcap := pow_cap hi
          obtain ⟨R, hR⟩ : ∃ R, vacc l i 1 (vlow f i) = R := ⟨_, rfl⟩
          have hbd := vbnd_in i hi
          have hBo := fun h => bound_any i h hi
          rw [hR]
          generalize hT : (2 : Int) ^ (7 - i) * 256 ^ i = T at hcap
          refine w_loop (S := Nat × Int × Int) (fun x => [(0, gptr n 0 2), (6, I i), (7, .int .u64 x.2.1), (8, I ((x.1 : Int) + 1))]) (fun _ => rdB n l e :: h) (fun x => x.1 ≤ i ∧ (0 ≤ x.2.1 ∧ x.2.1 < x.2.2 ∧ x.2.2 * 256 ^ (i - x.1) = T) ∧ vacc l (i - x.1) (x.1 + 1) x.2.1 = R) (fun x => i - x.1) (0, vlow f i, 2 ^ (7 - i)) ⟨Nat.zero_le _, ⟨hlo.1, hlo.2, hT⟩, hR⟩ (by repeat' (first | exact trivial | refine ⟨rfl, ?_⟩ | refine ⟨congrArg some ?_, ?_⟩)) (by repeat (first | with_reducible exact Take.nil | with_reducible apply Take.c | ((with_reducible apply Take.cE); (first | exact rfl | (apply blkE; (focus (first | exact rfl | exact recs_snocE rfl | exact map_snocE rfl | exact congrArg (fun v => [v]) (gslE rfl rfl (by first | rfl | exact ‹_› | omega | (simp ; first | done | omega)) (by first | rfl | exact ‹_› | omega | (simp ; first | done | omega)) rfl)))))) | with_reducible apply Take.drop)) ?_
          rintro ⟨j, v, W⟩ ⟨hj, ⟨hv0, hvW, hWT⟩, he2⟩
          dsimp only at hj hv0 hvW hWT he2 ⊢
          by_cases hji : j < i
          · rw [show i - j = (i - (j + 1)) + 1 by omega] at hWT he2
            have he2 : vacc l (i - (j + 1)) (j + 1 + 1) (v * 256 + bat l ((j : Int) + 1)) = R := he2
            rw [Int.pow_succ, Int.mul_comm (256 ^ (i - (j + 1))) 256, ← Int.mul_assoc] at hWT
            have hp1 : (1 : Int) ≤ 256 ^ (i - (j + 1)) := one_le_256 _
            have hle := Int.mul_le_mul_of_nonneg_left hp1 (show 0 ≤ W * 256 by omega)
            rw [hWT] at hle
            have hb := bat_255 l ((j : Int) + 1)
            have hshl : IntKind.u64.wrap (v * 2 ^ (min (Int.toNat 8) IntKind.u64.bits)) = v * 256 := by
              rw [show (2 : Int) ^ (min (Int.toNat 8) IntKind.u64.bits) = 256 from rfl]
              exact IntWalk.u64_in _ (by omega)
            have hor := or256 (v := v) (b := bat l ((j : Int) + 1)) (by omega) (by omega)
            repeat' (first | apply w_seq | apply w_region | apply o_nil | (apply o_g tyOk; exact rfl; exact rfl) | (apply o_ar tyOk; exact rfl; exact rfl) | (apply o_load tyOk; (iterate 3 exact rfl); (focus (exact pk))) | (apply w_dT; exact rfl; (focus (first | exact ‹_› | with_reducible exact rfl | omega))) | apply thenS_normal | apply blockS_normal | apply w_skip | apply w_block | ((with_reducible apply Sd.mk); (first | exact True.intro | omega | (constructor <;> first | omega | (unfold maxLen; omega)) | (unfold maxLen; omega))) | ((with_reducible apply Ln.mk); (first | rfl | exact ‹_› | omega | (simp ; first | done | omega))) | ((with_reducible apply Wr.mk); (first | exact hshl | exact hor | exact IntWalk.i64_in _ (by omega) | exact IntWalk.u8_in _ (by omega) | exact IntWalk.u32_in _ (by omega) | exact IntWalk.u64_in _ (by omega) | exact IntKind.wrap_u8 _ | exact IntKind.wrap_u32 _ | rfl)) | ((with_reducible apply Ce.mk); (first | rfl | exact ‹_› | exact cell_recZ (fun _ => rfl) (by omega) (by decide) rfl | exact cell_rec (fun _ => rfl) (by omega) (by decide) rfl | exact cell_bytes (by omega) | exact cell_mapZ (by omega) | exact cell_map (by omega))) | exact True.intro | exact rfl)
            all_goals first
              | (exfalso; omega)
              | exact ⟨(j + 1, v * 256 + bat l ((j : Int) + 1), W * 256), ⟨hji, ⟨by dsimp only; omega, by dsimp only; omega, hWT⟩, he2⟩, by show i - (j + 1) < i - j; omega, (by repeat' (first | exact trivial | refine ⟨rfl, ?_⟩ | refine ⟨congrArg some ?_, ?_⟩)), (by repeat (first | with_reducible exact Take.nil | with_reducible apply Take.c | ((with_reducible apply Take.cE); (first | exact rfl | (apply blkE; (focus (first | exact rfl | exact recs_snocE rfl | exact map_snocE rfl | exact congrArg (fun v => [v]) (gslE rfl rfl (by first | rfl | exact ‹_› | omega | (simp ; first | done | omega)) (by first | rfl | exact ‹_› | omega | (simp ; first | done | omega)) rfl)))))) | with_reducible apply Take.drop))⟩
              | trace_state
          · obtain rfl : j = i := by omega
            rw [Nat.sub_self] at hWT he2
            rw [Int.pow_zero, Int.mul_one] at hWT
            have he2 : v = R := he2
            rw [← he2]
            repeat' (first | apply w_seq | apply w_region | apply o_nil | (apply o_g tyOk; exact rfl; exact rfl) | (apply o_ar tyOk; exact rfl; exact rfl) | (apply o_call; exact rfl; exact rfl; (focus (first | exact rfl | assumption)); exact rfl; (focus (exact ⟨_, hBo _, by repeat (first | with_reducible exact Take.nil | with_reducible apply Take.c | with_reducible apply Take.drop)⟩)); rintro _ _ ⟨rfl, rfl⟩) | (apply w_dF; exact rfl; (focus (first | exact ‹_› | with_reducible exact rfl | omega))) | (apply w_if; exact rfl; all_goals intro hc) | apply thenS_normal | apply thenS_ret | apply thenS_exit | apply blockS_exit | apply w_skip | apply w_ret | apply w_exit | ((with_reducible apply Sd.mk); (first | exact True.intro | omega | (constructor <;> first | omega | (unfold maxLen; omega)) | (unfold maxLen; omega))) | ((with_reducible apply Wr.mk); (first | exact IntWalk.i64_in _ (by omega) | exact IntWalk.u8_in _ (by omega) | exact IntWalk.u32_in _ (by omega) | exact IntWalk.u64_in _ (by omega) | exact IntKind.wrap_u8 _ | exact IntKind.wrap_u32 _ | rfl)))
            all_goals first
              | (exfalso; omega)
              | (rw [if_pos (by assumption)]; (apply s_fin; (exact (show ResS _ _ _ _ [_, _, _] from ⟨rfl, ⟨rfl, ⟨rfl, trivial⟩⟩⟩)); (focus (exact ⟨rfl, rfl⟩)); (focus (repeat (first | with_reducible exact Take.nil | with_reducible apply Take.c | ((with_reducible apply Take.cE); (first | exact rfl | (apply blkE; (focus (first | exact rfl | exact recs_snocE rfl | exact map_snocE rfl | exact congrArg (fun v => [v]) (gslE rfl rfl (by first | rfl | exact ‹_› | omega | (simp ; first | done | omega)) (by first | rfl | exact ‹_› | omega | (simp ; first | done | omega)) rfl)))))) | with_reducible apply Take.drop)))))
              | (rw [if_neg (by assumption)]; (apply s_fin; (exact (show ResS _ _ _ _ [_, _, _] from ⟨rfl, ⟨rfl, ⟨rfl, trivial⟩⟩⟩)); (focus (exact ⟨rfl, rfl⟩)); (focus (repeat (first | with_reducible exact Take.nil | with_reducible apply Take.c | ((with_reducible apply Take.cE); (first | exact rfl | (apply blkE; (focus (first | exact rfl | exact recs_snocE rfl | exact map_snocE rfl | exact congrArg (fun v => [v]) (gslE rfl rfl (by first | rfl | exact ‹_› | omega | (simp ; first | done | omega)) (by first | rfl | exact ‹_› | omega | (simp ; first | done | omega)) rfl)))))) | with_reducible apply Take.drop)))))
              | trace_state
        · have hcap := pow_cap hi
          obtain ⟨R, hR⟩ : ∃ R, vacc l i 1 (vlow f i) = R := ⟨_, rfl⟩
          have hbd := vbnd_in i hi
          have hBo := fun h => bound_any i h hi
          rw [hR]
          generalize hT : (2 : Int) ^ (7 - i) * 256 ^ i = T at hcap
          refine w_loop (S := Nat × Int × Int) (fun x => [(0, gptr n 0 2), (6, I i), (7, .int .u64 x.2.1), (8, I ((x.1 : Int) + 1))]) (fun _ => rdB n l e :: h) (fun x => x.1 ≤ i ∧ (0 ≤ x.2.1 ∧ x.2.1 < x.2.2 ∧ x.2.2 * 256 ^ (i - x.1) = T) ∧ vacc l (i - x.1) (x.1 + 1) x.2.1 = R) (fun x => i - x.1) (0, vlow f i, 2 ^ (7 - i)) ⟨Nat.zero_le _, ⟨hlo.1, hlo.2, hT⟩, hR⟩ (by repeat' (first | exact trivial | refine ⟨rfl, ?_⟩ | refine ⟨congrArg some ?_, ?_⟩)) (by repeat (first | with_reducible exact Take.nil | with_reducible apply Take.c | ((with_reducible apply Take.cE); (first | exact rfl | (apply blkE; (focus (first | exact rfl | exact recs_snocE rfl | exact map_snocE rfl | exact congrArg (fun v => [v]) (gslE rfl rfl (by first | rfl | exact ‹_› | omega | (simp ; first | done | omega)) (by first | rfl | exact ‹_› | omega | (simp ; first | done | omega)) rfl)))))) | with_reducible apply Take.drop)) ?_
          rintro ⟨j, v, W⟩ ⟨hj, ⟨hv0, hvW, hWT⟩, he2⟩
          dsimp only at hj hv0 hvW hWT he2 ⊢
          by_cases hji : j < i
          · rw [show i - j = (i - (j + 1)) + 1 by omega] at hWT he2
            have he2 : vacc l (i - (j + 1)) (j + 1 + 1) (v * 256 + bat l ((j : Int) + 1)) = R := he2
            rw [Int.pow_succ, Int.mul_comm (256 ^ (i - (j + 1))) 256, ← Int.mul_assoc] at hWT
            have hp1 : (1 : Int) ≤ 256 ^ (i - (j + 1)) := one_le_256 _
            have hle := Int.mul_le_mul_of_nonneg_left hp1 (show 0 ≤ W * 256 by omega)
            rw [hWT] at hle
            have hb := bat_255 l ((j : Int) + 1)
            have hshl : IntKind.u64.wrap (v * 2 ^ (min (Int.toNat 8) IntKind.u64.bits)) = v * 256 := by
              rw [show (2 : Int) ^ (min (Int.toNat 8) IntKind.u64.bits) = 256 from rfl]
              exact IntWalk.u64_in _ (by omega)
            have hor := or256 (v := v) (b := bat l ((j : Int) + 1)) (by omega) (by omega)
            repeat' (first | apply w_seq | apply w_region | apply o_nil | (apply o_g tyOk; exact rfl; exact rfl) | (apply o_ar tyOk; exact rfl; exact rfl) | (apply o_load tyOk; (iterate 3 exact rfl); (focus (exact pk))) | (apply w_dT; exact rfl; (focus (first | exact ‹_› | with_reducible exact rfl | omega))) | apply thenS_normal | apply blockS_normal | apply w_skip | apply w_block | ((with_reducible apply Sd.mk); (first | exact True.intro | omega | (constructor <;> first | omega | (unfold maxLen; omega)) | (unfold maxLen; omega))) | ((with_reducible apply Ln.mk); (first | rfl | exact ‹_› | omega | (simp ; first | done | omega))) | ((with_reducible apply Wr.mk); (first | exact hshl | exact hor | exact IntWalk.i64_in _ (by omega) | exact IntWalk.u8_in _ (by omega) | exact IntWalk.u32_in _ (by omega) | exact IntWalk.u64_in _ (by omega) | exact IntKind.wrap_u8 _ | exact IntKind.wrap_u32 _ | rfl)) | ((with_reducible apply Ce.mk); (first | rfl | exact ‹_› | exact cell_recZ (fun _ => rfl) (by omega) (by decide) rfl | exact cell_rec (fun _ => rfl) (by omega) (by decide) rfl | exact cell_bytes (by omega) | exact cell_mapZ (by omega) | exact cell_map (by omega))) | exact True.intro | exact rfl)
            all_goals first
              | (exfalso; omega)
              | exact ⟨(j + 1, v * 256 + bat l ((j : Int) + 1), W * 256), ⟨hji, ⟨by dsimp only; omega, by dsimp only; omega, hWT⟩, he2⟩, by show i - (j + 1) < i - j; omega, (by repeat' (first | exact trivial | refine ⟨rfl, ?_⟩ | refine ⟨congrArg some ?_, ?_⟩)), (by repeat (first | with_reducible exact Take.nil | with_reducible apply Take.c | ((with_reducible apply Take.cE); (first | exact rfl | (apply blkE; (focus (first | exact rfl | exact recs_snocE rfl | exact map_snocE rfl | exact congrArg (fun v => [v]) (gslE rfl rfl (by first | rfl | exact ‹_› | omega | (simp ; first | done | omega)) (by first | rfl | exact ‹_› | omega | (simp ; first | done | omega)) rfl)))))) | with_reducible apply Take.drop))⟩
              | trace_state
          · obtain rfl : j = i := by omega
            rw [Nat.sub_self] at hWT he2
            rw [Int.pow_zero, Int.mul_one] at hWT
            have he2 : v = R := he2
            rw [← he2]
            repeat' (first | apply w_seq | apply w_region | apply o_nil | (apply o_g tyOk; exact rfl; exact rfl) | (apply o_ar tyOk; exact rfl; exact rfl) | (apply o_call; exact rfl; exact rfl; (focus (first | exact rfl | assumption)); exact rfl; (focus (exact ⟨_, hBo _, by repeat (first | with_reducible exact Take.nil | with_reducible apply Take.c | with_reducible apply Take.drop)⟩)); rintro _ _ ⟨rfl, rfl⟩) | (apply w_dF; exact rfl; (focus (first | exact ‹_› | with_reducible exact rfl | omega))) | (apply w_if; exact rfl; all_goals intro hc) | apply thenS_normal | apply thenS_ret | apply thenS_exit | apply blockS_exit | apply w_skip | apply w_ret | apply w_exit | ((with_reducible apply Sd.mk); (first | exact True.intro | omega | (constructor <;> first | omega | (unfold maxLen; omega)) | (unfold maxLen; omega))) | ((with_reducible apply Wr.mk); (first | exact IntWalk.i64_in _ (by omega) | exact IntWalk.u8_in _ (by omega) | exact IntWalk.u32_in _ (by omega) | exact IntWalk.u64_in _ (by omega) | exact IntKind.wrap_u8 _ | exact IntKind.wrap_u32 _ | rfl)))
            all_goals first
              | (exfalso; omega)
              | (rw [if_pos (by assumption)]; (apply s_fin; (exact (show ResS _ _ _ _ [_, _, _] from ⟨rfl, ⟨rfl, ⟨rfl, trivial⟩⟩⟩)); (focus (exact ⟨rfl, rfl⟩)); (focus (repeat (first | with_reducible exact Take.nil | with_reducible apply Take.c | ((with_reducible apply Take.cE); (first | exact rfl | (apply blkE; (focus (first | exact rfl | exact recs_snocE rfl | exact map_snocE rfl | exact congrArg (fun v => [v]) (gslE rfl rfl (by first | rfl | exact ‹_› | omega | (simp ; first | done | omega)) (by first | rfl | exact ‹_› | omega | (simp ; first | done | omega)) rfl)))))) | with_reducible apply Take.drop)))))
              | (rw [if_neg (by assumption)]; (apply s_fin; (exact (show ResS _ _ _ _ [_, _, _] from ⟨rfl, ⟨rfl, ⟨rfl, trivial⟩⟩⟩)); (focus (exact ⟨rfl, rfl⟩)); (focus (repeat (first | with_reducible exact Take.nil | with_reducible apply Take.c | ((with_reducible apply Take.cE); (first | exact rfl | (apply blkE; (focus (first | exact rfl | exact recs_snocE rfl | exact map_snocE rfl | exact congrArg (fun v => [v]) (gslE rfl rfl (by first | rfl | exact ‹_› | omega | (simp ; first | done | omega)) (by first | rfl | exact ‹_› | omega | (simp ; first | done | omega)) rfl)))))) | with_reducible apply Take.drop)))))
              | trace_state
end Go.Proofs.Ytgooffiipnkmiaa
end
section
set_option linter.unusedVariables false
set_option linter.unusedSimpArgs false
set_option maxRecDepth 4000
namespace Go.Proofs.Ytgooffiipnkmiaa
open Go.Gh Go.RowKit

theorem same_any (x : Int) (h : SH) : SRun Try.prog 74 [I x] h fun r q => r = I x ∧ q = h := by
  refine w_body1 Try.func74 rfl rfl ?_
  repeat' (first | apply w_seq | apply w_region | apply o_nil | (apply o_g tyOk; exact rfl; exact rfl) | apply thenS_normal | apply w_ret | ((with_reducible apply Sd.mk); (first | exact True.intro | omega | (constructor <;> first | omega | (unfold maxLen; omega)) | (unfold maxLen; omega))))
  all_goals first
    | (apply s_fin; (exact (show ResS _ _ _ _ [_] from ⟨rfl, trivial⟩)); (focus (exact ⟨rfl, rfl⟩)); (focus (repeat (first | with_reducible exact Take.nil | with_reducible apply Take.c | ((with_reducible apply Take.cE); (first | exact rfl | (apply blkE; (focus (first | exact rfl | exact recs_snocE rfl | exact map_snocE rfl | exact congrArg (fun v => [v]) (gslE rfl rfl (by first | rfl | exact ‹_› | omega | (simp ; first | done | omega)) (by first | rfl | exact ‹_› | omega | (simp ; first | done | omega)) rfl)))))) | with_reducible apply Take.drop))))
    | trace_state
/-- What a reader without an error reads: number, rest, error. -/
def rdN (l : List UInt8) (m : Int) : Int × List UInt8 × Int :=
  if (vpeek l).2.2 = false then (0, l, 12) else if (vpeek l).1 < 0 ∨ m < (vpeek l).1 then (0, l, 2) else ((vpeek l).1, l.drop (vpeek l).2.1.toNat, 0)
theorem vpeek_len (l : List UInt8) : 0 ≤ (vpeek l).2.1 ∧ (vpeek l).2.1 ≤ l.length := by
  unfold vpeek
  split
  · simp
  · split
    · simp
    · split
      · simp
      · dsimp only; omega
theorem read_any (n : Nat) (l : List UInt8) (m : Int) (h : SH) (hl : l.length ≤ 1000000) : SRun Try.prog 73 [gptr n 0 2, .func (.func 74) ⟨[]⟩ ⟨[]⟩, I 0, I m] (rdB n l 0 :: h) fun r q =>
    r = I (rdN l m).1 ∧ q = rdB n (rdN l m).2.1 (rdN l m).2.2 :: h := by
  have hP := peek_any n l 0 h hl
  have hlen := vpeek_len l
  unfold rdN
  generalize vpeek l = V at *
  obtain ⟨a, s, ok⟩ := V
  dsimp only at *
  by_cases h0 : ok = false
  · subst h0
    rw [if_pos rfl]
    refine w_body4 Try.func73 rfl rfl ?_
    repeat' (first | apply w_seq | apply w_region | apply o_nil | (apply o_g tyOk; exact rfl; exact rfl) | (apply o_notB; exact rfl; exact rfl) | (apply o_load tyOk; (iterate 3 exact rfl); (focus (exact pk))) | (apply o_call; exact rfl; exact rfl; (focus (first | exact rfl | assumption)); exact rfl; (focus (exact ⟨_, hP, by repeat (first | with_reducible exact Take.nil | with_reducible apply Take.c | with_reducible apply Take.drop)⟩)); rintro _ _ ⟨rfl, rfl⟩) | (apply o_call; exact rfl; exact rfl; (focus (first | exact rfl | assumption)); exact rfl; (focus (exact ⟨_, same_any _ _, by repeat (first | with_reducible exact Take.nil | with_reducible apply Take.c | with_reducible apply Take.drop)⟩)); rintro _ _ ⟨rfl, rfl⟩) | (apply o_call; exact rfl; exact rfl; (focus (first | exact rfl | assumption)); exact rfl; (focus (exact ⟨_, rfail_any _ _ _ _ _, by repeat (first | with_reducible exact Take.nil | with_reducible apply Take.c | with_reducible apply Take.drop)⟩)); rintro _ _ rfl) | (apply w_true; exact rfl) | (apply w_false; exact rfl) | apply thenS_normal | apply blockS_normal | apply w_skip | apply w_ret | apply w_block | ((with_reducible apply Sd.mk); (first | exact True.intro | omega | (constructor <;> first | omega | (unfold maxLen; omega)) | (unfold maxLen; omega))) | ((with_reducible apply Ln.mk); (first | rfl | exact ‹_› | omega | (simp ; first | done | omega))) | ((with_reducible apply Ce.mk); (first | rfl | exact ‹_› | exact cell_recZ (fun _ => rfl) (by omega) (by decide) rfl | exact cell_rec (fun _ => rfl) (by omega) (by decide) rfl | exact cell_bytes (by omega) | exact cell_mapZ (by omega) | exact cell_map (by omega))) | exact True.intro | exact rfl)
    all_goals first
      | contradiction
      | (exfalso; omega)
      | (apply s_fin; (exact (show ResS _ _ _ _ [_] from ⟨rfl, trivial⟩)); (focus (exact ⟨rfl, rfl⟩)); (focus (repeat (first | with_reducible exact Take.nil | with_reducible apply Take.c | ((with_reducible apply Take.cE); (first | exact rfl | (apply blkE; (focus (first | exact rfl | exact recs_snocE rfl | exact map_snocE rfl | exact congrArg (fun v => [v]) (gslE rfl rfl (by first | rfl | exact ‹_› | omega | (simp ; first | done | omega)) (by first | rfl | exact ‹_› | omega | (simp ; first | done | omega)) rfl)))))) | with_reducible apply Take.drop))))
      | trace_state
  · obtain rfl : ok = true := by simpa using h0
    rw [if_neg (by decide)]
    by_cases h1 : a < 0 ∨ m < a
    · rw [if_pos h1]
      refine w_body4 Try.func73 rfl rfl ?_
      repeat' (first | apply w_seq | apply w_region | apply o_nil | (apply o_g tyOk; exact rfl; exact rfl) | (apply o_notB; exact rfl; exact rfl) | (apply o_load tyOk; (iterate 3 exact rfl); (focus (exact pk))) | (apply o_call; exact rfl; exact rfl; (focus (first | exact rfl | assumption)); exact rfl; (focus (exact ⟨_, hP, by repeat (first | with_reducible exact Take.nil | with_reducible apply Take.c | with_reducible apply Take.drop)⟩)); rintro _ _ ⟨rfl, rfl⟩) | (apply o_call; exact rfl; exact rfl; (focus (first | exact rfl | assumption)); exact rfl; (focus (exact ⟨_, same_any _ _, by repeat (first | with_reducible exact Take.nil | with_reducible apply Take.c | with_reducible apply Take.drop)⟩)); rintro _ _ ⟨rfl, rfl⟩) | (apply o_call; exact rfl; exact rfl; (focus (first | exact rfl | assumption)); exact rfl; (focus (exact ⟨_, rfail_any _ _ _ _ _, by repeat (first | with_reducible exact Take.nil | with_reducible apply Take.c | with_reducible apply Take.drop)⟩)); rintro _ _ rfl) | (apply o_want; exact rfl; exact rfl) | (apply o_skip; iterate 4 exact rfl) | (apply o_guardF; (iterate 3 exact rfl); all_goals intro hc) | (apply w_true; exact rfl) | (apply w_false; exact rfl) | (apply w_dT; exact rfl; (focus (first | exact ‹_› | with_reducible exact rfl | omega))) | apply thenS_normal | apply blockS_normal | apply w_skip | apply w_ret | apply w_block | ((with_reducible apply Sd.mk); (first | exact True.intro | omega | (constructor <;> first | omega | (unfold maxLen; omega)) | (unfold maxLen; omega))) | ((with_reducible apply Ln.mk); (first | rfl | exact ‹_› | omega | (simp ; first | done | omega))) | ((with_reducible apply Ce.mk); (first | rfl | exact ‹_› | exact cell_recZ (fun _ => rfl) (by omega) (by decide) rfl | exact cell_rec (fun _ => rfl) (by omega) (by decide) rfl | exact cell_bytes (by omega) | exact cell_mapZ (by omega) | exact cell_map (by omega))) | exact True.intro | exact rfl)
      all_goals first
        | contradiction
        | (exfalso; omega)
        | (apply s_fin; (exact (show ResS _ _ _ _ [_] from ⟨rfl, trivial⟩)); (focus (exact ⟨rfl, rfl⟩)); (focus (repeat (first | with_reducible exact Take.nil | with_reducible apply Take.c | ((with_reducible apply Take.cE); (first | exact rfl | (apply blkE; (focus (first | exact rfl | exact recs_snocE rfl | exact map_snocE rfl | exact congrArg (fun v => [v]) (gslE rfl rfl (by first | rfl | exact ‹_› | omega | (simp ; first | done | omega)) (by first | rfl | exact ‹_› | omega | (simp ; first | done | omega)) rfl)))))) | with_reducible apply Take.drop))))
        | trace_state
    · rw [if_neg h1]
      refine w_body4 Try.func73 rfl rfl ?_
      repeat' (first | apply w_seq | apply w_region | apply o_nil | (apply o_g tyOk; exact rfl; exact rfl) | (apply o_notB; exact rfl; exact rfl) | (apply o_load tyOk; (iterate 3 exact rfl); (focus (exact pk))) | (apply o_store tyOk; (iterate 4 exact rfl); (focus (exact up))) | (apply o_call; exact rfl; exact rfl; (focus (first | exact rfl | assumption)); exact rfl; (focus (exact ⟨_, hP, by repeat (first | with_reducible exact Take.nil | with_reducible apply Take.c | with_reducible apply Take.drop)⟩)); rintro _ _ ⟨rfl, rfl⟩) | (apply o_call; exact rfl; exact rfl; (focus (first | exact rfl | assumption)); exact rfl; (focus (exact ⟨_, same_any _ _, by repeat (first | with_reducible exact Take.nil | with_reducible apply Take.c | with_reducible apply Take.drop)⟩)); rintro _ _ ⟨rfl, rfl⟩) | (apply o_want; exact rfl; exact rfl) | (apply o_gF; (iterate 3 exact rfl); (focus (first | exact ‹_› | with_reducible exact rfl | omega))) | (apply w_false; exact rfl) | (apply w_dF; exact rfl; (focus (first | exact ‹_› | with_reducible exact rfl | omega))) | apply thenS_normal | apply thenS_ret | apply blockS_ret | apply w_skip | apply w_ret | apply w_block | ((with_reducible apply Sd.mk); (first | exact True.intro | omega | (constructor <;> first | omega | (unfold maxLen; omega)) | (unfold maxLen; omega))) | ((with_reducible apply Ln.mk); (first | rfl | exact ‹_› | omega | (simp ; first | done | omega))) | ((with_reducible apply Ce.mk); (first | rfl | exact ‹_› | exact cell_recZ (fun _ => rfl) (by omega) (by decide) rfl | exact cell_rec (fun _ => rfl) (by omega) (by decide) rfl | exact cell_bytes (by omega) | exact cell_mapZ (by omega) | exact cell_map (by omega))) | ((with_reducible apply Se.mk); (first | (focus ((repeat (first | exact SetAt.zero | apply SetAt.succ)); done)) | exact setAt_bytes (by omega) (by omega) | exact setAt_mapZ (by omega) | exact setAt_map (by omega))) | exact True.intro | exact rfl)
      all_goals first
        | contradiction
        | (exfalso; omega)
        | (apply s_fin; (exact (show ResS _ _ _ _ [_] from ⟨rfl, trivial⟩)); (focus (exact ⟨rfl, rfl⟩)); (focus (repeat (first | with_reducible exact Take.nil | with_reducible apply Take.c | ((with_reducible apply Take.cE); (first | exact rfl | (apply blkE; (focus (first | exact rfl | exact recs_snocE rfl | exact map_snocE rfl | exact congrArg (fun v => [v]) (gslE rfl rfl (by first | rfl | exact ‹_› | omega | (simp ; first | done | omega)) (by first | rfl | exact ‹_› | omega | (simp ; first | done | omega)) rfl)))))) | with_reducible apply Take.drop))))
        | trace_state
theorem rNumber_any (n : Nat) (l : List UInt8) (m : Int) (h : SH) (hl : l.length ≤ 1000000) : SRun Try.prog 34 [gptr n 0 2, I m] (rdB n l 0 :: h) fun r q =>
    r = I (rdN l m).1 ∧ q = rdB n (rdN l m).2.1 (rdN l m).2.2 :: h := by
  have hR := read_any n l m h hl
  generalize rdN l m = V at *
  refine w_body2 Try.func34 rfl rfl ?_
  repeat' (first | apply w_seq | apply w_region | apply o_nil | (apply o_g tyOk; exact rfl; exact rfl) | (apply o_call; exact rfl; exact rfl; (focus (first | exact rfl | assumption)); exact rfl; (focus (exact ⟨_, hR, by repeat (first | with_reducible exact Take.nil | with_reducible apply Take.c | with_reducible apply Take.drop)⟩)); rintro _ _ ⟨rfl, rfl⟩) | apply thenS_normal | apply w_ret | ((with_reducible apply Sd.mk); (first | exact True.intro | omega | (constructor <;> first | omega | (unfold maxLen; omega)) | (unfold maxLen; omega))))
  all_goals first
    | (apply s_fin; (exact (show ResS _ _ _ _ [_] from ⟨rfl, trivial⟩)); (focus (exact ⟨rfl, rfl⟩)); (focus (repeat (first | with_reducible exact Take.nil | with_reducible apply Take.c | ((with_reducible apply Take.cE); (first | exact rfl | (apply blkE; (focus (first | exact rfl | exact recs_snocE rfl | exact map_snocE rfl | exact congrArg (fun v => [v]) (gslE rfl rfl (by first | rfl | exact ‹_› | omega | (simp ; first | done | omega)) (by first | rfl | exact ‹_› | omega | (simp ; first | done | omega)) rfl)))))) | with_reducible apply Take.drop))))
    | trace_state
end Go.Proofs.Ytgooffiipnkmiaa
end
section
set_option linter.unusedVariables false
set_option linter.unusedSimpArgs false
set_option maxRecDepth 4000
namespace Go.Proofs.Ytgooffiipnkmiaa
open Go.Gh Go.RowKit

theorem bdec_ok {P : List Int} {c : Int} {d : Dec} (h : DecOk d) (hP : P.length = 2048) (hc : 0 ≤ c ∧ c ≤ 255) : DecOk (bdec P c d).2.1 ∧ (bdec P c d).1.length = 2048 ∧ 0 ≤ (bdec P c d).2.2 ∧ (bdec P c d).2.2 ≤ 255 := by
  have hk : (c / 32).toNat < 8 := by omega
  obtain ⟨h1, h2, h3⟩ := tdec_ok (k := 8) (t := bsel P (c / 32).toNat) (j := 1) h
  have h28 : (2 ^ 8 : Nat) = 256 := rfl
  rw [h28] at h3
  refine ⟨h1, bput_len hP hk (by rw [h2]; exact bsel_len hP hk), Int.natCast_nonneg _, ?_⟩
  show (((tdec 8 (bsel P (c / 32).toNat) d 1).2.2 - 256 : Nat) : Int) ≤ 255
  omega
end Go.Proofs.Ytgooffiipnkmiaa
end
section
set_option linter.unusedVariables false
set_option linter.unusedSimpArgs false
set_option maxRecDepth 4000
namespace Go.Proofs.Ytgooffiipnkmiaa
open Go.Gh Go.RowKit

/-- Costs: of a literal, of a copy, of a bit of a distance, of a bit of a length. -/
structure Cst where
  lit : Int
  cpy : Int
  dst : Int
  len : Int
abbrev csC (c : Cst) : List Value := [I c.lit, I c.cpy, I c.dst, I c.len]
abbrev csV (c : Cst) : Value := .agg ⟨csC c⟩
/-- A piece: length, distance, byte. -/
abbrev Pc := Int × Int × Int
abbrev pcC (t : Pc) : List Value := [I t.1, I t.2.1, .int .u8 t.2.2]
abbrev pcV (t : Pc) : Value := .agg ⟨pcC t⟩
theorem pcW (t : Pc) : (pcC t).length = 3 := rfl
@[simp] theorem len_pcs (l : List Pc) : (recs pcC l).length = 3 * l.length := by rw [recs_len pcW]; omega
abbrev one1 (n : Int) : Prop := 0 ≤ n ∧ n ≤ 1000
abbrev vC (c : Cst) : Prop := one1 c.lit ∧ one1 c.cpy ∧ one1 c.dst ∧ one1 c.len
/-- A valid piece. -/
abbrev vP (t : Pc) : Prop := (t.2.1 = 0 ∧ t.1 = 1) ∨ (1 ≤ t.2.1 ∧ t.2.1 ≤ 4096 ∧ 2 ≤ t.1 ∧ t.1 ≤ 273 ∧ t.2.2 = 0)
def iblen (n : Int) : Int := (blen n.toNat : Int)
theorem iblen_pos {n : Int} (h : 0 ≤ n ∧ n < 8192) : 0 ≤ iblen n ∧ iblen n ≤ 13 := by
  have := blen_le (n := n.toNat) (k := 13) (by omega)
  unfold iblen; omega
/-- The price of a valid piece. -/
def price (c : Cst) (t : Pc) : Int := if t.2.1 = 0 then c.lit else c.cpy + c.dst * iblen t.2.1 + c.len * iblen t.1
theorem mul_in {a b : Int} (ha : one1 a) (hb : 0 ≤ b ∧ b ≤ 13) : 0 ≤ a * b ∧ a * b ≤ 13000 := by
  have h1 := Int.mul_le_mul_of_nonneg_left hb.2 ha.1
  have h2 := Int.mul_nonneg ha.1 hb.1
  omega
theorem price_in {c : Cst} {t : Pc} (hc : vC c) (ht : vP t) : 0 ≤ price c t ∧ price c t ≤ 27000 := by
  obtain ⟨h1, h2, h3, h4⟩ := hc
  unfold price
  split
  · omega
  · rcases ht with ht | ht
    · omega
    · have := mul_in h3 (iblen_pos (n := t.2.1) (by omega))
      have := mul_in h4 (iblen_pos (n := t.1) (by omega))
      omega

theorem one_any (n : Int) (h : SH) : SRun Try.prog 95 [I n] h fun r q => r = B (decide (one1 n)) ∧ q = h := by
  refine w_body1 Try.func95 rfl rfl ?_
  repeat' (first | apply w_seq | apply w_region | apply o_nil | (apply o_g tyOk; exact rfl; exact rfl) | (apply o_want; exact rfl; exact rfl) | (apply o_skip; iterate 4 exact rfl) | (apply o_guardT; (iterate 3 exact rfl); all_goals intro hc) | apply thenS_normal | apply w_ret | ((with_reducible apply Sd.mk); (first | exact True.intro | omega | (constructor <;> first | omega | (unfold maxLen; omega)) | (unfold maxLen; omega))))
  all_goals (apply s_fin; (exact (show ResS _ _ _ _ [_] from ⟨rfl, trivial⟩)); (focus (refine ⟨?_, rfl⟩; show B _ = B _; congr 1; first | (rw [decide_eq_decide]; (try dsimp only at *); omega) | (symm; rw [decide_eq_false_iff_not]; (try dsimp only at *); omega))); (focus (repeat (first | with_reducible exact Take.nil | with_reducible apply Take.c | ((with_reducible apply Take.cE); (first | exact rfl | (apply blkE; (focus (first | exact rfl | exact recs_snocE rfl | exact map_snocE rfl | exact congrArg (fun v => [v]) (gslE rfl rfl (by first | rfl | exact ‹_› | omega | (simp ; first | done | omega)) (by first | rfl | exact ‹_› | omega | (simp ; first | done | omega)) rfl)))))) | with_reducible apply Take.drop))))
theorem rValidC_any (c : Cst) (h : SH) : SRun Try.prog 59 [csV c] h fun r q => r = B (decide (vC c)) ∧ q = h := by
  obtain ⟨a, b, d, e⟩ := c
  refine w_body1 Try.func59 rfl rfl ?_
  repeat' (first | apply w_seq | apply w_region | apply o_nil | (apply o_g tyOk; exact rfl; exact rfl) | (apply o_load tyOk; (iterate 3 exact rfl); (focus (exact pk))) | (apply o_box (tt := tyT); iterate 5 exact rfl) | (apply o_call; exact rfl; exact rfl; (focus (first | exact rfl | assumption)); exact rfl; (focus (exact ⟨_, one_any _ _, by repeat (first | with_reducible exact Take.nil | with_reducible apply Take.c | with_reducible apply Take.drop)⟩)); rintro _ _ ⟨rfl, rfl⟩) | (apply o_want; exact rfl; exact rfl) | (apply o_skip; iterate 4 exact rfl) | (apply o_guardT; (iterate 3 exact rfl); all_goals intro hc) | apply thenS_normal | apply w_ret | ((with_reducible apply Sd.mk); (first | exact True.intro | omega | (constructor <;> first | omega | (unfold maxLen; omega)) | (unfold maxLen; omega))) | ((with_reducible apply Ln.mk); (first | rfl | exact ‹_› | omega | (simp ; first | done | omega))) | ((with_reducible apply Ce.mk); (first | rfl | exact ‹_› | exact cell_recZ (fun _ => rfl) (by omega) (by decide) rfl | exact cell_rec (fun _ => rfl) (by omega) (by decide) rfl | exact cell_bytes (by omega) | exact cell_mapZ (by omega) | exact cell_map (by omega))) | exact True.intro | intro A | exact rfl)
  all_goals (apply s_fin; (exact (show ResS _ _ _ _ [_] from ⟨rfl, trivial⟩)); (focus (refine ⟨?_, rfl⟩; show B _ = B _; congr 1; unfold vC; dsimp only; first | (rw [decide_eq_decide]; (try dsimp only at *); omega) | (symm; rw [decide_eq_false_iff_not]; (try dsimp only at *); omega))); (focus (repeat (first | with_reducible exact Take.nil | with_reducible apply Take.c | ((with_reducible apply Take.cE); (first | exact rfl | (apply blkE; (focus (first | exact rfl | exact recs_snocE rfl | exact map_snocE rfl | exact congrArg (fun v => [v]) (gslE rfl rfl (by first | rfl | exact ‹_› | omega | (simp ; first | done | omega)) (by first | rfl | exact ‹_› | omega | (simp ; first | done | omega)) rfl)))))) | with_reducible apply Take.drop))))
theorem validC_any (c : Cst) (h : SH) : SRun Try.prog 55 [csV c] h fun r q => r = B (decide (vC c)) ∧ q = h := by
  obtain ⟨a, b, d, e⟩ := c
  refine w_body1 Try.func55 rfl rfl ?_
  repeat' (first | apply w_seq | apply w_region | apply o_nil | (apply o_g tyOk; exact rfl; exact rfl) | (apply o_load tyOk; (iterate 3 exact rfl); (focus (exact pk))) | (apply o_box (tt := tyT); iterate 5 exact rfl) | (apply o_buildSlice tyOk; (iterate 5 exact rfl); (focus (decide)); exact rfl; (focus (decide)); (focus (repeat (first | exact CatR.nil | exact CatR.last rfl | (apply CatR.one; exact rfl; exact rfl) | (apply CatR.agg; exact rfl)))); exact rfl) | apply thenS_normal | apply w_block | ((with_reducible apply Sd.mk); (first | exact True.intro | omega | (constructor <;> first | omega | (unfold maxLen; omega)) | (unfold maxLen; omega))) | ((with_reducible apply Ln.mk); (first | rfl | exact ‹_› | omega | (simp ; first | done | omega))) | ((with_reducible apply Ce.mk); (first | rfl | exact ‹_› | exact cell_recZ (fun _ => rfl) (by omega) (by decide) rfl | exact cell_rec (fun _ => rfl) (by omega) (by decide) rfl | exact cell_bytes (by omega) | exact cell_mapZ (by omega) | exact cell_map (by omega))) | exact True.intro | intro A | exact rfl)
  refine w_loop (S := Nat) (fun k => [(13, gsl A 0 (4 * 1) 4 1), (14, I 4), (15, I k)]) (fun _ => (A, ⟨[a, b, d, e].map (fun z => I z), false⟩) :: h) (fun k => k ≤ 4 ∧ ∀ i, i < k → one1 [a, b, d, e][i]!) (fun k => 4 - k) 0 ⟨by omega, by omega⟩ (by repeat' (first | exact trivial | refine ⟨rfl, ?_⟩ | refine ⟨congrArg some ?_, ?_⟩)) (by repeat (first | with_reducible exact Take.nil | with_reducible apply Take.c | ((with_reducible apply Take.cE); (first | exact rfl | (apply blkE; (focus (first | exact rfl | exact recs_snocE rfl | exact map_snocE rfl | exact congrArg (fun v => [v]) (gslE rfl rfl (by first | rfl | exact ‹_› | omega | (simp ; first | done | omega)) (by first | rfl | exact ‹_› | omega | (simp ; first | done | omega)) rfl)))))) | with_reducible apply Take.drop)) ?_
  rintro k ⟨hk, hs⟩
  by_cases hkl : k < 4
  · have hl : k < [a, b, d, e].length := hkl
    have hall : (∀ i, i < 4 → one1 [a, b, d, e][i]!) ↔ one1 a ∧ one1 b ∧ one1 d ∧ one1 e :=
      ⟨fun g => ⟨g 0 (by omega), g 1 (by omega), g 2 (by omega), g 3 (by omega)⟩, fun g i hi => by match i, hi with | 0, _ => exact g.1 | 1, _ => exact g.2.1 | 2, _ => exact g.2.2.1 | 3, _ => exact g.2.2.2⟩
    repeat' (first | apply w_seq | apply w_region | apply o_nil | (apply o_g tyOk; exact rfl; exact rfl) | (apply o_ar tyOk; exact rfl; exact rfl) | (apply o_load tyOk; (iterate 3 exact rfl); (focus (exact pk))) | (apply o_want; exact rfl; exact rfl) | (apply o_skip; iterate 4 exact rfl) | (apply o_guardF; (iterate 3 exact rfl); all_goals intro hc) | (apply w_true; exact rfl) | (apply w_dT; exact rfl; (focus (first | exact ‹_› | with_reducible exact rfl | omega))) | (apply w_if; exact rfl; all_goals intro hc) | apply thenS_normal | apply thenS_ret | apply blockS_normal | apply blockS_ret | apply w_skip | apply w_ret | apply w_block | ((with_reducible apply Sd.mk); (first | exact True.intro | omega | (constructor <;> first | omega | (unfold maxLen; omega)) | (unfold maxLen; omega))) | ((with_reducible apply Ln.mk); (first | rfl | exact ‹_› | omega | (simp ; first | done | omega))) | ((with_reducible apply Wr.mk); (first | exact IntWalk.i64_in _ (by omega) | exact IntWalk.u8_in _ (by omega) | exact IntWalk.u32_in _ (by omega) | exact IntWalk.u64_in _ (by omega) | exact IntKind.wrap_u8 _ | exact IntKind.wrap_u32 _ | rfl)) | ((with_reducible apply Ce.mk); (first | rfl | exact ‹_› | exact cell_recZ (fun _ => rfl) (by omega) (by decide) rfl | exact cell_rec (fun _ => rfl) (by omega) (by decide) rfl | exact cell_bytes (by omega) | exact cell_mapZ (by omega) | exact cell_map (by omega))) | exact True.intro | exact rfl)
    all_goals first
      | (apply s_fin; (exact (show ResS _ _ _ _ [_] from ⟨rfl, trivial⟩)); (focus (refine ⟨?_, rfl⟩; show B _ = B _; congr 1; symm; rw [decide_eq_false_iff_not]; intro g; have := hall.2 g k hkl; omega)); (focus (repeat (first | with_reducible exact Take.nil | with_reducible apply Take.c | ((with_reducible apply Take.cE); (first | exact rfl | (apply blkE; (focus (first | exact rfl | exact recs_snocE rfl | exact map_snocE rfl | exact congrArg (fun v => [v]) (gslE rfl rfl (by first | rfl | exact ‹_› | omega | (simp ; first | done | omega)) (by first | rfl | exact ‹_› | omega | (simp ; first | done | omega)) rfl)))))) | with_reducible apply Take.drop))))
      | exact ⟨k + 1, ⟨hkl, fun i hi => by
          by_cases e2 : i = k
          · subst e2; omega
          · exact hs i (by omega)⟩, by omega, (by repeat' (first | exact trivial | refine ⟨rfl, ?_⟩ | refine ⟨congrArg some ?_, ?_⟩)), (by repeat (first | with_reducible exact Take.nil | with_reducible apply Take.c | ((with_reducible apply Take.cE); (first | exact rfl | (apply blkE; (focus (first | exact rfl | exact recs_snocE rfl | exact map_snocE rfl | exact congrArg (fun v => [v]) (gslE rfl rfl (by first | rfl | exact ‹_› | omega | (simp ; first | done | omega)) (by first | rfl | exact ‹_› | omega | (simp ; first | done | omega)) rfl)))))) | with_reducible apply Take.drop))⟩
  · repeat' (first | apply w_seq | apply w_region | apply o_nil | (apply o_g tyOk; exact rfl; exact rfl) | (apply w_dF; exact rfl; (focus (first | exact ‹_› | with_reducible exact rfl | omega))) | apply thenS_normal | apply thenS_exit | apply blockS_exit | apply w_ret | apply w_exit | ((with_reducible apply Sd.mk); (first | exact True.intro | omega | (constructor <;> first | omega | (unfold maxLen; omega)) | (unfold maxLen; omega))))
    (apply s_fin; (exact (show ResS _ _ _ _ [_] from ⟨rfl, trivial⟩)); (focus (refine ⟨?_, rfl⟩; show B _ = B _; congr 1; symm; rw [decide_eq_true_eq]; exact ⟨hs 0 (by omega), hs 1 (by omega), hs 2 (by omega), hs 3 (by omega)⟩)); (focus (repeat (first | with_reducible exact Take.nil | with_reducible apply Take.c | ((with_reducible apply Take.cE); (first | exact rfl | (apply blkE; (focus (first | exact rfl | exact recs_snocE rfl | exact map_snocE rfl | exact congrArg (fun v => [v]) (gslE rfl rfl (by first | rfl | exact ‹_› | omega | (simp ; first | done | omega)) (by first | rfl | exact ‹_› | omega | (simp ; first | done | omega)) rfl)))))) | with_reducible apply Take.drop))))
theorem rIsPiece_any (t : Pc) (h : SH) : SRun Try.prog 96 [pcV t] h fun r q => r = B (decide (vP t)) ∧ q = h := by
  obtain ⟨a, b, d⟩ := t
  refine w_body1 Try.func96 rfl rfl ?_
  repeat' (first | apply w_seq | apply w_region | apply o_nil | (apply o_g tyOk; exact rfl; exact rfl) | (apply o_load tyOk; (iterate 3 exact rfl); (focus (exact pk))) | (apply o_box (tt := tyT); iterate 5 exact rfl) | (apply o_want; exact rfl; exact rfl) | (apply o_skip; iterate 4 exact rfl) | (apply o_guardT; (iterate 3 exact rfl); all_goals intro hc) | (apply w_if; exact rfl; all_goals intro hc) | apply thenS_normal | apply thenS_ret | apply w_skip | apply w_ret | ((with_reducible apply Sd.mk); (first | exact True.intro | omega | (constructor <;> first | omega | (unfold maxLen; omega)) | (unfold maxLen; omega))) | ((with_reducible apply Ln.mk); (first | rfl | exact ‹_› | omega | (simp ; first | done | omega))) | ((with_reducible apply Ce.mk); (first | rfl | exact ‹_› | exact cell_recZ (fun _ => rfl) (by omega) (by decide) rfl | exact cell_rec (fun _ => rfl) (by omega) (by decide) rfl | exact cell_bytes (by omega) | exact cell_mapZ (by omega) | exact cell_map (by omega))) | exact True.intro | intro A | exact rfl)
  all_goals (apply s_fin; (exact (show ResS _ _ _ _ [_] from ⟨rfl, trivial⟩)); (focus (refine ⟨?_, rfl⟩; show B _ = B _; congr 1; unfold vP; dsimp only; first | (rw [decide_eq_decide]; (try dsimp only at *); omega) | (symm; rw [decide_eq_false_iff_not]; (try dsimp only at *); omega))); (focus (repeat (first | with_reducible exact Take.nil | with_reducible apply Take.c | ((with_reducible apply Take.cE); (first | exact rfl | (apply blkE; (focus (first | exact rfl | exact recs_snocE rfl | exact map_snocE rfl | exact congrArg (fun v => [v]) (gslE rfl rfl (by first | rfl | exact ‹_› | omega | (simp ; first | done | omega)) (by first | rfl | exact ‹_› | omega | (simp ; first | done | omega)) rfl)))))) | with_reducible apply Take.drop))))
theorem w_half (m : Nat) (h : m < 9223372036854775808) : IntKind.i64.wrap ((m : Int).tdiv 2) = ((m / 2 : Nat) : Int) := by
  rw [Int.tdiv_eq_ediv_of_nonneg (by omega), IntWalk.i64_in _ (by omega)]; omega
theorem rBits_any (n : Nat) (h : SH) (hn : n < 9223372036854775808) : SRun Try.prog 97 [I n] h fun r q => r = I (blen n) ∧ q = h := by
  refine w_body1 Try.func97 rfl rfl ?_
  repeat' (first | apply w_seq | apply w_region | apply o_nil | (apply o_g tyOk; exact rfl; exact rfl) | apply thenS_normal | apply w_block | ((with_reducible apply Sd.mk); (first | exact True.intro | omega | (constructor <;> first | omega | (unfold maxLen; omega)) | (unfold maxLen; omega))))
  refine w_loop (S := Nat × Nat) (fun x => [(0, I x.1), (3, I x.2)]) (fun _ => h) (fun x => x.1 ≤ n ∧ blen n = x.2 + blen x.1 ∧ x.2 ≤ 64) (fun x => x.1) (n, 0) ⟨Nat.le_refl _, by show blen n = 0 + blen n; omega, by omega⟩ (by repeat' (first | exact trivial | refine ⟨rfl, ?_⟩ | refine ⟨congrArg some ?_, ?_⟩)) (by repeat (first | with_reducible exact Take.nil | with_reducible apply Take.c | ((with_reducible apply Take.cE); (first | exact rfl | (apply blkE; (focus (first | exact rfl | exact recs_snocE rfl | exact map_snocE rfl | exact congrArg (fun v => [v]) (gslE rfl rfl (by first | rfl | exact ‹_› | omega | (simp ; first | done | omega)) (by first | rfl | exact ‹_› | omega | (simp ; first | done | omega)) rfl)))))) | with_reducible apply Take.drop)) ?_
  rintro ⟨m, k⟩ ⟨hm, hk, hk2⟩
  dsimp only at hm hk hk2 ⊢
  repeat' (first | apply w_seq | apply w_region | apply o_nil | (apply o_g tyOk; exact rfl; exact rfl) | (apply o_ar tyOk; exact rfl; exact rfl) | (apply w_if; exact rfl; all_goals intro hc) | apply thenS_normal | apply thenS_exit | apply blockS_normal | apply blockS_exit | apply w_skip | apply w_ret | apply w_exit | apply w_block | ((with_reducible apply Sd.mk); (first | exact True.intro | omega | (constructor <;> first | omega | (unfold maxLen; omega)) | (unfold maxLen; omega))) | ((with_reducible apply Wr.mk); (first | exact w_half _ (by omega) | exact IntWalk.i64_in _ (by omega) | exact IntWalk.u8_in _ (by omega) | exact IntWalk.u32_in _ (by omega) | exact IntWalk.u64_in _ (by omega) | exact IntKind.wrap_u8 _ | exact IntKind.wrap_u32 _ | rfl)))
  · exact ⟨(m / 2, k + 1), ⟨by show m / 2 ≤ n; omega, by have := blen_half (n := m) (by omega); show blen n = k + 1 + blen (m / 2); omega, by
      have := blen_half (n := m) (by omega)
      have h3 := blen_le (n := n) (k := 63) (by omega)
      show k + 1 ≤ 64; omega⟩, by show m / 2 < m; omega, (by repeat' (first | exact trivial | refine ⟨rfl, ?_⟩ | refine ⟨congrArg some ?_, ?_⟩)), (by repeat (first | with_reducible exact Take.nil | with_reducible apply Take.c | ((with_reducible apply Take.cE); (first | exact rfl | (apply blkE; (focus (first | exact rfl | exact recs_snocE rfl | exact map_snocE rfl | exact congrArg (fun v => [v]) (gslE rfl rfl (by first | rfl | exact ‹_› | omega | (simp ; first | done | omega)) (by first | rfl | exact ‹_› | omega | (simp ; first | done | omega)) rfl)))))) | with_reducible apply Take.drop))⟩
  · obtain rfl : m = 0 := by omega
    (apply s_fin; (exact (show ResS _ _ _ _ [_] from ⟨rfl, trivial⟩)); (focus (exact ⟨by show I k = I (blen n); rw [hk, blen_zero, Nat.add_zero], rfl⟩)); (focus (repeat (first | with_reducible exact Take.nil | with_reducible apply Take.c | ((with_reducible apply Take.cE); (first | exact rfl | (apply blkE; (focus (first | exact rfl | exact recs_snocE rfl | exact map_snocE rfl | exact congrArg (fun v => [v]) (gslE rfl rfl (by first | rfl | exact ‹_› | omega | (simp ; first | done | omega)) (by first | rfl | exact ‹_› | omega | (simp ; first | done | omega)) rfl)))))) | with_reducible apply Take.drop))))
theorem vP_nat {t : Pc} (h : vP t) : ∃ (a b : Nat) (y : Int), t = ((a : Int), (b : Int), y) ∧ a ≤ 273 ∧ b ≤ 4096 := by
  obtain ⟨a, b, y⟩ := t
  have h' : (b = 0 ∧ a = 1) ∨ (1 ≤ b ∧ b ≤ 4096 ∧ 2 ≤ a ∧ a ≤ 273 ∧ y = 0) := h
  exact ⟨a.toNat, b.toNat, y, by rw [Int.toNat_of_nonneg (by omega), Int.toNat_of_nonneg (by omega)], by omega, by omega⟩
theorem price_nat (c : Cst) (a b : Nat) (y : Int) : price c ((a : Int), (b : Int), y) = if (b : Int) = 0 then c.lit else c.cpy + c.dst * (blen b : Int) + c.len * (blen a : Int) := rfl
theorem price_any (c : Cst) (t : Pc) (h : SH) (hc : vC c) (ht : vP t) : SRun Try.prog 57 [csV c, pcV t] h fun r q => r = I (price c t) ∧ q = h := by
  have hin := price_in hc ht
  obtain ⟨a, b, y, rfl, ha, hb⟩ := vP_nat ht
  rw [price_nat] at hin ⊢
  have m1 := mul_in hc.2.2.1 (b := (blen b : Int)) (by have := blen_le (n := b) (k := 13) (by omega); omega)
  have m2 := mul_in hc.2.2.2 (b := (blen a : Int)) (by have := blen_le (n := a) (k := 13) (by omega); omega)
  have h2 := hc.2.1
  show SRun _ _ [csV c, .agg ⟨[I a, I b, .int .u8 y]⟩] h _
  refine w_body2 Try.func57 rfl rfl ?_
  repeat' (first | apply w_seq | apply w_region | apply o_nil | (apply w_draw; (focus (kernel_rfl)); (focus (kernel_rfl))) | (apply o_g tyOk; exact rfl; exact rfl) | (apply o_ar tyOk; exact rfl; exact rfl) | (apply o_load tyOk; (iterate 3 exact rfl); (focus (exact pk))) | (apply o_box (tt := tyT); iterate 5 exact rfl) | (apply o_callD; (iterate 4 exact rfl); (focus (exact ⟨_, bLen_any b _ (by omega), by repeat (first | with_reducible exact Take.nil | with_reducible apply Take.c | with_reducible apply Take.drop)⟩)); (focus (exact fun _ _ h => h.1)); (focus ((repeat (first | exact Flat.c rfl | apply flat_tuple | apply flat_agg | exact FlatL.nil | apply FlatL.cons))))) | (apply o_callD; (iterate 4 exact rfl); (focus (exact ⟨_, bLen_any a _ (by omega), by repeat (first | with_reducible exact Take.nil | with_reducible apply Take.c | with_reducible apply Take.drop)⟩)); (focus (exact fun _ _ h => h.1)); (focus ((repeat (first | exact Flat.c rfl | apply flat_tuple | apply flat_agg | exact FlatL.nil | apply FlatL.cons))))) | (apply w_if; exact rfl; all_goals intro hc) | apply thenS_normal | apply thenS_ret | apply w_skip | apply w_ret | ((with_reducible apply Sd.mk); (first | exact True.intro | omega | (constructor <;> first | omega | (unfold maxLen; omega)) | (unfold maxLen; omega))) | ((with_reducible apply Ln.mk); (first | rfl | exact ‹_› | omega | (simp ; first | done | omega))) | ((with_reducible apply Wr.mk); (first | exact IntWalk.i64_in _ (by omega) | exact IntWalk.u8_in _ (by omega) | exact IntWalk.u32_in _ (by omega) | exact IntWalk.u64_in _ (by omega) | exact IntKind.wrap_u8 _ | exact IntKind.wrap_u32 _ | rfl)) | ((with_reducible apply Ce.mk); (first | rfl | exact ‹_› | exact cell_recZ (fun _ => rfl) (by omega) (by decide) rfl | exact cell_rec (fun _ => rfl) (by omega) (by decide) rfl | exact cell_bytes (by omega) | exact cell_mapZ (by omega) | exact cell_map (by omega))) | exact True.intro | intro A | exact rfl)
  · rw [if_pos hc]
    (apply s_fin; (exact (show ResS _ _ _ _ [_] from ⟨rfl, trivial⟩)); (focus (exact ⟨rfl, rfl⟩)); (focus (repeat (first | with_reducible exact Take.nil | with_reducible apply Take.c | ((with_reducible apply Take.cE); (first | exact rfl | (apply blkE; (focus (first | exact rfl | exact recs_snocE rfl | exact map_snocE rfl | exact congrArg (fun v => [v]) (gslE rfl rfl (by first | rfl | exact ‹_› | omega | (simp ; first | done | omega)) (by first | rfl | exact ‹_› | omega | (simp ; first | done | omega)) rfl)))))) | with_reducible apply Take.drop))))
  · rw [if_neg hc]
    (apply s_fin; (exact (show ResS _ _ _ _ [_] from ⟨rfl, trivial⟩)); (focus (exact ⟨rfl, rfl⟩)); (focus (repeat (first | with_reducible exact Take.nil | with_reducible apply Take.c | ((with_reducible apply Take.cE); (first | exact rfl | (apply blkE; (focus (first | exact rfl | exact recs_snocE rfl | exact map_snocE rfl | exact congrArg (fun v => [v]) (gslE rfl rfl (by first | rfl | exact ‹_› | omega | (simp ; first | done | omega)) (by first | rfl | exact ‹_› | omega | (simp ; first | done | omega)) rfl)))))) | with_reducible apply Take.drop))))
end Go.Proofs.Ytgooffiipnkmiaa
end
section
set_option linter.unusedVariables false
set_option linter.unusedSimpArgs false
set_option maxRecDepth 4000
namespace Go.Proofs.Ytgooffiipnkmiaa
open Go.Gh Go.RowKit

theorem rlzPrice_any (c : Cst) (t : Pc) (h : SH) : SRun Try.prog 61 [csV c, pcV t] h fun r q => r = I (if vC c ∧ vP t then price c t else 0) ∧ q = h := by
  by_cases hc0 : vC c
  · by_cases ht0 : vP t
    · rw [if_pos ⟨hc0, ht0⟩]
      have hin := price_in hc0 ht0
      have ht1 := ht0
      obtain ⟨a, b, y, rfl, ha, hb⟩ := vP_nat ht0
      rw [price_nat] at hin ⊢
      have m1 := mul_in hc0.2.2.1 (b := (blen b : Int)) (by have := blen_le (n := b) (k := 13) (by omega); omega)
      have m2 := mul_in hc0.2.2.2 (b := (blen a : Int)) (by have := blen_le (n := a) (k := 13) (by omega); omega)
      have h2 := hc0.2.1
      refine w_body2 Try.func61 rfl rfl ?_
      repeat' (first | apply w_seq | apply w_region | apply o_nil | (apply w_draw; (focus (kernel_rfl)); (focus (kernel_rfl))) | (apply o_g tyOk; exact rfl; exact rfl) | (apply o_ar tyOk; exact rfl; exact rfl) | (apply o_not; exact rfl; exact rfl) | (apply o_load tyOk; (iterate 3 exact rfl); (focus (exact pk))) | (apply o_loads tyOk; (iterate 3 exact rfl); (focus (exact pk))) | (apply o_box (tt := tyT); iterate 5 exact rfl) | (apply o_call; exact rfl; exact rfl; (focus (first | exact rfl | assumption)); exact rfl; (focus (exact ⟨_, rValidC_any c _, by repeat (first | with_reducible exact Take.nil | with_reducible apply Take.c | with_reducible apply Take.drop)⟩)); rintro _ _ ⟨rfl, rfl⟩) | (apply o_call; exact rfl; exact rfl; (focus (first | exact rfl | assumption)); exact rfl; (focus (exact ⟨_, rIsPiece_any _ _, by repeat (first | with_reducible exact Take.nil | with_reducible apply Take.c | with_reducible apply Take.drop)⟩)); rintro _ _ ⟨rfl, rfl⟩) | (apply o_callD; (iterate 4 exact rfl); (focus (exact ⟨_, rBits_any b _ (by omega), by repeat (first | with_reducible exact Take.nil | with_reducible apply Take.c | with_reducible apply Take.drop)⟩)); (focus (exact fun _ _ h => h.1)); (focus ((repeat (first | exact Flat.c rfl | apply flat_tuple | apply flat_agg | exact FlatL.nil | apply FlatL.cons))))) | (apply o_callD; (iterate 4 exact rfl); (focus (exact ⟨_, rBits_any a _ (by omega), by repeat (first | with_reducible exact Take.nil | with_reducible apply Take.c | with_reducible apply Take.drop)⟩)); (focus (exact fun _ _ h => h.1)); (focus ((repeat (first | exact Flat.c rfl | apply flat_tuple | apply flat_agg | exact FlatL.nil | apply FlatL.cons))))) | (apply o_want; exact rfl; exact rfl) | (apply o_gF; (iterate 3 exact rfl); (focus (first | exact ‹_› | with_reducible exact rfl | omega))) | (apply w_dF; exact rfl; (focus (first | exact ‹_› | with_reducible exact rfl | omega))) | (apply w_if; exact rfl; all_goals intro hc) | apply thenS_normal | apply thenS_ret | apply blockS_normal | apply blockS_ret | apply w_skip | apply w_ret | apply w_block | ((with_reducible apply Sd.mk); (first | exact True.intro | omega | (constructor <;> first | omega | (unfold maxLen; omega)) | (unfold maxLen; omega))) | ((with_reducible apply Ln.mk); (first | rfl | exact ‹_› | omega | (simp ; first | done | omega))) | ((with_reducible apply Wr.mk); (first | exact IntWalk.i64_in _ (by omega) | exact IntWalk.u8_in _ (by omega) | exact IntWalk.u32_in _ (by omega) | exact IntWalk.u64_in _ (by omega) | exact IntKind.wrap_u8 _ | exact IntKind.wrap_u32 _ | rfl)) | ((with_reducible apply Ce.mk); (first | rfl | exact ‹_› | exact cell_recZ (fun _ => rfl) (by omega) (by decide) rfl | exact cell_rec (fun _ => rfl) (by omega) (by decide) rfl | exact cell_bytes (by omega) | exact cell_mapZ (by omega) | exact cell_map (by omega))) | ((with_reducible apply Su.mk); (first | exact subAt_all | exact subAt_recZ (fun _ => rfl) (by omega) | exact subAt_rec (fun _ => rfl) (by omega))) | exact True.intro | intro A | exact rfl)
      all_goals first
        | (exfalso; simp_all; done)
        | (rw [if_pos hc]; (apply s_fin; (exact (show ResS _ _ _ _ [_] from ⟨rfl, trivial⟩)); (focus (exact ⟨rfl, rfl⟩)); (focus (repeat (first | with_reducible exact Take.nil | with_reducible apply Take.c | ((with_reducible apply Take.cE); (first | exact rfl | (apply blkE; (focus (first | exact rfl | exact recs_snocE rfl | exact map_snocE rfl | exact congrArg (fun v => [v]) (gslE rfl rfl (by first | rfl | exact ‹_› | omega | (simp ; first | done | omega)) (by first | rfl | exact ‹_› | omega | (simp ; first | done | omega)) rfl)))))) | with_reducible apply Take.drop)))))
        | (rw [if_neg hc]; (apply s_fin; (exact (show ResS _ _ _ _ [_] from ⟨rfl, trivial⟩)); (focus (exact ⟨rfl, rfl⟩)); (focus (repeat (first | with_reducible exact Take.nil | with_reducible apply Take.c | ((with_reducible apply Take.cE); (first | exact rfl | (apply blkE; (focus (first | exact rfl | exact recs_snocE rfl | exact map_snocE rfl | exact congrArg (fun v => [v]) (gslE rfl rfl (by first | rfl | exact ‹_› | omega | (simp ; first | done | omega)) (by first | rfl | exact ‹_› | omega | (simp ; first | done | omega)) rfl)))))) | with_reducible apply Take.drop)))))
    · refine w_body2 Try.func61 rfl rfl ?_
      repeat' (first | apply w_seq | apply w_region | apply o_nil | (apply o_g tyOk; exact rfl; exact rfl) | (apply o_not; exact rfl; exact rfl) | (apply o_loads tyOk; (iterate 3 exact rfl); (focus (exact pk))) | (apply o_box (tt := tyT); iterate 5 exact rfl) | (apply o_call; exact rfl; exact rfl; (focus (first | exact rfl | assumption)); exact rfl; (focus (exact ⟨_, rValidC_any c _, by repeat (first | with_reducible exact Take.nil | with_reducible apply Take.c | with_reducible apply Take.drop)⟩)); rintro _ _ ⟨rfl, rfl⟩) | (apply o_call; exact rfl; exact rfl; (focus (first | exact rfl | assumption)); exact rfl; (focus (exact ⟨_, rIsPiece_any t _, by repeat (first | with_reducible exact Take.nil | with_reducible apply Take.c | with_reducible apply Take.drop)⟩)); rintro _ _ ⟨rfl, rfl⟩) | (apply o_want; exact rfl; exact rfl) | (apply o_gF; (iterate 3 exact rfl); (focus (first | exact ‹_› | with_reducible exact rfl | omega))) | (apply w_dT; exact rfl; (focus (first | exact ‹_› | with_reducible exact rfl | omega))) | apply thenS_normal | apply thenS_ret | apply blockS_ret | apply w_ret | apply w_block | ((with_reducible apply Sd.mk); (first | exact True.intro | omega | (constructor <;> first | omega | (unfold maxLen; omega)) | (unfold maxLen; omega))) | ((with_reducible apply Ln.mk); (first | rfl | exact ‹_› | omega | (simp ; first | done | omega))) | ((with_reducible apply Su.mk); (first | exact subAt_all | exact subAt_recZ (fun _ => rfl) (by omega) | exact subAt_rec (fun _ => rfl) (by omega))) | exact True.intro | intro A | exact rfl)
      all_goals first
        | (apply s_fin; (exact (show ResS _ _ _ _ [_] from ⟨rfl, trivial⟩)); (focus (exact ⟨congrArg I (if_neg (fun g => ht0 g.2)).symm, rfl⟩)); (focus (repeat (first | with_reducible exact Take.nil | with_reducible apply Take.c | ((with_reducible apply Take.cE); (first | exact rfl | (apply blkE; (focus (first | exact rfl | exact recs_snocE rfl | exact map_snocE rfl | exact congrArg (fun v => [v]) (gslE rfl rfl (by first | rfl | exact ‹_› | omega | (simp ; first | done | omega)) (by first | rfl | exact ‹_› | omega | (simp ; first | done | omega)) rfl)))))) | with_reducible apply Take.drop))))
        | (exfalso; simp_all; done)
  · refine w_body2 Try.func61 rfl rfl ?_
    repeat' (first | apply w_seq | apply w_region | apply o_nil | (apply o_g tyOk; exact rfl; exact rfl) | (apply o_not; exact rfl; exact rfl) | (apply o_loads tyOk; (iterate 3 exact rfl); (focus (exact pk))) | (apply o_box (tt := tyT); iterate 5 exact rfl) | (apply o_call; exact rfl; exact rfl; (focus (first | exact rfl | assumption)); exact rfl; (focus (exact ⟨_, rValidC_any c _, by repeat (first | with_reducible exact Take.nil | with_reducible apply Take.c | with_reducible apply Take.drop)⟩)); rintro _ _ ⟨rfl, rfl⟩) | (apply o_skip; iterate 4 exact rfl) | (apply o_sT; (iterate 3 exact rfl); (focus (first | exact ‹_› | with_reducible exact rfl | omega)); exact rfl) | (apply w_true; exact rfl) | apply thenS_normal | apply thenS_ret | apply blockS_ret | apply w_ret | apply w_block | ((with_reducible apply Sd.mk); (first | exact True.intro | omega | (constructor <;> first | omega | (unfold maxLen; omega)) | (unfold maxLen; omega))) | ((with_reducible apply Ln.mk); (first | rfl | exact ‹_› | omega | (simp ; first | done | omega))) | ((with_reducible apply Su.mk); (first | exact subAt_all | exact subAt_recZ (fun _ => rfl) (by omega) | exact subAt_rec (fun _ => rfl) (by omega))) | exact True.intro | intro A | exact rfl)
    all_goals first
      | (apply s_fin; (exact (show ResS _ _ _ _ [_] from ⟨rfl, trivial⟩)); (focus (exact ⟨congrArg I (if_neg (fun g => hc0 g.1)).symm, rfl⟩)); (focus (repeat (first | with_reducible exact Take.nil | with_reducible apply Take.c | ((with_reducible apply Take.cE); (first | exact rfl | (apply blkE; (focus (first | exact rfl | exact recs_snocE rfl | exact map_snocE rfl | exact congrArg (fun v => [v]) (gslE rfl rfl (by first | rfl | exact ‹_› | omega | (simp ; first | done | omega)) (by first | rfl | exact ‹_› | omega | (simp ; first | done | omega)) rfl)))))) | with_reducible apply Take.drop))))
      | (exfalso; simp_all; done)
/-- The cost of pieces. -/
def costs (c : Cst) : List Pc → Int
  | [] => 0
  | t :: r => price c t + costs c r
abbrev vPs (l : List Pc) : Prop := ∀ t ∈ l, vP t
end Go.Proofs.Ytgooffiipnkmiaa
end
section
set_option linter.unusedVariables false
set_option linter.unusedSimpArgs false
set_option maxRecDepth 4000
namespace Go.Proofs.Ytgooffiipnkmiaa
open Go.Gh Go.RowKit

/-- `n` bytes from `d` bytes back, one after another. -/
def copyN (d : Nat) : Nat → List UInt8 → List UInt8
  | 0, o => o
  | n + 1, o => copyN d n (o ++ [o[o.length - d]!])
def byt (y : Int) : UInt8 := UInt8.ofNat y.toNat
theorem byt_nat {y : Int} (h : 0 ≤ y ∧ y ≤ 255) : ((byt y).toNat : Int) = y := by
  unfold byt
  rw [UInt8.toNat_ofNat', Nat.mod_eq_of_lt (by omega)]; omega
theorem byteV_byt {y : Int} (h : 0 ≤ y ∧ y ≤ 255) : Value.int .u8 y = byteV (byt y) := by
  show _ = Value.int .u8 _
  rw [byt_nat h]
def estp (o : List UInt8) (t : Pc) : List UInt8 := if t.2.1 = 0 then o ++ [byt t.2.2] else copyN t.2.1.toNat t.1.toNat o
theorem copyN_len (d : Nat) : ∀ (n : Nat) (o : List UInt8), (copyN d n o).length = o.length + n
  | 0, _ => rfl
  | n + 1, o => by rw [copyN, copyN_len d n]; simp; omega
abbrev bytesOk (l : List Pc) : Prop := ∀ t ∈ l, 0 ≤ t.2.2 ∧ t.2.2 ≤ 255
theorem bang_mem {α : Type} [Inhabited α] {l : List α} {k : Nat} (h : k < l.length) : l[k]! ∈ l := by rw [getElem!_pos l k h]; exact List.getElem_mem h
theorem estp_lit {t : Pc} (o : List UInt8) (h : t.2.1 = 0) : estp o t = o ++ [byt t.2.2] := if_pos h
theorem estp_cpy {t : Pc} (o : List UInt8) (h : t.2.1 ≠ 0) : estp o t = copyN t.2.1.toNat t.1.toNat o := if_neg h
theorem pcEq {s t : Pc} : cellsEqB (pcC s) (pcC t) = true ↔ s = t := by
  obtain ⟨a, b, c⟩ := s
  obtain ⟨d, e, f⟩ := t
  show (decide (a = d) && (decide (b = e) && (decide (c = f) && true))) = true ↔ _
  simp [Prod.mk.injEq]
/-- Two lists of pieces, compared. -/
theorem rPieces_any (xs ys : List Pc) (v w : Value) (h : SH) (hv : Has h (recs pcC xs) 3 xs.length v) (hw : Has h (recs pcC ys) 3 ys.length w) (hl : xs.length ≤ 100000) (hl2 : ys.length ≤ 100000) :
    SRun Try.prog 15 [v, w] h fun r q => r = B (decide (xs = ys)) ∧ q = h := by
  obtain ⟨ad, fl, rfl, hh⟩ := hv
  obtain ⟨ad2, fl2, rfl, hh2⟩ := hw
  refine w_body2 Try.func15 rfl rfl ?_
  repeat' (first | apply w_seq | apply w_region | apply o_nil | (apply o_g tyOk; exact rfl; exact rfl) | (apply w_ifN; exact rfl; all_goals intro hc) | apply thenS_normal | apply thenS_ret | apply w_skip | apply w_ret | apply w_block | ((with_reducible apply Sd.mk); (first | exact True.intro | omega | (constructor <;> first | omega | (unfold maxLen; omega)) | (unfold maxLen; omega))))
  · (apply s_fin; (exact (show ResS _ _ _ _ [_] from ⟨rfl, trivial⟩)); (focus (refine ⟨?_, rfl⟩; show B _ = B _; congr 1; symm; rw [decide_eq_false_iff_not]; rintro rfl; exact hc rfl)); (focus (repeat (first | with_reducible exact Take.nil | with_reducible apply Take.c | ((with_reducible apply Take.cE); (first | exact rfl | (apply blkE; (focus (first | exact rfl | exact recs_snocE rfl | exact map_snocE rfl | exact congrArg (fun v => [v]) (gslE rfl rfl (by first | rfl | exact ‹_› | omega | (simp ; first | done | omega)) (by first | rfl | exact ‹_› | omega | (simp ; first | done | omega)) rfl)))))) | with_reducible apply Take.drop))))
  have hll : xs.length = ys.length := by omega
  refine w_loop (S := Nat) (fun k => [(0, .slice ad xs.length fl), (1, .slice ad2 ys.length fl2), (5, I k)]) (fun _ => h) (fun k => k ≤ xs.length ∧ ∀ i, i < k → xs[i]! = ys[i]!) (fun k => xs.length - k) 0 ⟨by omega, by omega⟩ (by repeat' (first | exact trivial | refine ⟨rfl, ?_⟩ | refine ⟨congrArg some ?_, ?_⟩)) (by repeat (first | with_reducible exact Take.nil | with_reducible apply Take.c | ((with_reducible apply Take.cE); (first | exact rfl | (apply blkE; (focus (first | exact rfl | exact recs_snocE rfl | exact map_snocE rfl | exact congrArg (fun v => [v]) (gslE rfl rfl (by first | rfl | exact ‹_› | omega | (simp ; first | done | omega)) (by first | rfl | exact ‹_› | omega | (simp ; first | done | omega)) rfl)))))) | with_reducible apply Take.drop)) ?_
  rintro k ⟨hk, hs⟩
  by_cases hkl : k < xs.length
  · obtain ⟨A', ro, h1, rfl, hp⟩ := hh (by omega)
    obtain ⟨A2, ro2, h2, rfl, hp2⟩ := hh2 (by omega)
    repeat' (first | apply w_seq | apply w_region | apply o_nil | (apply w_draw; (focus (kernel_rfl)); (focus (kernel_rfl))) | (apply o_g tyOk; exact rfl; exact rfl) | (apply o_ar tyOk; exact rfl; exact rfl) | (apply o_loads tyOk; (iterate 3 exact rfl); (focus (exact pk))) | (apply o_neqs; (iterate 3 exact rfl); (focus (kernel_rfl)); exact rfl; exact rfl; (focus (kernel_rfl)); exact rfl) | (apply w_dT; exact rfl; (focus (first | exact ‹_› | with_reducible exact rfl | omega))) | (apply w_ifN; exact rfl; all_goals intro hc) | apply thenS_normal | apply thenS_ret | apply blockS_normal | apply blockS_ret | apply w_skip | apply w_ret | apply w_block | ((with_reducible apply Sd.mk); (first | exact True.intro | omega | (constructor <;> first | omega | (unfold maxLen; omega)) | (unfold maxLen; omega))) | ((with_reducible apply Ln.mk); (first | rfl | exact ‹_› | omega | (simp ; first | done | omega))) | ((with_reducible apply Wr.mk); (first | exact IntWalk.i64_in _ (by omega) | exact IntWalk.u8_in _ (by omega) | exact IntWalk.u32_in _ (by omega) | exact IntWalk.u64_in _ (by omega) | exact IntKind.wrap_u8 _ | exact IntKind.wrap_u32 _ | rfl)) | ((with_reducible apply Su.mk); (first | exact subAt_all | exact subAt_recZ (fun _ => rfl) (by omega) | exact subAt_rec (fun _ => rfl) (by omega))) | exact True.intro | exact rfl)
    · (apply s_fin; (exact (show ResS _ _ _ _ [_] from ⟨rfl, trivial⟩)); (focus (refine ⟨?_, rfl⟩; show B _ = B _; congr 1; symm; rw [decide_eq_false_iff_not]; rintro rfl; exact hc (pcEq.2 rfl))); (focus (repeat (first | with_reducible exact Take.nil | with_reducible apply Take.c | ((with_reducible apply Take.cE); (first | exact rfl | (apply blkE; (focus (first | exact rfl | exact recs_snocE rfl | exact map_snocE rfl | exact congrArg (fun v => [v]) (gslE rfl rfl (by first | rfl | exact ‹_› | omega | (simp ; first | done | omega)) (by first | rfl | exact ‹_› | omega | (simp ; first | done | omega)) rfl)))))) | with_reducible apply Take.drop))))
    · exact ⟨k + 1, ⟨hkl, fun i hi => by
        by_cases e : i = k
        · subst e; exact pcEq.1 hc
        · exact hs i (by omega)⟩, by omega, (by repeat' (first | exact trivial | refine ⟨rfl, ?_⟩ | refine ⟨congrArg some ?_, ?_⟩)), (by repeat (first | with_reducible exact Take.nil | with_reducible apply Take.c | ((with_reducible apply Take.cE); (first | exact rfl | (apply blkE; (focus (first | exact rfl | exact recs_snocE rfl | exact map_snocE rfl | exact congrArg (fun v => [v]) (gslE rfl rfl (by first | rfl | exact ‹_› | omega | (simp ; first | done | omega)) (by first | rfl | exact ‹_› | omega | (simp ; first | done | omega)) rfl)))))) | with_reducible apply Take.drop))⟩
  · repeat' (first | apply w_seq | apply w_region | apply o_nil | (apply o_g tyOk; exact rfl; exact rfl) | (apply w_dF; exact rfl; (focus (first | exact ‹_› | with_reducible exact rfl | omega))) | apply thenS_normal | apply thenS_exit | apply blockS_exit | apply w_ret | apply w_exit | ((with_reducible apply Sd.mk); (first | exact True.intro | omega | (constructor <;> first | omega | (unfold maxLen; omega)) | (unfold maxLen; omega))))
    have : xs = ys := by
      refine List.ext_getElem hll fun i h1 h2 => ?_
      have := hs i (by omega)
      rwa [getElem!_pos xs i h1, getElem!_pos ys i h2] at this
    (apply s_fin; (exact (show ResS _ _ _ _ [_] from ⟨rfl, trivial⟩)); (focus (exact ⟨(congrArg B (decide_eq_true this)).symm, rfl⟩)); (focus (repeat (first | with_reducible exact Take.nil | with_reducible apply Take.c | ((with_reducible apply Take.cE); (first | exact rfl | (apply blkE; (focus (first | exact rfl | exact recs_snocE rfl | exact map_snocE rfl | exact congrArg (fun v => [v]) (gslE rfl rfl (by first | rfl | exact ‹_› | omega | (simp ; first | done | omega)) (by first | rfl | exact ‹_› | omega | (simp ; first | done | omega)) rfl)))))) | with_reducible apply Take.drop))))
end Go.Proofs.Ytgooffiipnkmiaa
end
section
set_option linter.unusedVariables false
set_option linter.unusedSimpArgs false
set_option maxRecDepth 4000
namespace Go.Proofs.Ytgooffiipnkmiaa
open Go.Gh Go.RowKit

/-- A step: cost, pieces, the first piece. -/
abbrev St := Int × Int × Pc
abbrev stC (s : St) : List Value := [I s.1, I s.2.1, I s.2.2.1, I s.2.2.2.1, .int .u8 s.2.2.2.2]
theorem stcW (s : St) : (stC s).length = 5 := rfl
@[simp] theorem len_stcs (l : List St) : (recs stC l).length = 5 * l.length := by rw [recs_len stcW]; omega
def nxt (c : Cst) (T : List St) (i : Nat) (t : Pc) : St := (T[i + t.1.toNat]!.1 + price c t, T[i + t.1.toNat]!.2.1 + 1, t)
abbrev sbet (x y : St) : Prop := x.1 < y.1 ∨ x.1 = y.1 ∧ x.2.1 < y.2.1
/-- One try. -/
def tryS (c : Cst) (i : Nat) (s : Bool × List St) (t : Pc) : Bool × List St :=
  if s.1 = false ∨ sbet (nxt c s.2 i t) s.2[i]! then (true, s.2.set i (nxt c s.2 i t)) else s
theorem tryS_len (c : Cst) (i : Nat) (s : Bool × List St) (t : Pc) : (tryS c i s t).2.length = s.2.length := by
  unfold tryS; split <;> simp
abbrev TB (n3 n8 n9 n10 A : Nat) (c : Cst) (i : Nat) (s : Bool × List St) (h : SH) : SH :=
  (n10, ⟨[B s.1], false⟩) :: (n9, ⟨[I i], false⟩) :: (n8, ⟨[gsl A 0 (s.2.length * 5) s.2.length 5], false⟩) :: (A, ⟨recs stC s.2, false⟩) :: (n3, ⟨csC c, false⟩) :: h
abbrev stOk (s : St) : Prop := 0 ≤ s.1 ∧ s.1 ≤ 27000 * 4097 ∧ 0 ≤ s.2.1 ∧ s.2.1 ≤ 4097
theorem put5 {a b c d e x y z : Value} : PutAt [a, b, c, d, e] 2 [x, y, z] [a, b, x, y, z] := ⟨by simp, rfl⟩
theorem try_any (c : Cst) (t : Pc) (n3 n8 n9 n10 A0 i : Nat) (s : Bool × List St) (h : SH) (hc : vC c) (ht : vP t) (hi : i + t.1.toNat < s.2.length) (hl : s.2.length ≤ 4097) (hT : stOk s.2[i + t.1.toNat]!) :
    SRun Try.prog 56 [pcV t, gptr n8 0 1, gptr n9 0 1, gptr n3 0 4, gptr n10 0 1] (TB n3 n8 n9 n10 A0 c i s h)
      fun r q => r = .tuple #[] ∧ q = TB n3 n8 n9 n10 A0 c i (tryS c i s t) h := by
  have hpr := price_in hc ht
  obtain ⟨a, b, y, rfl, ha, hb⟩ := vP_nat ht
  have hix : i + ((a : Int)).toNat = i + a := by rw [Int.toNat_natCast]
  dsimp only at hi hT
  rw [hix] at hi hT
  have hn : nxt c s.2 i ((a : Int), (b : Int), y) = (s.2[i + a]!.1 + price c ((a : Int), (b : Int), y), s.2[i + a]!.2.1 + 1, ((a : Int), (b : Int), y)) := by unfold nxt; dsimp only; rw [hix]
  obtain ⟨f, T⟩ := s
  dsimp only at hi hT hl hn ⊢
  show SRun _ _ [.agg ⟨[I (a : Int), I (b : Int), .int .u8 y]⟩, gptr n8 0 1, gptr n9 0 1, gptr n3 0 4, gptr n10 0 1]
    ((n10, ⟨[B f], false⟩) :: (n9, ⟨[I i], false⟩) :: (n8, ⟨[gsl A0 0 (T.length * 5) T.length 5], false⟩) :: (A0, ⟨recs stC T, false⟩) :: (n3, ⟨csC c, false⟩) :: h) _
  refine w_body5 Try.func56 rfl rfl ?_
  have hput : PutAt (recs stC T) (0 + ((i : Int)).toNat * 5) [I (T[i + a]!.1 + price c ((a : Int), (b : Int), y)), I (T[i + a]!.2.1 + 1), I (a : Int), I (b : Int), .int .u8 y] (recs stC (T.set i (nxt c T i ((a : Int), (b : Int), y)))) := by
    rw [hn]; exact putAt_recZ (x := (T[i + a]!.1 + price c ((a : Int), (b : Int), y), T[i + a]!.2.1 + 1, ((a : Int), (b : Int), y))) (fun _ => rfl) (by omega)
  have hset : (f = false ∨ (T[i + a]!.1 + price c ((a : Int), (b : Int), y) < T[i]!.1 ∨ T[i + a]!.1 + price c ((a : Int), (b : Int), y) = T[i]!.1 ∧ T[i + a]!.2.1 + 1 < T[i]!.2.1)) → tryS c i (f, T) ((a : Int), (b : Int), y) = (true, T.set i (nxt c T i ((a : Int), (b : Int), y))) := fun g => by
    unfold tryS; dsimp only; rw [if_pos (by rw [hn]; exact g)]
  have hno : ¬ (f = false ∨ (T[i + a]!.1 + price c ((a : Int), (b : Int), y) < T[i]!.1 ∨ T[i + a]!.1 + price c ((a : Int), (b : Int), y) = T[i]!.1 ∧ T[i + a]!.2.1 + 1 < T[i]!.2.1)) → tryS c i (f, T) ((a : Int), (b : Int), y) = (f, T) := fun g => by
    unfold tryS; dsimp only; rw [if_neg (by rw [hn]; exact g)]
  repeat' (first | apply w_seq | apply w_region | apply o_nil | (apply w_draw; (focus (kernel_rfl)); (focus (kernel_rfl))) | (apply o_g tyOk; exact rfl; exact rfl) | (apply o_ar tyOk; exact rfl; exact rfl) | (apply o_notB; exact rfl; exact rfl) | (apply o_load tyOk; (iterate 3 exact rfl); (focus (exact pk))) | (apply o_loads tyOk; (iterate 3 exact rfl); (focus (exact pk))) | (apply o_store tyOk; (iterate 4 exact rfl); (focus (exact up))) | (apply o_stores tyOk; (iterate 4 exact rfl); (focus (exact ⟨rfl⟩)); (focus (exact up))) | (apply o_alloc tyOk; iterate 5 exact rfl) | (apply o_box (tt := tyT); iterate 5 exact rfl) | (apply o_build tyOk; exact rfl; exact rfl; (focus (first | with_reducible exact pl98)); exact rfl; (focus (repeat (first | exact BuildR.nil | (apply BuildR.one; exact rfl; exact rfl; (first | (focus ((repeat (first | exact SetAt.zero | apply SetAt.succ)); done)) | exact setAt_bytes (by omega) (by omega) | exact setAt_mapZ (by omega) | exact setAt_map (by omega))) | (apply BuildR.agg; exact rfl; exact rfl; (first | exact putAt_all rfl | exact put5 | exact hput | exact putAt_recZ (fun _ => rfl) (by omega) | exact putAt_rec (fun _ => rfl) (by omega)))))); exact rfl) | (apply o_callD; (iterate 4 exact rfl); (focus (exact ⟨_, price_any c _ _ hc ht, by repeat (first | with_reducible exact Take.nil | with_reducible apply Take.c | with_reducible apply Take.drop)⟩)); (focus (exact fun _ _ h => h.1)); (focus ((repeat (first | exact Flat.c rfl | apply flat_tuple | apply flat_agg | exact FlatL.nil | apply FlatL.cons))))) | (apply o_want; exact rfl; exact rfl) | (apply o_skip; iterate 4 exact rfl) | (apply o_skip_undef; iterate 3 exact rfl) | (apply o_guardT; (iterate 3 exact rfl); all_goals intro hc) | (apply o_guardF; (iterate 3 exact rfl); all_goals intro hc) | (apply o_guardB; (iterate 3 exact rfl); all_goals intro hc) | (apply w_true; exact rfl) | (apply w_false; exact rfl) | (apply w_if; exact rfl; all_goals intro hc) | apply thenS_normal | apply w_skip | ((with_reducible apply Sd.mk); (first | exact True.intro | omega | (constructor <;> first | omega | (unfold maxLen; omega)) | (unfold maxLen; omega))) | ((with_reducible apply Ln.mk); (first | rfl | exact ‹_› | omega | (simp ; first | done | omega))) | ((with_reducible apply Wr.mk); (first | exact IntWalk.i64_in _ (by omega) | exact IntWalk.u8_in _ (by omega) | exact IntWalk.u32_in _ (by omega) | exact IntWalk.u64_in _ (by omega) | exact IntKind.wrap_u8 _ | exact IntKind.wrap_u32 _ | rfl)) | ((with_reducible apply Ce.mk); (first | rfl | exact ‹_› | exact cell_recZ (fun _ => rfl) (by omega) (by decide) rfl | exact cell_rec (fun _ => rfl) (by omega) (by decide) rfl | exact cell_bytes (by omega) | exact cell_mapZ (by omega) | exact cell_map (by omega))) | ((with_reducible apply Se.mk); (first | (focus ((repeat (first | exact SetAt.zero | apply SetAt.succ)); done)) | exact setAt_bytes (by omega) (by omega) | exact setAt_mapZ (by omega) | exact setAt_map (by omega))) | ((with_reducible apply Pu.mk); (first | exact putAt_all rfl | exact put5 | exact hput | exact putAt_recZ (fun _ => rfl) (by omega) | exact putAt_rec (fun _ => rfl) (by omega))) | ((with_reducible apply Su.mk); (first | exact subAt_all | exact subAt_recZ (fun _ => rfl) (by omega) | exact subAt_rec (fun _ => rfl) (by omega))) | exact True.intro | exact Or.inl rfl | apply And.intro | intro A | exact rfl)
  all_goals first
    | (rw [hset (by first | (left; simpa using hc) | (right; left; assumption) | (right; right; exact ⟨by assumption, by assumption⟩))]; (apply s_finN; (exact (show ResS _ _ _ _ [] from trivial)); (focus (exact ⟨rfl, rfl⟩)); (focus (repeat (first | with_reducible exact Take.nil | with_reducible apply Take.c | ((with_reducible apply Take.cE); (first | exact rfl | (apply blkE; (focus (first | exact rfl | exact recs_snocE rfl | exact map_snocE rfl | exact congrArg (fun v => [v]) (gslE rfl rfl (by first | rfl | exact ‹_› | omega | (simp ; first | done | omega)) (by first | rfl | exact ‹_› | omega | (simp ; first | done | omega)) rfl)))))) | with_reducible apply Take.drop)))))
    | (rw [hno (by rintro (g | g | g) <;> first | omega | simp_all)]; (apply s_finN; (exact (show ResS _ _ _ _ [] from trivial)); (focus (exact ⟨rfl, rfl⟩)); (focus (repeat (first | with_reducible exact Take.nil | with_reducible apply Take.c | ((with_reducible apply Take.cE); (first | exact rfl | (apply blkE; (focus (first | exact rfl | exact recs_snocE rfl | exact map_snocE rfl | exact congrArg (fun v => [v]) (gslE rfl rfl (by first | rfl | exact ‹_› | omega | (simp ; first | done | omega)) (by first | rfl | exact ‹_› | omega | (simp ; first | done | omega)) rfl)))))) | with_reducible apply Take.drop)))))
end Go.Proofs.Ytgooffiipnkmiaa
end
section
set_option linter.unusedVariables false
set_option linter.unusedSimpArgs false
set_option maxRecDepth 4000
namespace Go.Proofs.Ytgooffiipnkmiaa
open Go.Gh Go.RowKit

abbrev vld (w m : Int) : Prop := 1 ≤ w ∧ w ≤ 4096 ∧ 2 ≤ m ∧ m ≤ 273

/-- How many bytes from i on are those from j on, at most m. -/
def lcp (l : List UInt8) (i j : Nat) : Nat → Nat
  | 0 => 0
  | m + 1 => if bat l i = bat l j then lcp l (i + 1) (j + 1) m + 1 else 0

theorem lcp_le (l : List UInt8) : ∀ (m i j : Nat), lcp l i j m ≤ m
  | 0, _, _ => Nat.le_refl _
  | m + 1, i, j => by
    unfold lcp; split
    · have := lcp_le l m (i + 1) (j + 1); omega
    · omega

theorem valid_any (x y : Int) (h : SH) : SRun Try.prog 86 [I x, I y] h fun r q => r = B (decide (vld x y)) ∧ q = h := by
  refine w_body2 Try.func86 rfl rfl ?_
  repeat' (first | apply w_seq | apply w_region | apply o_nil | (apply o_g tyOk; exact rfl; exact rfl) | (apply o_want; exact rfl; exact rfl) | (apply o_skip; iterate 4 exact rfl) | (apply o_guardT; (iterate 3 exact rfl); all_goals intro hc) | apply thenS_normal | apply w_ret | ((with_reducible apply Sd.mk); (first | exact True.intro | omega | (constructor <;> first | omega | (unfold maxLen; omega)) | (unfold maxLen; omega))))
  all_goals (apply s_fin; (exact (show ResS _ _ _ _ [_] from ⟨rfl, trivial⟩)); (focus (refine ⟨?_, rfl⟩; show B _ = B _; congr 1; unfold vld; first | (rw [decide_eq_decide]; omega) | (symm; rw [decide_eq_false_iff_not]; omega))); (focus (repeat (first | with_reducible exact Take.nil | with_reducible apply Take.c | ((with_reducible apply Take.cE); (first | exact rfl | (apply blkE; (focus (first | exact rfl | exact recs_snocE rfl | exact map_snocE rfl | exact congrArg (fun v => [v]) (gslE rfl rfl (by first | rfl | exact ‹_› | omega | (simp ; first | done | omega)) (by first | rfl | exact ‹_› | omega | (simp ; first | done | omega)) rfl)))))) | with_reducible apply Take.drop))))
theorem rvalid_any (x y : Int) (h : SH) : SRun Try.prog 60 [I x, I y] h fun r q => r = B (decide (vld x y)) ∧ q = h := by
  refine w_body2 Try.func60 rfl rfl ?_
  repeat' (first | apply w_seq | apply w_region | apply o_nil | (apply o_g tyOk; exact rfl; exact rfl) | (apply o_want; exact rfl; exact rfl) | (apply o_skip; iterate 4 exact rfl) | (apply o_guardT; (iterate 3 exact rfl); all_goals intro hc) | apply thenS_normal | apply w_ret | ((with_reducible apply Sd.mk); (first | exact True.intro | omega | (constructor <;> first | omega | (unfold maxLen; omega)) | (unfold maxLen; omega))))
  all_goals (apply s_fin; (exact (show ResS _ _ _ _ [_] from ⟨rfl, trivial⟩)); (focus (refine ⟨?_, rfl⟩; show B _ = B _; congr 1; unfold vld; first | (rw [decide_eq_decide]; omega) | (symm; rw [decide_eq_false_iff_not]; omega))); (focus (repeat (first | with_reducible exact Take.nil | with_reducible apply Take.c | ((with_reducible apply Take.cE); (first | exact rfl | (apply blkE; (focus (first | exact rfl | exact recs_snocE rfl | exact map_snocE rfl | exact congrArg (fun v => [v]) (gslE rfl rfl (by first | rfl | exact ‹_› | omega | (simp ; first | done | omega)) (by first | rfl | exact ‹_› | omega | (simp ; first | done | omega)) rfl)))))) | with_reducible apply Take.drop))))

theorem common_any (l : List UInt8) (i j m : Nat) (h : SH) (h1 : i + m ≤ l.length) (h2 : j + m ≤ l.length) (h5 : l.length ≤ 9223372036854775807) :
    SRun Try.prog 120 [S l, I i, I j, I m] h fun r q => r = I (lcp l i j m) ∧ q = h := by
  refine w_body4 Try.func120 rfl rfl ?_
  repeat' (first | apply w_seq | apply w_region | apply o_nil | (apply o_g tyOk; exact rfl; exact rfl) | apply thenS_normal | apply w_block | ((with_reducible apply Sd.mk); (first | exact True.intro | omega | (constructor <;> first | omega | (unfold maxLen; omega)) | (unfold maxLen; omega))))
  refine w_loop (S := Nat) (fun k => [(0, S l), (1, I i), (2, I j), (3, I m), (10, I m), (11, I k)]) (fun _ => h)
    (fun k => k ≤ m ∧ lcp l i j m = k + lcp l (i + k) (j + k) (m - k)) (fun k => m - k) 0 ⟨by omega, by simp⟩ (by repeat' (first | exact trivial | refine ⟨rfl, ?_⟩ | refine ⟨congrArg some ?_, ?_⟩)) (by repeat (first | with_reducible exact Take.nil | with_reducible apply Take.c | ((with_reducible apply Take.cE); (first | exact rfl | (apply blkE; (focus (first | exact rfl | exact recs_snocE rfl | exact map_snocE rfl | exact congrArg (fun v => [v]) (gslE rfl rfl (by first | rfl | exact ‹_› | omega | (simp ; first | done | omega)) (by first | rfl | exact ‹_› | omega | (simp ; first | done | omega)) rfl)))))) | with_reducible apply Take.drop)) ?_
  rintro k ⟨hk, he⟩
  repeat' (first | apply w_seq | apply w_region | apply o_nil | (apply w_draw; (focus (kernel_rfl)); (focus (kernel_rfl))) | (apply o_g tyOk; exact rfl; exact rfl) | (apply o_ar tyOk; exact rfl; exact rfl) | (apply o_max; iterate 3 exact rfl) | (apply w_ifN; exact rfl; all_goals intro hc) | (apply w_if; exact rfl; all_goals intro hc) | apply thenS_normal | apply thenS_ret | apply thenS_exit | apply blockS_normal | apply blockS_ret | apply blockS_exit | apply w_skip | apply w_ret | apply w_exit | apply w_block | ((with_reducible apply Sd.mk); (first | exact True.intro | omega | (constructor <;> first | omega | (unfold maxLen; omega)) | (unfold maxLen; omega))) | ((with_reducible apply Wr.mk); (first | exact IntWalk.i64_in _ (by omega) | exact IntWalk.u8_in _ (by omega) | exact IntWalk.u32_in _ (by omega) | exact IntWalk.u64_in _ (by omega) | exact IntKind.wrap_u8 _ | exact IntKind.wrap_u32 _ | rfl)))
  · obtain ⟨q, hq⟩ : ∃ q, m - k = q + 1 := ⟨m - k - 1, by omega⟩
    rw [hq, lcp, if_neg (by push_cast; assumption)] at he
    (apply s_fin; (exact (show ResS _ _ _ _ [_] from ⟨rfl, trivial⟩)); (focus (exact ⟨by show I _ = I _; rw [he]; rfl, rfl⟩)); (focus (repeat (first | with_reducible exact Take.nil | with_reducible apply Take.c | ((with_reducible apply Take.cE); (first | exact rfl | (apply blkE; (focus (first | exact rfl | exact recs_snocE rfl | exact map_snocE rfl | exact congrArg (fun v => [v]) (gslE rfl rfl (by first | rfl | exact ‹_› | omega | (simp ; first | done | omega)) (by first | rfl | exact ‹_› | omega | (simp ; first | done | omega)) rfl)))))) | with_reducible apply Take.drop))))
  · refine ⟨k + 1, ⟨by omega, ?_⟩, by omega, (by repeat' (first | exact trivial | refine ⟨rfl, ?_⟩ | refine ⟨congrArg some ?_, ?_⟩)), (by repeat (first | with_reducible exact Take.nil | with_reducible apply Take.c | ((with_reducible apply Take.cE); (first | exact rfl | (apply blkE; (focus (first | exact rfl | exact recs_snocE rfl | exact map_snocE rfl | exact congrArg (fun v => [v]) (gslE rfl rfl (by first | rfl | exact ‹_› | omega | (simp ; first | done | omega)) (by first | rfl | exact ‹_› | omega | (simp ; first | done | omega)) rfl)))))) | with_reducible apply Take.drop))⟩
    obtain ⟨q, hq⟩ : ∃ q, m - k = q + 1 := ⟨m - k - 1, by omega⟩
    rw [hq, lcp, if_pos (by push_cast; assumption)] at he
    rw [he, show m - (k + 1) = q from by omega, show i + (k + 1) = i + k + 1 from by omega, show j + (k + 1) = j + k + 1 from by omega]
    omega
  · have : k = m := by omega
    subst this
    (apply s_fin; (exact (show ResS _ _ _ _ [_] from ⟨rfl, trivial⟩)); (focus (refine ⟨?_, rfl⟩; show I _ = I _; rw [he]; simp [lcp])); (focus (repeat (first | with_reducible exact Take.nil | with_reducible apply Take.c | ((with_reducible apply Take.cE); (first | exact rfl | (apply blkE; (focus (first | exact rfl | exact recs_snocE rfl | exact map_snocE rfl | exact congrArg (fun v => [v]) (gslE rfl rfl (by first | rfl | exact ‹_› | omega | (simp ; first | done | omega)) (by first | rfl | exact ‹_› | omega | (simp ; first | done | omega)) rfl)))))) | with_reducible apply Take.drop))))

theorem common_int (l : List UInt8) (i j m : Int) (h : SH) (hi : 0 ≤ i) (hj : 0 ≤ j) (hm : 0 ≤ m) (h1 : i + m ≤ l.length) (h2 : j + m ≤ l.length) (h5 : l.length ≤ 9223372036854775807) :
    SRun Try.prog 120 [S l, I i, I j, I m] h fun r q => r = I (lcp l i.toNat j.toNat m.toNat) ∧ q = h := by
  obtain ⟨i, rfl⟩ := Int.eq_ofNat_of_zero_le hi
  obtain ⟨j, rfl⟩ := Int.eq_ofNat_of_zero_le hj
  obtain ⟨m, rfl⟩ := Int.eq_ofNat_of_zero_le hm
  exact common_any l i j m h (by omega) (by omega) h5

/-- Common of any two numbers. -/
def com (l : List UInt8) (i j : Int) : Nat := if 0 ≤ i ∧ 0 ≤ j ∧ i ≤ l.length ∧ j ≤ l.length then lcp l i.toNat j.toNat (l.length - max i j).toNat else 0

theorem rCommon_any (l : List UInt8) (i j : Int) (h : SH) (h5 : l.length ≤ 4611686018427387904) :
    SRun Try.prog 98 [S l, I i, I j] h fun r q => r = I (com l i j) ∧ q = h := by
  refine w_body3 Try.func98 rfl rfl ?_
  repeat' (first | apply w_seq | apply w_region | apply o_nil | (apply o_g tyOk; exact rfl; exact rfl) | (apply o_want; exact rfl; exact rfl) | (apply o_skip; iterate 4 exact rfl) | (apply o_guardF; (iterate 3 exact rfl); all_goals intro hc) | (apply w_true; exact rfl) | (apply w_if; exact rfl; all_goals intro hc) | apply thenS_normal | apply thenS_ret | apply w_skip | apply w_ret | apply w_block | ((with_reducible apply Sd.mk); (first | exact True.intro | omega | (constructor <;> first | omega | (unfold maxLen; omega)) | (unfold maxLen; omega))))
  all_goals first | (apply s_fin; (exact (show ResS _ _ _ _ [_] from ⟨rfl, trivial⟩)); (focus (refine ⟨?_, rfl⟩; show I _ = I _; unfold com; rw [if_neg (by omega)]; rfl)); (focus (repeat (first | with_reducible exact Take.nil | with_reducible apply Take.c | ((with_reducible apply Take.cE); (first | exact rfl | (apply blkE; (focus (first | exact rfl | exact recs_snocE rfl | exact map_snocE rfl | exact congrArg (fun v => [v]) (gslE rfl rfl (by first | rfl | exact ‹_› | omega | (simp ; first | done | omega)) (by first | rfl | exact ‹_› | omega | (simp ; first | done | omega)) rfl)))))) | with_reducible apply Take.drop)))) | skip
  obtain ⟨i, rfl⟩ := Int.eq_ofNat_of_zero_le (show 0 ≤ i by omega)
  obtain ⟨j, rfl⟩ := Int.eq_ofNat_of_zero_le (show 0 ≤ j by omega)
  have hcom : com l i j = lcp l i j (l.length - max i j) := by
    unfold com; rw [if_pos (by omega)]; congr 1; omega
  refine w_loop (S := Nat) (fun k => [(0, S l), (1, I i), (2, I j), (7, I k)]) (fun _ => h)
    (fun k => i + k ≤ l.length ∧ j + k ≤ l.length ∧ com l i j = k + lcp l (i + k) (j + k) (l.length - max i j - k)) (fun k => l.length - k) 0 ⟨by omega, by omega, by rw [hcom]; simp⟩ (by repeat' (first | exact trivial | refine ⟨rfl, ?_⟩ | refine ⟨congrArg some ?_, ?_⟩)) (by repeat (first | with_reducible exact Take.nil | with_reducible apply Take.c | ((with_reducible apply Take.cE); (first | exact rfl | (apply blkE; (focus (first | exact rfl | exact recs_snocE rfl | exact map_snocE rfl | exact congrArg (fun v => [v]) (gslE rfl rfl (by first | rfl | exact ‹_› | omega | (simp ; first | done | omega)) (by first | rfl | exact ‹_› | omega | (simp ; first | done | omega)) rfl)))))) | with_reducible apply Take.drop)) ?_
  rintro k ⟨hk1, hk2, he⟩
  repeat' (first | apply w_seq | apply w_region | apply o_nil | (apply w_draw; (focus (kernel_rfl)); (focus (kernel_rfl))) | (apply o_g tyOk; exact rfl; exact rfl) | (apply o_ar tyOk; exact rfl; exact rfl) | (apply o_want; exact rfl; exact rfl) | (apply o_skip; iterate 4 exact rfl) | (apply o_guardT; (iterate 3 exact rfl); all_goals intro hc) | (apply w_false; exact rfl) | (apply w_if; exact rfl; all_goals intro hc) | apply thenS_normal | apply thenS_exit | apply blockS_normal | apply blockS_exit | apply w_skip | apply w_ret | apply w_exit | apply w_block | ((with_reducible apply Sd.mk); (first | exact True.intro | omega | (constructor <;> first | omega | (unfold maxLen; omega)) | (unfold maxLen; omega))) | ((with_reducible apply Wr.mk); (first | exact IntWalk.i64_in _ (by omega) | exact IntWalk.u8_in _ (by omega) | exact IntWalk.u32_in _ (by omega) | exact IntWalk.u64_in _ (by omega) | exact IntKind.wrap_u8 _ | exact IntKind.wrap_u32 _ | rfl)))
  · refine ⟨k + 1, ⟨by omega, by omega, ?_⟩, by omega, (by repeat' (first | exact trivial | refine ⟨rfl, ?_⟩ | refine ⟨congrArg some ?_, ?_⟩)), (by repeat (first | with_reducible exact Take.nil | with_reducible apply Take.c | ((with_reducible apply Take.cE); (first | exact rfl | (apply blkE; (focus (first | exact rfl | exact recs_snocE rfl | exact map_snocE rfl | exact congrArg (fun v => [v]) (gslE rfl rfl (by first | rfl | exact ‹_› | omega | (simp ; first | done | omega)) (by first | rfl | exact ‹_› | omega | (simp ; first | done | omega)) rfl)))))) | with_reducible apply Take.drop))⟩
    obtain ⟨q, hq⟩ : ∃ q, l.length - max i j - k = q + 1 := ⟨l.length - max i j - k - 1, by omega⟩
    rw [hq, lcp, if_pos (by push_cast; assumption)] at he
    rw [he, show l.length - max i j - (k + 1) = q from by omega, show i + (k + 1) = i + k + 1 from by omega, show j + (k + 1) = j + k + 1 from by omega]
    omega
  · obtain ⟨q, hq⟩ : ∃ q, l.length - max i j - k = q + 1 := ⟨l.length - max i j - k - 1, by omega⟩
    rw [hq, lcp, if_neg (by push_cast; assumption)] at he
    (apply s_fin; (exact (show ResS _ _ _ _ [_] from ⟨rfl, trivial⟩)); (focus (refine ⟨?_, rfl⟩; show I _ = I _; rw [he]; rfl)); (focus (repeat (first | with_reducible exact Take.nil | with_reducible apply Take.c | ((with_reducible apply Take.cE); (first | exact rfl | (apply blkE; (focus (first | exact rfl | exact recs_snocE rfl | exact map_snocE rfl | exact congrArg (fun v => [v]) (gslE rfl rfl (by first | rfl | exact ‹_› | omega | (simp ; first | done | omega)) (by first | rfl | exact ‹_› | omega | (simp ; first | done | omega)) rfl)))))) | with_reducible apply Take.drop))))
  all_goals
    rw [show l.length - max i j - k = 0 from by omega] at he
    (apply s_fin; (exact (show ResS _ _ _ _ [_] from ⟨rfl, trivial⟩)); (focus (refine ⟨?_, rfl⟩; show I _ = I _; rw [he]; simp [lcp])); (focus (repeat (first | with_reducible exact Take.nil | with_reducible apply Take.c | ((with_reducible apply Take.cE); (first | exact rfl | (apply blkE; (focus (first | exact rfl | exact recs_snocE rfl | exact map_snocE rfl | exact congrArg (fun v => [v]) (gslE rfl rfl (by first | rfl | exact ‹_› | omega | (simp ; first | done | omega)) (by first | rfl | exact ‹_› | omega | (simp ; first | done | omega)) rfl)))))) | with_reducible apply Take.drop))))

/-- The greatest length of an occurrence at a distance. -/
def atd (l : List UInt8) (i d m : Int) : Int := if d < 1 ∨ i < d then 0 else if min (com l (i - d) i : Int) m < 2 then 0 else min (com l (i - d) i : Int) m

theorem rAt_any (l : List UInt8) (i d m : Int) (h : SH) (h5 : l.length ≤ 4611686018427387904) (hi : -9223372036854775808 ≤ i ∧ i ≤ 9223372036854775807) :
    SRun Try.prog 62 [S l, I i, I d, I m] h fun r q => r = I (atd l i d m) ∧ q = h := by
  refine w_body4 Try.func62 rfl rfl ?_
  repeat' (first | apply w_seq | apply w_region | apply o_nil | (apply o_g tyOk; exact rfl; exact rfl) | (apply o_ar tyOk; exact rfl; exact rfl) | (apply o_min; iterate 3 exact rfl) | (apply o_call; exact rfl; exact rfl; (focus (first | exact rfl | assumption)); exact rfl; (focus (exact ⟨_, rCommon_any _ _ _ _ h5, by repeat (first | with_reducible exact Take.nil | with_reducible apply Take.c | with_reducible apply Take.drop)⟩)); rintro _ _ ⟨rfl, rfl⟩) | (apply o_want; exact rfl; exact rfl) | (apply o_skip; iterate 4 exact rfl) | (apply o_guardF; (iterate 3 exact rfl); all_goals intro hc) | (apply w_true; exact rfl) | (apply w_if; exact rfl; all_goals intro hc) | apply thenS_normal | apply thenS_ret | apply w_skip | apply w_ret | ((with_reducible apply Sd.mk); (first | exact True.intro | omega | (constructor <;> first | omega | (unfold maxLen; omega)) | (unfold maxLen; omega))) | ((with_reducible apply Wr.mk); (first | exact IntWalk.i64_in _ (by omega) | exact IntWalk.u8_in _ (by omega) | exact IntWalk.u32_in _ (by omega) | exact IntWalk.u64_in _ (by omega) | exact IntKind.wrap_u8 _ | exact IntKind.wrap_u32 _ | rfl)))
  all_goals (apply s_fin; (exact (show ResS _ _ _ _ [_] from ⟨rfl, trivial⟩)); (focus (refine ⟨?_, rfl⟩; show I _ = I _; unfold atd; congr 1; repeat' split <;> omega)); (focus (repeat (first | with_reducible exact Take.nil | with_reducible apply Take.c | ((with_reducible apply Take.cE); (first | exact rfl | (apply blkE; (focus (first | exact rfl | exact recs_snocE rfl | exact map_snocE rfl | exact congrArg (fun v => [v]) (gslE rfl rfl (by first | rfl | exact ‹_› | omega | (simp ; first | done | omega)) (by first | rfl | exact ‹_› | omega | (simp ; first | done | omega)) rfl)))))) | with_reducible apply Take.drop))))

abbrev cpF (c : Int × Int) : List Value := [I c.1, I c.2]
theorem cpW (c : Int × Int) : (cpF c).length = 2 := rfl
@[simp] theorem len_cps (l : List (Int × Int)) : (recs cpF l).length = 2 * l.length := by rw [recs_len cpW]; omega
/-- A slice of copies in a block of its own. -/
abbrev cpS (A : Nat) (l : List (Int × Int)) : Value := gsl A 0 (2 * l.length) l.length 2
abbrev cpB (l : List (Int × Int)) (ro : Bool) : Blk := ⟨recs cpF l, ro⟩

/-- What is found up to a distance. -/
def rc (l : List UInt8) (i m : Int) : Nat → List (Int × Int) × Int
  | 0 => ([], 0)
  | d + 1 => if (rc l i m d).2 < atd l i (d + 1) m then ((rc l i m d).1 ++ [(atd l i (d + 1) m, (d : Int) + 1)], atd l i (d + 1) m) else rc l i m d

def rcands (l : List UInt8) (i w m : Int) : List (Int × Int) :=
  if vld w m ∧ 0 ≤ i ∧ i ≤ l.length ∧ l.length ≤ 4096 then (rc l i m (min w i).toNat).1 else []

end Go.Proofs.Ytgooffiipnkmiaa
end
section
set_option linter.unusedVariables false
set_option linter.unusedSimpArgs false
set_option maxRecDepth 4000
namespace Go.Proofs.Ytgooffiipnkmiaa
open Go.Gh Go.RowKit

abbrev BS := Nat × List (Int × Int)
def bgo (i : Nat) (w : Int) (m j : Nat) (s : BS) : Prop := ¬ (w < (i : Int) - j ∨ m ≤ s.1)
instance (i : Nat) (w : Int) (m j : Nat) (s : BS) : Decidable (bgo i w m j s) := by unfold bgo; infer_instance
def bup (l : List UInt8) (i m j : Nat) (s : BS) : BS := if s.1 < lcp l j i m then (lcp l j i m, s.2 ++ [((lcp l j i m : Int), (i : Int) - (j : Int))]) else s
def nbst (l : List UInt8) (i : Nat) (w : Int) (m j : Nat) (s : BS) : BS := if bgo i w m j s then bup l i m j s else s
def brun (l : List UInt8) (i : Nat) (w : Int) (m : Nat) : List Nat → BS → BS
  | [], s => s
  | j :: r, s => if bgo i w m j s then brun l i w m r (bup l i m j s) else s

theorem lcp_ne (l : List UInt8) : ∀ (m i j b : Nat), bat l (i + b : Nat) ≠ bat l (j + b : Nat) → lcp l i j m ≤ b
  | 0, _, _, _, _ => Nat.zero_le _
  | m + 1, i, j, b, h => by
    unfold lcp
    split
    · rename_i e
      cases b with
      | zero => exact absurd e h
      | succ b =>
        have := lcp_ne l m (i + 1) (j + 1) b (by rw [show i + 1 + b = i + (b + 1) by omega, show j + 1 + b = j + (b + 1) by omega]; exact h)
        omega
    · omega

/-- The boxes of a search, and the copies found. -/
inductive BH (l : List UInt8) (i : Nat) (w : Int) (m n5 n6 n7 n8 n11 n12 : Nat) (h : SH) : BS → SH → Prop
  | nil (best : Nat) : BH l i w m n5 n6 n7 n8 n11 n12 h (best, []) ((n12, ⟨[I best], false⟩) :: (n11, ⟨[.slice none 0 0], false⟩) :: (n8, ⟨[I m], false⟩) :: (n7, ⟨[I w], false⟩) :: (n6, ⟨[I i], false⟩) :: (n5, ⟨[S l], false⟩) :: h)
  | some (best : Nat) (cs : List (Int × Int)) (A : Nat) : BH l i w m n5 n6 n7 n8 n11 n12 h (best, cs)
      ((n12, ⟨[I best], false⟩) :: (n11, ⟨[cpS A cs], false⟩) :: (n8, ⟨[I m], false⟩) :: (n7, ⟨[I w], false⟩) :: (n6, ⟨[I i], false⟩) :: (n5, ⟨[S l], false⟩) :: (A, cpB cs false) :: h)

theorem BH.pick {l : List UInt8} {i : Nat} {w : Int} {m n5 n6 n7 n8 n11 n12 : Nat} {h h1 : SH} {s : BS} {p : SH} (b : BH l i w m n5 n6 n7 n8 n11 n12 h s p) {A : Nat} {g : Blk} (hp : Pick h A g h1) : ∃ p1, Pick p A g p1 := by
  cases b with
  | nil => exact ⟨_, hp.tail.tail.tail.tail.tail.tail⟩
  | some => exact ⟨_, hp.tail.tail.tail.tail.tail.tail.tail⟩

theorem bst_stop {l : List UInt8} {i : Nat} {w : Int} {m j : Nat} {s : BS} (h : ¬ bgo i w m j s) : nbst l i w m j s = s := if_neg h
theorem bst_same {l : List UInt8} {i : Nat} {w : Int} {m j : Nat} {s : BS} (h : lcp l j i m ≤ s.1) : nbst l i w m j s = s := by
  unfold nbst bup; split
  · rw [if_neg (by omega)]
  · rfl
theorem bst_new {l : List UInt8} {i : Nat} {w : Int} {m j best : Nat} {cs : List (Int × Int)} (hg : bgo i w m j (best, cs)) (h : best < lcp l j i m) : nbst l i w m j (best, cs) = (lcp l j i m, cs ++ [((lcp l j i m : Int), (i : Int) - (j : Int))]) := by
  unfold nbst bup; rw [if_pos hg, if_pos h]

theorem better1_any (l : List UInt8) (i : Nat) (w : Int) (m n5 n6 n7 n8 n11 n12 j : Nat) (h : SH) (s : BS) (p : SH) (hb : BH l i w m n5 n6 n7 n8 n11 n12 h s p) (h5 : l.length ≤ 4096) (hj : j < i) (him : i + m ≤ l.length) (hs : s.2.length ≤ 4096) (hw : -4611686018427387904 ≤ w) :
    SRun Try.prog 119 [I j, gptr n6 0 1, gptr n7 0 1, gptr n12 0 1, gptr n8 0 1, gptr n5 0 1, gptr n11 0 1] p
      fun r q => r = B (decide (bgo i w m j s)) ∧ BH l i w m n5 n6 n7 n8 n11 n12 h (nbst l i w m j s) q := by
  cases hb with
  | nil best =>
    refine w_body7 Try.func119 rfl rfl ?_
    repeat' (first | apply w_seq | apply w_region | apply o_nil | (apply w_draw; (focus (kernel_rfl)); (focus (kernel_rfl))) | (apply o_g tyOk; exact rfl; exact rfl) | (apply o_ar tyOk; exact rfl; exact rfl) | (apply o_load tyOk; (iterate 3 exact rfl); (focus (exact pk))) | (apply o_store tyOk; (iterate 4 exact rfl); (focus (exact up))) | (apply o_build tyOk; exact rfl; exact rfl; (focus (first | with_reducible exact pl82)); exact rfl; (focus (repeat (first | exact BuildR.nil | (apply BuildR.one; exact rfl; exact rfl; (first | (focus ((repeat (first | exact SetAt.zero | apply SetAt.succ)); done)) | exact setAt_bytes (by omega) (by omega) | exact setAt_mapZ (by omega) | exact setAt_map (by omega))) | (apply BuildR.agg; exact rfl; exact rfl; (first | exact putAt_all rfl | exact putAt_recZ (fun _ => rfl) (by omega) | exact putAt_rec (fun _ => rfl) (by omega)))))); exact rfl) | (apply o_buildSlice tyOk; (iterate 5 exact rfl); (focus (decide)); exact rfl; (focus (decide)); (focus (repeat (first | exact CatR.nil | exact CatR.last rfl | (apply CatR.one; exact rfl; exact rfl) | (apply CatR.agg; exact rfl)))); exact rfl) | (apply o_append_nil tyOk; (iterate 5 exact rfl); (focus (exact ⟨by decide⟩)); (focus (exact pk))) | (apply o_call; exact rfl; exact rfl; (focus (first | exact rfl | assumption)); exact rfl; (focus (exact ⟨_, common_int _ _ _ _ _ (by omega) (by omega) (by omega) (by omega) (by omega) (by omega), by repeat (first | with_reducible exact Take.nil | with_reducible apply Take.c | with_reducible apply Take.drop)⟩)); rintro _ _ ⟨rfl, rfl⟩) | (apply o_want; exact rfl; exact rfl) | (apply o_skip; iterate 4 exact rfl) | (apply o_guardF; (iterate 3 exact rfl); all_goals intro hc) | (apply w_true; exact rfl) | (apply w_ifN; exact rfl; all_goals intro hc) | (apply w_if; exact rfl; all_goals intro hc) | apply thenS_normal | apply thenS_ret | apply w_skip | apply w_ret | ((with_reducible apply Sd.mk); (first | exact True.intro | omega | (constructor <;> first | omega | (unfold maxLen; omega)) | (unfold maxLen; omega))) | ((with_reducible apply Ln.mk); (first | rfl | exact ‹_› | omega | (simp ; first | done | omega))) | ((with_reducible apply Wr.mk); (first | exact IntWalk.i64_in _ (by omega) | exact IntWalk.u8_in _ (by omega) | exact IntWalk.u32_in _ (by omega) | exact IntWalk.u64_in _ (by omega) | exact IntKind.wrap_u8 _ | exact IntKind.wrap_u32 _ | rfl)) | ((with_reducible apply Ce.mk); (first | rfl | exact ‹_› | exact cell_recZ (fun _ => rfl) (by omega) (by decide) rfl | exact cell_rec (fun _ => rfl) (by omega) (by decide) rfl | exact cell_bytes (by omega) | exact cell_mapZ (by omega) | exact cell_map (by omega))) | ((with_reducible apply Se.mk); (first | (focus ((repeat (first | exact SetAt.zero | apply SetAt.succ)); done)) | exact setAt_bytes (by omega) (by omega) | exact setAt_mapZ (by omega) | exact setAt_map (by omega))) | ((with_reducible apply Su.mk); (first | exact subAt_all | exact subAt_recZ (fun _ => rfl) (by omega) | exact subAt_rec (fun _ => rfl) (by omega))) | exact True.intro | intro A | exact rfl)
    · have hg : ¬ bgo i w m j (best, []) := fun h => h (.inr (by show m ≤ best; omega))
      (apply s_fin; (exact (show ResS _ _ _ _ [_] from ⟨rfl, trivial⟩)); (focus (rw [decide_eq_false hg, bst_stop hg]; exact ⟨rfl, .nil _⟩)); (focus (repeat (first | with_reducible exact Take.nil | with_reducible apply Take.c | ((with_reducible apply Take.cE); (first | exact rfl | (apply blkE; (focus (first | exact rfl | exact recs_snocE rfl | exact map_snocE rfl | exact congrArg (fun v => [v]) (gslE rfl rfl (by first | rfl | exact ‹_› | omega | (simp ; first | done | omega)) (by first | rfl | exact ‹_› | omega | (simp ; first | done | omega)) rfl)))))) | with_reducible apply Take.drop))))
    · have hg : bgo i w m j (best, []) := by unfold bgo; show ¬ (_ ∨ m ≤ best); omega
      (apply s_fin; (exact (show ResS _ _ _ _ [_] from ⟨rfl, trivial⟩)); (focus (rw [decide_eq_true hg, bst_same (lcp_ne l m j i best (by push_cast; assumption))]; exact ⟨rfl, .nil _⟩)); (focus (repeat (first | with_reducible exact Take.nil | with_reducible apply Take.c | ((with_reducible apply Take.cE); (first | exact rfl | (apply blkE; (focus (first | exact rfl | exact recs_snocE rfl | exact map_snocE rfl | exact congrArg (fun v => [v]) (gslE rfl rfl (by first | rfl | exact ‹_› | omega | (simp ; first | done | omega)) (by first | rfl | exact ‹_› | omega | (simp ; first | done | omega)) rfl)))))) | with_reducible apply Take.drop))))
    · have hg : bgo i w m j (best, []) := by unfold bgo; show ¬ (_ ∨ m ≤ best); omega
      have hlt : best < lcp l j i m := by exact_mod_cast hc
      (apply s_fin; (exact (show ResS _ _ _ _ [_] from ⟨rfl, trivial⟩)); (focus (rw [decide_eq_true hg, bst_new hg hlt]; exact ⟨rfl, .some _ [_] A⟩)); (focus (repeat (first | with_reducible exact Take.nil | with_reducible apply Take.c | ((with_reducible apply Take.cE); (first | exact rfl | (apply blkE; (focus (first | exact rfl | exact recs_snocE rfl | exact map_snocE rfl | exact congrArg (fun v => [v]) (gslE rfl rfl (by first | rfl | exact ‹_› | omega | (simp ; first | done | omega)) (by first | rfl | exact ‹_› | omega | (simp ; first | done | omega)) rfl)))))) | with_reducible apply Take.drop))))
    · have hg : bgo i w m j (best, []) := by unfold bgo; show ¬ (_ ∨ m ≤ best); omega
      have hle : lcp l j i m ≤ best := by have : ¬ best < lcp l j i m := by exact_mod_cast hc
                                          omega
      (apply s_fin; (exact (show ResS _ _ _ _ [_] from ⟨rfl, trivial⟩)); (focus (rw [decide_eq_true hg, bst_same hle]; exact ⟨rfl, .nil _⟩)); (focus (repeat (first | with_reducible exact Take.nil | with_reducible apply Take.c | ((with_reducible apply Take.cE); (first | exact rfl | (apply blkE; (focus (first | exact rfl | exact recs_snocE rfl | exact map_snocE rfl | exact congrArg (fun v => [v]) (gslE rfl rfl (by first | rfl | exact ‹_› | omega | (simp ; first | done | omega)) (by first | rfl | exact ‹_› | omega | (simp ; first | done | omega)) rfl)))))) | with_reducible apply Take.drop))))
    · have hg : ¬ bgo i w m j (best, []) := fun h => h (.inl (by assumption))
      (apply s_fin; (exact (show ResS _ _ _ _ [_] from ⟨rfl, trivial⟩)); (focus (rw [decide_eq_false hg, bst_stop hg]; exact ⟨rfl, .nil _⟩)); (focus (repeat (first | with_reducible exact Take.nil | with_reducible apply Take.c | ((with_reducible apply Take.cE); (first | exact rfl | (apply blkE; (focus (first | exact rfl | exact recs_snocE rfl | exact map_snocE rfl | exact congrArg (fun v => [v]) (gslE rfl rfl (by first | rfl | exact ‹_› | omega | (simp ; first | done | omega)) (by first | rfl | exact ‹_› | omega | (simp ; first | done | omega)) rfl)))))) | with_reducible apply Take.drop))))
  | some best cs Ac =>
    have hs' : cs.length ≤ 4096 := hs
    refine w_body7 Try.func119 rfl rfl ?_
    repeat' (first | apply w_seq | apply w_region | apply o_nil | (apply w_draw; (focus (kernel_rfl)); (focus (kernel_rfl))) | (apply o_g tyOk; exact rfl; exact rfl) | (apply o_ar tyOk; exact rfl; exact rfl) | (apply o_load tyOk; (iterate 3 exact rfl); (focus (exact pk))) | (apply o_store tyOk; (iterate 4 exact rfl); (focus (exact up))) | (apply o_build tyOk; exact rfl; exact rfl; (focus (first | with_reducible exact pl82)); exact rfl; (focus (repeat (first | exact BuildR.nil | (apply BuildR.one; exact rfl; exact rfl; (first | (focus ((repeat (first | exact SetAt.zero | apply SetAt.succ)); done)) | exact setAt_bytes (by omega) (by omega) | exact setAt_mapZ (by omega) | exact setAt_map (by omega))) | (apply BuildR.agg; exact rfl; exact rfl; (first | exact putAt_all rfl | exact putAt_recZ (fun _ => rfl) (by omega) | exact putAt_rec (fun _ => rfl) (by omega)))))); exact rfl) | (apply o_buildSlice tyOk; (iterate 5 exact rfl); (focus (decide)); exact rfl; (focus (decide)); (focus (repeat (first | exact CatR.nil | exact CatR.last rfl | (apply CatR.one; exact rfl; exact rfl) | (apply CatR.agg; exact rfl)))); exact rfl) | (apply o_append tyOk; (iterate 5 exact rfl); (focus (exact ⟨by decide⟩)); (focus (exact up)); (focus (exact pk))) | (apply o_call; exact rfl; exact rfl; (focus (first | exact rfl | assumption)); exact rfl; (focus (exact ⟨_, common_int _ _ _ _ _ (by omega) (by omega) (by omega) (by omega) (by omega) (by omega), by repeat (first | with_reducible exact Take.nil | with_reducible apply Take.c | with_reducible apply Take.drop)⟩)); rintro _ _ ⟨rfl, rfl⟩) | (apply o_want; exact rfl; exact rfl) | (apply o_skip; iterate 4 exact rfl) | (apply o_guardF; (iterate 3 exact rfl); all_goals intro hc) | (apply w_true; exact rfl) | (apply w_ifN; exact rfl; all_goals intro hc) | (apply w_if; exact rfl; all_goals intro hc) | apply thenS_normal | apply thenS_ret | apply w_skip | apply w_ret | ((with_reducible apply Sd.mk); (first | exact True.intro | omega | (constructor <;> first | omega | (unfold maxLen; omega)) | (unfold maxLen; omega))) | ((with_reducible apply Ln.mk); (first | rfl | exact ‹_› | omega | (simp ; first | done | omega))) | ((with_reducible apply Wr.mk); (first | exact IntWalk.i64_in _ (by omega) | exact IntWalk.u8_in _ (by omega) | exact IntWalk.u32_in _ (by omega) | exact IntWalk.u64_in _ (by omega) | exact IntKind.wrap_u8 _ | exact IntKind.wrap_u32 _ | rfl)) | ((with_reducible apply Ce.mk); (first | rfl | exact ‹_› | exact cell_recZ (fun _ => rfl) (by omega) (by decide) rfl | exact cell_rec (fun _ => rfl) (by omega) (by decide) rfl | exact cell_bytes (by omega) | exact cell_mapZ (by omega) | exact cell_map (by omega))) | ((with_reducible apply Se.mk); (first | (focus ((repeat (first | exact SetAt.zero | apply SetAt.succ)); done)) | exact setAt_bytes (by omega) (by omega) | exact setAt_mapZ (by omega) | exact setAt_map (by omega))) | ((with_reducible apply Su.mk); (first | exact subAt_all | exact subAt_recZ (fun _ => rfl) (by omega) | exact subAt_rec (fun _ => rfl) (by omega))) | exact True.intro | intro A | exact rfl)
    · have hg : ¬ bgo i w m j (best, cs) := fun h => h (.inr (by show m ≤ best; omega))
      (apply s_fin; (exact (show ResS _ _ _ _ [_] from ⟨rfl, trivial⟩)); (focus (rw [decide_eq_false hg, bst_stop hg]; exact ⟨rfl, .some _ _ Ac⟩)); (focus (repeat (first | with_reducible exact Take.nil | with_reducible apply Take.c | ((with_reducible apply Take.cE); (first | exact rfl | (apply blkE; (focus (first | exact rfl | exact recs_snocE rfl | exact map_snocE rfl | exact congrArg (fun v => [v]) (gslE rfl rfl (by first | rfl | exact ‹_› | omega | (simp ; first | done | omega)) (by first | rfl | exact ‹_› | omega | (simp ; first | done | omega)) rfl)))))) | with_reducible apply Take.drop))))
    · have hg : bgo i w m j (best, cs) := by unfold bgo; show ¬ (_ ∨ m ≤ best); omega
      (apply s_fin; (exact (show ResS _ _ _ _ [_] from ⟨rfl, trivial⟩)); (focus (rw [decide_eq_true hg, bst_same (lcp_ne l m j i best (by push_cast; assumption))]; exact ⟨rfl, .some _ _ Ac⟩)); (focus (repeat (first | with_reducible exact Take.nil | with_reducible apply Take.c | ((with_reducible apply Take.cE); (first | exact rfl | (apply blkE; (focus (first | exact rfl | exact recs_snocE rfl | exact map_snocE rfl | exact congrArg (fun v => [v]) (gslE rfl rfl (by first | rfl | exact ‹_› | omega | (simp ; first | done | omega)) (by first | rfl | exact ‹_› | omega | (simp ; first | done | omega)) rfl)))))) | with_reducible apply Take.drop))))
    · have hg : bgo i w m j (best, cs) := by unfold bgo; show ¬ (_ ∨ m ≤ best); omega
      have hlt : best < lcp l j i m := by exact_mod_cast hc
      (apply s_fin; (exact (show ResS _ _ _ _ [_] from ⟨rfl, trivial⟩)); (focus (rw [decide_eq_true hg, bst_new hg hlt]; exact ⟨rfl, .some _ _ Ac⟩)); (focus (repeat (first | with_reducible exact Take.nil | with_reducible apply Take.c | ((with_reducible apply Take.cE); (first | exact rfl | (apply blkE; (focus (first | exact rfl | exact recs_snocE rfl | exact map_snocE rfl | exact congrArg (fun v => [v]) (gslE rfl rfl (by first | rfl | exact ‹_› | omega | (simp ; first | done | omega)) (by first | rfl | exact ‹_› | omega | (simp ; first | done | omega)) rfl)))))) | with_reducible apply Take.drop))))
    · have hg : bgo i w m j (best, cs) := by unfold bgo; show ¬ (_ ∨ m ≤ best); omega
      have hle : lcp l j i m ≤ best := by have : ¬ best < lcp l j i m := by exact_mod_cast hc
                                          omega
      (apply s_fin; (exact (show ResS _ _ _ _ [_] from ⟨rfl, trivial⟩)); (focus (rw [decide_eq_true hg, bst_same hle]; exact ⟨rfl, .some _ _ Ac⟩)); (focus (repeat (first | with_reducible exact Take.nil | with_reducible apply Take.c | ((with_reducible apply Take.cE); (first | exact rfl | (apply blkE; (focus (first | exact rfl | exact recs_snocE rfl | exact map_snocE rfl | exact congrArg (fun v => [v]) (gslE rfl rfl (by first | rfl | exact ‹_› | omega | (simp ; first | done | omega)) (by first | rfl | exact ‹_› | omega | (simp ; first | done | omega)) rfl)))))) | with_reducible apply Take.drop))))
    · have hg : ¬ bgo i w m j (best, cs) := fun h => h (.inl (by assumption))
      (apply s_fin; (exact (show ResS _ _ _ _ [_] from ⟨rfl, trivial⟩)); (focus (rw [decide_eq_false hg, bst_stop hg]; exact ⟨rfl, .some _ _ Ac⟩)); (focus (repeat (first | with_reducible exact Take.nil | with_reducible apply Take.c | ((with_reducible apply Take.cE); (first | exact rfl | (apply blkE; (focus (first | exact rfl | exact recs_snocE rfl | exact map_snocE rfl | exact congrArg (fun v => [v]) (gslE rfl rfl (by first | rfl | exact ‹_› | omega | (simp ; first | done | omega)) (by first | rfl | exact ‹_› | omega | (simp ; first | done | omega)) rfl)))))) | with_reducible apply Take.drop))))

theorem brun_len {l : List UInt8} {i : Nat} {w : Int} {m : Nat} : ∀ {js : List Nat} {s : BS}, (brun l i w m js s).2.length ≤ s.2.length + js.length
  | [], s => by simp [brun]
  | j :: r, s => by
    unfold brun
    split
    · have h1 := brun_len (l := l) (i := i) (w := w) (m := m) (js := r) (s := bup l i m j s)
      have h2 : (bup l i m j s).2.length ≤ s.2.length + 1 := by unfold bup; split <;> simp
      simp only [List.length_cons]; omega
    · simp

/-- The positions before n, the nearest one first. -/
def down : Nat → List Nat
  | 0 => []
  | n + 1 => n :: down n
theorem down_len : ∀ n, (down n).length = n
  | 0 => rfl
  | n + 1 => by simp [down, down_len n]

/-- Calls of a function with blocks that its callee knows: the blocks of 'Candidates$1' and of the search. -/
theorem Candidates1_any (l : List UInt8) (i : Nat) (w : Int) (m n5 n6 n7 n8 n11 n12 n : Nat) (h : SH) (s : BS) (p : SH) (hb : BH l i w m n5 n6 n7 n8 n11 n12 ((n, ⟨[I i], false⟩) :: h) s p) (h5 : l.length ≤ 4096) (hi : i ≤ 4096) (him : i + m ≤ l.length) (hs : s.2.length = 0) (hw : -4611686018427387904 ≤ w) :
    SRun Try.prog 94 [.func (.func 119) ⟨[]⟩ ⟨[gptr n6 0 1, gptr n7 0 1, gptr n12 0 1, gptr n8 0 1, gptr n5 0 1, gptr n11 0 1]⟩, gptr n 0 1] p
      fun r q => BH l i w m n5 n6 n7 n8 n11 n12 ((n, ⟨[I i], false⟩) :: h) (brun l i w m (down i) s) q := by
  refine w_body2 Try.func94 rfl rfl ?_
  obtain ⟨p1, hp1⟩ := hb.pick Pick.head
  repeat' (first | apply w_seq | apply w_region | apply o_nil | (apply o_g tyOk; exact rfl; exact rfl) | (apply o_ar tyOk; exact rfl; exact rfl) | (apply o_load tyOk; (iterate 3 exact rfl); (focus (exact pk))) | apply thenS_normal | apply w_block | ((with_reducible apply Sd.mk); (first | exact True.intro | omega | (constructor <;> first | omega | (unfold maxLen; omega)) | (unfold maxLen; omega))) | ((with_reducible apply Ln.mk); (first | rfl | exact ‹_› | omega | (simp ; first | done | omega))) | ((with_reducible apply Wr.mk); (first | exact IntWalk.i64_in _ (by omega) | exact IntWalk.u8_in _ (by omega) | exact IntWalk.u32_in _ (by omega) | exact IntWalk.u64_in _ (by omega) | exact IntKind.wrap_u8 _ | exact IntKind.wrap_u32 _ | rfl)) | ((with_reducible apply Ce.mk); (first | rfl | exact ‹_› | exact cell_recZ (fun _ => rfl) (by omega) (by decide) rfl | exact cell_rec (fun _ => rfl) (by omega) (by decide) rfl | exact cell_bytes (by omega) | exact cell_mapZ (by omega) | exact cell_map (by omega))) | exact True.intro | exact rfl)
  refine w_loop (S := Nat × BS × SH) (fun x => [(0, .func (.func 119) ⟨[]⟩ ⟨[gptr n6 0 1, gptr n7 0 1, gptr n12 0 1, gptr n8 0 1, gptr n5 0 1, gptr n11 0 1]⟩), (1, gptr n 0 1), (3, I (x.1 - 1))]) (fun x => x.2.2)
    (fun x => x.1 ≤ i ∧ BH l i w m n5 n6 n7 n8 n11 n12 ((n, ⟨[I i], false⟩) :: h) x.2.1 x.2.2 ∧ brun l i w m (down i) s = brun l i w m (down x.1) x.2.1 ∧ x.2.1.2.length + x.1 ≤ 4096) (fun x => x.1) (i, s, p) ⟨Nat.le_refl _, hb, rfl, by show s.2.length + i ≤ _; omega⟩ (by repeat' (first | exact trivial | refine ⟨rfl, ?_⟩ | refine ⟨congrArg some ?_, ?_⟩)) (by repeat (first | with_reducible exact Take.nil | with_reducible apply Take.c | ((with_reducible apply Take.cE); (first | exact rfl | (apply blkE; (focus (first | exact rfl | exact recs_snocE rfl | exact map_snocE rfl | exact congrArg (fun v => [v]) (gslE rfl rfl (by first | rfl | exact ‹_› | omega | (simp ; first | done | omega)) (by first | rfl | exact ‹_› | omega | (simp ; first | done | omega)) rfl)))))) | with_reducible apply Take.drop)) ?_
  rintro ⟨k, s1, p2⟩ ⟨hk, hb1, he, hl⟩
  simp only at hk hb1 he hl
  cases k with
  | zero =>
    repeat' (first | apply w_seq | apply w_region | apply o_nil | (apply o_g tyOk; exact rfl; exact rfl) | (apply o_skip; iterate 4 exact rfl) | (apply w_false; exact rfl) | apply thenS_normal | apply thenS_exit | apply blockS_exit | apply w_exit | ((with_reducible apply Sd.mk); (first | exact True.intro | omega | (constructor <;> first | omega | (unfold maxLen; omega)) | (unfold maxLen; omega))))
    (apply s_finN; (exact (show ResS _ _ _ _ [] from trivial)); (focus (rw [he]; exact hb1)); (focus (repeat (first | with_reducible exact Take.nil | with_reducible apply Take.c | ((with_reducible apply Take.cE); (first | exact rfl | (apply blkE; (focus (first | exact rfl | exact recs_snocE rfl | exact map_snocE rfl | exact congrArg (fun v => [v]) (gslE rfl rfl (by first | rfl | exact ‹_› | omega | (simp ; first | done | omega)) (by first | rfl | exact ‹_› | omega | (simp ; first | done | omega)) rfl)))))) | with_reducible apply Take.drop))))
  | succ q =>
    have e1 : ((q + 1 : Nat) : Int) - 1 = q := by omega
    show SWp _ _ _ _ [_, _, (3, I (((q + 1 : Nat) : Int) - 1))] p2
    rw [e1]
    repeat' (first | apply w_seq | apply w_region | apply o_nil | (apply o_g tyOk; exact rfl; exact rfl) | (apply o_ar tyOk; exact rfl; exact rfl) | (apply o_call; exact rfl; exact rfl; (focus (first | exact rfl | assumption)); exact rfl; (focus (exact ⟨_, better1_any l i w m n5 n6 n7 n8 n11 n12 q _ s1 p2 hb1 h5 (by omega) him (by omega) hw, by repeat (first | with_reducible exact Take.nil | with_reducible apply Take.c | with_reducible apply Take.drop)⟩)); rintro _ _ ⟨rfl, hb2⟩) | (apply o_want; exact rfl; exact rfl) | (apply w_ifN; exact rfl; all_goals intro hc) | apply thenS_normal | apply thenS_exit | apply blockS_normal | apply blockS_exit | apply w_skip | apply w_exit | apply w_block | ((with_reducible apply Sd.mk); (first | exact True.intro | omega | (constructor <;> first | omega | (unfold maxLen; omega)) | (unfold maxLen; omega))) | ((with_reducible apply Wr.mk); (first | exact IntWalk.i64_in _ (by omega) | exact IntWalk.u8_in _ (by omega) | exact IntWalk.u32_in _ (by omega) | exact IntWalk.u64_in _ (by omega) | exact IntKind.wrap_u8 _ | exact IntKind.wrap_u32 _ | rfl)))
    · have hg : bgo i w m q s1 := hc
      refine ⟨(q, bup l i m q s1, _), ⟨by show q ≤ i; omega, by rw [← show nbst l i w m q s1 = bup l i m q s1 from if_pos hg]; exact hb2, ?_, ?_⟩, by show q < q + 1; omega, (by repeat' (first | exact trivial | refine ⟨rfl, ?_⟩ | refine ⟨congrArg some ?_, ?_⟩)), (by repeat (first | with_reducible exact Take.nil | with_reducible apply Take.c | ((with_reducible apply Take.cE); (first | exact rfl | (apply blkE; (focus (first | exact rfl | exact recs_snocE rfl | exact map_snocE rfl | exact congrArg (fun v => [v]) (gslE rfl rfl (by first | rfl | exact ‹_› | omega | (simp ; first | done | omega)) (by first | rfl | exact ‹_› | omega | (simp ; first | done | omega)) rfl)))))) | with_reducible apply Take.drop))⟩
      · rw [he]; exact if_pos hg
      · have h2 : (bup l i m q s1).2.length ≤ s1.2.length + 1 := by unfold bup; split <;> simp
        show (bup l i m q s1).2.length + q ≤ 4096; omega
    · have hg : ¬ bgo i w m q s1 := fun h => h hc
      (apply s_finN; (exact (show ResS _ _ _ _ [] from trivial)); (focus (rw [he, show brun l i w m (down (q + 1)) s1 = s1 from if_neg hg, ← bst_stop hg]; exact hb2)); (focus (repeat (first | with_reducible exact Take.nil | with_reducible apply Take.c | ((with_reducible apply Take.cE); (first | exact rfl | (apply blkE; (focus (first | exact rfl | exact recs_snocE rfl | exact map_snocE rfl | exact congrArg (fun v => [v]) (gslE rfl rfl (by first | rfl | exact ‹_› | omega | (simp ; first | done | omega)) (by first | rfl | exact ‹_› | omega | (simp ; first | done | omega)) rfl)))))) | with_reducible apply Take.drop))))

/-- What the search finds. -/
def bfind (l : List UInt8) (i : Nat) (w m : Int) (js : List Nat) : List (Int × Int) := (brun l i w (min m ((l.length : Int) - i)).toNat js (1, [])).2

/-- A slice of copies: nil if there are none. -/
def IsCs (h : SH) (cs : List (Int × Int)) (r : Value) (q : SH) : Prop := (cs = [] ∧ r = .slice none 0 0 ∧ q = h) ∨ ∃ A, r = cpS A cs ∧ q = (A, cpB cs false) :: h

theorem better_any (l : List UInt8) (i : Nat) (w m : Int) (js : List Nat) (f : FuncId) (fc : Array Value) (h : SH) (h5 : l.length ≤ 4096) (hi : i ≤ l.length) (hm : 0 ≤ m) (hm2 : m ≤ 4611686018427387904) (he : enters Try.prog f = true)
    (hit : ∀ n5 n6 n7 n8 n11 n12 p, BH l i w (min m ((l.length : Int) - i)).toNat n5 n6 n7 n8 n11 n12 h (1, []) p →
      SRun Try.prog f ((#[] : Array Value).toList ++ [.func (.func 119) ⟨[]⟩ ⟨[gptr n6 0 1, gptr n7 0 1, gptr n12 0 1, gptr n8 0 1, gptr n5 0 1, gptr n11 0 1]⟩] ++ fc.toList) p
        fun r q => BH l i w (min m ((l.length : Int) - i)).toNat n5 n6 n7 n8 n11 n12 h (brun l i w (min m ((l.length : Int) - i)).toNat js (1, [])) q) :
    SRun Try.prog 87 [S l, I i, I w, I m, .func (.func f) #[] fc] h (IsCs h (bfind l i w m js)) := by
  refine w_body5 Try.func87 rfl rfl ?_
  obtain ⟨mm, hmm⟩ : ∃ mm : Nat, min m ((l.length : Int) - i) = mm := ⟨(min m ((l.length : Int) - i)).toNat, by omega⟩
  repeat' (first | apply w_seq | apply w_region | apply o_nil | (apply o_g tyOk; exact rfl; exact rfl) | (apply o_ar tyOk; exact rfl; exact rfl) | (apply o_min; iterate 3 exact rfl) | (apply o_load tyOk; (iterate 3 exact rfl); (focus (exact pk))) | (apply o_store tyOk; (iterate 4 exact rfl); (focus (exact up))) | (apply o_alloc tyOk; iterate 5 exact rfl) | (apply o_box (tt := tyT); iterate 5 exact rfl) | (apply o_makeFunc; iterate 3 exact rfl) | apply thenS_normal | ((with_reducible apply Sd.mk); (first | exact True.intro | omega | (constructor <;> first | omega | (unfold maxLen; omega)) | (unfold maxLen; omega))) | ((with_reducible apply Ln.mk); (first | rfl | exact ‹_› | omega | (simp ; first | done | omega))) | ((with_reducible apply Wr.mk); (first | exact IntWalk.i64_in _ (by omega) | exact IntWalk.u8_in _ (by omega) | exact IntWalk.u32_in _ (by omega) | exact IntWalk.u64_in _ (by omega) | exact IntKind.wrap_u8 _ | exact IntKind.wrap_u32 _ | rfl)) | ((with_reducible apply Ce.mk); (first | rfl | exact ‹_› | exact cell_recZ (fun _ => rfl) (by omega) (by decide) rfl | exact cell_rec (fun _ => rfl) (by omega) (by decide) rfl | exact cell_bytes (by omega) | exact cell_mapZ (by omega) | exact cell_map (by omega))) | ((with_reducible apply Se.mk); (first | (focus ((repeat (first | exact SetAt.zero | apply SetAt.succ)); done)) | exact setAt_bytes (by omega) (by omega) | exact setAt_mapZ (by omega) | exact setAt_map (by omega))) | exact True.intro | intro A | exact rfl)
  rw [hmm] at hit ⊢
  simp only [Int.toNat_natCast] at hit
  have hbf : bfind l i w m js = (brun l i w mm js (1, [])).2 := by unfold bfind; rw [hmm]; rfl
  rw [hbf]
  (apply o_call; exact rfl; exact rfl; exact he; exact rfl; exact ⟨_, hit _ _ _ _ _ _ _ (.nil 1), Take.nil⟩)
  intro r q hb2
  generalize hs : brun l i w mm js (1, []) = s at hb2 ⊢
  cases hb2 with
  | nil best =>
    repeat' (first | apply w_seq | apply w_region | apply o_nil | (apply o_g tyOk; exact rfl; exact rfl) | (apply o_load tyOk; (iterate 3 exact rfl); (focus (exact pk))) | apply thenS_normal | apply w_ret | ((with_reducible apply Sd.mk); (first | exact True.intro | omega | (constructor <;> first | omega | (unfold maxLen; omega)) | (unfold maxLen; omega))) | ((with_reducible apply Ln.mk); (first | rfl | exact ‹_› | omega | (simp ; first | done | omega))) | ((with_reducible apply Ce.mk); (first | rfl | exact ‹_› | exact cell_recZ (fun _ => rfl) (by omega) (by decide) rfl | exact cell_rec (fun _ => rfl) (by omega) (by decide) rfl | exact cell_bytes (by omega) | exact cell_mapZ (by omega) | exact cell_map (by omega))) | exact True.intro | exact rfl)
    (apply s_fin; (exact (show ResS _ _ _ _ [_] from ⟨rfl, trivial⟩)); (focus (exact .inl ⟨rfl, rfl, rfl⟩)); (focus (repeat (first | with_reducible exact Take.nil | with_reducible apply Take.c | ((with_reducible apply Take.cE); (first | exact rfl | (apply blkE; (focus (first | exact rfl | exact recs_snocE rfl | exact map_snocE rfl | exact congrArg (fun v => [v]) (gslE rfl rfl (by first | rfl | exact ‹_› | omega | (simp ; first | done | omega)) (by first | rfl | exact ‹_› | omega | (simp ; first | done | omega)) rfl)))))) | with_reducible apply Take.drop))))
  | some best cs A =>
    repeat' (first | apply w_seq | apply w_region | apply o_nil | (apply o_g tyOk; exact rfl; exact rfl) | (apply o_load tyOk; (iterate 3 exact rfl); (focus (exact pk))) | apply thenS_normal | apply w_ret | ((with_reducible apply Sd.mk); (first | exact True.intro | omega | (constructor <;> first | omega | (unfold maxLen; omega)) | (unfold maxLen; omega))) | ((with_reducible apply Ln.mk); (first | rfl | exact ‹_› | omega | (simp ; first | done | omega))) | ((with_reducible apply Ce.mk); (first | rfl | exact ‹_› | exact cell_recZ (fun _ => rfl) (by omega) (by decide) rfl | exact cell_rec (fun _ => rfl) (by omega) (by decide) rfl | exact cell_bytes (by omega) | exact cell_mapZ (by omega) | exact cell_map (by omega))) | exact True.intro | exact rfl)
    (apply s_fin; (exact (show ResS _ _ _ _ [_] from ⟨rfl, trivial⟩)); (focus (exact .inr ⟨A, rfl, rfl⟩)); (focus (repeat (first | with_reducible exact Take.nil | with_reducible apply Take.c | ((with_reducible apply Take.cE); (first | exact rfl | (apply blkE; (focus (first | exact rfl | exact recs_snocE rfl | exact map_snocE rfl | exact congrArg (fun v => [v]) (gslE rfl rfl (by first | rfl | exact ‹_› | omega | (simp ; first | done | omega)) (by first | rfl | exact ‹_› | omega | (simp ; first | done | omega)) rfl)))))) | with_reducible apply Take.drop))))

/-- What Candidates finds. -/
def cands (l : List UInt8) (i w m : Int) : List (Int × Int) := if vld w m ∧ 0 ≤ i ∧ i ≤ l.length ∧ l.length ≤ 4096 then bfind l i.toNat w m (down i.toNat) else []

theorem Candidates_any (l : List UInt8) (i w m : Int) (h : SH) (h5 : l.length ≤ 4611686018427387904) :
    SRun Try.prog 58 [S l, I i, I w, I m] h (IsCs h (cands l i w m)) := by
  by_cases hc0 : vld w m ∧ 0 ≤ i ∧ i ≤ l.length ∧ l.length ≤ 4096
  · have hv := hc0.1
    obtain ⟨n, rfl⟩ := Int.eq_ofNat_of_zero_le hc0.2.1
    have hc1 := hc0.2.2
    have hcs : cands l n w m = bfind l n w m (down n) := if_pos hc0
    rw [hcs]
    refine w_body4 Try.func58 rfl rfl ?_
    clear hc0
    repeat' (first | apply w_seq | apply w_region | apply o_nil | (apply o_g tyOk; exact rfl; exact rfl) | (apply o_not; exact rfl; exact rfl) | (apply o_load tyOk; (iterate 3 exact rfl); (focus (exact pk))) | (apply o_box (tt := tyT); iterate 5 exact rfl) | (apply o_makeFunc; iterate 3 exact rfl) | (apply o_call; exact rfl; exact rfl; (focus (first | exact rfl | assumption)); exact rfl; (focus (exact ⟨_, valid_any _ _ _, by repeat (first | with_reducible exact Take.nil | with_reducible apply Take.c | with_reducible apply Take.drop)⟩)); rintro _ _ ⟨rfl, rfl⟩) | (apply o_call; exact rfl; exact rfl; (focus (first | exact rfl | assumption)); exact rfl; (focus (exact ⟨_, better_any l n w m (down n) _ _ _ (by omega) (by omega) (by omega) (by omega) rfl (fun n5 n6 n7 n8 n11 n12 p hb => Candidates1_any l n w _ n5 n6 n7 n8 n11 n12 _ _ (1, []) p hb (by omega) (by omega) (by omega) rfl (by omega)), by repeat (first | with_reducible exact Take.nil | with_reducible apply Take.c | with_reducible apply Take.drop)⟩)); rintro _ _ hq) | (apply o_want; exact rfl; exact rfl) | (apply o_gF; (iterate 3 exact rfl); (focus (first | exact ‹_› | with_reducible exact rfl | omega))) | (apply w_dF; exact rfl; (focus (first | exact ‹_› | with_reducible exact rfl | omega))) | apply thenS_normal | apply w_skip | apply w_ret | ((with_reducible apply Sd.mk); (first | exact True.intro | omega | (constructor <;> first | omega | (unfold maxLen; omega)) | (unfold maxLen; omega))) | ((with_reducible apply Ln.mk); (first | rfl | exact ‹_› | omega | (simp ; first | done | omega))) | ((with_reducible apply Ce.mk); (first | rfl | exact ‹_› | exact cell_recZ (fun _ => rfl) (by omega) (by decide) rfl | exact cell_rec (fun _ => rfl) (by omega) (by decide) rfl | exact cell_bytes (by omega) | exact cell_mapZ (by omega) | exact cell_map (by omega))) | exact True.intro | intro A | exact rfl)
    rcases hq with ⟨e, rfl, rfl⟩ | ⟨A', rfl, rfl⟩
    · (apply s_fin; (exact (show ResS _ _ _ _ [_] from ⟨rfl, trivial⟩)); (focus (exact .inl ⟨e, rfl, rfl⟩)); (focus (repeat (first | with_reducible exact Take.nil | with_reducible apply Take.c | ((with_reducible apply Take.cE); (first | exact rfl | (apply blkE; (focus (first | exact rfl | exact recs_snocE rfl | exact map_snocE rfl | exact congrArg (fun v => [v]) (gslE rfl rfl (by first | rfl | exact ‹_› | omega | (simp ; first | done | omega)) (by first | rfl | exact ‹_› | omega | (simp ; first | done | omega)) rfl)))))) | with_reducible apply Take.drop))))
    · (apply s_fin; (exact (show ResS _ _ _ _ [_] from ⟨rfl, trivial⟩)); (focus (exact .inr ⟨A', rfl, rfl⟩)); (focus (repeat (first | with_reducible exact Take.nil | with_reducible apply Take.c | ((with_reducible apply Take.cE); (first | exact rfl | (apply blkE; (focus (first | exact rfl | exact recs_snocE rfl | exact map_snocE rfl | exact congrArg (fun v => [v]) (gslE rfl rfl (by first | rfl | exact ‹_› | omega | (simp ; first | done | omega)) (by first | rfl | exact ‹_› | omega | (simp ; first | done | omega)) rfl)))))) | with_reducible apply Take.drop))))
  · have hcs : cands l i w m = [] := if_neg hc0
    rw [hcs]
    refine w_body4 Try.func58 rfl rfl ?_
    repeat' (first | apply w_seq | apply w_region | apply o_nil | (apply o_g tyOk; exact rfl; exact rfl) | (apply o_not; exact rfl; exact rfl) | (apply o_load tyOk; (iterate 3 exact rfl); (focus (exact pk))) | (apply o_box (tt := tyT); iterate 5 exact rfl) | (apply o_call; exact rfl; exact rfl; (focus (first | exact rfl | assumption)); exact rfl; (focus (exact ⟨_, valid_any _ _ _, by repeat (first | with_reducible exact Take.nil | with_reducible apply Take.c | with_reducible apply Take.drop)⟩)); rintro _ _ ⟨rfl, rfl⟩) | (apply o_want; exact rfl; exact rfl) | (apply o_skip; iterate 4 exact rfl) | (apply o_guardFN; (iterate 3 exact rfl); all_goals intro hc) | (apply o_guardF; (iterate 3 exact rfl); all_goals intro hc) | (apply w_true; exact rfl) | (apply w_dT; exact rfl; (focus (first | exact ‹_› | with_reducible exact rfl | omega))) | apply thenS_normal | apply thenS_ret | apply w_ret | ((with_reducible apply Sd.mk); (first | exact True.intro | omega | (constructor <;> first | omega | (unfold maxLen; omega)) | (unfold maxLen; omega))) | ((with_reducible apply Ln.mk); (first | rfl | exact ‹_› | omega | (simp ; first | done | omega))) | ((with_reducible apply Ce.mk); (first | rfl | exact ‹_› | exact cell_recZ (fun _ => rfl) (by omega) (by decide) rfl | exact cell_rec (fun _ => rfl) (by omega) (by decide) rfl | exact cell_bytes (by omega) | exact cell_mapZ (by omega) | exact cell_map (by omega))) | exact True.intro | intro A | exact rfl)
    all_goals first | (apply s_fin; (exact (show ResS _ _ _ _ [_] from ⟨rfl, trivial⟩)); (focus (exact .inl ⟨rfl, rfl, rfl⟩)); (focus (repeat (first | with_reducible exact Take.nil | with_reducible apply Take.c | ((with_reducible apply Take.cE); (first | exact rfl | (apply blkE; (focus (first | exact rfl | exact recs_snocE rfl | exact map_snocE rfl | exact congrArg (fun v => [v]) (gslE rfl rfl (by first | rfl | exact ‹_› | omega | (simp ; first | done | omega)) (by first | rfl | exact ‹_› | omega | (simp ; first | done | omega)) rfl)))))) | with_reducible apply Take.drop)))) | exact absurd ⟨by assumption, by omega, by omega, by omega⟩ hc0

theorem cands_le (l : List UInt8) (i w m : Int) : (cands l i w m).length ≤ 4096 := by
  unfold cands
  split
  · unfold bfind
    have h1 := brun_len (l := l) (i := i.toNat) (w := w) (m := (min m ((l.length : Int) - i.toNat)).toNat) (js := down i.toNat) (s := (1, []))
    rw [down_len] at h1
    simp only [List.length_nil, Nat.zero_add] at h1
    omega
  · simp

end Go.Proofs.Ytgooffiipnkmiaa
end
section
set_option linter.unusedVariables false
set_option linter.unusedSimpArgs false
set_option maxRecDepth 4000
namespace Go.Proofs.Ytgooffiipnkmiaa
open Go.Gh Go.RowKit

theorem lcp_min (l : List UInt8) : ∀ (a b i j : Nat), lcp l i j (min a b) = min (lcp l i j a) b
  | 0, b, i, j => by simp [lcp]
  | a + 1, 0, i, j => by simp [lcp]
  | a + 1, b + 1, i, j => by
    rw [show min (a + 1) (b + 1) = min a b + 1 by omega]
    unfold lcp
    split
    · rw [lcp_min l a b (i + 1) (j + 1)]; omega
    · simp

/-- The length at a distance, of a position inside. -/
theorem atd_eq (l : List UInt8) (i d : Nat) (m : Int) (hd : 1 ≤ d) (hdi : d ≤ i) (hi : i ≤ l.length) (hm : 0 ≤ m) :
    atd l i d m = if lcp l (i - d) i (min m ((l.length : Int) - i)).toNat < 2 then 0 else (lcp l (i - d) i (min m ((l.length : Int) - i)).toNat : Int) := by
  have e : min (com l ((i : Int) - d) i : Int) m = (lcp l (i - d) i (min m ((l.length : Int) - i)).toNat : Int) := by
    unfold com
    rw [if_pos (by omega), show ((i : Int) - d).toNat = i - d by omega, show ((i : Int)).toNat = i by omega, show ((l.length : Int) - max ((i : Int) - d) i).toNat = l.length - i by omega]
    have := lcp_min l (l.length - i) m.toNat (i - d) i
    rw [show (min m ((l.length : Int) - i)).toNat = min (l.length - i) m.toNat by omega, this]
    omega
  unfold atd
  rw [if_neg (by omega), e]
  split
  · rw [if_pos (by omega)]
  · rw [if_neg (by omega)]

theorem rc_pos (l : List UInt8) (i m : Int) (hm : 0 ≤ m) : ∀ d, 0 ≤ (rc l i m d).2
  | 0 => Int.le_refl _
  | d + 1 => by
    have := rc_pos l i m hm d
    unfold rc; split
    · show 0 ≤ atd l i (d + 1) m; omega
    · exact this
theorem atd_range (l : List UInt8) (i d m : Int) : atd l i d m = 0 ∨ 2 ≤ atd l i d m := by unfold atd; repeat' split <;> omega

theorem rc_succ (l : List UInt8) (i m : Int) (d : Nat) : rc l i m (d + 1) = if (rc l i m d).2 < atd l i (d + 1) m then ((rc l i m d).1 ++ [(atd l i (d + 1) m, (d : Int) + 1)], atd l i (d + 1) m) else rc l i m d := rfl
/-- Nothing better can come. -/
theorem rc_stable (l : List UInt8) (i : Nat) (m : Int) (hi : i ≤ l.length) (hm : 0 ≤ m) (d : Nat) (h : min m ((l.length : Int) - i) ≤ max 1 (rc l i m d).2) : ∀ k, d + k ≤ i → rc l i m (d + k) = rc l i m d
  | 0, _ => rfl
  | k + 1, hk => by
    have ih := rc_stable l i m hi hm d h k (by omega)
    rw [show d + (k + 1) = d + k + 1 by omega]
    have hp := rc_pos l i m hm d
    have ha := atd_eq l i (d + k + 1) m (by omega) (by omega) hi hm
    have hle := lcp_le l (min m ((l.length : Int) - i)).toNat (i - (d + k + 1)) i
    have e : ((d + k : Nat) : Int) + 1 = ((d + k + 1 : Nat) : Int) := by omega
    rw [rc_succ, ih, e, ha, if_neg]
    split <;> omega

theorem brun_rc (l : List UInt8) (i : Nat) (w m : Int) (hi : i ≤ l.length) (hm : 2 ≤ m) (hw : 1 ≤ w) : ∀ (k : Nat) (s : BS), k ≤ i → ((i - k : Nat) : Int) ≤ w → s.2 = (rc l i m (i - k)).1 → (s.1 : Int) = max 1 (rc l i m (i - k)).2 →
    (brun l i w (min m ((l.length : Int) - i)).toNat (down k) s).2 = (rc l i m (min w i).toNat).1
  | 0, s, hk, hkw, h1, h2 => by
    show s.2 = _
    rw [h1, show (min w (i : Int)).toNat = i - 0 by omega]
  | k + 1, s, hk, hkw, h1, h2 => by
    have ha := atd_eq l i (i - k) m (by omega) (by omega) hi (by omega)
    rw [show i - (i - k) = k by omega] at ha
    have hstep : rc l i m (i - k) = if (rc l i m (i - (k + 1))).2 < atd l i (i - k : Nat) m then ((rc l i m (i - (k + 1))).1 ++ [(atd l i (i - k : Nat) m, ((i - k : Nat) : Int))], atd l i (i - k : Nat) m) else rc l i m (i - (k + 1)) := by
      have e : i - k = i - (k + 1) + 1 := by omega
      have e2 : ((i - (k + 1) : Nat) : Int) + 1 = ((i - k : Nat) : Int) := by omega
      rw [e, rc_succ, e2, e]
    have hp := rc_pos l i m (by omega) (i - (k + 1))
    by_cases hg : bgo i w (min m ((l.length : Int) - i)).toNat k s
    · show (if bgo i w (min m ((l.length : Int) - i)).toNat k s then brun l i w (min m ((l.length : Int) - i)).toNat (down k) (bup l i (min m ((l.length : Int) - i)).toNat k s) else s).2 = _
      rw [if_pos hg]
      have hg' : ¬ (w < (i : Int) - k ∨ (min m ((l.length : Int) - i)).toNat ≤ s.1) := hg
      refine brun_rc l i w m hi hm hw k _ (by omega) (by omega) ?_ ?_
      · unfold bup
        rw [hstep]
        split
        · rw [if_pos (by rw [ha, if_neg (by omega)]; omega), h1, ha, if_neg (by omega)]
          show _ ++ [(_, (i : Int) - (k : Int))] = _ ++ [(_, ((i - k : Nat) : Int))]
          rw [show ((i - k : Nat) : Int) = (i : Int) - k by omega]
        · rw [if_neg (by rw [ha]; split <;> omega)]; exact h1
      · unfold bup
        rw [hstep]
        split
        · rw [if_pos (by rw [ha, if_neg (by omega)]; omega), ha, if_neg (by omega)]
          show ((lcp l k i _ : Nat) : Int) = max 1 ((lcp l k i _ : Nat) : Int)
          omega
        · rw [if_neg (by rw [ha]; split <;> omega)]; exact h2
    · show (if bgo i w (min m ((l.length : Int) - i)).toNat k s then brun l i w (min m ((l.length : Int) - i)).toNat (down k) (bup l i (min m ((l.length : Int) - i)).toNat k s) else s).2 = _
      rw [if_neg hg]
      have hg' : w < (i : Int) - k ∨ (min m ((l.length : Int) - i)).toNat ≤ s.1 := Classical.not_not.1 hg
      rw [h1]
      by_cases hw2 : w < (i : Int) - k
      · rw [show (min w (i : Int)).toNat = i - (k + 1) by omega]
      · have := rc_stable l i m hi (by omega) (i - (k + 1)) (by omega) ((min w (i : Int)).toNat - (i - (k + 1))) (by omega)
        rw [show i - (k + 1) + ((min w (i : Int)).toNat - (i - (k + 1))) = (min w (i : Int)).toNat by omega] at this
        rw [this]

theorem cands_eq (l : List UInt8) (i w m : Int) : cands l i w m = rcands l i w m := by
  unfold cands rcands
  split
  · rename_i h
    obtain ⟨⟨h1, h2, h3, h4⟩, h5, h6, h7⟩ := h
    obtain ⟨i, rfl⟩ := Int.eq_ofNat_of_zero_le h5
    have := brun_rc l i w m (by omega) h3 h1 i (1, []) (Nat.le_refl _) (by omega) (by simp [rc]) (by simp only [Nat.sub_self, rc]; rfl)
    exact this
  · rfl

end Go.Proofs.Ytgooffiipnkmiaa
end
