/- Part 6 of the proof of the law ModelsLearns: texts merged. No condition. -/
import Derived.Test.YtinfmojbdaiogaaZModelsLearnsE
import Derived.Shelf.Strings.Builder1
import Derived.Shelf.Strings.Builder2
import Derived.Shelf.Small.Bits
import Derived.Shelf.Strings.BuilderF
import Derived.Shelf.Strconv.Itoa0
import Derived.Shelf.Strings.Prefix
import Derived.Shelf.Bits.Mul64
import Derived.Shelf.Strings.Repeat
import Derived.Test.YtinfmojbdaiogaaProg
section
set_option linter.unusedVariables false
set_option linter.unusedSimpArgs false
set_option maxRecDepth 4000
namespace Go.Proofs.Ytinfmojbdaiogaa
open Go.Gh Go.RowKit

theorem one_le_256 (m : Nat) : (1 : Int) ≤ 256 ^ m := by
  have h : 0 < 256 ^ m := Nat.pow_pos (by decide : 0 < 256)
  have e : ((256 : Int) ^ m) = ((256 ^ m : Nat) : Int) := by rw [Int.natCast_pow]; rfl
  rw [e]; omega
theorem peek_any (n : Nat) (l : List UInt8) (e : Int) (h : SH) (hl : l.length ≤ 100000) : SRun Try.prog 109 [gptr n 0 2] (rdB n l e :: h) fun r q => r = .tuple #[I (vpeek l).1, I (vpeek l).2.1, B (vpeek l).2.2] ∧ q = rdB n l e :: h := by
  by_cases h0 : l.length = 0
  · obtain rfl : l = [] := List.length_eq_zero_iff.1 h0
    rw [show vpeek [] = (0, 0, false) from rfl]
    refine w_body1 Try.func109 rfl rfl ?_
    repeat' (first | apply w_seq | apply w_region | apply o_nil | (apply o_g tyOk; exact rfl; exact rfl) | (apply o_load tyOk; (iterate 3 exact rfl); (focus (exact pk))) | (apply w_true; exact rfl) | apply thenS_normal | apply thenS_ret | apply w_ret | ((with_reducible apply Sd.mk); (first | exact True.intro | omega | (constructor <;> first | omega | (unfold maxLen; omega)) | (unfold maxLen; omega))) | ((with_reducible apply Ln.mk); (first | rfl | exact ‹_› | omega | (simp ; first | done | omega))) | ((with_reducible apply Ce.mk); (first | rfl | exact ‹_› | exact cell_recZ (fun _ => rfl) (by omega) (by decide) rfl | exact cell_rec (fun _ => rfl) (by omega) (by decide) rfl | exact cell_bytes (by omega) | exact cell_mapZ (by omega) | exact cell_map (by omega))) | exact True.intro | exact rfl)
    all_goals first
      | (exfalso; omega)
      | contradiction
      | (apply s_fin; (exact (show ResS _ _ _ _ [_, _, _] from ⟨rfl, ⟨rfl, ⟨rfl, trivial⟩⟩⟩)); (focus (exact ⟨rfl, rfl⟩)); (focus (repeat (first | with_reducible exact Take.nil | with_reducible apply Take.c | ((with_reducible apply Take.cE); (first | exact rfl | (apply blkE; (focus (first | exact rfl | exact recs_snocE rfl | exact map_snocE rfl | exact congrArg (fun v => [v]) (gslE rfl rfl (by first | rfl | exact ‹_› | omega | (simp ; first | done | omega)) (by first | rfl | exact ‹_› | omega | (simp ; first | done | omega)) rfl)))))) | with_reducible apply Take.drop))))
      | trace_state
  · have hne : l ≠ [] := fun g => h0 (by rw [g]; rfl)
    obtain ⟨f, hf⟩ : ∃ f, f = bat l 0 := ⟨_, rfl⟩
    have hf2 := bat_255 l 0
    rw [← hf] at hf2
    obtain ⟨K, hK⟩ : ∃ K, vlead f 8 0 = K := ⟨_, rfl⟩
    have hv : vpeek l = if l.length < K + 1 then (0, 0, false) else if 9223372036854775807 - vbnd K < vacc l K 1 (vlow f K) then (0, 0, false) else (vacc l K 1 (vlow f K) + vbnd K, (K : Int) + 1, true) := by
      unfold vpeek; rw [if_neg h0, ← hf, hK]
    rw [hv]
    refine w_body1 Try.func109 rfl rfl ?_
    repeat' (first | apply w_seq | apply w_region | apply o_nil | (apply o_g tyOk; exact rfl; exact rfl) | (apply o_load tyOk; (iterate 3 exact rfl); (focus (exact pk))) | (apply w_dF; exact rfl; (focus (first | exact ‹_› | with_reducible exact rfl | omega | exact hne))) | apply thenS_normal | apply w_skip | apply w_block | ((with_reducible apply Sd.mk); (first | exact True.intro | omega | (constructor <;> first | omega | (unfold maxLen; omega)) | (unfold maxLen; omega))) | ((with_reducible apply Ln.mk); (first | rfl | exact ‹_› | omega | (simp ; first | done | omega))) | ((with_reducible apply Ce.mk); (first | rfl | exact ‹_› | exact cell_recZ (fun _ => rfl) (by omega) (by decide) rfl | exact cell_rec (fun _ => rfl) (by omega) (by decide) rfl | exact cell_bytes (by omega) | exact cell_mapZ (by omega) | exact cell_map (by omega))) | exact True.intro | exact rfl)
    all_goals first | contradiction | (exfalso; omega) | skip
    refine w_loop (S := Nat) (fun i => [(0, gptr n 0 2), (5, Y f), (6, I i)]) (fun _ => rdB n l e :: h) (fun i => i ≤ 8 ∧ vlead f (8 - i) i = K) (fun i => 8 - i) 0 ⟨Nat.zero_le _, hK⟩ ⟨rfl, by rw [hf]; rfl, rfl, trivial⟩ (by repeat (first | with_reducible exact Take.nil | with_reducible apply Take.c | ((with_reducible apply Take.cE); (first | exact rfl | (apply blkE; (focus (first | exact rfl | exact recs_snocE rfl | exact map_snocE rfl | exact congrArg (fun v => [v]) (gslE rfl rfl (by first | rfl | exact ‹_› | omega | (simp ; first | done | omega)) (by first | rfl | exact ‹_› | omega | (simp ; first | done | omega)) rfl)))))) | with_reducible apply Take.drop)) ?_
    rintro i ⟨hi, he⟩
    have hsh : (128 : Int) / 2 ^ (min ((i : Int)).toNat IntKind.u8.bits) = 128 / 2 ^ i := by rw [Int.toNat_natCast, show IntKind.u8.bits = 8 from rfl, Nat.min_eq_left hi]
    have hand : IntKind.u8.wrap ((BitVec.ofInt IntKind.u8.bits f &&& BitVec.ofInt IntKind.u8.bits (128 / 2 ^ i)).toNat : Int) = vb1 f i := by
      show IntKind.u8.wrap (vb1 f i) = vb1 f i
      have : 0 ≤ vb1 f i ∧ vb1 f i < 256 := by
        unfold vb1
        have := (BitVec.ofInt 8 f &&& BitVec.ofInt 8 (128 / 2 ^ i)).isLt
        omega
      exact IntWalk.u8_in _ (by omega)
    by_cases hgo : i < 8 ∧ vb1 f i ≠ 0
    · obtain ⟨hg1, hg2⟩ := hgo
      have hst : vlead f (8 - i) i = vlead f (8 - (i + 1)) (i + 1) := by rw [show 8 - i = (8 - (i + 1)) + 1 by omega]; exact if_pos hg2
      rw [hst] at he
      repeat' (first | apply w_seq | apply w_region | apply o_nil | (apply o_g tyOk; exact rfl; exact rfl) | (apply o_ar tyOk; exact rfl; exact rfl) | (apply o_ex; exact rfl; exact rfl) | (apply o_want; exact rfl; exact rfl) | (apply o_gT; (iterate 3 exact rfl); (focus (first | exact ‹_› | with_reducible exact rfl | omega))) | (apply w_dT; exact rfl; (focus (first | exact ‹_› | with_reducible exact rfl | omega))) | apply thenS_normal | apply blockS_normal | apply w_skip | apply w_block | ((with_reducible apply Sd.mk); (first | exact True.intro | omega | (constructor <;> first | omega | (unfold maxLen; omega)) | (unfold maxLen; omega))) | ((with_reducible apply Wr.mk); (first | exact hand | exact IntWalk.i64_in _ (by omega) | exact IntWalk.u8_in _ (by omega) | exact IntWalk.u32_in _ (by omega) | exact IntWalk.u64_in _ (by omega) | exact IntKind.wrap_u8 _ | exact IntKind.wrap_u32 _ | rfl)) | ((with_reducible apply Ex.mk); (first | exact Int.tmod_eq_emod_of_nonneg (by omega) | exact hsh | rfl)))
      all_goals first
        | (exfalso; omega)
        | exact ⟨i + 1, ⟨hg1, he⟩, by show 8 - (i + 1) < 8 - i; omega, (by repeat' (first | exact trivial | refine ⟨rfl, ?_⟩ | refine ⟨congrArg some ?_, ?_⟩)), (by repeat (first | with_reducible exact Take.nil | with_reducible apply Take.c | ((with_reducible apply Take.cE); (first | exact rfl | (apply blkE; (focus (first | exact rfl | exact recs_snocE rfl | exact map_snocE rfl | exact congrArg (fun v => [v]) (gslE rfl rfl (by first | rfl | exact ‹_› | omega | (simp ; first | done | omega)) (by first | rfl | exact ‹_› | omega | (simp ; first | done | omega)) rfl)))))) | with_reducible apply Take.drop))⟩
        | trace_state
    · have hKi : i = K := by
        rw [← he]
        by_cases h8 : i < 8
        · have hz : ¬ vb1 f i ≠ 0 := fun g => hgo ⟨h8, g⟩
          rw [show 8 - i = (8 - (i + 1)) + 1 by omega]
          exact (if_neg hz).symm
        · rw [show 8 - i = 0 by omega]; rfl
      subst hKi
      by_cases hs : l.length < i + 1
      · rw [if_pos hs]
        repeat' (first | apply w_seq | apply w_region | apply o_nil | (apply o_g tyOk; exact rfl; exact rfl) | (apply o_ar tyOk; exact rfl; exact rfl) | (apply o_ex; exact rfl; exact rfl) | (apply o_load tyOk; (iterate 3 exact rfl); (focus (exact pk))) | (apply o_want; exact rfl; exact rfl) | (apply o_skip; iterate 4 exact rfl) | (apply o_guardT; (iterate 3 exact rfl); all_goals intro hc) | (apply w_false; exact rfl) | (apply w_dT; exact rfl; (focus (first | exact ‹_› | with_reducible exact rfl | omega | exact hgo (And.intro (by omega) (by assumption))))) | (apply w_dF; exact rfl; (focus (first | exact ‹_› | with_reducible exact rfl | omega | exact hgo (And.intro (by omega) (by assumption))))) | apply thenS_normal | apply thenS_ret | apply thenS_exit | apply blockS_exit | apply w_ret | apply w_exit | ((with_reducible apply Sd.mk); (first | exact True.intro | omega | (constructor <;> first | omega | (unfold maxLen; omega)) | (unfold maxLen; omega))) | ((with_reducible apply Ln.mk); (first | rfl | exact ‹_› | omega | (simp ; first | done | omega))) | ((with_reducible apply Wr.mk); (first | exact hand | exact IntWalk.i64_in _ (by omega) | exact IntWalk.u8_in _ (by omega) | exact IntWalk.u32_in _ (by omega) | exact IntWalk.u64_in _ (by omega) | exact IntKind.wrap_u8 _ | exact IntKind.wrap_u32 _ | rfl)) | ((with_reducible apply Ex.mk); (first | exact Int.tmod_eq_emod_of_nonneg (by omega) | exact hsh | rfl)) | ((with_reducible apply Ce.mk); (first | rfl | exact ‹_› | exact cell_recZ (fun _ => rfl) (by omega) (by decide) rfl | exact cell_rec (fun _ => rfl) (by omega) (by decide) rfl | exact cell_bytes (by omega) | exact cell_mapZ (by omega) | exact cell_map (by omega))) | exact True.intro | exact rfl)
        all_goals first
          | (exfalso; omega)
          | (exfalso; exact hgo ⟨by omega, by assumption⟩)
          | (apply s_fin; (exact (show ResS _ _ _ _ [_, _, _] from ⟨rfl, ⟨rfl, ⟨rfl, trivial⟩⟩⟩)); (focus (exact ⟨rfl, rfl⟩)); (focus (repeat (first | with_reducible exact Take.nil | with_reducible apply Take.c | ((with_reducible apply Take.cE); (first | exact rfl | (apply blkE; (focus (first | exact rfl | exact recs_snocE rfl | exact map_snocE rfl | exact congrArg (fun v => [v]) (gslE rfl rfl (by first | rfl | exact ‹_› | omega | (simp ; first | done | omega)) (by first | rfl | exact ‹_› | omega | (simp ; first | done | omega)) rfl)))))) | with_reducible apply Take.drop))))
          | trace_state
      · rw [if_neg hs]
        have hsh2 : (127 : Int) / 2 ^ (min ((i : Int)).toNat IntKind.u8.bits) = 127 / 2 ^ i := by rw [Int.toNat_natCast, show IntKind.u8.bits = 8 from rfl, Nat.min_eq_left hi]
        have hlo := vlow_in f hi
        have hlo2 : vlow f i < 256 := by
          unfold vlow
          have := (BitVec.ofInt 8 f &&& BitVec.ofInt 8 (127 / 2 ^ i)).isLt
          omega
        have hand2 : IntKind.u8.wrap ((BitVec.ofInt IntKind.u8.bits f &&& BitVec.ofInt IntKind.u8.bits (127 / 2 ^ i)).toNat : Int) = vlow f i := by
          show IntKind.u8.wrap (vlow f i) = vlow f i
          exact IntWalk.u8_in _ (by omega)
        repeat' (first | apply w_seq | apply w_region | apply o_nil | (apply o_g tyOk; exact rfl; exact rfl) | (apply o_ar tyOk; exact rfl; exact rfl) | (apply o_ex; exact rfl; exact rfl) | (apply o_load tyOk; (iterate 3 exact rfl); (focus (exact pk))) | (apply o_want; exact rfl; exact rfl) | (apply o_skip; iterate 4 exact rfl) | (apply o_guardT; (iterate 3 exact rfl); all_goals intro hc) | (apply w_false; exact rfl) | (apply w_dF; exact rfl; (focus (first | exact ‹_› | with_reducible exact rfl | omega))) | apply thenS_normal | apply thenS_exit | apply blockS_exit | apply w_skip | apply w_exit | apply w_block | ((with_reducible apply Sd.mk); (first | exact True.intro | omega | (constructor <;> first | omega | (unfold maxLen; omega)) | (unfold maxLen; omega))) | ((with_reducible apply Ln.mk); (first | rfl | exact ‹_› | omega | (simp ; first | done | omega))) | ((with_reducible apply Wr.mk); (first | exact hand | exact hand2 | exact IntWalk.i64_in _ (by omega) | exact IntWalk.u8_in _ (by omega) | exact IntWalk.u32_in _ (by omega) | exact IntWalk.u64_in _ (by omega) | exact IntKind.wrap_u8 _ | exact IntKind.wrap_u32 _ | rfl)) | ((with_reducible apply Ex.mk); (first | exact Int.tmod_eq_emod_of_nonneg (by omega) | exact hsh | exact hsh2 | rfl)) | ((with_reducible apply Ce.mk); (first | rfl | exact ‹_› | exact cell_recZ (fun _ => rfl) (by omega) (by decide) rfl | exact cell_rec (fun _ => rfl) (by omega) (by decide) rfl | exact cell_bytes (by omega) | exact cell_mapZ (by omega) | exact cell_map (by omega))) | exact True.intro | exact rfl)
        all_goals first
          | (exfalso; omega)
          | (exfalso; exact hgo ⟨by omega, by assumption⟩)
          | skip
        · have hcap := pow_cap hi
          obtain ⟨R, hR⟩ : ∃ R, vacc l i 1 (vlow f i) = R := ⟨_, rfl⟩
          have hbd := vbnd_in i hi
          have hBo := fun h => bound_any i h hi
          rw [hR]
          generalize hT : (2 : Int) ^ (7 - i) * 256 ^ i = T at hcap
          refine w_loop (S := Nat × Int × Int) (fun x => [(0, gptr n 0 2), (6, I i), (7, .int .u64 x.2.1), (8, I ((x.1 : Int) + 1))]) (fun _ => rdB n l e :: h) (fun x => x.1 ≤ i ∧ (0 ≤ x.2.1 ∧ x.2.1 < x.2.2 ∧ x.2.2 * 256 ^ (i - x.1) = T) ∧ vacc l (i - x.1) (x.1 + 1) x.2.1 = R) (fun x => i - x.1) (0, vlow f i, 2 ^ (7 - i)) ⟨Nat.zero_le _, ⟨hlo.1, hlo.2, hT⟩, hR⟩ (by repeat' (first | exact trivial | refine ⟨rfl, ?_⟩ | refine ⟨congrArg some ?_, ?_⟩)) (by repeat (first | with_reducible exact Take.nil | with_reducible apply Take.c | ((with_reducible apply Take.cE); (first | exact rfl | (apply blkE; (focus (first | exact rfl | exact recs_snocE rfl | exact map_snocE rfl | exact congrArg (fun v => [v]) (gslE rfl rfl (by first | rfl | exact ‹_› | omega | (simp ; first | done | omega)) (by first | rfl | exact ‹_› | omega | (simp ; first | done | omega)) rfl)))))) | with_reducible apply Take.drop)) ?_
          rintro ⟨j, v, W⟩ ⟨hj, ⟨hv0, hvW, hWT⟩, he2⟩
          dsimp only at hj hv0 hvW hWT he2 ⊢
          by_cases hji : j < i
          · rw [show i - j = (i - (j + 1)) + 1 by omega] at hWT he2
            have he2 : vacc l (i - (j + 1)) (j + 1 + 1) (v * 256 + bat l ((j : Int) + 1)) = R := he2
            rw [Int.pow_succ, Int.mul_comm (256 ^ (i - (j + 1))) 256, ← Int.mul_assoc] at hWT
            have hp1 : (1 : Int) ≤ 256 ^ (i - (j + 1)) := one_le_256 _
            have hle := Int.mul_le_mul_of_nonneg_left hp1 (show 0 ≤ W * 256 by omega)
            rw [hWT] at hle
            have hb := bat_255 l ((j : Int) + 1)
            have hshl : IntKind.u64.wrap (v * 2 ^ (min (Int.toNat 8) IntKind.u64.bits)) = v * 256 := by
              rw [show (2 : Int) ^ (min (Int.toNat 8) IntKind.u64.bits) = 256 from rfl]
              exact IntWalk.u64_in _ (by omega)
            have hor := or256 (v := v) (b := bat l ((j : Int) + 1)) (by omega) (by omega)
            repeat' (first | apply w_seq | apply w_region | apply o_nil | (apply o_g tyOk; exact rfl; exact rfl) | (apply o_ar tyOk; exact rfl; exact rfl) | (apply o_load tyOk; (iterate 3 exact rfl); (focus (exact pk))) | (apply w_dT; exact rfl; (focus (first | exact ‹_› | with_reducible exact rfl | omega))) | apply thenS_normal | apply blockS_normal | apply w_skip | apply w_block | ((with_reducible apply Sd.mk); (first | exact True.intro | omega | (constructor <;> first | omega | (unfold maxLen; omega)) | (unfold maxLen; omega))) | ((with_reducible apply Ln.mk); (first | rfl | exact ‹_› | omega | (simp ; first | done | omega))) | ((with_reducible apply Wr.mk); (first | exact hshl | exact hor | exact IntWalk.i64_in _ (by omega) | exact IntWalk.u8_in _ (by omega) | exact IntWalk.u32_in _ (by omega) | exact IntWalk.u64_in _ (by omega) | exact IntKind.wrap_u8 _ | exact IntKind.wrap_u32 _ | rfl)) | ((with_reducible apply Ce.mk); (first | rfl | exact ‹_› | exact cell_recZ (fun _ => rfl) (by omega) (by decide) rfl | exact cell_rec (fun _ => rfl) (by omega) (by decide) rfl | exact cell_bytes (by omega) | exact cell_mapZ (by omega) | exact cell_map (by omega))) | exact True.intro | exact rfl)
            all_goals first
              | (exfalso; omega)
              | exact ⟨(j + 1, v * 256 + bat l ((j : Int) + 1), W * 256), ⟨hji, ⟨by dsimp only; omega, by dsimp only; omega, hWT⟩, he2⟩, by show i - (j + 1) < i - j; omega, (by repeat' (first | exact trivial | refine ⟨rfl, ?_⟩ | refine ⟨congrArg some ?_, ?_⟩)), (by repeat (first | with_reducible exact Take.nil | with_reducible apply Take.c | ((with_reducible apply Take.cE); (first | exact rfl | (apply blkE; (focus (first | exact rfl | exact recs_snocE rfl | exact map_snocE rfl | exact congrArg (fun v => [v]) (gslE rfl rfl (by first | rfl | exact ‹_› | omega | (simp ; first | done | omega)) (by first | rfl | exact ‹_› | omega | (simp ; first | done | omega)) rfl)))))) | with_reducible apply Take.drop))⟩
              | trace_state
          · obtain rfl : j = i := by omega
            rw [Nat.sub_self] at hWT he2
            rw [Int.pow_zero, Int.mul_one] at hWT
            have he2 : v = R := he2
            rw [← he2]
            repeat' (first | apply w_seq | apply w_region | apply o_nil | (apply o_g tyOk; exact rfl; exact rfl) | (apply o_ar tyOk; exact rfl; exact rfl) | (apply o_call; exact rfl; exact rfl; (focus (first | exact rfl | assumption)); exact rfl; (focus (exact ⟨_, hBo _, by repeat (first | with_reducible exact Take.nil | with_reducible apply Take.c | with_reducible apply Take.drop)⟩)); rintro _ _ ⟨rfl, rfl⟩) | (apply w_dF; exact rfl; (focus (first | exact ‹_› | with_reducible exact rfl | omega))) | (apply w_if; exact rfl; all_goals intro hc) | apply thenS_normal | apply thenS_ret | apply thenS_exit | apply blockS_exit | apply w_skip | apply w_ret | apply w_exit | ((with_reducible apply Sd.mk); (first | exact True.intro | omega | (constructor <;> first | omega | (unfold maxLen; omega)) | (unfold maxLen; omega))) | ((with_reducible apply Wr.mk); (first | exact IntWalk.i64_in _ (by omega) | exact IntWalk.u8_in _ (by omega) | exact IntWalk.u32_in _ (by omega) | exact IntWalk.u64_in _ (by omega) | exact IntKind.wrap_u8 _ | exact IntKind.wrap_u32 _ | rfl)))
            all_goals first
              | (exfalso; omega)
              | (rw [if_pos (by assumption)]; (apply s_fin; (exact (show ResS _ _ _ _ [_, _, _] from ⟨rfl, ⟨rfl, ⟨rfl, trivial⟩⟩⟩)); (focus (exact ⟨rfl, rfl⟩)); (focus (repeat (first | with_reducible exact Take.nil | with_reducible apply Take.c | ((with_reducible apply Take.cE); (first | exact rfl | (apply blkE; (focus (first | exact rfl | exact recs_snocE rfl | exact map_snocE rfl | exact congrArg (fun v => [v]) (gslE rfl rfl (by first | rfl | exact ‹_› | omega | (simp ; first | done | omega)) (by first | rfl | exact ‹_› | omega | (simp ; first | done | omega)) rfl)))))) | with_reducible apply Take.drop)))))
              | (rw [if_neg (by assumption)]; (apply s_fin; (exact (show ResS _ _ _ _ [_, _, _] from ⟨rfl, ⟨rfl, ⟨rfl, trivial⟩⟩⟩)); (focus (exact ⟨rfl, rfl⟩)); (focus (repeat (first | with_reducible exact Take.nil | with_reducible apply Take.c | ((with_reducible apply Take.cE); (first | exact rfl | (apply blkE; (focus (first | exact rfl | exact recs_snocE rfl | exact map_snocE rfl | exact congrArg (fun v => [v]) (gslE rfl rfl (by first | rfl | exact ‹_› | omega | (simp ; first | done | omega)) (by first | rfl | exact ‹_› | omega | (simp ; first | done | omega)) rfl)))))) | with_reducible apply Take.drop)))))
              | trace_state
        · have hcap := pow_cap hi
          obtain ⟨R, hR⟩ : ∃ R, vacc l i 1 (vlow f i) = R := ⟨_, rfl⟩
          have hbd := vbnd_in i hi
          have hBo := fun h => bound_any i h hi
          rw [hR]
          generalize hT : (2 : Int) ^ (7 - i) * 256 ^ i = T at hcap
          refine w_loop (S := Nat × Int × Int) (fun x => [(0, gptr n 0 2), (6, I i), (7, .int .u64 x.2.1), (8, I ((x.1 : Int) + 1))]) (fun _ => rdB n l e :: h) (fun x => x.1 ≤ i ∧ (0 ≤ x.2.1 ∧ x.2.1 < x.2.2 ∧ x.2.2 * 256 ^ (i - x.1) = T) ∧ vacc l (i - x.1) (x.1 + 1) x.2.1 = R) (fun x => i - x.1) (0, vlow f i, 2 ^ (7 - i)) ⟨Nat.zero_le _, ⟨hlo.1, hlo.2, hT⟩, hR⟩ (by repeat' (first | exact trivial | refine ⟨rfl, ?_⟩ | refine ⟨congrArg some ?_, ?_⟩)) (by repeat (first | with_reducible exact Take.nil | with_reducible apply Take.c | ((with_reducible apply Take.cE); (first | exact rfl | (apply blkE; (focus (first | exact rfl | exact recs_snocE rfl | exact map_snocE rfl | exact congrArg (fun v => [v]) (gslE rfl rfl (by first | rfl | exact ‹_› | omega | (simp ; first | done | omega)) (by first | rfl | exact ‹_› | omega | (simp ; first | done | omega)) rfl)))))) | with_reducible apply Take.drop)) ?_
          rintro ⟨j, v, W⟩ ⟨hj, ⟨hv0, hvW, hWT⟩, he2⟩
          dsimp only at hj hv0 hvW hWT he2 ⊢
          by_cases hji : j < i
          · rw [show i - j = (i - (j + 1)) + 1 by omega] at hWT he2
            have he2 : vacc l (i - (j + 1)) (j + 1 + 1) (v * 256 + bat l ((j : Int) + 1)) = R := he2
            rw [Int.pow_succ, Int.mul_comm (256 ^ (i - (j + 1))) 256, ← Int.mul_assoc] at hWT
            have hp1 : (1 : Int) ≤ 256 ^ (i - (j + 1)) := one_le_256 _
            have hle := Int.mul_le_mul_of_nonneg_left hp1 (show 0 ≤ W * 256 by omega)
            rw [hWT] at hle
            have hb := bat_255 l ((j : Int) + 1)
            have hshl : IntKind.u64.wrap (v * 2 ^ (min (Int.toNat 8) IntKind.u64.bits)) = v * 256 := by
              rw [show (2 : Int) ^ (min (Int.toNat 8) IntKind.u64.bits) = 256 from rfl]
              exact IntWalk.u64_in _ (by omega)
            have hor := or256 (v := v) (b := bat l ((j : Int) + 1)) (by omega) (by omega)
            repeat' (first | apply w_seq | apply w_region | apply o_nil | (apply o_g tyOk; exact rfl; exact rfl) | (apply o_ar tyOk; exact rfl; exact rfl) | (apply o_load tyOk; (iterate 3 exact rfl); (focus (exact pk))) | (apply w_dT; exact rfl; (focus (first | exact ‹_› | with_reducible exact rfl | omega))) | apply thenS_normal | apply blockS_normal | apply w_skip | apply w_block | ((with_reducible apply Sd.mk); (first | exact True.intro | omega | (constructor <;> first | omega | (unfold maxLen; omega)) | (unfold maxLen; omega))) | ((with_reducible apply Ln.mk); (first | rfl | exact ‹_› | omega | (simp ; first | done | omega))) | ((with_reducible apply Wr.mk); (first | exact hshl | exact hor | exact IntWalk.i64_in _ (by omega) | exact IntWalk.u8_in _ (by omega) | exact IntWalk.u32_in _ (by omega) | exact IntWalk.u64_in _ (by omega) | exact IntKind.wrap_u8 _ | exact IntKind.wrap_u32 _ | rfl)) | ((with_reducible apply Ce.mk); (first | rfl | exact ‹_› | exact cell_recZ (fun _ => rfl) (by omega) (by decide) rfl | exact cell_rec (fun _ => rfl) (by omega) (by decide) rfl | exact cell_bytes (by omega) | exact cell_mapZ (by omega) | exact cell_map (by omega))) | exact True.intro | exact rfl)
            all_goals first
              | (exfalso; omega)
              | exact ⟨(j + 1, v * 256 + bat l ((j : Int) + 1), W * 256), ⟨hji, ⟨by dsimp only; omega, by dsimp only; omega, hWT⟩, he2⟩, by show i - (j + 1) < i - j; omega, (by repeat' (first | exact trivial | refine ⟨rfl, ?_⟩ | refine ⟨congrArg some ?_, ?_⟩)), (by repeat (first | with_reducible exact Take.nil | with_reducible apply Take.c | ((with_reducible apply Take.cE); (first | exact rfl | (apply blkE; (focus (first | exact rfl | exact recs_snocE rfl | exact map_snocE rfl | exact congrArg (fun v => [v]) (gslE rfl rfl (by first | rfl | exact ‹_› | omega | (simp ; first | done | omega)) (by first | rfl | exact ‹_› | omega | (simp ; first | done | omega)) rfl)))))) | with_reducible apply Take.drop))⟩
              | trace_state
          · obtain rfl : j = i := by omega
            rw [Nat.sub_self] at hWT he2
            rw [Int.pow_zero, Int.mul_one] at hWT
            have he2 : v = R := he2
            rw [← he2]
            repeat' (first | apply w_seq | apply w_region | apply o_nil | (apply o_g tyOk; exact rfl; exact rfl) | (apply o_ar tyOk; exact rfl; exact rfl) | (apply o_call; exact rfl; exact rfl; (focus (first | exact rfl | assumption)); exact rfl; (focus (exact ⟨_, hBo _, by repeat (first | with_reducible exact Take.nil | with_reducible apply Take.c | with_reducible apply Take.drop)⟩)); rintro _ _ ⟨rfl, rfl⟩) | (apply w_dF; exact rfl; (focus (first | exact ‹_› | with_reducible exact rfl | omega))) | (apply w_if; exact rfl; all_goals intro hc) | apply thenS_normal | apply thenS_ret | apply thenS_exit | apply blockS_exit | apply w_skip | apply w_ret | apply w_exit | ((with_reducible apply Sd.mk); (first | exact True.intro | omega | (constructor <;> first | omega | (unfold maxLen; omega)) | (unfold maxLen; omega))) | ((with_reducible apply Wr.mk); (first | exact IntWalk.i64_in _ (by omega) | exact IntWalk.u8_in _ (by omega) | exact IntWalk.u32_in _ (by omega) | exact IntWalk.u64_in _ (by omega) | exact IntKind.wrap_u8 _ | exact IntKind.wrap_u32 _ | rfl)))
            all_goals first
              | (exfalso; omega)
              | (rw [if_pos (by assumption)]; (apply s_fin; (exact (show ResS _ _ _ _ [_, _, _] from ⟨rfl, ⟨rfl, ⟨rfl, trivial⟩⟩⟩)); (focus (exact ⟨rfl, rfl⟩)); (focus (repeat (first | with_reducible exact Take.nil | with_reducible apply Take.c | ((with_reducible apply Take.cE); (first | exact rfl | (apply blkE; (focus (first | exact rfl | exact recs_snocE rfl | exact map_snocE rfl | exact congrArg (fun v => [v]) (gslE rfl rfl (by first | rfl | exact ‹_› | omega | (simp ; first | done | omega)) (by first | rfl | exact ‹_› | omega | (simp ; first | done | omega)) rfl)))))) | with_reducible apply Take.drop)))))
              | (rw [if_neg (by assumption)]; (apply s_fin; (exact (show ResS _ _ _ _ [_, _, _] from ⟨rfl, ⟨rfl, ⟨rfl, trivial⟩⟩⟩)); (focus (exact ⟨rfl, rfl⟩)); (focus (repeat (first | with_reducible exact Take.nil | with_reducible apply Take.c | ((with_reducible apply Take.cE); (first | exact rfl | (apply blkE; (focus (first | exact rfl | exact recs_snocE rfl | exact map_snocE rfl | exact congrArg (fun v => [v]) (gslE rfl rfl (by first | rfl | exact ‹_› | omega | (simp ; first | done | omega)) (by first | rfl | exact ‹_› | omega | (simp ; first | done | omega)) rfl)))))) | with_reducible apply Take.drop)))))
              | trace_state
end Go.Proofs.Ytinfmojbdaiogaa
end
section
set_option linter.unusedVariables false
set_option linter.unusedSimpArgs false
set_option maxRecDepth 4000
namespace Go.Proofs.Ytinfmojbdaiogaa
open Go.Gh Go.RowKit

theorem same_any (x : Int) (h : SH) : SRun Try.prog 104 [I x] h fun r q => r = I x ∧ q = h := by
  refine w_body1 Try.func104 rfl rfl ?_
  repeat' (first | apply w_seq | apply w_region | apply o_nil | (apply o_g tyOk; exact rfl; exact rfl) | apply thenS_normal | apply w_ret | ((with_reducible apply Sd.mk); (first | exact True.intro | omega | (constructor <;> first | omega | (unfold maxLen; omega)) | (unfold maxLen; omega))))
  all_goals first
    | (apply s_fin; (exact (show ResS _ _ _ _ [_] from ⟨rfl, trivial⟩)); (focus (exact ⟨rfl, rfl⟩)); (focus (repeat (first | with_reducible exact Take.nil | with_reducible apply Take.c | ((with_reducible apply Take.cE); (first | exact rfl | (apply blkE; (focus (first | exact rfl | exact recs_snocE rfl | exact map_snocE rfl | exact congrArg (fun v => [v]) (gslE rfl rfl (by first | rfl | exact ‹_› | omega | (simp ; first | done | omega)) (by first | rfl | exact ‹_› | omega | (simp ; first | done | omega)) rfl)))))) | with_reducible apply Take.drop))))
    | trace_state
/-- What a reader without an error reads: number, rest, error. -/
def rdN (l : List UInt8) (m : Int) : Int × List UInt8 × Int :=
  if (vpeek l).2.2 = false then (0, l, 12) else if (vpeek l).1 < 0 ∨ m < (vpeek l).1 then (0, l, 2) else ((vpeek l).1, l.drop (vpeek l).2.1.toNat, 0)
theorem vpeek_len (l : List UInt8) : 0 ≤ (vpeek l).2.1 ∧ (vpeek l).2.1 ≤ l.length := by
  unfold vpeek
  split
  · simp
  · split
    · simp
    · split
      · simp
      · dsimp only; omega
theorem read_any (n : Nat) (l : List UInt8) (m : Int) (h : SH) (hl : l.length ≤ 100000) : SRun Try.prog 103 [gptr n 0 2, .func (.func 104) ⟨[]⟩ ⟨[]⟩, I 0, I m] (rdB n l 0 :: h) fun r q =>
    r = I (rdN l m).1 ∧ q = rdB n (rdN l m).2.1 (rdN l m).2.2 :: h := by
  have hP := peek_any n l 0 h hl
  have hlen := vpeek_len l
  unfold rdN
  generalize vpeek l = V at *
  obtain ⟨a, s, ok⟩ := V
  dsimp only at *
  by_cases h0 : ok = false
  · subst h0
    rw [if_pos rfl]
    refine w_body4 Try.func103 rfl rfl ?_
    repeat' (first | apply w_seq | apply w_region | apply o_nil | (apply o_g tyOk; exact rfl; exact rfl) | (apply o_notB; exact rfl; exact rfl) | (apply o_load tyOk; (iterate 3 exact rfl); (focus (exact pk))) | (apply o_call; exact rfl; exact rfl; (focus (first | exact rfl | assumption)); exact rfl; (focus (exact ⟨_, hP, by repeat (first | with_reducible exact Take.nil | with_reducible apply Take.c | with_reducible apply Take.drop)⟩)); rintro _ _ ⟨rfl, rfl⟩) | (apply o_call; exact rfl; exact rfl; (focus (first | exact rfl | assumption)); exact rfl; (focus (exact ⟨_, same_any _ _, by repeat (first | with_reducible exact Take.nil | with_reducible apply Take.c | with_reducible apply Take.drop)⟩)); rintro _ _ ⟨rfl, rfl⟩) | (apply o_call; exact rfl; exact rfl; (focus (first | exact rfl | assumption)); exact rfl; (focus (exact ⟨_, rfail_any _ _ _ _ _, by repeat (first | with_reducible exact Take.nil | with_reducible apply Take.c | with_reducible apply Take.drop)⟩)); rintro _ _ rfl) | (apply w_true; exact rfl) | (apply w_false; exact rfl) | apply thenS_normal | apply blockS_normal | apply w_skip | apply w_ret | apply w_block | ((with_reducible apply Sd.mk); (first | exact True.intro | omega | (constructor <;> first | omega | (unfold maxLen; omega)) | (unfold maxLen; omega))) | ((with_reducible apply Ln.mk); (first | rfl | exact ‹_› | omega | (simp ; first | done | omega))) | ((with_reducible apply Ce.mk); (first | rfl | exact ‹_› | exact cell_recZ (fun _ => rfl) (by omega) (by decide) rfl | exact cell_rec (fun _ => rfl) (by omega) (by decide) rfl | exact cell_bytes (by omega) | exact cell_mapZ (by omega) | exact cell_map (by omega))) | exact True.intro | exact rfl)
    all_goals first
      | contradiction
      | (exfalso; omega)
      | (apply s_fin; (exact (show ResS _ _ _ _ [_] from ⟨rfl, trivial⟩)); (focus (exact ⟨rfl, rfl⟩)); (focus (repeat (first | with_reducible exact Take.nil | with_reducible apply Take.c | ((with_reducible apply Take.cE); (first | exact rfl | (apply blkE; (focus (first | exact rfl | exact recs_snocE rfl | exact map_snocE rfl | exact congrArg (fun v => [v]) (gslE rfl rfl (by first | rfl | exact ‹_› | omega | (simp ; first | done | omega)) (by first | rfl | exact ‹_› | omega | (simp ; first | done | omega)) rfl)))))) | with_reducible apply Take.drop))))
      | trace_state
  · obtain rfl : ok = true := by simpa using h0
    rw [if_neg (by decide)]
    by_cases h1 : a < 0 ∨ m < a
    · rw [if_pos h1]
      refine w_body4 Try.func103 rfl rfl ?_
      repeat' (first | apply w_seq | apply w_region | apply o_nil | (apply o_g tyOk; exact rfl; exact rfl) | (apply o_notB; exact rfl; exact rfl) | (apply o_load tyOk; (iterate 3 exact rfl); (focus (exact pk))) | (apply o_call; exact rfl; exact rfl; (focus (first | exact rfl | assumption)); exact rfl; (focus (exact ⟨_, hP, by repeat (first | with_reducible exact Take.nil | with_reducible apply Take.c | with_reducible apply Take.drop)⟩)); rintro _ _ ⟨rfl, rfl⟩) | (apply o_call; exact rfl; exact rfl; (focus (first | exact rfl | assumption)); exact rfl; (focus (exact ⟨_, same_any _ _, by repeat (first | with_reducible exact Take.nil | with_reducible apply Take.c | with_reducible apply Take.drop)⟩)); rintro _ _ ⟨rfl, rfl⟩) | (apply o_call; exact rfl; exact rfl; (focus (first | exact rfl | assumption)); exact rfl; (focus (exact ⟨_, rfail_any _ _ _ _ _, by repeat (first | with_reducible exact Take.nil | with_reducible apply Take.c | with_reducible apply Take.drop)⟩)); rintro _ _ rfl) | (apply o_want; exact rfl; exact rfl) | (apply o_skip; iterate 4 exact rfl) | (apply o_guardF; (iterate 3 exact rfl); all_goals intro hc) | (apply w_true; exact rfl) | (apply w_false; exact rfl) | (apply w_dT; exact rfl; (focus (first | exact ‹_› | with_reducible exact rfl | omega))) | apply thenS_normal | apply blockS_normal | apply w_skip | apply w_ret | apply w_block | ((with_reducible apply Sd.mk); (first | exact True.intro | omega | (constructor <;> first | omega | (unfold maxLen; omega)) | (unfold maxLen; omega))) | ((with_reducible apply Ln.mk); (first | rfl | exact ‹_› | omega | (simp ; first | done | omega))) | ((with_reducible apply Ce.mk); (first | rfl | exact ‹_› | exact cell_recZ (fun _ => rfl) (by omega) (by decide) rfl | exact cell_rec (fun _ => rfl) (by omega) (by decide) rfl | exact cell_bytes (by omega) | exact cell_mapZ (by omega) | exact cell_map (by omega))) | exact True.intro | exact rfl)
      all_goals first
        | contradiction
        | (exfalso; omega)
        | (apply s_fin; (exact (show ResS _ _ _ _ [_] from ⟨rfl, trivial⟩)); (focus (exact ⟨rfl, rfl⟩)); (focus (repeat (first | with_reducible exact Take.nil | with_reducible apply Take.c | ((with_reducible apply Take.cE); (first | exact rfl | (apply blkE; (focus (first | exact rfl | exact recs_snocE rfl | exact map_snocE rfl | exact congrArg (fun v => [v]) (gslE rfl rfl (by first | rfl | exact ‹_› | omega | (simp ; first | done | omega)) (by first | rfl | exact ‹_› | omega | (simp ; first | done | omega)) rfl)))))) | with_reducible apply Take.drop))))
        | trace_state
    · rw [if_neg h1]
      refine w_body4 Try.func103 rfl rfl ?_
      repeat' (first | apply w_seq | apply w_region | apply o_nil | (apply o_g tyOk; exact rfl; exact rfl) | (apply o_notB; exact rfl; exact rfl) | (apply o_load tyOk; (iterate 3 exact rfl); (focus (exact pk))) | (apply o_store tyOk; (iterate 4 exact rfl); (focus (exact up))) | (apply o_call; exact rfl; exact rfl; (focus (first | exact rfl | assumption)); exact rfl; (focus (exact ⟨_, hP, by repeat (first | with_reducible exact Take.nil | with_reducible apply Take.c | with_reducible apply Take.drop)⟩)); rintro _ _ ⟨rfl, rfl⟩) | (apply o_call; exact rfl; exact rfl; (focus (first | exact rfl | assumption)); exact rfl; (focus (exact ⟨_, same_any _ _, by repeat (first | with_reducible exact Take.nil | with_reducible apply Take.c | with_reducible apply Take.drop)⟩)); rintro _ _ ⟨rfl, rfl⟩) | (apply o_want; exact rfl; exact rfl) | (apply o_gF; (iterate 3 exact rfl); (focus (first | exact ‹_› | with_reducible exact rfl | omega))) | (apply w_false; exact rfl) | (apply w_dF; exact rfl; (focus (first | exact ‹_› | with_reducible exact rfl | omega))) | apply thenS_normal | apply thenS_ret | apply blockS_ret | apply w_skip | apply w_ret | apply w_block | ((with_reducible apply Sd.mk); (first | exact True.intro | omega | (constructor <;> first | omega | (unfold maxLen; omega)) | (unfold maxLen; omega))) | ((with_reducible apply Ln.mk); (first | rfl | exact ‹_› | omega | (simp ; first | done | omega))) | ((with_reducible apply Ce.mk); (first | rfl | exact ‹_› | exact cell_recZ (fun _ => rfl) (by omega) (by decide) rfl | exact cell_rec (fun _ => rfl) (by omega) (by decide) rfl | exact cell_bytes (by omega) | exact cell_mapZ (by omega) | exact cell_map (by omega))) | ((with_reducible apply Se.mk); (first | (focus ((repeat (first | exact SetAt.zero | apply SetAt.succ)); done)) | exact setAt_bytes (by omega) (by omega) | exact setAt_mapZ (by omega) | exact setAt_map (by omega))) | exact True.intro | exact rfl)
      all_goals first
        | contradiction
        | (exfalso; omega)
        | (apply s_fin; (exact (show ResS _ _ _ _ [_] from ⟨rfl, trivial⟩)); (focus (exact ⟨rfl, rfl⟩)); (focus (repeat (first | with_reducible exact Take.nil | with_reducible apply Take.c | ((with_reducible apply Take.cE); (first | exact rfl | (apply blkE; (focus (first | exact rfl | exact recs_snocE rfl | exact map_snocE rfl | exact congrArg (fun v => [v]) (gslE rfl rfl (by first | rfl | exact ‹_› | omega | (simp ; first | done | omega)) (by first | rfl | exact ‹_› | omega | (simp ; first | done | omega)) rfl)))))) | with_reducible apply Take.drop))))
        | trace_state
theorem rNumber_any (n : Nat) (l : List UInt8) (m : Int) (h : SH) (hl : l.length ≤ 100000) : SRun Try.prog 79 [gptr n 0 2, I m] (rdB n l 0 :: h) fun r q =>
    r = I (rdN l m).1 ∧ q = rdB n (rdN l m).2.1 (rdN l m).2.2 :: h := by
  have hR := read_any n l m h hl
  generalize rdN l m = V at *
  refine w_body2 Try.func79 rfl rfl ?_
  repeat' (first | apply w_seq | apply w_region | apply o_nil | (apply o_g tyOk; exact rfl; exact rfl) | (apply o_call; exact rfl; exact rfl; (focus (first | exact rfl | assumption)); exact rfl; (focus (exact ⟨_, hR, by repeat (first | with_reducible exact Take.nil | with_reducible apply Take.c | with_reducible apply Take.drop)⟩)); rintro _ _ ⟨rfl, rfl⟩) | apply thenS_normal | apply w_ret | ((with_reducible apply Sd.mk); (first | exact True.intro | omega | (constructor <;> first | omega | (unfold maxLen; omega)) | (unfold maxLen; omega))))
  all_goals first
    | (apply s_fin; (exact (show ResS _ _ _ _ [_] from ⟨rfl, trivial⟩)); (focus (exact ⟨rfl, rfl⟩)); (focus (repeat (first | with_reducible exact Take.nil | with_reducible apply Take.c | ((with_reducible apply Take.cE); (first | exact rfl | (apply blkE; (focus (first | exact rfl | exact recs_snocE rfl | exact map_snocE rfl | exact congrArg (fun v => [v]) (gslE rfl rfl (by first | rfl | exact ‹_› | omega | (simp ; first | done | omega)) (by first | rfl | exact ‹_› | omega | (simp ; first | done | omega)) rfl)))))) | with_reducible apply Take.drop))))
    | trace_state
end Go.Proofs.Ytinfmojbdaiogaa
end
section
set_option linter.unusedVariables false
set_option linter.unusedSimpArgs false
set_option maxRecDepth 4000
namespace Go.Proofs.Ytinfmojbdaiogaa
open Go.Gh Go.RowKit

/-- k bytes, one after the other: the bytes, the decoder behind them. -/
def bdecN : Nat → List Int → Int → Dec → List UInt8 × Dec
  | 0, _, _, d => ([], d)
  | k + 1, P, c, d => (b8 (bdec P c d).2.2 :: (bdecN k (bdec P c d).1 (bdec P c d).2.2 (bdec P c d).2.1).1, (bdecN k (bdec P c d).1 (bdec P c d).2.2 (bdec P c d).2.1).2)
theorem bdec_ok {P : List Int} {c : Int} {d : Dec} (h : DecOk d) (hP : P.length = 2048) (hc : 0 ≤ c ∧ c ≤ 255) : DecOk (bdec P c d).2.1 ∧ (bdec P c d).1.length = 2048 ∧ 0 ≤ (bdec P c d).2.2 ∧ (bdec P c d).2.2 ≤ 255 := by
  have hk : (c / 32).toNat < 8 := by omega
  obtain ⟨h1, h2, h3⟩ := tdec_ok (k := 8) (t := bsel P (c / 32).toNat) (j := 1) h
  have h28 : (2 ^ 8 : Nat) = 256 := rfl
  rw [h28] at h3
  refine ⟨h1, bput_len hP hk (by rw [h2]; exact bsel_len hP hk), Int.natCast_nonneg _, ?_⟩
  show (((tdec 8 (bsel P (c / 32).toNat) d 1).2.2 - 256 : Nat) : Int) ≤ 255
  omega
end Go.Proofs.Ytinfmojbdaiogaa
end
section
set_option linter.unusedVariables false
set_option linter.unusedSimpArgs false
set_option maxRecDepth 4000
namespace Go.Proofs.Ytinfmojbdaiogaa
open Go.Gh Go.RowKit

theorem norm_out : ∀ (k : Nat) (e : Enc), e.out.length ≤ (norm k e).out.length
  | 0, e => Nat.le_refl _
  | k + 1, e => by
    unfold norm
    split
    · have := norm_out k (eshift e)
      have h2 : (eshift e).out.length = e.out.length + 1 := by show (e.out ++ [_]).length = _; simp
      omega
    · exact Nat.le_refl _
theorem fin_len (e : Enc) : (fin e).length = e.out.length + 4 := by unfold fin; rw [List.length_append]; rfl
abbrev e00 : Enc := ⟨[], 0, 4294967295⟩
theorem EncB.re {n : Nat} {h h' p : SH} {e : Enc} (hb : EncB n h e p) (t : Take h h') : ∃ p', EncB n h' e p' ∧ Take p p' := by
  cases hb with
  | nil => exact ⟨_, .nil _ _, .cons .head t⟩
  | some => exact ⟨_, .some _ _ _ _, .cons .head (.cons .head t)⟩
theorem EncB.push {n : Nat} {h p : SH} {e : Enc} (hb : EncB n h e p) (x : Nat × Blk) : ∃ p', EncB n (x :: h) e p' ∧ Take (x :: p) p' := by
  cases hb with
  | nil => exact ⟨_, .nil _ _, .cons (.tail .head) .nil⟩
  | some => exact ⟨_, .some _ _ _ _, .cons (.tail .head) (.cons (.tail .head) .nil)⟩
theorem EncR.re {n : Nat} {p p' : SH} {e : Enc} (hr : EncR n p' e) (t : Take p p') : EncR n p e := by
  cases hr with
  | nil _ _ _ hp => obtain ⟨p1, g, _⟩ := t.pick hp; exact .nil _ _ _ g
  | some _ _ _ _ _ _ hp ha => obtain ⟨p1, g, _⟩ := t.pick hp; obtain ⟨p2, g2, _⟩ := t.pick ha; exact .some _ _ _ _ _ _ g g2
/-- Two encoders, in any order, over other blocks. -/
def E2 (n m : Nat) (h : SH) (e e2 : Enc) (p : SH) : Prop := ∃ q1 p', EncB m h e2 q1 ∧ EncB n q1 e p' ∧ Take p p'
theorem E2.swap {n m : Nat} {h p : SH} {e e2 : Enc} (k : E2 n m h e e2 p) : E2 m n h e2 e p := by
  obtain ⟨q1, p', h1, h2, t⟩ := k
  obtain ⟨r1, r, g1, g2, t2⟩ := h1.swap h2
  exact ⟨r1, r, g1, g2, t.trans t2⟩
theorem E2.re {n m : Nat} {h h' p : SH} {e e2 : Enc} (k : E2 n m h e e2 p) (t : Take h h') : E2 n m h' e e2 p := by
  obtain ⟨q1, p', h1, h2, t1⟩ := k
  obtain ⟨r1, g1, t2⟩ := h1.re t
  obtain ⟨r, g2, t3⟩ := h2.re t2
  exact ⟨r1, r, g1, g2, t1.trans t3⟩
theorem E2.push {n m : Nat} {h p : SH} {e e2 : Enc} (k : E2 n m h e e2 p) (x : Nat × Blk) : E2 n m (x :: h) e e2 (x :: p) := by
  obtain ⟨q1, p', h1, h2, t1⟩ := k
  obtain ⟨r1, g1, t2⟩ := h1.push x
  obtain ⟨r, g2, t3⟩ := h2.push x
  obtain ⟨r', g3, t4⟩ := g2.re t2
  exact ⟨r1, r', g1, g3, (Take.trans (h1 := x :: p') (by obtain ⟨A, b⟩ := x; exact .cons .head t1) t3).trans t4⟩
theorem E2.pick {n m : Nat} {h p : SH} {e e2 : Enc} (k : E2 n m h e e2 p) {A : Nat} {b : Blk} {h1 : SH} (hp : Pick h A b h1) : ∃ p1, Pick p A b p1 := by
  obtain ⟨q1, p', g1, g2, t1⟩ := k
  obtain ⟨r1, hp1⟩ := g1.pick hp
  obtain ⟨r2, hp2⟩ := g2.pick hp1
  obtain ⟨r3, hp3, _⟩ := t1.pick hp2
  exact ⟨r3, hp3⟩
theorem E2.r {n m : Nat} {h p : SH} {e e2 : Enc} (k : E2 n m h e e2 p) : EncR n p e := by
  obtain ⟨q1, p', g1, g2, t1⟩ := k
  exact g2.r.re t1
theorem E2.take {n m : Nat} {h p : SH} {e e2 : Enc} (k : E2 n m h e e2 p) : Take p h := by
  obtain ⟨q1, p', g1, g2, t1⟩ := k
  exact t1.trans (g2.take.trans g1.take)
end Go.Proofs.Ytinfmojbdaiogaa
end
section
set_option linter.unusedVariables false
set_option linter.unusedSimpArgs false
set_option maxRecDepth 4000
namespace Go.Proofs.Ytinfmojbdaiogaa
open Go.Gh Go.RowKit

structure Sz (N : Nat) (s k : Nat) : Prop where
  hi : s * 16384 ^ N ≤ 4294967295 * 256 ^ k * 8193 ^ N
  lo : 4294967295 * 256 ^ k * 8191 ^ N ≤ s * 16384 ^ N
theorem Sz.shift {N s k : Nat} (h : Sz N s k) : Sz N (s * 256) (k + 1) := by
  have e1 : ∀ c, 4294967295 * 256 ^ (k + 1) * c ^ N = 256 * (4294967295 * 256 ^ k * c ^ N) := fun c => by
    rw [Nat.pow_succ, Nat.mul_comm (256 ^ k) 256, ← Nat.mul_assoc, Nat.mul_comm 4294967295 256, Nat.mul_assoc 256, Nat.mul_assoc 256]
  have e2 : s * 256 * 16384 ^ N = 256 * (s * 16384 ^ N) := by rw [Nat.mul_comm s 256, Nat.mul_assoc]
  refine ⟨?_, ?_⟩
  · rw [e1, e2]; exact Nat.mul_le_mul_left _ h.hi
  · rw [e1, e2]; exact Nat.mul_le_mul_left _ h.lo
theorem pow_small {a b : Nat} (hab : a ≤ b) (h : b ^ 1000 < 2 * a ^ 1000) {N : Nat} (hN : N ≤ 1000) : b ^ N < 2 * a ^ N := by
  rcases Nat.lt_or_ge (b ^ N) (2 * a ^ N) with k | k
  · exact k
  · exfalso
    have h1 : a ^ (1000 - N) ≤ b ^ (1000 - N) := Nat.pow_le_pow_left hab _
    have h2 := Nat.mul_le_mul k h1
    rw [Nat.mul_assoc, ← Nat.pow_add, ← Nat.pow_add, show N + (1000 - N) = 1000 by omega] at h2
    omega
theorem Sz.len {N s k : Nat} (h : Sz N s k) (hN : N ≤ 1000) (h1 : 16777216 ≤ s) (h2 : s ≤ 4294967295) : N / 8 ≤ k + 1 ∧ k ≤ N / 8 := by
  have p1 : 8193 ^ N < 2 * 8192 ^ N := pow_small (by decide) (by decide +kernel) hN
  have p2 : 8192 ^ N < 2 * 8191 ^ N := pow_small (by decide) (by decide +kernel) hN
  have e : 16384 ^ N = 2 ^ N * 8192 ^ N := by rw [← Nat.mul_pow]
  have e256 : 256 ^ k = 2 ^ (8 * k) := by rw [Nat.pow_mul]
  have a1 := h.hi
  have a2 := h.lo
  rw [e, e256] at a1 a2
  have q : 0 < 8192 ^ N := Nat.pow_pos (by decide)
  have q' : 0 < 8191 ^ N := Nat.pow_pos (by decide)
  generalize 8192 ^ N = x at *
  generalize 8193 ^ N = y at *
  generalize 8191 ^ N = z at *
  have b1 : 2 ^ N < 2 ^ (8 * k + 9) := by
    have c1 : 16777216 * (2 ^ N * x) ≤ s * (2 ^ N * x) := Nat.mul_le_mul_right _ h1
    have c2 : 4294967295 * 2 ^ (8 * k) * y ≤ 4294967295 * 2 ^ (8 * k) * (2 * x) := Nat.mul_le_mul_left _ (by omega)
    rcases Nat.lt_or_ge (2 ^ N) (2 ^ (8 * k + 9)) with g | g
    · exact g
    · exfalso
      have c3 : 16777216 * (2 ^ (8 * k + 9) * x) ≤ 16777216 * (2 ^ N * x) := Nat.mul_le_mul_left _ (Nat.mul_le_mul_right _ g)
      have c4 : 2 ^ (8 * k + 9) * x = 512 * (2 ^ (8 * k) * x) := by rw [Nat.pow_add, Nat.mul_comm (2 ^ (8 * k)), Nat.mul_assoc]
      have c5 : 4294967295 * 2 ^ (8 * k) * (2 * x) = 8589934590 * (2 ^ (8 * k) * x) := by rw [Nat.mul_left_comm, ← Nat.mul_assoc, ← Nat.mul_assoc, ← Nat.mul_assoc]
      have c6 : 0 < 2 ^ (8 * k) * x := Nat.mul_pos (Nat.pow_pos (by decide)) q
      omega
  have b2 : 2 ^ (8 * k) < 2 ^ (N + 1) := by
    have c1 : s * (2 ^ N * x) ≤ 4294967295 * (2 ^ N * x) := Nat.mul_le_mul_right _ h2
    have c2 : 2 ^ N * x < 2 ^ N * (2 * z) := Nat.mul_lt_mul_of_pos_left p2 (Nat.pow_pos (by decide))
    have c3 : 4294967295 * 2 ^ (8 * k) * z = 4294967295 * (2 ^ (8 * k) * z) := Nat.mul_assoc _ _ _
    have c4 : 2 ^ N * (2 * z) = 2 ^ (N + 1) * z := by rw [Nat.pow_succ, Nat.mul_assoc]
    have c5 : 2 ^ (8 * k) * z < 2 ^ (N + 1) * z := by omega
    exact Nat.lt_of_mul_lt_mul_right c5
  have d1 := (Nat.pow_lt_pow_iff_right (by decide : 1 < 2)).1 b1
  have d2 := (Nat.pow_lt_pow_iff_right (by decide : 1 < 2)).1 b2
  omega

abbrev boF (b : Bool) : List Value := [B b]
theorem boW (b : Bool) : (boF b).length = 1 := rfl
@[simp] theorem len_bos (l : List Bool) : (recs boF l).length = l.length := by rw [recs_len boW]; omega
end Go.Proofs.Ytinfmojbdaiogaa
end
section
set_option linter.unusedVariables false
set_option linter.unusedSimpArgs false
set_option maxRecDepth 4000
namespace Go.Proofs.Ytinfmojbdaiogaa
open Go.Gh Go.RowKit

def val (l : List UInt8) : Nat := l.foldl (fun a c => a * 256 + c.toNat) 0
theorem foldl_val (l : List UInt8) : ∀ a : Nat, l.foldl (fun a c => a * 256 + c.toNat) a = a * 256 ^ l.length + val l := by
  induction l with
  | nil => intro a; simp [val]
  | cons c r ih =>
    intro a
    have h1 := ih (a * 256 + c.toNat)
    have h2 := ih (0 * 256 + c.toNat)
    simp only [List.foldl_cons, List.length_cons]
    rw [h1, show val (c :: r) = (0 * 256 + c.toNat) * 256 ^ r.length + val r from h2, Nat.pow_succ]
    rw [Nat.add_mul, Nat.zero_mul, Nat.zero_add, Nat.mul_assoc, Nat.mul_comm 256]
    omega
theorem val_app (l m : List UInt8) : val (l ++ m) = val l * 256 ^ m.length + val m := by
  show (l ++ m).foldl _ 0 = _
  rw [List.foldl_append, foldl_val m]; rfl
theorem val_one (c : UInt8) : val [c] = c.toNat := by simp [val]
theorem val_snoc (l : List UInt8) (c : UInt8) : val (l ++ [c]) = val l * 256 + c.toNat := by rw [val_app, val_one]; rfl
theorem val_cons (c : UInt8) (l : List UInt8) : val (c :: l) = c.toNat * 256 ^ l.length + val l := by
  have := val_app [c] l
  rw [val_one] at this; exact this
theorem val_lt : ∀ l : List UInt8, val l < 256 ^ l.length
  | [] => by decide
  | c :: r => by
    have h1 := val_lt r
    have h2 := c.toNat_lt
    rw [val_cons, List.length_cons, Nat.pow_succ]
    have h3 : c.toNat * 256 ^ r.length ≤ 255 * 256 ^ r.length := Nat.mul_le_mul_right _ (by omega)
    omega
theorem b8_nat {n : Int} (h : 0 ≤ n ∧ n < 256) : ((b8 n).toNat : Int) = n := b8_val h

theorem bat_mid (P R : List UInt8) (c : UInt8) : bat (P ++ c :: R) (P.length : Nat) = c.toNat := by
  unfold bat
  rw [Int.toNat_natCast, List.getD_eq_getElem?_getD, List.getElem?_append_right (Nat.le_refl _), Nat.sub_self]; rfl
theorem set_mid (P R : List UInt8) (c d : UInt8) : (P ++ c :: R).set P.length d = P ++ d :: R := by
  rw [List.set_append_right _ _ (Nat.le_refl _), Nat.sub_self]; rfl
/-- One more, where there is room for it. -/
theorem carryAt_val : ∀ (n : Nat) (P R : List UInt8), P.length = n → val P + 1 < 256 ^ n → ∃ P', carryAt (P ++ R) n = P' ++ R ∧ P'.length = n ∧ val P' = val P + 1
  | 0, P, R, h, hv => by simp at hv
  | n + 1, P, R, h, hv => by
    obtain ⟨Q, c, rfl⟩ : ∃ Q c, P = Q ++ [c] := ⟨P.dropLast, P.getLast (fun e => by subst e; simp at h), (List.dropLast_concat_getLast _).symm⟩
    have hQ : Q.length = n := by simpa using h
    subst hQ
    rw [List.append_assoc, List.singleton_append]
    have hc := c.toNat_lt
    unfold carryAt
    rw [bat_mid, set_mid]
    split
    · rename_i h1
      refine ⟨Q ++ [b8 (((c.toNat : Int) + 1) % 256)], by simp, by simp, ?_⟩
      rw [val_snoc, val_snoc]
      have := b8_nat (n := ((c.toNat : Int) + 1) % 256) (by omega)
      omega
    · rename_i h1
      have h2 : ((c.toNat : Int) + 1) % 256 = 0 := Classical.not_not.1 h1
      have h3 : c.toNat = 255 := by omega
      rw [val_snoc, Nat.pow_succ] at hv
      obtain ⟨Q', g1, g2, g3⟩ := carryAt_val Q.length Q (b8 (((c.toNat : Int) + 1) % 256) :: R) rfl (by omega)
      refine ⟨Q' ++ [b8 (((c.toNat : Int) + 1) % 256)], by rw [g1]; simp, by simp [g2], ?_⟩
      rw [val_snoc, val_snoc, g3]
      have := b8_nat (n := ((c.toNat : Int) + 1) % 256) (by omega)
      omega
theorem carry_val {l : List UInt8} (h : val l + 1 < 256 ^ l.length) : val (carry l) = val l + 1 := by
  obtain ⟨P, g1, g2, g3⟩ := carryAt_val l.length l [] rfl h
  rw [List.append_nil, List.append_nil] at g1
  unfold carry; rw [g1, g3]

/-- The lower end of an encoder's interval, in units of 256^-(4 + bytes). -/
def num' (e : Enc) : Int := (val e.out : Int) * 4294967296 + e.low
/-- The interval lies between 0 and 1. -/
def InB (e : Enc) : Prop := num' e + e.size ≤ 4294967296 * ((256 ^ e.out.length : Nat) : Int)
theorem fin_val {e : Enc} (h : 0 ≤ e.low ∧ e.low ≤ 4294967295) : (val (fin e) : Int) = num' e := by
  unfold fin num'
  rw [val_app]
  have h4 : val (tail4 e.low) = e.low.toNat := by
    unfold tail4
    rw [val_cons, val_cons, val_cons, val_one]
    have a1 := b8_nat (n := e.low / 16777216) (by omega)
    have a2 := b8_nat (n := e.low / 65536 % 256) (by omega)
    have a3 := b8_nat (n := e.low / 256 % 256) (by omega)
    have a4 := b8_nat (n := e.low % 256) (by omega)
    simp only [List.length_cons, List.length_nil]
    omega
  rw [h4, show (tail4 e.low).length = 4 from rfl]
  omega
theorem estep_num {n : Nat} {e : Enc} (hok : EncOk n e) (hi : InB e) (z b : Int) : num' (estep e z b) = num' e + (if b = 0 then 0 else bound e.size z) ∧ InB (estep e z b) ∧ (estep e z b).out.length = e.out.length ∧
    (estep e z b).size = if b = 0 then bound e.size z else e.size - bound e.size z := by
  have hd := size_dvd hok.size z
  have hl := hok.low
  unfold InB num' at hi
  unfold estep
  split
  · refine ⟨by unfold num'; dsimp only; omega, ?_, rfl, rfl⟩
    unfold InB num'; dsimp only; omega
  · split
    · have hlt : val e.out + 1 < 256 ^ e.out.length := by
        generalize 256 ^ e.out.length = w at *; omega
      have hc := carry_val hlt
      refine ⟨by unfold num'; dsimp only; rw [hc]; omega, ?_, carry_len _, rfl⟩
      unfold InB num'; dsimp only; rw [hc, carry_len]; omega
    · refine ⟨by unfold num'; dsimp only; omega, ?_, rfl, rfl⟩
      unfold InB num'; dsimp only; omega
theorem eshift_num {e : Enc} (h : 0 ≤ e.low ∧ e.low ≤ 4294967295) : num' (eshift e) = num' e * 256 ∧ (eshift e).out.length = e.out.length + 1 ∧ (eshift e).size = e.size * 256 := by
  refine ⟨?_, by show (e.out ++ [_]).length = _; simp, rfl⟩
  show (val (e.out ++ [_]) : Int) * 4294967296 + e.low * 256 % 4294967296 = ((val e.out : Int) * 4294967296 + e.low) * 256
  rw [val_snoc]
  have := b8_nat (n := e.low / 16777216) (by omega)
  omega
end Go.Proofs.Ytinfmojbdaiogaa
end
section
set_option linter.unusedVariables false
set_option linter.unusedSimpArgs false
set_option maxRecDepth 4000
namespace Go.Proofs.Ytinfmojbdaiogaa
open Go.Gh Go.RowKit

/-- The decoder of D stands where the encoder stands. -/
structure Syn (D : List UInt8) (e : Enc) (d : Dec) : Prop where
  size : d.size = e.size
  len : e.out.length + 4 ≤ D.length
  rest : d.rest = D.drop (e.out.length + 4)
  miss : d.missing = false
  code : d.code = (val (D.take (e.out.length + 4)) : Int) - num' e
  rng : 0 ≤ d.code ∧ d.code < d.size
theorem dstep_syn {D : List UInt8} {n : Nat} {e : Enc} {d : Dec} (s : Syn D e d) (hok : EncOk n e) (hi : InB e) (z b : Int) (hb : b = 0 ↔ (dstep d z).2 = 0) : Syn D (estep e z b) (dstep d z).1 := by
  obtain ⟨h1, h2, h3, h4⟩ := estep_num hok hi z b
  have hd := size_dvd hok.size z
  have hs := s.size
  have hr := s.rng
  have hc := s.code
  unfold dstep at hb ⊢
  rw [hs] at hb ⊢
  split at hb
  · rename_i hlt
    rw [if_pos hlt]
    have hb0 : b = 0 := hb.2 rfl
    rw [if_pos hb0] at h1 h4
    exact ⟨h4.symm, by rw [h3]; exact s.len, by rw [h3]; exact s.rest, s.miss, by rw [h3, h1]; dsimp only; omega, by dsimp only; omega⟩
  · rename_i hlt
    rw [if_neg hlt]
    have hb0 : ¬ b = 0 := fun h => by have := hb.1 h; cases this
    rw [if_neg hb0] at h1 h4
    exact ⟨h4.symm, by rw [h3]; exact s.len, by rw [h3]; exact s.rest, s.miss, by rw [h3, h1]; dsimp only; omega, by dsimp only; omega⟩
/-- A byte more. -/
theorem dnext_syn {D : List UInt8} {e : Enc} {d : Dec} (s : Syn D e d) (hl : 0 ≤ e.low ∧ e.low ≤ 4294967295) (hsz : e.size < 16777216) (hD : e.out.length + 5 ≤ D.length) : Syn D (eshift e) { dnext d with size := (dnext d).size * 256 } := by
  obtain ⟨h1, h2, h3⟩ := eshift_num hl
  have hlt : e.out.length + 4 < D.length := by omega
  have hr : d.rest = D[e.out.length + 4] :: D.drop (e.out.length + 4 + 1) := by rw [s.rest, List.drop_eq_getElem_cons hlt]
  have hc := (D[e.out.length + 4]).toNat_lt
  have hv : val (D.take (e.out.length + 5)) = val (D.take (e.out.length + 4)) * 256 + (D[e.out.length + 4]).toNat := by
    rw [← val_snoc, List.take_append_getElem hlt]
  have hsi := s.size
  have hrg := s.rng
  have hco := s.code
  obtain ⟨rest, code, size, missing, full⟩ := d
  dsimp only at hr hsi hrg hco
  subst hr
  have e5 : (eshift e).out.length + 4 = e.out.length + 5 := by omega
  refine ⟨by rw [h3, ← hsi]; rfl, by omega, ?_, s.miss, ?_, ?_⟩
  · show D.drop (e.out.length + 4 + 1) = _
    rw [e5]
  · show code * 256 % 4294967296 + ((D[e.out.length + 4]).toNat : Int) = _
    rw [e5, hv, h1]
    omega
  · show 0 ≤ code * 256 % 4294967296 + ((D[e.out.length + 4]).toNat : Int) ∧ code * 256 % 4294967296 + ((D[e.out.length + 4]).toNat : Int) < size * 256
    omega
theorem norm_len (k : Nat) (e : Enc) : e.out.length ≤ (norm k e).out.length := norm_out k e
theorem eshift_low (e : Enc) : 0 ≤ (eshift e).low ∧ (eshift e).low ≤ 4294967295 := by
  show 0 ≤ e.low * 256 % 4294967296 ∧ e.low * 256 % 4294967296 ≤ 4294967295; omega
theorem norm_syn {D : List UInt8} : ∀ (k : Nat) {e : Enc} {d : Dec}, Syn D e d → (0 ≤ e.low ∧ e.low ≤ 4294967295) → (norm k e).out.length + 4 ≤ D.length → Syn D (norm k e) (dnorm k d)
  | 0, _, _, s, _, _ => s
  | k + 1, e, d, s, hl, hD => by
    unfold norm at hD ⊢
    unfold dnorm
    rw [s.size]
    by_cases hc : e.size < 16777216
    · rw [if_pos hc] at hD ⊢
      rw [if_pos hc]
      have h2 : (eshift e).out.length = e.out.length + 1 := (eshift_num hl).2.1
      have h3 := norm_len k (eshift e)
      exact norm_syn k (dnext_syn s hl hc (by omega)) (eshift_low e) hD
    · rw [if_neg hc, if_neg hc]; exact s
theorem eshift_InB {e : Enc} (hl : 0 ≤ e.low ∧ e.low ≤ 4294967295) (h : InB e) : InB (eshift e) := by
  obtain ⟨h1, h2, h3⟩ := eshift_num hl
  unfold InB at h ⊢
  rw [h1, h2, h3, Nat.pow_succ]
  generalize 256 ^ e.out.length = w at *
  omega
theorem norm_InB (k : Nat) : ∀ {e : Enc}, (0 ≤ e.low ∧ e.low ≤ 4294967295) → InB e → InB (norm k e) := by
  induction k with
  | zero => intro e _ h; exact h
  | succ k ih =>
    intro e hl h
    unfold norm
    split
    · exact ih (eshift_low e) (eshift_InB hl h)
    · exact h
theorem ebit_InB {n : Nat} {e : Enc} (hok : EncOk n e) (hi : InB e) (z b : Int) : InB (ebit e z b) := norm_InB 2 (estep_ok hok z b).2.1 (estep_num hok hi z b).2.1
theorem ebit_syn {D : List UInt8} {n : Nat} {e : Enc} {d : Dec} (s : Syn D e d) (hok : EncOk n e) (hi : InB e) (z b : Int) (hb : b = 0 ↔ (dbit d z).2 = 0) (hD : (ebit e z b).out.length + 4 ≤ D.length) : Syn D (ebit e z b) (dbit d z).1 :=
  norm_syn 2 (dstep_syn s hok hi z b hb) (estep_ok hok z b).2.1 hD
theorem e00_InB : InB e00 := by unfold InB; decide
/-- The start. -/
theorem dnew_syn {D : List UInt8} (h4 : 4 ≤ D.length) (hf : (dnew D).full = false) : Syn D e00 (dnew D) := by
  match D, h4 with
  | a :: b :: c :: d :: r, _ =>
    have h1 := a.toNat_lt; have h2 := b.toNat_lt; have h3 := c.toNat_lt; have h5 := d.toNat_lt
    have hv : val [a, b, c, d] = ((a.toNat * 256 + b.toNat) * 256 + c.toNat) * 256 + d.toNat := by simp [val]
    have hcode : (dnew (a :: b :: c :: d :: r)).code = (val [a, b, c, d] : Int) := by
      rw [hv]
      show (((0 * 256 % 4294967296 + (a.toNat : Int)) * 256 % 4294967296 + (b.toNat : Int)) * 256 % 4294967296 + (c.toNat : Int)) * 256 % 4294967296 + (d.toNat : Int) = _
      omega
    have hne : (dnew (a :: b :: c :: d :: r)).code ≠ 4294967295 := fun h => by
      have : (dnew (a :: b :: c :: d :: r)).full = true := by
        show decide ((dnew (a :: b :: c :: d :: r)).code = 4294967295) = true
        rw [h]; rfl
      rw [hf] at this; cases this
    refine ⟨rfl, by simp, rfl, rfl, ?_, ?_⟩
    · rw [hcode]; show _ = (val [a, b, c, d] : Int) - num' e00
      show _ = (val [a, b, c, d] : Int) - ((0 : Nat) * 4294967296 + 0 : Int)
      omega
    · show 0 ≤ (dnew (a :: b :: c :: d :: r)).code ∧ (dnew (a :: b :: c :: d :: r)).code < 4294967295
      rw [hcode] at hne ⊢
      rw [hv] at hne ⊢
      omega
end Go.Proofs.Ytinfmojbdaiogaa
end
section
set_option linter.unusedVariables false
set_option linter.unusedSimpArgs false
set_option maxRecDepth 4000
namespace Go.Proofs.Ytinfmojbdaiogaa
open Go.Gh Go.RowKit

theorem dnext_full (d : Dec) : (dnext d).full = d.full := by
  obtain ⟨rest, code, size, missing, full⟩ := d
  cases rest <;> rfl
theorem dnorm_full (k : Nat) : ∀ (d : Dec), (dnorm k d).full = d.full := by
  induction k with
  | zero => intro d; rfl
  | succ k ih =>
    intro d
    unfold dnorm
    split
    · rw [ih]; exact dnext_full d
    · rfl
theorem dbit_full (d : Dec) (z : Int) : (dbit d z).1.full = d.full := by
  show (dnorm 2 (dstep d z).1).full = _
  rw [dnorm_full]; unfold dstep; split <;> rfl
theorem dbit_01 (d : Dec) (z : Int) : (dbit d z).2 = 0 ∨ (dbit d z).2 = 1 := by have := dbit_bit d z; omega
end Go.Proofs.Ytinfmojbdaiogaa
end
section
set_option linter.unusedVariables false
set_option linter.unusedSimpArgs false
set_option maxRecDepth 4000
namespace Go.Proofs.Ytinfmojbdaiogaa
open Go.Gh Go.RowKit

def ext (d : Dec) (c : UInt8) : Dec := ⟨d.rest ++ [c], d.code, d.size, d.missing, d.full⟩
end Go.Proofs.Ytinfmojbdaiogaa
end
section
set_option linter.unusedVariables false
set_option linter.unusedSimpArgs false
set_option maxRecDepth 4000
namespace Go.Proofs.Ytinfmojbdaiogaa
open Go.Gh Go.RowKit

/-- Steps that are put together. -/
def StI (base : SH) (l : List (Int × Int)) (v : Value) (p : SH) : Prop := (l = [] ∧ v = .slice none 0 0 ∧ p = base) ∨ ∃ A, v = gsl A 0 (2 * l.length) l.length 2 ∧ p = (A, ⟨recs stF l, false⟩) :: base
theorem StI.take {base p : SH} {l : List (Int × Int)} {v : Value} (s : StI base l v p) : Take p base := by
  rcases s with ⟨rfl, rfl, rfl⟩ | ⟨A, rfl, rfl⟩
  · exact .nil
  · exact .drop .nil
theorem StI.one {base : SH} {x : Int × Int} {A : Nat} : StI base ([] ++ [x]) (gsl A 0 (1 * 2) 1 2) ((A, ⟨[I x.1, I x.2], false⟩) :: base) := .inr ⟨A, rfl, rfl⟩
end Go.Proofs.Ytinfmojbdaiogaa
end
section
set_option linter.unusedVariables false
set_option linter.unusedSimpArgs false
set_option maxRecDepth 4000
namespace Go.Proofs.Ytinfmojbdaiogaa
open Go.Gh Go.RowKit

def pw (j : Nat) : Int := ((256 ^ j : Nat) : Int)
theorem pw_pos (j : Nat) : 0 < pw j := by
  have : 0 < 256 ^ j := Nat.pow_pos (by decide)
  unfold pw; omega
theorem pw_zero : pw 0 = 1 := rfl
theorem pw_succ (j : Nat) : pw (j + 1) = 256 * pw j := by unfold pw; rw [Nat.pow_succ]; omega
theorem pw_add (i j : Nat) : pw (i + j) = pw i * pw j := by unfold pw; rw [Nat.pow_add, Int.natCast_mul]
theorem norm_in (k : Nat) : ∀ {e : Enc}, (0 ≤ e.low ∧ e.low ≤ 4294967295) → ∃ j, (norm k e).out.length = e.out.length + j ∧ num' (norm k e) = num' e * pw j ∧ (norm k e).size = e.size * pw j := by
  induction k with
  | zero => intro e _; exact ⟨0, rfl, by rw [pw_zero, Int.mul_one]; rfl, by rw [pw_zero, Int.mul_one]; rfl⟩
  | succ k ih =>
    intro e hl
    unfold norm
    split
    · obtain ⟨h1, h2, h3⟩ := eshift_num hl
      obtain ⟨j, g1, g2, g3⟩ := ih (eshift_low e)
      exact ⟨j + 1, by rw [g1, h2]; omega, by rw [g2, h1, pw_succ, Int.mul_assoc], by rw [g3, h3, pw_succ, Int.mul_assoc]⟩
    · exact ⟨0, rfl, by rw [pw_zero, Int.mul_one], by rw [pw_zero, Int.mul_one]⟩
/-- One interval within another. -/
def Within (e e' : Enc) : Prop := ∃ j, e'.out.length = e.out.length + j ∧ num' e * pw j ≤ num' e' ∧ num' e' + e'.size ≤ (num' e + e.size) * pw j
theorem Within.refl (e : Enc) : Within e e := ⟨0, rfl, by rw [pw_zero, Int.mul_one]; exact Int.le_refl _, by rw [pw_zero, Int.mul_one]; exact Int.le_refl _⟩
theorem Within.trans {e f g : Enc} (a : Within e f) (b : Within f g) : Within e g := by
  obtain ⟨i, a1, a2, a3⟩ := a
  obtain ⟨j, b1, b2, b3⟩ := b
  refine ⟨i + j, by omega, ?_, ?_⟩
  · rw [pw_add, ← Int.mul_assoc]
    exact Int.le_trans (Int.mul_le_mul_of_nonneg_right a2 (Int.le_of_lt (pw_pos j))) b2
  · rw [pw_add, ← Int.mul_assoc]
    exact Int.le_trans b3 (Int.mul_le_mul_of_nonneg_right a3 (Int.le_of_lt (pw_pos j)))
theorem within_norm {k : Nat} {e : Enc} (hl : 0 ≤ e.low ∧ e.low ≤ 4294967295) : Within e (norm k e) := by
  obtain ⟨j, g1, g2, g3⟩ := norm_in k hl
  exact ⟨j, g1, by rw [g2]; exact Int.le_refl _, by rw [g2, g3, Int.add_mul]; exact Int.le_refl _⟩
theorem within_ebit {n : Nat} {e : Enc} (hok : EncOk n e) (hi : InB e) (z b : Int) : Within (estep e z b) (ebit e z b) := within_norm (estep_ok hok z b).2.1
theorem within_estep {n : Nat} {e : Enc} (hok : EncOk n e) (hi : InB e) (z b : Int) : Within e (estep e z b) := by
  obtain ⟨h1, h2, h3, h4⟩ := estep_num hok hi z b
  have hd := size_dvd hok.size z
  refine ⟨0, h3, ?_, ?_⟩
  · rw [pw_zero, Int.mul_one, h1]; split <;> omega
  · rw [pw_zero, Int.mul_one, h1, h4]; split <;> omega
/-- Where a number lies whose end lies within. -/
theorem within_at {e f : Enc} {D : List UInt8} (w : Within e f) (hD : D.length = f.out.length + 4) (hv : (val D : Int) = num' f) (hs : 0 < f.size) :
    num' e ≤ (val (D.take (e.out.length + 4)) : Int) ∧ (val (D.take (e.out.length + 4)) : Int) < num' e + e.size := by
  obtain ⟨j, h1, h2, h3⟩ := w
  have hsp : val D = val (D.take (e.out.length + 4)) * 256 ^ j + val (D.drop (e.out.length + 4)) := by
    have := val_app (D.take (e.out.length + 4)) (D.drop (e.out.length + 4))
    rw [List.take_append_drop, List.length_drop, show D.length - (e.out.length + 4) = j by omega] at this
    exact this
  have hlt := val_lt (D.drop (e.out.length + 4))
  rw [List.length_drop, show D.length - (e.out.length + 4) = j by omega] at hlt
  have hp := pw_pos j
  have e1 : (val D : Int) = (val (D.take (e.out.length + 4)) : Int) * pw j + (val (D.drop (e.out.length + 4)) : Int) := by rw [hsp]; unfold pw; rw [Int.natCast_add, Int.natCast_mul]
  have e2 : (val (D.drop (e.out.length + 4)) : Int) < pw j := by unfold pw; omega
  generalize (val (D.take (e.out.length + 4)) : Int) = V at *
  have e3 : num' e * pw j < (V + 1) * pw j := by rw [Int.add_mul, Int.one_mul]; omega
  have e4 : V * pw j < (num' e + e.size) * pw j := by omega
  have e5 := Int.lt_of_mul_lt_mul_right e3 (Int.le_of_lt hp)
  have e6 := Int.lt_of_mul_lt_mul_right e4 (Int.le_of_lt hp)
  omega
/-- The decoder reads the bit that was written. -/
theorem bit_read {D : List UInt8} {n : Nat} {e f : Enc} {d : Dec} (s : Syn D e d) (hok : EncOk n e) (hi : InB e) (z b : Int) (w : Within (ebit e z b) f) (hD : D.length = f.out.length + 4) (hv : (val D : Int) = num' f) (hs : 0 < f.size) :
    b = 0 ↔ (dbit d z).2 = 0 := by
  obtain ⟨h1, h2, h3, h4⟩ := estep_num hok hi z b
  have hw := within_at ((within_ebit hok hi z b).trans w) hD hv hs
  have hd := size_dvd hok.size z
  rw [h3, h1, h4] at hw
  have hc := s.code
  show b = 0 ↔ (dstep d z).2 = 0
  unfold dstep
  rw [s.size]
  split
  · rename_i hlt
    refine ⟨fun _ => rfl, fun _ => ?_⟩
    by_cases hb : b = 0
    · exact hb
    · rw [if_neg hb, if_neg hb] at hw; omega
  · rename_i hlt
    refine ⟨fun hb => ?_, fun h => by cases h⟩
    rw [if_pos hb, if_pos hb] at hw; omega
end Go.Proofs.Ytinfmojbdaiogaa
end
section
set_option linter.unusedVariables false
set_option linter.unusedSimpArgs false
set_option maxRecDepth 4000
namespace Go.Proofs.Ytinfmojbdaiogaa
open Go.Gh Go.RowKit

theorem within_len {e f : Enc} (w : Within e f) : e.out.length ≤ f.out.length := by obtain ⟨j, h, _⟩ := w; omega
end Go.Proofs.Ytinfmojbdaiogaa
end
section
set_option linter.unusedVariables false
set_option linter.unusedSimpArgs false
set_option maxRecDepth 4000
namespace Go.Proofs.Ytinfmojbdaiogaa
open Go.Gh Go.RowKit

theorem four {D : List UInt8} (h : 4 ≤ D.length) : ∃ a b c d r, D = a :: b :: c :: d :: r := by
  match D, h with
  | a :: b :: c :: d :: r, _ => exact ⟨a, b, c, d, r, rfl⟩
/-- The end. -/
theorem inv_end {e : Enc} {d : Dec} (hl : 0 ≤ e.low ∧ e.low ≤ 4294967295) (s : Syn (fin e) e d) (hf : d.full = false) : dend d = 0 := by
  have h1 := s.rest
  have h2 := s.code
  rw [← fin_len] at h1 h2
  rw [List.drop_length] at h1
  rw [List.take_length, fin_val hl] at h2
  unfold dend
  rw [if_neg]
  rintro (h | h | h | h)
  · rw [s.miss] at h; cases h
  · rw [hf] at h; cases h
  · exact h h1
  · exact h (by omega)
end Go.Proofs.Ytinfmojbdaiogaa
end
section
set_option linter.unusedVariables false
set_option linter.unusedSimpArgs false
set_option maxRecDepth 4000
namespace Go.Proofs.Ytinfmojbdaiogaa
open Go.Gh Go.RowKit

/-- An end behind the encoder: the decoder's bytes are those of f. -/
structure Beh (D : List UInt8) (f : Enc) : Prop where
  len : D.length = f.out.length + 4
  val : (val D : Int) = num' f
  size : 0 < f.size
theorem Beh.fin {n : Nat} {f : Enc} (h : EncOk n f) : Beh (fin f) f := ⟨fin_len f, fin_val h.low, by have := h.size; omega⟩
theorem bit01 (v : Int) (k : Nat) : v / 2 ^ k % 2 = 0 ∨ v / 2 ^ k % 2 = 1 := by omega
theorem mod_split (v : Int) (k : Nat) : v % 2 ^ (k + 1) = 2 ^ k * (v / 2 ^ k % 2) + v % 2 ^ k := by
  have h1 := Int.emod_add_mul_ediv v (2 ^ k)
  have h2 := Int.emod_add_mul_ediv (v / 2 ^ k) 2
  have h3 := Int.emod_add_mul_ediv v (2 ^ (k + 1))
  have h4 : v / 2 ^ k / 2 = v / (2 ^ k * 2) := by rw [Int.ediv_ediv_of_nonneg (Int.le_of_lt (Int.pow_pos (by decide)))]
  rw [h4] at h2
  rw [Int.pow_succ] at h3 ⊢
  generalize v / (2 ^ k * 2) = q at *
  generalize v / 2 ^ k = p at *
  generalize (2 : Int) ^ k = t at *
  have h5 : t * p = t * (p % 2) + 2 * (t * q) := by
    conv => lhs; rw [← h2]
    rw [Int.mul_add, Int.mul_left_comm]
  have h6 : t * 2 * q = 2 * (t * q) := by rw [Int.mul_comm t 2, Int.mul_assoc]
  omega
theorem tenc_in {v : Int} (k : Nat) : ∀ {n : Nat} {t : List Int} {e : Enc} {j : Nat}, EncOk n e → InB e → Within e (tenc v k t e j).2 ∧ InB (tenc v k t e j).2 := by
  induction k with
  | zero => intro n t e j _ hi; exact ⟨.refl _, hi⟩
  | succ k ih =>
    intro n t e j hok hi
    obtain ⟨h1, h2⟩ := ih (t := t.set j (adp t[j]! (v / 2 ^ k % 2))) (j := 2 * j + (v / 2 ^ k % 2).toNat) (ebit_ok hok t[j]! (v / 2 ^ k % 2)) (ebit_InB hok hi t[j]! (v / 2 ^ k % 2))
    exact ⟨((within_estep hok hi _ _).trans (within_ebit hok hi _ _)).trans h1, h2⟩
/-- A tree reads what it wrote. -/
theorem tenc_read {D : List UInt8} {f : Enc} {v : Int} (hf : Beh D f) (k : Nat) : ∀ {n : Nat} {t : List Int} {e : Enc} {d : Dec} {j : Nat}, Syn D e d → EncOk n e → InB e → Within (tenc v k t e j).2 f →
    Syn D (tenc v k t e j).2 (tdec k t d j).2.1 ∧ (tdec k t d j).1 = (tenc v k t e j).1 ∧ ((tdec k t d j).2.2 : Int) = 2 ^ k * j + v % 2 ^ k := by
  induction k with
  | zero => intro n t e d j s _ _ _; exact ⟨s, rfl, by show (j : Int) = 2 ^ 0 * j + v % 2 ^ 0; rw [Int.pow_zero, Int.emod_one]; omega⟩
  | succ k ih =>
    intro n t e d j s hok hi w
    have hb1 := ebit_ok hok t[j]! (v / 2 ^ k % 2)
    have hb2 := ebit_InB hok hi t[j]! (v / 2 ^ k % 2)
    have w1 : Within (ebit e t[j]! (v / 2 ^ k % 2)) f := (tenc_in k hb1 hb2).1.trans w
    have hr := bit_read s hok hi t[j]! (v / 2 ^ k % 2) w1 hf.len hf.val hf.size
    have hbd := dbit_01 d t[j]!
    have hval : (dbit d t[j]!).2 = v / 2 ^ k % 2 := by omega
    have s1 := ebit_syn s hok hi t[j]! _ hr (by have := within_len w1; have := hf.len; omega)
    have ih := ih (t := t.set j (adp t[j]! (v / 2 ^ k % 2))) (j := 2 * j + (v / 2 ^ k % 2).toNat) s1 hb1 hb2 w
    have e1 : tdec (k + 1) t d j = tdec k (t.set j (adp t[j]! (v / 2 ^ k % 2))) (dbit d t[j]!).1 (2 * j + (v / 2 ^ k % 2).toNat) := by rw [← hval]; rfl
    rw [e1]
    refine ⟨ih.1, ih.2.1, ?_⟩
    rw [ih.2.2, mod_split, Int.pow_succ]
    have e2 : ((2 * j + (v / 2 ^ k % 2).toNat : Nat) : Int) = 2 * (j : Int) + v / 2 ^ k % 2 := by omega
    rw [e2, Int.mul_add, ← Int.mul_assoc]
    omega
theorem tdec_full : ∀ (k : Nat) {t : List Int} {d : Dec} {j : Nat}, (tdec k t d j).2.1.full = d.full
  | 0, _, _, _ => rfl
  | k + 1, t, d, j => (tdec_full k (t := t.set j (adp t[j]! (dbit d t[j]!).2)) (j := 2 * j + (dbit d t[j]!).2.toNat)).trans (dbit_full d _)
end Go.Proofs.Ytinfmojbdaiogaa
end
section
set_option linter.unusedVariables false
set_option linter.unusedSimpArgs false
set_option maxRecDepth 4000
namespace Go.Proofs.Ytinfmojbdaiogaa
open Go.Gh Go.RowKit

/-- The model of bytes. -/
theorem benc_in {P : List Int} {c v : Int} {n : Nat} {e : Enc} (hok : EncOk n e) (hi : InB e) : Within e (benc P c e v).2 ∧ InB (benc P c e v).2 := tenc_in (v := v) 8 (t := bsel P (c / 32).toNat) (j := 1) hok hi
theorem benc_read {D : List UInt8} {f : Enc} {P : List Int} {c v : Int} {n : Nat} {e : Enc} {d : Dec} (hf : Beh D f) (s : Syn D e d) (hok : EncOk n e) (hi : InB e) (w : Within (benc P c e v).2 f) :
    Syn D (benc P c e v).2 (bdec P c d).2.1 ∧ (bdec P c d).1 = (benc P c e v).1 ∧ (bdec P c d).2.2 = v % 256 := by
  obtain ⟨h1, h2, h3⟩ := tenc_read (v := v) hf 8 (t := bsel P (c / 32).toNat) (j := 1) s hok hi w
  refine ⟨h1, congrArg (bput P (c / 32).toNat) h2, ?_⟩
  show ((((tdec 8 (bsel P (c / 32).toNat) d 1).2.2 - 256 : Nat)) : Int) = v % 256
  have h28 : (2 ^ 8 : Int) = 256 := rfl
  rw [h28] at h3
  omega
theorem bdec_full {P : List Int} {c : Int} {d : Dec} : (bdec P c d).2.1.full = d.full := tdec_full 8 (t := bsel P (c / 32).toNat) (j := 1)
end Go.Proofs.Ytinfmojbdaiogaa
end
section
set_option linter.unusedVariables false
set_option linter.unusedSimpArgs false
set_option maxRecDepth 4000
namespace Go.Proofs.Ytinfmojbdaiogaa
open Go.Gh Go.RowKit

/-- What decode[byte] gives: bytes, error. -/
def rdec (l : List UInt8) (most : Int) (P : List Int) (c : Int) : List UInt8 × Int :=
  if (rdN l 4096).2.2 ≠ 0 then ([], 12) else if most < (rdN l 4096).1 then ([], 2) else if (rdN l 4096).1 = 0 then ([], rend (rdN l 4096).2.1 0)
  else if dend (bdecN (rdN l 4096).1.toNat P c (dnew (rdN l 4096).2.1)).2 ≠ 0 then ([], dend (bdecN (rdN l 4096).1.toNat P c (dnew (rdN l 4096).2.1)).2)
  else ((bdecN (rdN l 4096).1.toNat P c (dnew (rdN l 4096).2.1)).1, 0)
theorem rdN_ok (l : List UInt8) (m : Int) : (rdN l m).2.1.length ≤ l.length ∧ ((rdN l m).2.2 = 0 → 0 ≤ (rdN l m).1 ∧ (rdN l m).1 ≤ m) := by
  unfold rdN
  split
  · exact ⟨Nat.le_refl _, fun h => absurd h (by show ¬ (12 : Int) = 0; decide)⟩
  · split
    · exact ⟨Nat.le_refl _, fun h => absurd h (by show ¬ (2 : Int) = 0; decide)⟩
    · dsimp only
      rw [List.length_drop]
      omega
/-- Bytes in a block of their own; none where there is an error or no byte. -/
def IsB (h : SH) (x : List UInt8 × Int) (r : Value) (q : SH) : Prop := (x.1 = [] ∧ r = .tuple #[.slice none 0 0, Er x.2] ∧ q = h) ∨
  (x.2 = 0 ∧ ∃ A, r = .tuple #[gsl A 0 x.1.length x.1.length 1, Er 0] ∧ q = (A, ⟨bytesV x.1, false⟩) :: h)
theorem decodeB_any (M N : Nat) (P : List Int) (c : Int) (l : List UInt8) (most : Int) (h : SH) (hl : l.length ≤ 100000) (hP : P.length = 2048) (hc0 : 0 ≤ c ∧ c ≤ 255) :
    SRun Try.prog 50 [.iface 34 (gptr M 0 17), S l, I 4096, I most] ((M, ⟨byC N c, false⟩) :: (N, ⟨nodes P, false⟩) :: h) (IsB h (rdec l most P c)) := by
  have hR := fun n h => rNumber_any n l 4096 h hl
  have hok := rdN_ok l 4096
  obtain ⟨x, hx⟩ : ∃ x, rdec l most P c = x := ⟨_, rfl⟩
  rw [hx]
  unfold rdec at hx
  generalize rdN l 4096 = V at *
  obtain ⟨k, d, e⟩ := V
  dsimp only at *
  have hT := fun n h => rTake_any n d (d.length : Int) h (by omega) (by omega)
  rw [show ((d.length : Int)).toNat = d.length from rfl, List.take_length, List.drop_length] at hT
  by_cases he : e = 0
  case neg =>
    rw [if_pos he] at hx
    refine w_body4 Try.func50 rfl rfl ?_
    repeat' (first | apply w_seq | apply w_region | apply o_nil | (apply o_g tyOk; exact rfl; exact rfl) | (apply o_call; exact rfl; exact rfl; (focus (first | exact rfl | assumption)); exact rfl; (focus (exact ⟨_, NewReader_any _ _, by repeat (first | with_reducible exact Take.nil | with_reducible apply Take.c | with_reducible apply Take.drop)⟩)); rintro _ _ ⟨n, rfl, rfl⟩) | (apply o_call; exact rfl; exact rfl; (focus (first | exact rfl | assumption)); exact rfl; (focus (exact ⟨_, hR _ _, by repeat (first | with_reducible exact Take.nil | with_reducible apply Take.c | with_reducible apply Take.drop)⟩)); rintro _ _ ⟨rfl, rfl⟩) | (apply o_call; exact rfl; exact rfl; (focus (first | exact rfl | assumption)); exact rfl; (focus (exact ⟨_, rErr_any _ _ _ _, by repeat (first | with_reducible exact Take.nil | with_reducible apply Take.c | with_reducible apply Take.drop)⟩)); rintro _ _ ⟨rfl, rfl⟩) | (apply w_dT; exact rfl; (focus (first | exact ‹_› | with_reducible exact rfl | omega))) | apply thenS_normal | apply thenS_ret | apply w_ret | ((with_reducible apply Sd.mk); (first | exact True.intro | omega | (constructor <;> first | omega | (unfold maxLen; omega)) | (unfold maxLen; omega))))
    all_goals first
      | contradiction
      | (apply s_fin; (exact (show ResS _ _ _ _ [_, _] from ⟨rfl, ⟨rfl, trivial⟩⟩)); (focus (exact .inl ⟨by rw [← hx], by rw [← hx]; rfl, rfl⟩)); (focus (repeat (first | with_reducible exact Take.nil | with_reducible apply Take.c | ((with_reducible apply Take.cE); (first | exact rfl | (apply blkE; (focus (first | exact rfl | exact recs_snocE rfl | exact map_snocE rfl | exact congrArg (fun v => [v]) (gslE rfl rfl (by first | rfl | exact ‹_› | omega | (simp ; first | done | omega)) (by first | rfl | exact ‹_› | omega | (simp ; first | done | omega)) rfl)))))) | with_reducible apply Take.drop))))
      | trace_state
  subst he
  rw [if_neg (by decide)] at hx
  have hk := hok.2 rfl
  by_cases h1 : most < k
  case pos =>
    rw [if_pos h1] at hx
    refine w_body4 Try.func50 rfl rfl ?_
    repeat' (first | apply w_seq | apply w_region | apply o_nil | (apply o_g tyOk; exact rfl; exact rfl) | (apply o_call; exact rfl; exact rfl; (focus (first | exact rfl | assumption)); exact rfl; (focus (exact ⟨_, NewReader_any _ _, by repeat (first | with_reducible exact Take.nil | with_reducible apply Take.c | with_reducible apply Take.drop)⟩)); rintro _ _ ⟨n, rfl, rfl⟩) | (apply o_call; exact rfl; exact rfl; (focus (first | exact rfl | assumption)); exact rfl; (focus (exact ⟨_, hR _ _, by repeat (first | with_reducible exact Take.nil | with_reducible apply Take.c | with_reducible apply Take.drop)⟩)); rintro _ _ ⟨rfl, rfl⟩) | (apply o_call; exact rfl; exact rfl; (focus (first | exact rfl | assumption)); exact rfl; (focus (exact ⟨_, rErr_any _ _ _ _, by repeat (first | with_reducible exact Take.nil | with_reducible apply Take.c | with_reducible apply Take.drop)⟩)); rintro _ _ ⟨rfl, rfl⟩) | (apply w_false; exact rfl) | (apply w_dT; exact rfl; (focus (first | exact ‹_› | with_reducible exact rfl | omega))) | apply thenS_normal | apply thenS_ret | apply w_skip | apply w_ret | ((with_reducible apply Sd.mk); (first | exact True.intro | omega | (constructor <;> first | omega | (unfold maxLen; omega)) | (unfold maxLen; omega))))
    all_goals first
      | contradiction
      | (apply s_fin; (exact (show ResS _ _ _ _ [_, _] from ⟨rfl, ⟨rfl, trivial⟩⟩)); (focus (exact .inl ⟨by rw [← hx], by rw [← hx]; rfl, rfl⟩)); (focus (repeat (first | with_reducible exact Take.nil | with_reducible apply Take.c | ((with_reducible apply Take.cE); (first | exact rfl | (apply blkE; (focus (first | exact rfl | exact recs_snocE rfl | exact map_snocE rfl | exact congrArg (fun v => [v]) (gslE rfl rfl (by first | rfl | exact ‹_› | omega | (simp ; first | done | omega)) (by first | rfl | exact ‹_› | omega | (simp ; first | done | omega)) rfl)))))) | with_reducible apply Take.drop))))
      | trace_state
  rw [if_neg h1] at hx
  by_cases h2 : k = 0
  case pos =>
    rw [if_pos h2] at hx
    refine w_body4 Try.func50 rfl rfl ?_
    repeat' (first | apply w_seq | apply w_region | apply o_nil | (apply o_g tyOk; exact rfl; exact rfl) | (apply o_call; exact rfl; exact rfl; (focus (first | exact rfl | assumption)); exact rfl; (focus (exact ⟨_, NewReader_any _ _, by repeat (first | with_reducible exact Take.nil | with_reducible apply Take.c | with_reducible apply Take.drop)⟩)); rintro _ _ ⟨n, rfl, rfl⟩) | (apply o_call; exact rfl; exact rfl; (focus (first | exact rfl | assumption)); exact rfl; (focus (exact ⟨_, hR _ _, by repeat (first | with_reducible exact Take.nil | with_reducible apply Take.c | with_reducible apply Take.drop)⟩)); rintro _ _ ⟨rfl, rfl⟩) | (apply o_call; exact rfl; exact rfl; (focus (first | exact rfl | assumption)); exact rfl; (focus (exact ⟨_, rErr_any _ _ _ _, by repeat (first | with_reducible exact Take.nil | with_reducible apply Take.c | with_reducible apply Take.drop)⟩)); rintro _ _ ⟨rfl, rfl⟩) | (apply o_call; exact rfl; exact rfl; (focus (first | exact rfl | assumption)); exact rfl; (focus (exact ⟨_, vEnd_any _ _ _ _, by repeat (first | with_reducible exact Take.nil | with_reducible apply Take.c | with_reducible apply Take.drop)⟩)); rintro _ _ ⟨rfl, rfl⟩) | (apply w_false; exact rfl) | (apply w_dT; exact rfl; (focus (first | exact ‹_› | with_reducible exact rfl | omega))) | (apply w_dF; exact rfl; (focus (first | exact ‹_› | with_reducible exact rfl | omega))) | apply thenS_normal | apply thenS_ret | apply w_skip | apply w_ret | ((with_reducible apply Sd.mk); (first | exact True.intro | omega | (constructor <;> first | omega | (unfold maxLen; omega)) | (unfold maxLen; omega))))
    all_goals first
      | contradiction
      | (apply s_fin; (exact (show ResS _ _ _ _ [_, _] from ⟨rfl, ⟨rfl, trivial⟩⟩)); (focus (exact .inl ⟨by rw [← hx], by rw [← hx]; rfl, rfl⟩)); (focus (repeat (first | with_reducible exact Take.nil | with_reducible apply Take.c | ((with_reducible apply Take.cE); (first | exact rfl | (apply blkE; (focus (first | exact rfl | exact recs_snocE rfl | exact map_snocE rfl | exact congrArg (fun v => [v]) (gslE rfl rfl (by first | rfl | exact ‹_› | omega | (simp ; first | done | omega)) (by first | rfl | exact ‹_› | omega | (simp ; first | done | omega)) rfl)))))) | with_reducible apply Take.drop))))
      | trace_state
  rw [if_neg h2] at hx
  obtain ⟨m, rfl⟩ := Int.eq_ofNat_of_zero_le hk.1
  rw [Int.toNat_natCast] at hx
  have hzr : zrow (Value.int IntKind.u8 0) (((m : Int)).toNat * 1) = bytesV (List.replicate m 0) := by
    rw [Int.toNat_natCast]; exact map_zrow (f := fun c : UInt8 => Value.int .u8 c.toNat) 0 rfl rfl _
  refine w_body4 Try.func50 rfl rfl ?_
  repeat' (first | apply w_seq | apply w_region | apply o_nil | (apply o_g tyOk; exact rfl; exact rfl) | (apply o_makeSlice tyOk; (iterate 6 exact rfl); (focus (decide)); (focus (first | exact True.intro | omega | (constructor <;> first | omega | (unfold maxLen; omega)) | (unfold maxLen; omega))); (focus (first | rfl)); exact rfl) | (apply o_call; exact rfl; exact rfl; (focus (first | exact rfl | assumption)); exact rfl; (focus (exact ⟨_, NewReader_any _ _, by repeat (first | with_reducible exact Take.nil | with_reducible apply Take.c | with_reducible apply Take.drop)⟩)); rintro _ _ ⟨n, rfl, rfl⟩) | (apply o_call; exact rfl; exact rfl; (focus (first | exact rfl | assumption)); exact rfl; (focus (exact ⟨_, hR _ _, by repeat (first | with_reducible exact Take.nil | with_reducible apply Take.c | with_reducible apply Take.drop)⟩)); rintro _ _ ⟨rfl, rfl⟩) | (apply o_call; exact rfl; exact rfl; (focus (first | exact rfl | assumption)); exact rfl; (focus (exact ⟨_, rErr_any _ _ _ _, by repeat (first | with_reducible exact Take.nil | with_reducible apply Take.c | with_reducible apply Take.drop)⟩)); rintro _ _ ⟨rfl, rfl⟩) | (apply o_call; exact rfl; exact rfl; (focus (first | exact rfl | assumption)); exact rfl; (focus (exact ⟨_, rLeft_any _ _ _ _, by repeat (first | with_reducible exact Take.nil | with_reducible apply Take.c | with_reducible apply Take.drop)⟩)); rintro _ _ ⟨rfl, rfl⟩) | (apply o_call; exact rfl; exact rfl; (focus (first | exact rfl | assumption)); exact rfl; (focus (exact ⟨_, hT _ _, by repeat (first | with_reducible exact Take.nil | with_reducible apply Take.c | with_reducible apply Take.drop)⟩)); rintro _ _ ⟨rfl, rfl⟩) | (apply o_call; exact rfl; exact rfl; (focus (first | exact rfl | assumption)); exact rfl; (focus (exact ⟨_, NewDecoder_any _ _ (by omega), by repeat (first | with_reducible exact Take.nil | with_reducible apply Take.c | with_reducible apply Take.drop)⟩)); rintro _ _ ⟨n2, rfl, rfl⟩) | (apply w_false; exact rfl) | (apply w_dF; exact rfl; (focus (first | exact ‹_› | with_reducible exact rfl | omega))) | apply thenS_normal | apply w_skip | apply w_block | ((with_reducible apply Sd.mk); (first | exact True.intro | omega | (constructor <;> first | omega | (unfold maxLen; omega)) | (unfold maxLen; omega))) | intro A)
  rw [hzr, Int.toNat_natCast]
  refine w_loop (S := Nat × List UInt8 × List Int × Int × Dec) (fun x => [(0, .iface 34 (gptr M 0 17)), (12, gptr n2 0 5), (13, gsl A 0 (m * 1) m 1), (39, I m), (40, I x.1)])
    (fun x => (A, ⟨bytesV x.2.1, false⟩) :: decB n2 x.2.2.2.2 :: (M, ⟨byC N x.2.2.2.1, false⟩) :: (N, ⟨nodes x.2.2.1, false⟩) :: h)
    (fun x => x.1 ≤ m ∧ x.2.1.length = m ∧ x.2.2.1.length = 2048 ∧ (0 ≤ x.2.2.2.1 ∧ x.2.2.2.1 ≤ 255) ∧ DecOk x.2.2.2.2 ∧ (x.2.1.take x.1 ++ (bdecN (m - x.1) x.2.2.1 x.2.2.2.1 x.2.2.2.2).1, (bdecN (m - x.1) x.2.2.1 x.2.2.2.1 x.2.2.2.2).2) = bdecN m P c (dnew d))
    (fun x => m - x.1) (0, List.replicate m 0, P, c, dnew d) ⟨Nat.zero_le _, List.length_replicate, hP, hc0, dnew_ok (by omega), rfl⟩ (by repeat' (first | exact trivial | refine ⟨rfl, ?_⟩ | refine ⟨congrArg some ?_, ?_⟩)) (by repeat (first | with_reducible exact Take.nil | with_reducible apply Take.c | ((with_reducible apply Take.cE); (first | exact rfl | (apply blkE; (focus (first | exact rfl | exact recs_snocE rfl | exact map_snocE rfl | exact congrArg (fun v => [v]) (gslE rfl rfl (by first | rfl | exact ‹_› | omega | (simp ; first | done | omega)) (by first | rfl | exact ‹_› | omega | (simp ; first | done | omega)) rfl)))))) | with_reducible apply Take.drop)) ?_
  rintro ⟨i, L, P1, c1, d1⟩ ⟨hi, hL, hP1, hc1, hok1, he⟩
  dsimp only at hi hL hP1 hc1 hok1 he ⊢
  by_cases him : i < m
  · have hb := bdec_ok (P := P1) (c := c1) hok1 hP1 hc1
    have hD := BytesDecode_any n2 M N P1 c1 d1 ((A, ⟨bytesV L, false⟩) :: h) hP1 hc1 hok1
    rw [show m - i = (m - (i + 1)) + 1 by omega] at he
    rw [show ∀ k, bdecN (k + 1) P1 c1 d1 = (b8 (bdec P1 c1 d1).2.2 :: (bdecN k (bdec P1 c1 d1).1 (bdec P1 c1 d1).2.2 (bdec P1 c1 d1).2.1).1, (bdecN k (bdec P1 c1 d1).1 (bdec P1 c1 d1).2.2 (bdec P1 c1 d1).2.1).2) from fun _ => rfl] at he
    generalize bdec P1 c1 d1 = B at *
    obtain ⟨P2, d2, c2⟩ := B
    dsimp only at he hD hb
    repeat' (first | apply w_seq | apply w_region | apply o_nil | (apply o_g tyOk; exact rfl; exact rfl) | (apply o_ar tyOk; exact rfl; exact rfl) | (apply o_store tyOk; (iterate 4 exact rfl); (focus (exact up))) | (apply o_invoke; (iterate 3 exact rfl); (focus (exact ⟨_, hD, by repeat (first | with_reducible exact Take.nil | with_reducible apply Take.c | with_reducible apply Take.drop)⟩)); (focus (kernel_rfl)); exact rfl; rintro _ _ ⟨rfl, rfl⟩) | (apply w_dT; exact rfl; (focus (first | exact ‹_› | with_reducible exact rfl | omega))) | apply thenS_normal | apply blockS_normal | apply w_skip | apply w_block | ((with_reducible apply Sd.mk); (first | exact True.intro | omega | (constructor <;> first | omega | (unfold maxLen; omega)) | (unfold maxLen; omega))) | ((with_reducible apply Ln.mk); (first | rfl | exact ‹_› | omega | (simp ; first | done | omega))) | ((with_reducible apply Wr.mk); (first | exact IntWalk.i64_in _ (by omega) | exact IntWalk.u8_in _ (by omega) | exact IntWalk.u32_in _ (by omega) | exact IntWalk.u64_in _ (by omega) | exact IntKind.wrap_u8 _ | exact IntKind.wrap_u32 _ | rfl)) | ((with_reducible apply Se.mk); (first | (focus ((repeat (first | exact SetAt.zero | apply SetAt.succ)); done)) | exact setAt_bytes (by omega) (by omega) | exact setAt_mapZ (by omega) | exact setAt_map (by omega))) | exact True.intro)
    all_goals first
      | (exfalso; omega)
      | (refine ⟨(i + 1, L.set i (b8 c2), P2, c2, d2), ⟨him, by simp [hL], hb.2.1, hb.2.2, hb.1, ?_⟩, by show m - (i + 1) < m - i; omega, (by repeat' (first | exact trivial | refine ⟨rfl, ?_⟩ | refine ⟨congrArg some ?_, ?_⟩)), (by repeat (first | with_reducible exact Take.nil | with_reducible apply Take.c | ((with_reducible apply Take.cE); (first | exact rfl | (apply blkE; (focus (first | exact rfl | exact recs_snocE rfl | exact map_snocE rfl | exact congrArg (fun v => [v]) (gslE rfl rfl (by first | rfl | exact ‹_› | omega | (simp ; first | done | omega)) (by first | rfl | exact ‹_› | omega | (simp ; first | done | omega)) rfl)))))) | with_reducible apply Take.drop))⟩
         dsimp only
         rw [take_set (by omega), List.append_assoc]
         exact he)
      | trace_state
  · obtain rfl : i = m := by omega
    rw [Nat.sub_self, List.take_of_length_le (by omega)] at he
    have he : (L ++ [], d1) = bdecN i P c (dnew d) := he
    rw [List.append_nil] at he
    rw [← he] at hx
    dsimp only at hx
    by_cases h3 : dend d1 = 0
    · rw [if_neg (fun g => g h3)] at hx
      repeat' (first | apply w_seq | apply w_region | apply o_nil | (apply o_g tyOk; exact rfl; exact rfl) | (apply o_call; exact rfl; exact rfl; (focus (first | exact rfl | assumption)); exact rfl; (focus (exact ⟨_, End_any _ _ _, by repeat (first | with_reducible exact Take.nil | with_reducible apply Take.c | with_reducible apply Take.drop)⟩)); rintro _ _ ⟨rfl, rfl⟩) | (apply w_dF; exact rfl; (focus (first | exact ‹_› | with_reducible exact rfl | omega))) | apply thenS_normal | apply thenS_exit | apply blockS_exit | apply w_skip | apply w_ret | apply w_exit | ((with_reducible apply Sd.mk); (first | exact True.intro | omega | (constructor <;> first | omega | (unfold maxLen; omega)) | (unfold maxLen; omega))))
      all_goals try contradiction
      subst hx hL
      (apply s_fin; (exact (show ResS _ _ _ _ [_, _] from ⟨rfl, ⟨rfl, trivial⟩⟩)); (focus (exact .inr ⟨rfl, A, by rw [Nat.mul_one]; rfl, rfl⟩)); (focus (repeat (first | with_reducible exact Take.nil | with_reducible apply Take.c | ((with_reducible apply Take.cE); (first | exact rfl | (apply blkE; (focus (first | exact rfl | exact recs_snocE rfl | exact map_snocE rfl | exact congrArg (fun v => [v]) (gslE rfl rfl (by first | rfl | exact ‹_› | omega | (simp ; first | done | omega)) (by first | rfl | exact ‹_› | omega | (simp ; first | done | omega)) rfl)))))) | with_reducible apply Take.drop))))
    · rw [if_pos h3] at hx
      repeat' (first | apply w_seq | apply w_region | apply o_nil | (apply o_g tyOk; exact rfl; exact rfl) | (apply o_call; exact rfl; exact rfl; (focus (first | exact rfl | assumption)); exact rfl; (focus (exact ⟨_, End_any _ _ _, by repeat (first | with_reducible exact Take.nil | with_reducible apply Take.c | with_reducible apply Take.drop)⟩)); rintro _ _ ⟨rfl, rfl⟩) | (apply w_dT; exact rfl; (focus (first | exact ‹_› | with_reducible exact rfl | omega))) | (apply w_dF; exact rfl; (focus (first | exact ‹_› | with_reducible exact rfl | omega))) | apply thenS_normal | apply thenS_ret | apply thenS_exit | apply blockS_exit | apply w_ret | apply w_exit | ((with_reducible apply Sd.mk); (first | exact True.intro | omega | (constructor <;> first | omega | (unfold maxLen; omega)) | (unfold maxLen; omega))))
      all_goals first
        | contradiction
        | (apply s_fin; (exact (show ResS _ _ _ _ [_, _] from ⟨rfl, ⟨rfl, trivial⟩⟩)); (focus (exact .inl ⟨by rw [← hx], by rw [← hx]; rfl, rfl⟩)); (focus (repeat (first | with_reducible exact Take.nil | with_reducible apply Take.c | ((with_reducible apply Take.cE); (first | exact rfl | (apply blkE; (focus (first | exact rfl | exact recs_snocE rfl | exact map_snocE rfl | exact congrArg (fun v => [v]) (gslE rfl rfl (by first | rfl | exact ‹_› | omega | (simp ; first | done | omega)) (by first | rfl | exact ‹_› | omega | (simp ; first | done | omega)) rfl)))))) | with_reducible apply Take.drop))))
        | trace_state
end Go.Proofs.Ytinfmojbdaiogaa
end
section
set_option linter.unusedVariables false
set_option linter.unusedSimpArgs false
set_option maxRecDepth 4000
namespace Go.Proofs.Ytinfmojbdaiogaa
open Go.Gh Go.RowKit

/-- What DecodeBytes gives. -/
def mDec (l : List UInt8) (most : Int) : List UInt8 × Int := rdec l most nd0 0
theorem DecodeBytes_any (l : List UInt8) (most : Int) (h : SH) (hl : l.length ≤ 100000) : SRun Try.prog 18 [S l, I most] h fun r q => r = .tuple #[S (mDec l most).1, Er (mDec l most).2] ∧ q = h := by
  have hB : ∀ h, SRun Try.prog 21 [] h fun r q => ∃ M N, r = gptr M 0 17 ∧ q = (M, ⟨byC N 0, false⟩) :: (N, ⟨nodes nd0, false⟩) :: h := NewBytes_any
  have hE := fun M N h => decodeB_any M N nd0 0 l most h hl List.length_replicate (by decide)
  unfold mDec
  generalize rdec l most nd0 0 = R at *
  generalize nd0 = X at *
  obtain ⟨x, e⟩ := R
  refine w_body2 Try.func18 rfl rfl ?_
  repeat' (first | apply w_seq | apply w_region | apply o_nil | (apply o_g tyOk; exact rfl; exact rfl) | (apply o_call; exact rfl; exact rfl; (focus (first | exact rfl | assumption)); exact rfl; (focus (exact ⟨_, hB _, by repeat (first | with_reducible exact Take.nil | with_reducible apply Take.c | with_reducible apply Take.drop)⟩)); rintro _ _ ⟨M, N, rfl, rfl⟩) | apply thenS_normal | ((with_reducible apply Sd.mk); (first | exact True.intro | omega | (constructor <;> first | omega | (unfold maxLen; omega)) | (unfold maxLen; omega))))
  all_goals first | (exfalso; omega) | skip
  refine o_iface (d := .pointer 100) rfl (by kernel_rfl) rfl rfl ?_
  repeat' (first | (apply o_g tyOk; exact rfl; exact rfl) | (apply o_call; exact rfl; exact rfl; (focus (first | exact rfl | assumption)); exact rfl; (focus (exact ⟨_, hE M N _, by repeat (first | with_reducible exact Take.nil | with_reducible apply Take.c | with_reducible apply Take.drop)⟩)); rintro _ _ hh) | ((with_reducible apply Sd.mk); (first | exact True.intro | omega | (constructor <;> first | omega | (unfold maxLen; omega)) | (unfold maxLen; omega))))
  obtain ⟨rfl, rfl, rfl⟩ | ⟨rfl, A, rfl, rfl⟩ := hh
  · dsimp only
    repeat' (first | apply w_seq | apply w_region | apply o_nil | (apply o_g tyOk; exact rfl; exact rfl) | (apply o_toString_nil tyOk; iterate 7 exact rfl) | apply thenS_normal | apply w_ret | ((with_reducible apply Sd.mk); (first | exact True.intro | omega | (constructor <;> first | omega | (unfold maxLen; omega)) | (unfold maxLen; omega))))
    all_goals first
      | (apply s_fin; (exact (show ResS _ _ _ _ [_, _] from ⟨rfl, ⟨rfl, trivial⟩⟩)); (focus (exact ⟨rfl, rfl⟩)); (focus (repeat (first | with_reducible exact Take.nil | with_reducible apply Take.c | ((with_reducible apply Take.cE); (first | exact rfl | (apply blkE; (focus (first | exact rfl | exact recs_snocE rfl | exact map_snocE rfl | exact congrArg (fun v => [v]) (gslE rfl rfl (by first | rfl | exact ‹_› | omega | (simp ; first | done | omega)) (by first | rfl | exact ‹_› | omega | (simp ; first | done | omega)) rfl)))))) | with_reducible apply Take.drop))))
      | trace_state
  · dsimp only
    repeat' (first | apply w_seq | apply w_region | apply o_nil | (apply o_g tyOk; exact rfl; exact rfl) | (apply o_toString tyOk; (iterate 6 exact rfl); (focus (exact pk))) | apply thenS_normal | apply w_ret | ((with_reducible apply Sd.mk); (first | exact True.intro | omega | (constructor <;> first | omega | (unfold maxLen; omega)) | (unfold maxLen; omega))) | ((with_reducible apply Ln.mk); (first | rfl | exact ‹_› | omega | (simp ; first | done | omega))) | ((with_reducible apply Su.mk); (first | exact subAt_all | exact subAt_recZ (fun _ => rfl) (by omega) | exact subAt_rec (fun _ => rfl) (by omega))) | exact True.intro | exact rfl)
    all_goals first
      | (apply s_fin; (exact (show ResS _ _ _ _ [_, _] from ⟨rfl, ⟨rfl, trivial⟩⟩)); (focus (exact ⟨rfl, rfl⟩)); (focus (repeat (first | with_reducible exact Take.nil | with_reducible apply Take.c | ((with_reducible apply Take.cE); (first | exact rfl | (apply blkE; (focus (first | exact rfl | exact recs_snocE rfl | exact map_snocE rfl | exact congrArg (fun v => [v]) (gslE rfl rfl (by first | rfl | exact ‹_› | omega | (simp ; first | done | omega)) (by first | rfl | exact ‹_› | omega | (simp ; first | done | omega)) rfl)))))) | with_reducible apply Take.drop))))
      | trace_state
theorem awakeM_any (h : SH) : SRun Try.prog 11 [] h fun r q => r = B true ∧ q = h := by
  have h1 := fun h => EncodeBytes_any [] h (by decide)
  have h2 := fun h => EncodeBytes_any [0] h (by decide)
  have h3 := fun h => DecodeBytes_any [1, 0, 0, 0, 0, 0] 1 h (by decide)
  rw [show mEnc [] = ([0], 0) by decide +kernel] at h1
  rw [show mEnc [0] = ([1, 0, 0, 0, 0, 0], 0) by decide +kernel] at h2
  rw [show mDec [1, 0, 0, 0, 0, 0] 1 = ([0], 0) by decide +kernel] at h3
  have h4 := fun h => Adapt_any 1024 0 h
  have h5 := fun h => Adapt_any 1024 1 h
  have h6 := fun h => Price_any 1024 0 h
  rw [show adp 1024 0 = 1056 by decide +kernel] at h4
  rw [show adp 1024 1 = 992 by decide +kernel] at h5
  rw [show prz 1024 0 = 16 by decide +kernel] at h6
  refine w_body0 Try.func11 rfl rfl ?_
  repeat' (first | apply w_seq | apply w_region | apply o_nil | (apply o_g tyOk; exact rfl; exact rfl) | (apply o_call; exact rfl; exact rfl; (focus (first | exact rfl | assumption)); exact rfl; (focus (exact ⟨_, h1 _, by repeat (first | with_reducible exact Take.nil | with_reducible apply Take.c | with_reducible apply Take.drop)⟩)); rintro _ _ ⟨rfl, rfl⟩) | (apply o_call; exact rfl; exact rfl; (focus (first | exact rfl | assumption)); exact rfl; (focus (exact ⟨_, h2 _, by repeat (first | with_reducible exact Take.nil | with_reducible apply Take.c | with_reducible apply Take.drop)⟩)); rintro _ _ ⟨rfl, rfl⟩) | (apply o_call; exact rfl; exact rfl; (focus (first | exact rfl | assumption)); exact rfl; (focus (exact ⟨_, h3 _, by repeat (first | with_reducible exact Take.nil | with_reducible apply Take.c | with_reducible apply Take.drop)⟩)); rintro _ _ ⟨rfl, rfl⟩) | (apply o_call; exact rfl; exact rfl; (focus (first | exact rfl | assumption)); exact rfl; (focus (exact ⟨_, h4 _, by repeat (first | with_reducible exact Take.nil | with_reducible apply Take.c | with_reducible apply Take.drop)⟩)); rintro _ _ ⟨rfl, rfl⟩) | (apply o_call; exact rfl; exact rfl; (focus (first | exact rfl | assumption)); exact rfl; (focus (exact ⟨_, h5 _, by repeat (first | with_reducible exact Take.nil | with_reducible apply Take.c | with_reducible apply Take.drop)⟩)); rintro _ _ ⟨rfl, rfl⟩) | (apply o_call; exact rfl; exact rfl; (focus (first | exact rfl | assumption)); exact rfl; (focus (exact ⟨_, h6 _, by repeat (first | with_reducible exact Take.nil | with_reducible apply Take.c | with_reducible apply Take.drop)⟩)); rintro _ _ ⟨rfl, rfl⟩) | (apply o_want; exact rfl; exact rfl) | apply thenS_normal | apply w_ret | ((with_reducible apply Sd.mk); (first | exact True.intro | omega | (constructor <;> first | omega | (unfold maxLen; omega)) | (unfold maxLen; omega))))
  all_goals first
    | (apply s_fin; (exact (show ResS _ _ _ _ [_] from ⟨rfl, trivial⟩)); (focus (exact ⟨rfl, rfl⟩)); (focus (repeat (first | with_reducible exact Take.nil | with_reducible apply Take.c | ((with_reducible apply Take.cE); (first | exact rfl | (apply blkE; (focus (first | exact rfl | exact recs_snocE rfl | exact map_snocE rfl | exact congrArg (fun v => [v]) (gslE rfl rfl (by first | rfl | exact ‹_› | omega | (simp ; first | done | omega)) (by first | rfl | exact ‹_› | omega | (simp ; first | done | omega)) rfl)))))) | with_reducible apply Take.drop))))
    | trace_state
end Go.Proofs.Ytinfmojbdaiogaa
end
section
set_option linter.unusedVariables false
set_option linter.unusedSimpArgs false
set_option maxRecDepth 4000
namespace Go.Proofs.Ytinfmojbdaiogaa
open Go.Gh Go.RowKit

/-- The start behind an encoder. -/
theorem start_full {n : Nat} {f : Enc} (hok : EncOk n f) (w : Within encZ f) : (dnew (fin f)).full = false := by
  have hv := fin_val hok.low
  have ha := within_at w (fin_len _) hv (by have := hok.size; omega)
  have hlen : 4 ≤ (fin f).length := by rw [fin_len]; omega
  generalize fin f = D at *
  obtain ⟨a, b, c, d, r, rfl⟩ := four hlen
  · have h1 := a.toNat_lt; have h2 := b.toNat_lt; have h3 := c.toNat_lt; have h5 := d.toNat_lt
    have hv4 : val [a, b, c, d] = ((a.toNat * 256 + b.toNat) * 256 + c.toNat) * 256 + d.toNat := by simp [val]
    have ha2 : (val [a, b, c, d] : Int) < 4294967295 := by
      have := ha.2
      rw [show num' encZ + encZ.size = 4294967295 from rfl] at this
      exact this
    show decide ((((0 * 256 % 4294967296 + (a.toNat : Int)) * 256 % 4294967296 + (b.toNat : Int)) * 256 % 4294967296 + (c.toNat : Int)) * 256 % 4294967296 + (d.toNat : Int) = 4294967295) = false
    rw [decide_eq_false_iff_not]
    omega
theorem start_syn {n : Nat} {f : Enc} (hok : EncOk n f) (w : Within encZ f) : Syn (fin f) encZ (dnew (fin f)) := dnew_syn (by rw [fin_len]; omega) (start_full hok w)
/-- Bytes. -/
theorem bencN_ok (l : List UInt8) (k : Nat) : ∀ {i n : Nat} {P : List Int} {c : Int} {e : Enc}, EncOk n e → P.length = 2048 → 0 ≤ c ∧ c ≤ 255 → EncOk (n + 16 * k) (bencN l k i P c e) := by
  induction k with
  | zero => intro i n P c e h _ _; exact h
  | succ k ih =>
    intro i n P c e h hP hc
    have h1 := benc_ok (v := bat l (i : Int)) h hP hc
    rw [show n + 16 * (k + 1) = n + 16 + 16 * k by omega]
    exact ih h1.1 h1.2 (bat_255 l i)
theorem bencN_in (l : List UInt8) (k : Nat) : ∀ {i n : Nat} {P : List Int} {c : Int} {e : Enc}, EncOk n e → InB e → P.length = 2048 → 0 ≤ c ∧ c ≤ 255 → Within e (bencN l k i P c e) ∧ InB (bencN l k i P c e) := by
  induction k with
  | zero => intro i n P c e _ hi _ _; exact ⟨.refl _, hi⟩
  | succ k ih =>
    intro i n P c e h hi hP hc
    have h1 := benc_ok (v := bat l (i : Int)) h hP hc
    have h2 := benc_in (P := P) (c := c) (v := bat l (i : Int)) h hi
    have h3 := ih (i := i + 1) h1.1 h2.2 h1.2 (bat_255 l i)
    exact ⟨h2.1.trans h3.1, h3.2⟩
theorem bat_lt {l : List UInt8} {i : Nat} (h : i < l.length) : bat l (i : Int) = (l[i].toNat : Int) := by
  unfold bat
  rw [Int.toNat_natCast, List.getD_eq_getElem?_getD, List.getElem?_eq_getElem h]; rfl
theorem b8_bat {l : List UInt8} {i : Nat} (h : i < l.length) : b8 (bat l (i : Int)) = l[i] := by
  rw [bat_lt h]
  have h1 := (l[i]).toNat_lt
  have := b8_val (n := (l[i].toNat : Int)) (by omega)
  exact UInt8.toNat_inj.1 (by omega)
theorem bencN_read {D : List UInt8} {f : Enc} (hf : Beh D f) (l : List UInt8) (k : Nat) : ∀ {i n : Nat} {P : List Int} {c : Int} {e : Enc} {d : Dec}, Syn D e d → EncOk n e → InB e → P.length = 2048 → 0 ≤ c ∧ c ≤ 255 → i + k = l.length → Within (bencN l k i P c e) f →
    Syn D (bencN l k i P c e) (bdecN k P c d).2 ∧ (bdecN k P c d).1 = l.drop i := by
  induction k with
  | zero => intro i n P c e d s _ _ _ _ hik _; exact ⟨s, (List.drop_of_length_le (by omega)).symm⟩
  | succ k ih =>
    intro i n P c e d s h hi hP hc hik w
    have h1 := benc_ok (v := bat l (i : Int)) h hP hc
    have h2 := benc_in (P := P) (c := c) (v := bat l (i : Int)) h hi
    have w1 := (bencN_in l k (i := i + 1) h1.1 h2.2 h1.2 (bat_255 l i)).1.trans w
    obtain ⟨g1, g2, g3⟩ := benc_read hf s h hi w1
    have hb := bat_255 l (i : Int)
    have g4 : (bdec P c d).2.2 = bat l (i : Int) := by omega
    have := ih (i := i + 1) g1 h1.1 h2.2 h1.2 (bat_255 l i) (by omega) w
    show Syn D (bencN l k (i + 1) (benc P c e (bat l (i : Int))).1 (bat l (i : Int)) (benc P c e (bat l (i : Int))).2) (bdecN k (bdec P c d).1 (bdec P c d).2.2 (bdec P c d).2.1).2 ∧
      b8 (bdec P c d).2.2 :: (bdecN k (bdec P c d).1 (bdec P c d).2.2 (bdec P c d).2.1).1 = l.drop i
    rw [g2, g4]
    refine ⟨this.1, ?_⟩
    rw [this.2, List.drop_eq_getElem_cons (i := i) (by omega), b8_bat (by omega)]
theorem bdecN_full (k : Nat) : ∀ {P : List Int} {c : Int} {d : Dec}, (bdecN k P c d).2.full = d.full := by
  induction k with
  | zero => intro P c d; rfl
  | succ k ih => intro P c d; exact (ih (P := (bdec P c d).1) (c := (bdec P c d).2.2)).trans bdec_full
end Go.Proofs.Ytinfmojbdaiogaa
end
section
set_option linter.unusedVariables false
set_option linter.unusedSimpArgs false
set_option maxRecDepth 4000
namespace Go.Proofs.Ytinfmojbdaiogaa
open Go.Gh Go.RowKit

theorem lead_fin : ∀ f : Nat, f < 256 → (f < 128 → vlead (f : Int) 8 0 = 0 ∧ vlow (f : Int) 0 = f) ∧ (128 ≤ f → f < 192 → vlead (f : Int) 8 0 = 1 ∧ vlow (f : Int) 1 = (f : Int) - 128) ∧ (192 ≤ f → 2 ≤ vlead (f : Int) 8 0) := by decide +kernel
theorem hd_fin : ∀ m : Nat, m < 128 → vhd 0 (m : Int) = m ∧ (m < 64 → vhd 1 (m : Int) = 128 + (m : Int)) := by decide +kernel
theorem vbnd0 : vbnd 0 = 0 := rfl
theorem vbnd1 : vbnd 1 = 128 := by decide
theorem vbnd2 : vbnd 2 = 16512 := by decide
theorem vk_lo {n : Int} (h : n < 128) : vk n = 0 := by
  show (if vbnd 1 ≤ n then vks n 7 1 else 0) = 0
  rw [vbnd1, if_neg (by omega)]
theorem vk_hi {n : Int} (h : 128 ≤ n) (h2 : n < 16512) : vk n = 1 := by
  show (if vbnd 1 ≤ n then (if vbnd 2 ≤ n then vks n 6 2 else 1) else 0) = 1
  rw [vbnd1, vbnd2, if_pos h, if_neg (by omega)]
theorem vnum_lo {n : Int} (h0 : 0 ≤ n) (h : n < 128) : vnum n = [b8 n] := by
  obtain ⟨m, rfl⟩ := Int.eq_ofNat_of_zero_le h0
  unfold vnum
  rw [if_neg (by omega), vk_lo h, vbnd0, Int.sub_zero]
  show [b8 (vhd 0 (m : Int))] = _
  rw [(hd_fin m (by omega)).1]
theorem vnum_hi {n : Int} (h0 : 128 ≤ n) (h : n < 16512) : vnum n = [b8 (128 + (n - 128) / 256), b8 ((n - 128) % 256)] := by
  unfold vnum
  rw [if_neg (by omega), vk_hi h0 h, vbnd1]
  show [b8 (vhd 1 ((n - 128) / 256)), b8 ((n - 128) % 256)] = _
  obtain ⟨m, hm⟩ := Int.eq_ofNat_of_zero_le (show 0 ≤ (n - 128) / 256 by omega)
  rw [hm, (hd_fin m (by omega)).2 (by omega)]
theorem bat_zero (x : UInt8) (r : List UInt8) : bat (x :: r) 0 = x.toNat := rfl
theorem vpeek_lo {x : UInt8} {r : List UInt8} (h : x.toNat < 128) : vpeek (x :: r) = ((x.toNat : Int), 1, true) := by
  have hl := (lead_fin x.toNat (by omega)).1 h
  unfold vpeek
  rw [if_neg (by simp), bat_zero, hl.1, if_neg (by simp), hl.2, vbnd0]
  rw [show vacc (x :: r) 0 1 (x.toNat : Int) = x.toNat from rfl, if_neg (by omega), Int.add_zero]
  rfl
theorem vpeek_hi {x y : UInt8} {r : List UInt8} (h : 128 ≤ x.toNat) (h2 : x.toNat < 192) : vpeek (x :: y :: r) = (((x.toNat : Int) - 128) * 256 + y.toNat + 128, 2, true) := by
  have hl := (lead_fin x.toNat (by omega)).2.1 h h2
  have hy := y.toNat_lt
  unfold vpeek
  rw [if_neg (by simp), bat_zero, hl.1, if_neg (by simp), hl.2, vbnd1]
  rw [show vacc (x :: y :: r) 1 1 ((x.toNat : Int) - 128) = ((x.toNat : Int) - 128) * 256 + y.toNat from rfl, if_neg (by omega)]
  rfl
theorem vpeek_num {n : Int} (h0 : 0 ≤ n) (h : n ≤ 4096) (r : List UInt8) : vpeek (vnum n ++ r) = (n, ((vnum n).length : Int), true) := by
  by_cases h1 : n < 128
  · rw [vnum_lo h0 h1]
    have := b8_val (n := n) (by omega)
    show vpeek (b8 n :: r) = _
    rw [vpeek_lo (by omega), this]
    rfl
  · rw [vnum_hi (by omega) (by omega)]
    have e1 := b8_val (n := 128 + (n - 128) / 256) (by omega)
    have e2 := b8_val (n := (n - 128) % 256) (by omega)
    show vpeek (b8 (128 + (n - 128) / 256) :: b8 ((n - 128) % 256) :: r) = _
    rw [vpeek_hi (by omega) (by omega), e1, e2]
    have : (128 + (n - 128) / 256 - 128) * 256 + (n - 128) % 256 + 128 = n := by omega
    rw [this]
    rfl
theorem rdN_num {n : Int} (h0 : 0 ≤ n) (h : n ≤ 4096) (r : List UInt8) : rdN (vnum n ++ r) 4096 = (n, r, 0) := by
  unfold rdN
  rw [vpeek_num h0 h]
  dsimp only
  rw [if_neg (by decide), if_neg (by omega), Int.toNat_natCast, List.drop_left]
/-- Texts come back. -/
theorem mDec_mEnc {s : List UInt8} (hs : s.length ≤ 4096) : (mEnc s).2 = 0 ∧ mDec (mEnc s).1 s.length = (s, 0) ∧ mDec (mEnc s).1 ((s.length : Int) - 1) = ([], 2) := by
  have he : mEnc s = (if s.length = 0 then vnum 0 else vnum s.length ++ fin (bencN s s.length 0 nd0 0 encZ), 0) := if_neg (by omega)
  rw [he]
  refine ⟨rfl, ?_⟩
  dsimp only
  by_cases h0 : s.length = 0
  · obtain rfl := List.length_eq_zero_iff.1 h0
    rw [if_pos h0]
    have hr := rdN_num (n := 0) (by decide) (by decide) []
    rw [List.append_nil] at hr
    unfold mDec rdec
    rw [hr]
    exact ⟨rfl, rfl⟩
  · rw [if_neg h0]
    have hok := bencN_ok s s.length (i := 0) (P := nd0) (c := 0) encZ_ok List.length_replicate (by decide)
    have hin := (bencN_in s s.length (i := 0) (P := nd0) (c := 0) encZ_ok e00_InB List.length_replicate (by decide)).1
    have hb := bencN_read (Beh.fin hok) s s.length (i := 0) (P := nd0) (c := 0) (start_syn hok hin) encZ_ok e00_InB List.length_replicate (by decide) (Nat.zero_add _) (.refl _)
    have hf := start_full hok hin
    have hfu := bdecN_full s.length (P := nd0) (c := 0) (d := dnew (fin (bencN s s.length 0 nd0 0 encZ)))
    rw [hf] at hfu
    have hend := inv_end hok.low hb.1 hfu
    unfold mDec rdec
    rw [rdN_num (by omega) (by omega)]
    dsimp only
    rw [Int.toNat_natCast]
    rw [if_neg (by decide), if_neg (by omega), if_neg (by omega), hend, if_neg (by decide), hb.2]
    rw [if_neg (by decide), if_pos (by omega)]
    exact ⟨rfl, rfl⟩
end Go.Proofs.Ytinfmojbdaiogaa
end
section
set_option linter.unusedVariables false
set_option linter.unusedSimpArgs false
set_option maxRecDepth 4000
namespace Go.Proofs.Ytinfmojbdaiogaa
open Go.Gh Go.RowKit

/-- The probability of a bit that comes again and again, as it grows. -/
def qn (q : Nat) : Nat := q + (2048 - q) / 32
def qs : Nat → Nat
  | 0 => 1024
  | t + 1 => qn (qs t)
/-- What such a bit costs at most, in parts of 64 of a bit. -/
def gq (q : Nat) : Nat := Nat.log2 ((2 ^ 24) ^ 64 / (q * 8191) ^ 64) + 1
def gsum : Nat → Nat
  | 0 => 0
  | t + 1 => gsum t + gq (qs t)
theorem gq_ok {q : Nat} (h : 0 < q) : (2 ^ 24) ^ 64 ≤ (q * 8191) ^ 64 * 2 ^ gq q := by
  have hy : 0 < (q * 8191) ^ 64 := Nat.pow_pos (by omega)
  unfold gq
  generalize (2 ^ 24) ^ 64 = x
  generalize (q * 8191) ^ 64 = y at *
  have h1 : x / y < 2 ^ ((x / y).log2 + 1) := Nat.lt_log2_self
  have h2 := (Nat.div_lt_iff_lt_mul hy).1 h1
  rw [Nat.mul_comm] at h2
  omega
theorem qn_in {q : Nat} (h : 1 ≤ q ∧ q ≤ 2047) : 1 ≤ qn q ∧ qn q ≤ 2047 := by unfold qn; omega
theorem qs_in : ∀ t : Nat, 1 ≤ qs t ∧ qs t ≤ 2047
  | 0 => by decide
  | t + 1 => qn_in (qs_in t)
theorem qs_far : ∀ t : Nat, qs (200 + t) = 2017
  | 0 => by decide +kernel
  | t + 1 => by
    show qn (qs (200 + t)) = 2017
    rw [qs_far t]; decide
theorem gsum_far : ∀ t : Nat, gsum (200 + t) = gsum 200 + 2 * t
  | 0 => rfl
  | t + 1 => by
    show gsum (200 + t) + gq (qs (200 + t)) = _
    rw [gsum_far t, qs_far t, show gq 2017 = 2 by decide +kernel]
    omega
theorem gsum_le {s t : Nat} (h : s ≤ t) : gsum s ≤ gsum t := by
  induction h with
  | refl => exact Nat.le_refl _
  | step _ ih => exact Nat.le_trans ih (Nat.le_add_right _ _)
theorem gsum_200 : gsum 200 ≤ 3000 := by decide +kernel
theorem gsum_in (k : Nat) : gsum k ≤ 3000 + 2 * k := by
  by_cases h : k ≤ 200
  · have := gsum_le h
    have := gsum_200
    omega
  · have := gsum_far (k - 200)
    rw [show 200 + (k - 200) = k by omega] at this
    have := gsum_200
    omega
def lnC : Nat := 4294967295 ^ 64
/-- The bytes that were written so far, beside the size of the interval and what was paid. -/
def Paid (e : Enc) (G : Nat) : Prop := (256 ^ e.out.length) ^ 64 * lnC ≤ e.size.toNat ^ 64 * 2 ^ G
theorem Paid.mono {e : Enc} {G H : Nat} (h : Paid e G) (g : G ≤ H) : Paid e H :=
  Nat.le_trans h (Nat.mul_le_mul_left _ (Nat.pow_le_pow_right (by decide) g))
theorem paid_step {s s1 q L : Nat} {G : Nat} (hq : 0 < q) (h1 : s * (q * 8191) ≤ s1 * 2 ^ 24) (h : (256 ^ L) ^ 64 * lnC ≤ s ^ 64 * 2 ^ G) (j : Nat) : (256 ^ (L + j)) ^ 64 * lnC ≤ (s1 * 256 ^ j) ^ 64 * 2 ^ (G + gq q) := by
  have h2 := Nat.pow_le_pow_left h1 64
  rw [Nat.mul_pow s (q * 8191), Nat.mul_pow s1 (2 ^ 24)] at h2
  have h3 := gq_ok hq
  have hy : 0 < (q * 8191) ^ 64 := Nat.pow_pos (by omega)
  have h4 : s ^ 64 ≤ s1 ^ 64 * 2 ^ gq q := by
    refine Nat.le_of_mul_le_mul_right (Nat.le_trans h2 ?_) hy
    rw [Nat.mul_assoc, Nat.mul_comm (2 ^ gq q)]
    exact Nat.mul_le_mul_left _ h3
  rw [Nat.pow_add, Nat.mul_pow, Nat.mul_pow, Nat.pow_add]
  generalize (256 ^ L) ^ 64 = a at *
  generalize (256 ^ j) ^ 64 = b at *
  generalize s ^ 64 = u at *
  generalize s1 ^ 64 = w at *
  generalize 2 ^ G = g at *
  generalize 2 ^ gq q = p at *
  generalize lnC = c at *
  calc a * b * c = a * c * b := by rw [Nat.mul_assoc, Nat.mul_comm b, ← Nat.mul_assoc]
    _ ≤ u * g * b := Nat.mul_le_mul_right _ h
    _ ≤ w * p * g * b := Nat.mul_le_mul_right _ (Nat.mul_le_mul_right _ h4)
    _ = w * b * (g * p) := by rw [Nat.mul_assoc w, Nat.mul_assoc w, Nat.mul_assoc w, Nat.mul_comm p, Nat.mul_comm (g * p)]
theorem paid_bit {n : Nat} {e : Enc} {z b : Int} {q G : Nat} (hok : EncOk n e) (hi : InB e) (hq : 1 ≤ q ∧ q ≤ 2047) (hz : z = if b = 0 then (q : Int) else 2048 - q) (h : Paid e G) : Paid (ebit e z b) (G + gq q) := by
  obtain ⟨h1, h2, h3, h4⟩ := estep_num hok hi z b
  have hl := (estep_ok hok z b).2.1
  obtain ⟨j, j1, j2, j3⟩ := norm_in 2 hl
  have hsz := hok.size
  have hcl : clp z = z := by
    unfold clp
    split at hz <;> omega
  have hb : bound e.size z = e.size / 2048 * z := by unfold bound; rw [hcl]
  rw [hb] at h4
  obtain ⟨s, hs⟩ := Int.eq_ofNat_of_zero_le (show 0 ≤ e.size by omega)
  have key : ∃ s1 : Nat, (estep e z b).size = s1 ∧ s * (q * 8191) ≤ s1 * 2 ^ 24 := by
    rw [hs] at h4 hsz
    have hu : ((s : Int) / 2048) = ((s / 2048 : Nat) : Int) := by omega
    rw [hu] at h4
    obtain ⟨u, hu2⟩ : ∃ u, u = s / 2048 := ⟨_, rfl⟩
    rw [← hu2] at h4
    have a1 : s ≤ 2048 * u + 2047 := by omega
    have a2 : 2048 * u ≤ s := by omega
    have a3 : 8192 ≤ u := by omega
    by_cases hb0 : b = 0
    · rw [if_pos hb0] at h4 hz
      refine ⟨u * q, by rw [h4, hz, Int.natCast_mul], ?_⟩
      have : s * 8191 ≤ u * 16777216 := by omega
      have := Nat.mul_le_mul_right q this
      rw [show (2 : Nat) ^ 24 = 16777216 from rfl, Nat.mul_comm q, ← Nat.mul_assoc, Nat.mul_assoc u q, Nat.mul_comm q, ← Nat.mul_assoc]
      exact this
    · rw [if_neg hb0] at h4 hz
      have hp : (2048 - (q : Int)) = ((2048 - q : Nat) : Int) := by omega
      have h4 : (estep e z b).size = (s : Int) - ((u * (2048 - q) : Nat) : Int) := by rw [h4, hz, hp, Int.natCast_mul]
      have m1 := Nat.mul_le_mul_right (2048 - q) a2
      have m2 : s * (2048 - q) + s * q = s * 2048 := by rw [← Nat.mul_add]; congr 1; omega
      have m3 : 2048 * u * (2048 - q) = 2048 * (u * (2048 - q)) := Nat.mul_assoc _ _ _
      have m4 : s * (2048 - q) ≤ s * 2048 := Nat.mul_le_mul_left _ (by omega)
      refine ⟨s - u * (2048 - q), by rw [h4]; omega, ?_⟩
      rw [show (2 : Nat) ^ 24 = 16777216 from rfl, ← Nat.mul_assoc]
      generalize u * (2048 - q) = x at *
      generalize s * q = y at *
      generalize s * (2048 - q) = w at *
      omega
  obtain ⟨s1, hs1, hk⟩ := key
  have hp0 : Paid e G := h
  unfold Paid at hp0 ⊢
  rw [hs, Int.toNat_natCast] at hp0
  have := paid_step (L := e.out.length) (by omega) hk hp0 j
  have e1 : (ebit e z b).out.length = e.out.length + j := by show (norm 2 (estep e z b)).out.length = _; rw [j1, h3]
  have e2 : (ebit e z b).size.toNat = s1 * 256 ^ j := by
    show (norm 2 (estep e z b)).size.toNat = _
    rw [j3, hs1]; unfold pw
    rw [← Int.natCast_mul, Int.toNat_natCast]
  rw [e1, e2]
  exact this
end Go.Proofs.Ytinfmojbdaiogaa
end
section
set_option linter.unusedVariables false
set_option linter.unusedSimpArgs false
set_option maxRecDepth 4000
namespace Go.Proofs.Ytinfmojbdaiogaa
open Go.Gh Go.RowKit

/-- On the way of a number through a tree, all bits have the same probability. -/
def PathQ (t : List Int) (v : Int) (q : Nat) : Nat → Nat → Prop
  | 0, _ => True
  | k + 1, j => j < t.length ∧ t[j]! = (if v / 2 ^ k % 2 = 0 then (q : Int) else 2048 - q) ∧ PathQ t v q k (2 * j + (v / 2 ^ k % 2).toNat)
theorem set_far {t : List Int} {j i : Nat} {x : Int} (h : j ≠ i) : (t.set j x)[i]! = t[i]! := by
  rw [List.getElem!_eq_getElem?_getD, List.getElem!_eq_getElem?_getD, List.getElem?_set_ne h]
theorem set_here {t : List Int} {j : Nat} {x : Int} (h : j < t.length) : (t.set j x)[j]! = x := by
  rw [List.getElem!_eq_getElem?_getD, List.getElem?_set_self h]; rfl
theorem PathQ.set {t : List Int} {v : Int} {q i : Nat} {x : Int} : ∀ (k j : Nat), i < j → PathQ t v q k j → PathQ (t.set i x) v q k j
  | 0, _, _, _ => trivial
  | k + 1, j, hij, h => ⟨by rw [List.length_set]; exact h.1, by rw [set_far (by omega)]; exact h.2.1, PathQ.set k _ (by omega) h.2.2⟩
theorem tenc_low {v : Int} : ∀ (k : Nat) {t : List Int} {e : Enc} {j i : Nat}, i < j → (tenc v k t e j).1[i]! = t[i]!
  | 0, _, _, _, _, _ => rfl
  | k + 1, t, e, j, i, h => by
    have := tenc_low (v := v) k (t := t.set j (adp t[j]! (v / 2 ^ k % 2))) (e := ebit e t[j]! (v / 2 ^ k % 2)) (j := 2 * j + (v / 2 ^ k % 2).toNat) (i := i) (by omega)
    exact this.trans (set_far (by omega))
theorem tenc_len2 {v : Int} : ∀ (k : Nat) {t : List Int} {e : Enc} {j : Nat}, (tenc v k t e j).1.length = t.length
  | 0, _, _, _ => rfl
  | k + 1, t, e, j => (tenc_len2 k (t := t.set j (adp t[j]! (v / 2 ^ k % 2)))).trans List.length_set
theorem adp_q {q : Nat} (h : 1 ≤ q ∧ q ≤ 2047) (b : Int) (hb : b = 0 ∨ b = 1) : adp (if b = 0 then (q : Int) else 2048 - q) b = if b = 0 then (qn q : Int) else 2048 - qn q := by
  unfold adp qn
  rcases hb with rfl | rfl
  · rw [if_pos rfl, if_pos rfl, if_pos rfl]
    have : clp (q : Int) = q := by unfold clp; omega
    rw [this]; omega
  · rw [if_neg (by decide), if_neg (by decide), if_neg (by decide)]
    have : clp (2048 - (q : Int)) = 2048 - q := by unfold clp; omega
    rw [this]; omega
theorem PathQ.next {v : Int} {q : Nat} (hq : 1 ≤ q ∧ q ≤ 2047) : ∀ (k : Nat) {t : List Int} {e : Enc} {j : Nat}, 1 ≤ j → PathQ t v q k j → PathQ (tenc v k t e j).1 v (qn q) k j
  | 0, _, _, _, _, _ => trivial
  | k + 1, t, e, j, hj, h => by
    obtain ⟨h1, h2, h3⟩ := h
    have hb := bit01 v k
    show PathQ (tenc v k (t.set j (adp t[j]! (v / 2 ^ k % 2))) (ebit e t[j]! (v / 2 ^ k % 2)) (2 * j + (v / 2 ^ k % 2).toNat)).1 v (qn q) (k + 1) j
    refine ⟨by rw [tenc_len2, List.length_set]; exact h1, ?_, ?_⟩
    · rw [tenc_low k (by omega), set_here h1, h2]
      exact adp_q hq _ hb
    · exact PathQ.next hq k (by omega) (PathQ.set k _ (by omega) h3)
theorem paid_tenc {v : Int} {q : Nat} (hq : 1 ≤ q ∧ q ≤ 2047) (k : Nat) : ∀ {n : Nat} {t : List Int} {e : Enc} {j G : Nat}, 1 ≤ j → PathQ t v q k j → EncOk n e → InB e → Paid e G → Paid (tenc v k t e j).2 (G + k * gq q) := by
  induction k with
  | zero => intro n t e j G _ _ _ _ h; rw [Nat.zero_mul, Nat.add_zero]; exact h
  | succ k ih =>
    intro n t e j G hj hp hok hi h
    obtain ⟨h1, h2, h3⟩ := hp
    have hb := paid_bit hok hi hq h2 h
    have := ih (t := t.set j (adp t[j]! (v / 2 ^ k % 2))) (j := 2 * j + (v / 2 ^ k % 2).toNat) (by omega) (PathQ.set k _ (by omega) h3) (ebit_ok hok t[j]! (v / 2 ^ k % 2)) (ebit_InB hok hi t[j]! (v / 2 ^ k % 2)) hb
    rw [Nat.succ_mul, Nat.add_comm (k * gq q), ← Nat.add_assoc]
    exact this
theorem pathq_new {v : Int} : ∀ (k j : Nat), 2 ^ k * (j + 1) ≤ 512 → PathQ (List.replicate 256 1024) v 1024 k j
  | 0, _, _ => trivial
  | k + 1, j, h => by
    have hb := bit01 v k
    rw [Nat.pow_succ, Nat.mul_assoc] at h
    have a2 := Nat.mul_le_mul_left (2 ^ k) (show 2 * j + (v / 2 ^ k % 2).toNat + 1 ≤ 2 * (j + 1) by omega)
    have a3 := Nat.mul_le_mul_right (2 * (j + 1)) (Nat.one_le_two_pow (n := k))
    have hj : j < 256 := by omega
    refine ⟨by rw [List.length_replicate]; exact hj, ?_, pathq_new k _ (Nat.le_trans a2 h)⟩
    rw [getElem!_pos _ j (by rw [List.length_replicate]; exact hj), List.getElem_replicate]
    split <;> rfl
theorem bsel_put {P t : List Int} {k : Nat} (hk : k < 8) (hP : P.length = 2048) (ht : t.length = 256) : ∀ i, i < 8 → bsel (bput P k t) i = if i = k then t else bsel P i := fun i hi => by
  unfold bsel bput
  have hl : (P.take (k * 256)).length = k * 256 := by rw [List.length_take]; omega
  by_cases e : i = k
  · subst e
    rw [if_pos rfl, List.append_assoc, List.drop_append_of_le_length (by omega), List.drop_of_length_le (by omega), List.nil_append, List.take_append_of_le_length (by omega), List.take_of_length_le (by omega)]
  · rw [if_neg e]
    refine List.ext_getElem? fun m => ?_
    by_cases hm : m < 256
    · rw [List.getElem?_take_of_lt hm, List.getElem?_take_of_lt hm, List.getElem?_drop, List.getElem?_drop]
      by_cases hik : i < k
      · rw [List.append_assoc, List.getElem?_append_left (by rw [hl]; omega), List.getElem?_take_of_lt (by omega)]
      · rw [List.getElem?_append_right (by rw [List.length_append, hl]; omega), List.getElem?_drop, List.length_append, hl, ht]
        congr 1; omega
    · rw [List.getElem?_take_eq_none (by omega), List.getElem?_take_eq_none (by omega)]
/-- A byte of the group gr, written again. -/
theorem paid_benc {P : List Int} {c v : Int} {n q G : Nat} {e : Enc} (hq : 1 ≤ q ∧ q ≤ 2047) (hP : P.length = 2048) (hc0 : 0 ≤ c ∧ c ≤ 255) (hok : EncOk n e) (hi : InB e) (hp : PathQ (bsel P (c / 32).toNat) v q 8 1) (h : Paid e G) :
    Paid (benc P c e v).2 (G + 8 * gq q) ∧ PathQ (bsel (benc P c e v).1 (c / 32).toNat) v (qn q) 8 1 := by
  have hk : (c / 32).toNat < 8 := by omega
  refine ⟨paid_tenc hq 8 (by decide) hp hok hi h, ?_⟩
  show PathQ (bsel (bput P (c / 32).toNat (tenc v 8 (bsel P (c / 32).toNat) e 1).1) (c / 32).toNat) v (qn q) 8 1
  rw [bsel_put hk hP (by rw [tenc_len2, bsel_len hP hk]) _ hk, if_pos rfl]
  exact PathQ.next hq 8 (by decide) hp
/-- A byte that is written k times. -/
def bst (x : Int) (s : List Int × Int × Enc) : List Int × Int × Enc := ((benc s.1 s.2.1 s.2.2 x).1, x, (benc s.1 s.2.1 s.2.2 x).2)
def bit' (x : Int) : Nat → List Int × Int × Enc → List Int × Int × Enc
  | 0, s => s
  | k + 1, s => bit' x k (bst x s)
theorem bit_succ (x : Int) : ∀ (k : Nat) (s : List Int × Int × Enc), bit' x (k + 1) s = bst x (bit' x k s)
  | 0, _ => rfl
  | k + 1, s => bit_succ x k (bst x s)
theorem bencN_rep {m : Nat} {c : UInt8} : ∀ (k i : Nat) (s : List Int × Int × Enc), i + k ≤ m → bencN (List.replicate m c) k i s.1 s.2.1 s.2.2 = (bit' c.toNat k s).2.2
  | 0, _, _, _ => rfl
  | k + 1, i, s, h => by
    have hb : bat (List.replicate m c) (i : Int) = c.toNat := by
      rw [bat_lt (by rw [List.length_replicate]; omega), List.getElem_replicate]
    show bencN (List.replicate m c) k (i + 1) (benc s.1 s.2.1 s.2.2 (bat (List.replicate m c) (i : Int))).1 (bat (List.replicate m c) (i : Int)) (benc s.1 s.2.1 s.2.2 (bat (List.replicate m c) (i : Int))).2 = _
    rw [hb]
    exact bencN_rep k (i + 1) (bst c.toNat s) (by omega)
abbrev s00 : List Int × Int × Enc := (nd0, 0, encZ)
theorem bit_ok {x : Int} (hx : 0 ≤ x ∧ x ≤ 255) : ∀ m : Nat, (bit' x m s00).1.length = 2048 ∧ (0 ≤ (bit' x m s00).2.1 ∧ (bit' x m s00).2.1 ≤ 255) ∧ EncOk (16 * m) (bit' x m s00).2.2 ∧ InB (bit' x m s00).2.2
  | 0 => ⟨List.length_replicate, ⟨Int.le_refl 0, by show (0 : Int) ≤ 255; decide⟩, encZ_ok, e00_InB⟩
  | m + 1 => by
    obtain ⟨h1, h2, h3, h4⟩ := bit_ok hx m
    rw [bit_succ]
    have g1 := benc_ok (v := x) h3 h1 h2
    have g2 := benc_in (P := (bit' x m s00).1) (c := (bit' x m s00).2.1) (v := x) h3 h4
    exact ⟨g1.2, hx, by rw [show 16 * (m + 1) = 16 * m + 16 by omega]; exact g1.1, g2.2⟩
theorem bit_paid {x : Int} (hx : 0 ≤ x ∧ x ≤ 255) : ∀ m : Nat, ∃ s, s ≤ m + 1 ∧ (bit' x (m + 1) s00).2.1 = x ∧ PathQ (bsel (bit' x (m + 1) s00).1 (x / 32).toNat) x (qs s) 8 1 ∧ Paid (bit' x (m + 1) s00).2.2 (8 * (65 + gsum s))
  | 0 => by
    have hk : (x / 32).toNat < 8 := by omega
    have h0 : Paid encZ 0 := by
      show (256 ^ 0) ^ 64 * lnC ≤ 4294967295 ^ 64 * 2 ^ 0
      rw [Nat.pow_zero, Nat.one_pow, Nat.one_mul, Nat.mul_one]
      exact Nat.le_refl _
    have hnew : ∀ i, i < 8 → bsel nd0 i = List.replicate 256 1024 := fun i hi => by
      unfold bsel nd0
      rw [List.drop_replicate, List.take_replicate, Nat.min_eq_left (by omega)]
    have hp0 : PathQ (bsel nd0 ((0 : Int) / 32).toNat) x 1024 8 1 := by
      rw [show ((0 : Int) / 32).toNat = 0 from rfl, hnew 0 (by decide)]
      exact pathq_new 8 1 (by decide)
    obtain ⟨g1, g2⟩ := paid_benc (P := nd0) (c := 0) (v := x) (q := 1024) (by decide) List.length_replicate (by decide) encZ_ok e00_InB hp0 h0
    have hg : gq 1024 = 65 := by decide +kernel
    rw [hg] at g1
    show ∃ s, s ≤ 1 ∧ x = x ∧ PathQ (bsel (benc nd0 0 encZ x).1 (x / 32).toNat) x (qs s) 8 1 ∧ Paid (benc nd0 0 encZ x).2 (8 * (65 + gsum s))
    by_cases hx0 : (x / 32).toNat = 0
    · refine ⟨1, Nat.le_refl _, rfl, ?_, g1.mono (by omega)⟩
      rw [hx0]
      exact g2
    · refine ⟨0, by decide, rfl, ?_, g1.mono (by omega)⟩
      show PathQ (bsel (bput nd0 ((0 : Int) / 32).toNat (tenc x 8 (bsel nd0 ((0 : Int) / 32).toNat) encZ 1).1) (x / 32).toNat) x (qs 0) 8 1
      have hput := bsel_put (P := nd0) (t := (tenc x 8 (bsel nd0 0) encZ 1).1) (k := 0) (by decide) List.length_replicate (by rw [tenc_len2, hnew 0 (by decide)]; exact List.length_replicate) _ hk
      rw [show ((0 : Int) / 32).toNat = 0 from rfl, hput, if_neg hx0, hnew _ hk]
      exact pathq_new 8 1 (by decide)
  | m + 1 => by
    obtain ⟨s, h1, h2, h3, h4⟩ := bit_paid hx m
    obtain ⟨k1, k2, k3, k4⟩ := bit_ok hx (m + 1)
    rw [bit_succ x (m + 1)]
    generalize bit' x (m + 1) s00 = S at *
    obtain ⟨P, c, e⟩ := S
    dsimp only at *
    subst h2
    obtain ⟨g1, g2⟩ := paid_benc (v := c) (qs_in s) k1 hx k3 k4 h3 h4
    refine ⟨s + 1, by omega, rfl, g2, g1.mono ?_⟩
    show 8 * (65 + gsum s) + 8 * gq (qs s) ≤ 8 * (65 + (gsum s + gq (qs s)))
    omega
theorem paid_cut {L G S C : Nat} (m : Nat) (hm : 0 < m) (hC : (2 ^ 31) ^ m ≤ C) (hS : S < 2 ^ 32) (h : (256 ^ L) ^ m * C ≤ S ^ m * 2 ^ G) : 8 * (L * m) + 31 * m < 32 * m + G := by
  have h2 : S ^ m < (2 ^ 32) ^ m := Nat.pow_lt_pow_left hS (by omega)
  have h3 : (256 ^ L) ^ m * (2 ^ 31) ^ m < (2 ^ 32) ^ m * 2 ^ G :=
    Nat.lt_of_le_of_lt (Nat.le_trans (Nat.mul_le_mul_left _ hC) h) (Nat.mul_lt_mul_of_pos_right h2 (Nat.two_pow_pos G))
  rw [show (256 : Nat) = 2 ^ 8 from rfl, ← Nat.pow_mul, ← Nat.pow_mul, ← Nat.pow_mul, ← Nat.pow_mul, ← Nat.pow_add, ← Nat.pow_add] at h3
  exact (Nat.pow_lt_pow_iff_right (a := 2) (by decide)).1 h3
theorem paid_len {n : Nat} {e : Enc} {G : Nat} (hok : EncOk n e) (h : Paid e G) : 512 * e.out.length ≤ 64 + G := by
  have hsz := hok.size
  have h1 : (2 ^ 31) ^ 64 ≤ lnC := Nat.pow_le_pow_left (show 2 ^ 31 ≤ 4294967295 by decide) 64
  have := paid_cut 64 (by decide) h1 (by have : (2 : Nat) ^ 32 = 4294967296 := rfl; omega) h
  omega
/-- Equal bytes take few bytes. -/
theorem rep_len (c : UInt8) (k : Nat) (hk : k ≤ 4096) : (mEnc (List.replicate k c)).1.length ≤ 80 + k / 30 := by
  have hx : 0 ≤ (c.toNat : Int) ∧ (c.toNat : Int) ≤ 255 := by have := c.toNat_lt; omega
  rw [show mEnc (List.replicate k c) = (if (List.replicate k c).length = 0 then vnum 0 else vnum (List.replicate k c).length ++ fin (bencN (List.replicate k c) (List.replicate k c).length 0 nd0 0 encZ), 0) from if_neg (by rw [List.length_replicate]; omega)]
  dsimp only
  rw [List.length_replicate]
  cases k with
  | zero =>
    rw [if_pos rfl, vnum_len (by decide)]
    have : vk 0 = 0 := rfl
    omega
  | succ k =>
    rw [if_neg (by omega), bencN_rep (k + 1) 0 s00 (by omega)]
    obtain ⟨s, h1, h2, h3, h4⟩ := bit_paid hx k
    obtain ⟨k1, k2, k3, k4⟩ := bit_ok hx (k + 1)
    have h5 := paid_len k3 h4
    have h6 := gsum_le h1
    have h7 := gsum_in (k + 1)
    have h8 : vk ((k + 1 : Nat) : Int) ≤ 1 := by
      by_cases g : ((k + 1 : Nat) : Int) < 128
      · rw [vk_lo g]; exact Nat.zero_le _
      · rw [vk_hi (by omega) (by omega)]; exact Nat.le_refl _
    rw [List.length_append, fin_len, vnum_len (Int.natCast_nonneg _)]
    omega
/-- More equal bytes never take fewer bytes. -/
theorem rep_mono (c : UInt8) (k : Nat) (hk : k < 4096) : (mEnc (List.replicate k c)).1.length ≤ (mEnc (List.replicate (k + 1) c)).1.length := by
  have hx : 0 ≤ (c.toNat : Int) ∧ (c.toNat : Int) ≤ 255 := by have := c.toNat_lt; omega
  have he : ∀ k, k ≤ 4096 → mEnc (List.replicate k c) = (if k = 0 then vnum 0 else vnum k ++ fin (bit' c.toNat k s00).2.2, 0) := fun k hk => by
    rw [show mEnc (List.replicate k c) = (if (List.replicate k c).length = 0 then vnum 0 else vnum (List.replicate k c).length ++ fin (bencN (List.replicate k c) (List.replicate k c).length 0 nd0 0 encZ), 0) from if_neg (by rw [List.length_replicate]; omega)]
    rw [List.length_replicate, bencN_rep k 0 s00 (by omega)]
  rw [he k (by omega), he (k + 1) (by omega)]
  dsimp only
  rw [if_neg (show ¬ k + 1 = 0 by omega)]
  by_cases h0 : k = 0
  · rw [if_pos h0, List.length_append, fin_len, vnum_len (by decide), show vk 0 = 0 from rfl]; omega
  · rw [if_neg h0, List.length_append, List.length_append, fin_len, fin_len, vnum_len (Int.natCast_nonneg _), vnum_len (Int.natCast_nonneg _)]
    obtain ⟨k1, k2, k3, k4⟩ := bit_ok hx k
    have hw := within_len (benc_in (P := (bit' c.toNat k s00).1) (c := (bit' c.toNat k s00).2.1) (v := c.toNat) k3 k4).1
    rw [bit_succ]
    have hv : vk (k : Int) ≤ vk ((k + 1 : Nat) : Int) := by
      by_cases g : (k : Int) < 128
      · rw [vk_lo g]; exact Nat.zero_le _
      · rw [vk_hi (n := (k : Int)) (by omega) (by omega), vk_hi (n := ((k + 1 : Nat) : Int)) (by omega) (by omega)]; exact Nat.le_refl _
    have hw' : (bit' c.toNat k s00).2.2.out.length ≤ (bst c.toNat (bit' c.toNat k s00)).2.2.out.length := hw
    omega
end Go.Proofs.Ytinfmojbdaiogaa
end
section
set_option linter.unusedVariables false
set_option linter.unusedSimpArgs false
set_option maxRecDepth 4000
namespace Go.Gh
open Go.RowKit

theorem vrel_det {φ : Nat → Loc} {L : Lens} {as0 : List Value} {vs : Array Value} (hc : as0.all constOk = true) (h : VRel φ L as0 vs) : vs = as0.toArray := by
  obtain ⟨hs, hg⟩ := h
  refine Array.ext (by simpa using hs) fun i hi hi' => ?_
  have hl : i < as0.length := by simpa using hi'
  obtain ⟨v, g1, g2⟩ := hg i as0[i] (by simp [hl])
  have := Val.det ((List.all_eq_true.1 hc) as0[i] (List.getElem_mem hl)) g2
  rw [Array.getElem?_eq_getElem hi] at g1
  simp only [Option.some.injEq] at g1
  rw [g1, this]; simp
/-- A call that hands back a value without addresses and makes new blocks alone. -/
theorem srun_lib {P : Program} {f : FuncId} {as0 : List Value} {v : Value} {h : SH} (hc : as0.all constOk = true) (hv : constOk v = true)
    (k : ∀ w : World, Calls P f as0.toArray w fun e w' => e = .returned v ∧ Below w.heap.size w w') : SRun P f as0 h fun r q => r = v ∧ q = h := by
  unfold SRun
  intro H i
  unfold Run
  intro B0 w0 φs Ls φ w vs he hr hvs
  rw [vrel_det hc hvs]
  refine (k w).mono ?_
  rintro e w' ⟨rfl, hb⟩
  exact ⟨φ, v, H, v, he, hr.later hb, rfl, Val.const hv, h, ⟨rfl, rfl⟩, i⟩
end Go.Gh
end
section
namespace Go.Proofs
open Go.Shelf
open Go.RowKit in
open Go.RowKit in
open Go.RowKit in
open Go.RowKit in
open Go.RowKit in
open Go.RowKit in
open Go.RowKit in
open Go.RowKit in
open Go.RowKit in
open Go.RowKit in
open Go.RowKit Go.Lib in
open Go.RowKit Go.Lib in
open Go.RowKit Go.Lib in
open Go.RowKit Go.Lib in
def Try.lays105_ren : Go.Shelf.Ren := ⟨fun | 105 => 44 | 212 => 68 | 99 => 69 | 165 => 70 | 166 => 71 | 170 => 72 | 169 => 73 | 263 => 96 | 264 => 97 | 206 => 98 | 240 => 99 | 241 => 100 | 276 => 107 | 277 => 108 | n => n, fun | 9 => 9 | 3 => 3 | 4 => 4 | 20 => 20 | 0 => 0 | 46 => 103 | 109 => 115 | 5 => 5 | 72 => 120 | 76 => 124 | 51 => 91 | 146 => 144 | 53 => 137 | 148 => 146 | 70 => 118 | 37 => 50 | 75 => 123 | 127 => 148 | 164 => 153 | 80 => 42 | n => n, fun | n => n⟩
theorem Try.lays105 : Go.Proofs.Lays.n105 Try.prog Try.lays105_ren := {
  mixed := by kernel_rfl
  f99 := Try.func69.trans (congrArg some (by kernel_rfl))
  f105 := Try.func44.trans (congrArg some (by kernel_rfl))
  f165 := Try.func70.trans (congrArg some (by kernel_rfl))
  f166 := Try.func71.trans (congrArg some (by kernel_rfl))
  f169 := Try.func73.trans (congrArg some (by kernel_rfl))
  f170 := Try.func72.trans (congrArg some (by kernel_rfl))
  f206 := Try.func98.trans (congrArg some (by kernel_rfl))
  f212 := Try.func68.trans (congrArg some (by kernel_rfl))
  f240 := Try.func99.trans (congrArg some (by kernel_rfl))
  f241 := Try.func100.trans (congrArg some (by kernel_rfl))
  f263 := Try.func96.trans (congrArg some (by kernel_rfl))
  f264 := Try.func97.trans (congrArg some (by kernel_rfl))
  f276 := Try.func107.trans (congrArg some (by kernel_rfl))
  f277 := Try.func108.trans (congrArg some (by kernel_rfl))
  t0 := Try.underlying0
  a0 := Try.isAgg0
  z0 := Try.sizeOf0
  v0 := Try.zeroValue0
  t3 := Try.underlying3
  a3 := Try.isAgg3
  z3 := Try.sizeOf3
  v3 := Try.zeroValue3
  t4 := Try.underlying4
  a4 := Try.isAgg4
  z4 := Try.sizeOf4
  v4 := Try.zeroValue4
  t5 := Try.underlying5
  a5 := Try.isAgg5
  z5 := Try.sizeOf5
  v5 := Try.zeroValue5
  t9 := Try.underlying9
  a9 := Try.isAgg9
  z9 := Try.sizeOf9
  v9 := Try.zeroValue9
  t20 := Try.underlying20
  a20 := Try.isAgg20
  z20 := Try.sizeOf20
  v20 := Try.zeroValue20
  t37 := Try.underlying50
  a37 := Try.isAgg50
  z37 := Try.sizeOf50
  v37 := Try.zeroValue50
  t46 := Try.underlying103
  a46 := Try.isAgg103
  z46 := Try.sizeOf103
  v46 := Try.zeroValue103
  t51 := Try.underlying91
  a51 := Try.isAgg91
  z51 := Try.sizeOf91
  v51 := Try.zeroValue91
  t53 := Try.underlying137
  a53 := Try.isAgg137
  z53 := Try.sizeOf137
  v53 := Try.zeroValue137
  t70 := Try.underlying118
  a70 := Try.isAgg118
  z70 := Try.sizeOf118
  v70 := Try.zeroValue118
  t72 := Try.underlying120
  a72 := Try.isAgg120
  z72 := Try.sizeOf120
  v72 := Try.zeroValue120
  t75 := Try.underlying123
  a75 := Try.isAgg123
  z75 := Try.sizeOf123
  v75 := Try.zeroValue123
  t76 := Try.underlying124
  a76 := Try.isAgg124
  z76 := Try.sizeOf124
  v76 := Try.zeroValue124
  t109 := Try.underlying115
  a109 := Try.isAgg115
  z109 := Try.sizeOf115
  v109 := Try.zeroValue115
  t127 := Try.underlying148
  a127 := Try.isAgg148
  z127 := Try.sizeOf148
  v127 := Try.zeroValue148
  t146 := Try.underlying144
  a146 := Try.isAgg144
  z146 := Try.sizeOf144
  v146 := Try.zeroValue144
  t148 := Try.underlying146
  a148 := Try.isAgg146
  z148 := Try.sizeOf146
  v148 := Try.zeroValue146
  t164 := Try.underlying153
  a164 := Try.isAgg153
  z164 := Try.sizeOf153
  v164 := Try.zeroValue153 }
theorem Try.Builder_Extra_105 : Builder.Extra Try.prog Try.lays105_ren := {
  sizeBuilder := by kernel_rfl
  liesBuilder := by kernel_rfl
  t5 := Try.underlying5
  a5 := Try.isAgg5
  z5 := Try.sizeOf5
  v5 := Try.zeroValue5
  infoByte := by kernel_rfl
  cellsByte := by kernel_rfl
  sizeByte := by kernel_rfl
  neB5 := by decide }
open Go.RowKit Go.Lib in
open Go.RowKit Go.Lib in
open Go.RowKit Go.Lib in
open Go.RowKit Go.Lib in
open Go.RowKit Go.Lib in
open Go.RowKit Go.Lib in
open Go.RowKit Go.Lib in
/-- **strings.Repeat: count ≥ 0, the result within one allocation: count copies of s.** (LAID: no walk: one application.) -/
theorem Try.strings_Repeat (s : ByteArray) (c : Nat) (w : World) (hc : c ≤ 9223372036854775807) (hlen : s.size * c ≤ 140737488355328) :
    Calls Try.prog 44 #[.string s, .int .i64 c] w fun e w' => e = .returned (.string ⟨(Lib.repeatL s.data.toList c).toArray⟩) ∧ Below w.heap.size w w' := Any.strings_Repeat Try.lays105 Try.Builder_Extra_105 s c w hc hlen
end Go.Proofs
end
section
set_option linter.unusedVariables false
set_option linter.unusedSimpArgs false
set_option maxRecDepth 4000
namespace Go.Proofs.Ytinfmojbdaiogaa
open Go.Gh Go.RowKit

theorem Repeat_any (l : List UInt8) (n : Nat) (h : SH) (hn : n ≤ 9223372036854775807) (hl : l.length * n ≤ 140737488355328) : SRun Try.prog 44 [S l, I n] h fun r q => r = S (Lib.repeatL l n) ∧ q = h :=
  srun_lib rfl rfl fun w => Try.strings_Repeat ⟨⟨l⟩⟩ n w hn hl
end Go.Proofs.Ytinfmojbdaiogaa
end
