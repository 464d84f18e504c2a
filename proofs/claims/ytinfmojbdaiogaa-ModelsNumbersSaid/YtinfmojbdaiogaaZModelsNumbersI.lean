/- Part 9 of the proof of the law ModelsNumbers: texts merged. No condition. -/
import Derived.Test.YtinfmojbdaiogaaZModelsNumbersH
import Derived.ProofKit
import Derived.Deep.Slices
section
set_option linter.unusedVariables false
set_option linter.unusedSimpArgs false
set_option maxRecDepth 4000
namespace Go.Proofs.Ytinfmojbdaiogaa
open Go.Gh Go.RowKit

theorem shl1 {k : Nat} (hk : k ≤ 61) : IntKind.i64.wrap (1 * 2 ^ (min ((k : Int)).toNat IntKind.i64.bits)) = ((2 ^ k : Nat) : Int) := by
  rw [Int.one_mul, Int.toNat_natCast, show IntKind.i64.bits = 64 from rfl, Nat.min_eq_left (by omega)]
  have h1 : (2 : Nat) ^ k ≤ 2 ^ 61 := Nat.pow_le_pow_right (by decide) hk
  have h2 : (2 : Nat) ^ 61 = 2305843009213693952 := rfl
  have e : ((2 : Int) ^ k) = ((2 ^ k : Nat) : Int) := by simp
  rw [e]
  generalize (2 : Nat) ^ k = w at *
  exact IntWalk.i64_in _ (by omega)
theorem rDecNum_any (t : List Int) (d : Dec) (A0 : Nat) (h h1 : SH) (hp : Pick h A0 ⟨nodes t, false⟩ h1) (ht : t.length = 64) (hok : DecOk d) :
    SRun Try.prog 67 [rdV d, gsl A0 0 64 64 1] h fun r q =>
      ∃ B, r = .tuple ⟨[rdV (ndec t d).2.1, gsl B 0 64 64 1, I (ndec t d).2.2]⟩ ∧ q = (B, ⟨nodes (ndec t d).1, false⟩) :: h := by
  have hT := fun h h1 hp => rTDec_any 6 t d A0 h h1 hp ht (by decide) hok
  obtain ⟨hok2, _, hb⟩ := tdec_ok (k := 6) (t := t) (j := 1) hok
  rw [ht] at hT
  unfold ndec
  generalize tdec 6 t d 1 = T at *
  obtain ⟨t2, d2, j⟩ := T
  dsimp only at *
  have h64 : (2 ^ 6 : Nat) = 64 := rfl
  rw [h64] at hb
  obtain ⟨l, hl⟩ : ∃ l, l = j - 64 := ⟨_, rfl⟩
  have e1 : (j : Int) - ((64 : Nat) : Int) = (l : Int) := by omega
  rw [e1] at hT
  rw [← hl]
  have hl63 : l ≤ 63 := by omega
  have hq := ddir_lt d2 (l := l)
  have hdd := fun h hx => rReadDirect_any d2 ((l : Int) - 1) h hok2 hx
  by_cases h1' : l ≤ 1
  · rw [if_pos (show l ≤ 1 ∨ l = 63 from .inl h1'), if_pos h1']
    refine w_body2 Try.func67 rfl rfl ?_
    repeat' (first | apply w_seq | apply w_region | apply o_nil | (apply o_g tyOk; exact rfl; exact rfl) | (apply o_loads tyOk; (iterate 3 exact rfl); (focus (exact pk))) | (apply o_stores tyOk; (iterate 4 exact rfl); (focus (exact ⟨rfl⟩)); (focus (exact up))) | (apply o_alloc tyOk; iterate 5 exact rfl) | (apply o_box (tt := tyT); iterate 5 exact rfl) | (apply o_call; exact rfl; exact rfl; (focus (first | exact rfl | assumption)); exact rfl; (focus (exact ⟨_, hT _ _ (.tail (.tail hp)), by repeat (first | with_reducible exact Take.nil | with_reducible apply Take.c | with_reducible apply Take.drop)⟩)); rintro _ _ ⟨B, rfl, rfl⟩) | (apply w_dT; exact rfl; (focus (first | exact ‹_› | with_reducible exact rfl | omega))) | (apply w_dF; exact rfl; (focus (first | exact ‹_› | with_reducible exact rfl | omega))) | apply thenS_normal | apply thenS_ret | apply blockS_ret | apply w_ret | apply w_block | ((with_reducible apply Sd.mk); (first | exact True.intro | omega | (constructor <;> first | omega | (unfold maxLen; omega)) | (unfold maxLen; omega))) | ((with_reducible apply Ln.mk); (first | rfl | exact ‹_› | omega | (simp ; first | done | omega))) | ((with_reducible apply Pu.mk); (first | exact putAt_all rfl | exact putAt_recZ (fun _ => rfl) (by omega) | exact putAt_rec (fun _ => rfl) (by omega))) | ((with_reducible apply Su.mk); (first | exact subAt_all | exact subAt_recZ (fun _ => rfl) (by omega) | exact subAt_rec (fun _ => rfl) (by omega))) | exact True.intro | intro A | exact rfl)
    all_goals first
      | (exfalso; omega)
      | (apply s_fin; (exact (show ResS _ _ _ _ [_, _, _] from (res_cell tyOk rfl rfl rfl (by exact pk) (by first | rfl | exact ‹_› | omega | (simp ; first | done | omega)) (by first | rfl | exact ‹_› | omega | (simp ; first | done | omega)) ⟨rfl, ⟨rfl, trivial⟩⟩))); (focus (exact ⟨B, rfl, rfl⟩)); (focus (repeat (first | with_reducible exact Take.nil | with_reducible apply Take.c | ((with_reducible apply Take.cE); (first | exact rfl | (apply blkE; (focus (first | exact rfl | exact recs_snocE rfl | exact map_snocE rfl | exact congrArg (fun v => [v]) (gslE rfl rfl (by first | rfl | exact ‹_› | omega | (simp ; first | done | omega)) (by first | rfl | exact ‹_› | omega | (simp ; first | done | omega)) rfl)))))) | with_reducible apply Take.drop))))
      | trace_state
  by_cases h63 : l = 63
  · rw [if_pos (show l ≤ 1 ∨ l = 63 from .inr h63), if_neg h1', if_pos h63]
    refine w_body2 Try.func67 rfl rfl ?_
    repeat' (first | apply w_seq | apply w_region | apply o_nil | (apply o_g tyOk; exact rfl; exact rfl) | (apply o_loads tyOk; (iterate 3 exact rfl); (focus (exact pk))) | (apply o_stores tyOk; (iterate 4 exact rfl); (focus (exact ⟨rfl⟩)); (focus (exact up))) | (apply o_alloc tyOk; iterate 5 exact rfl) | (apply o_box (tt := tyT); iterate 5 exact rfl) | (apply o_call; exact rfl; exact rfl; (focus (first | exact rfl | assumption)); exact rfl; (focus (exact ⟨_, hT _ _ (.tail (.tail hp)), by repeat (first | with_reducible exact Take.nil | with_reducible apply Take.c | with_reducible apply Take.drop)⟩)); rintro _ _ ⟨B, rfl, rfl⟩) | (apply w_dT; exact rfl; (focus (first | exact ‹_› | with_reducible exact rfl | omega))) | apply thenS_normal | apply thenS_ret | apply blockS_ret | apply w_ret | apply w_block | ((with_reducible apply Sd.mk); (first | exact True.intro | omega | (constructor <;> first | omega | (unfold maxLen; omega)) | (unfold maxLen; omega))) | ((with_reducible apply Ln.mk); (first | rfl | exact ‹_› | omega | (simp ; first | done | omega))) | ((with_reducible apply Pu.mk); (first | exact putAt_all rfl | exact putAt_recZ (fun _ => rfl) (by omega) | exact putAt_rec (fun _ => rfl) (by omega))) | ((with_reducible apply Su.mk); (first | exact subAt_all | exact subAt_recZ (fun _ => rfl) (by omega) | exact subAt_rec (fun _ => rfl) (by omega))) | exact True.intro | intro A | exact rfl)
    all_goals first
      | (exfalso; omega)
      | (apply s_fin; (exact (show ResS _ _ _ _ [_, _, _] from (res_cell tyOk rfl rfl rfl (by exact pk) (by first | rfl | exact ‹_› | omega | (simp ; first | done | omega)) (by first | rfl | exact ‹_› | omega | (simp ; first | done | omega)) ⟨rfl, ⟨rfl, trivial⟩⟩))); (focus (exact ⟨B, rfl, rfl⟩)); (focus (repeat (first | with_reducible exact Take.nil | with_reducible apply Take.c | ((with_reducible apply Take.cE); (first | exact rfl | (apply blkE; (focus (first | exact rfl | exact recs_snocE rfl | exact map_snocE rfl | exact congrArg (fun v => [v]) (gslE rfl rfl (by first | rfl | exact ‹_› | omega | (simp ; first | done | omega)) (by first | rfl | exact ‹_› | omega | (simp ; first | done | omega)) rfl)))))) | with_reducible apply Take.drop))))
      | trace_state
  rw [if_neg (show ¬ (l ≤ 1 ∨ l = 63) by omega), if_neg h1', if_neg h63]
  have hsh := shl1 (k := l - 1) (by omega)
  rw [show (((l - 1 : Nat) : Nat) : Int) = (l : Int) - 1 by omega] at hsh
  have hp2 : (2 : Nat) ^ (l - 1) ≤ 2 ^ 61 := Nat.pow_le_pow_right (by decide) (by omega)
  have h61 : (2 : Nat) ^ 61 = 2305843009213693952 := rfl
  have hc : ((2 : Int) ^ (l - 1)) = ((2 ^ (l - 1) : Nat) : Int) := by simp
  rw [hc] at hq
  generalize ddir d2 ((l : Int) - 1) = D at *
  obtain ⟨d3, v⟩ := D
  dsimp only at *
  generalize 2 ^ (l - 1) = W at *
  refine w_body2 Try.func67 rfl rfl ?_
  repeat' (first | apply w_seq | apply w_region | apply o_nil | (apply w_draw; (focus (kernel_rfl)); (focus (kernel_rfl))) | (apply o_g tyOk; exact rfl; exact rfl) | (apply o_ar tyOk; exact rfl; exact rfl) | (apply o_loads tyOk; (iterate 3 exact rfl); (focus (exact pk))) | (apply o_stores tyOk; (iterate 4 exact rfl); (focus (exact ⟨rfl⟩)); (focus (exact up))) | (apply o_alloc tyOk; iterate 5 exact rfl) | (apply o_box (tt := tyT); iterate 5 exact rfl) | (apply o_call; exact rfl; exact rfl; (focus (first | exact rfl | assumption)); exact rfl; (focus (exact ⟨_, hT _ _ (.tail (.tail hp)), by repeat (first | with_reducible exact Take.nil | with_reducible apply Take.c | with_reducible apply Take.drop)⟩)); rintro _ _ ⟨B, rfl, rfl⟩) | (apply o_call; exact rfl; exact rfl; (focus (first | exact rfl | assumption)); exact rfl; (focus (exact ⟨_, hdd _ (by omega), by repeat (first | with_reducible exact Take.nil | with_reducible apply Take.c | with_reducible apply Take.drop)⟩)); rintro _ _ ⟨rfl, rfl⟩) | (apply w_dF; exact rfl; (focus (first | exact ‹_› | with_reducible exact rfl | omega))) | apply thenS_normal | apply blockS_normal | apply w_skip | apply w_ret | apply w_block | ((with_reducible apply Sd.mk); (first | exact True.intro | omega | (constructor <;> first | omega | (unfold maxLen; omega)) | (unfold maxLen; omega))) | ((with_reducible apply Ln.mk); (first | rfl | exact ‹_› | omega | (simp ; first | done | omega))) | ((with_reducible apply Wr.mk); (first | exact hsh | exact IntWalk.i64_in _ (by omega) | exact IntWalk.u8_in _ (by omega) | exact IntWalk.u32_in _ (by omega) | exact IntWalk.u64_in _ (by omega) | exact IntKind.wrap_u8 _ | exact IntKind.wrap_u32 _ | rfl)) | ((with_reducible apply Pu.mk); (first | exact putAt_all rfl | exact putAt_recZ (fun _ => rfl) (by omega) | exact putAt_rec (fun _ => rfl) (by omega))) | ((with_reducible apply Su.mk); (first | exact subAt_all | exact subAt_recZ (fun _ => rfl) (by omega) | exact subAt_rec (fun _ => rfl) (by omega))) | exact True.intro | exact Or.inl rfl | apply And.intro | intro A | exact rfl)
  all_goals first
    | (exfalso; omega)
    | (apply s_fin; (exact (show ResS _ _ _ _ [_, _, _] from (res_cell tyOk rfl rfl rfl (by exact pk) (by first | rfl | exact ‹_› | omega | (simp ; first | done | omega)) (by first | rfl | exact ‹_› | omega | (simp ; first | done | omega)) ⟨rfl, ⟨rfl, trivial⟩⟩))); (focus (exact ⟨B, rfl, rfl⟩)); (focus (repeat (first | with_reducible exact Take.nil | with_reducible apply Take.c | ((with_reducible apply Take.cE); (first | exact rfl | (apply blkE; (focus (first | exact rfl | exact recs_snocE rfl | exact map_snocE rfl | exact congrArg (fun v => [v]) (gslE rfl rfl (by first | rfl | exact ‹_› | omega | (simp ; first | done | omega)) (by first | rfl | exact ‹_› | omega | (simp ; first | done | omega)) rfl)))))) | with_reducible apply Take.drop))))
    | trace_state
theorem nfr_out {t : List Int} {e : Enc} {v : Int} (h : nfr t e v = false) : (nenc t e v).2.out = e.out := by
  unfold nfr at h
  rw [Bool.or_eq_false_iff] at h
  have h1 := tfr_out 6 h.1
  unfold nenc
  dsimp only
  split
  · rename_i hb
    rw [if_pos hb] at h
    have h2 : ∀ (k : Nat) (e : Enc), dfr (ncut v) k e = false → (ebits (ncut v) k e).out = e.out := by
      intro k
      induction k with
      | zero => intro e _; rfl
      | succ k ih =>
        intro e g
        have g : (fresh e 1024 (ncut v / 2 ^ k % 2) || dfr (ncut v) k (ebit e 1024 (ncut v / 2 ^ k % 2))) = false := g
        rw [Bool.or_eq_false_iff] at g
        exact (ih _ g.2).trans (fresh_out g.1)
    rw [← h1]
    unfold edir
    split
    · rfl
    · have := h2 (blen (ncut v).toNat - 1) _ h.2
      rw [show ((blen (ncut v).toNat : Int) - 1).toNat = blen (ncut v).toNat - 1 by omega]
      exact this
  · exact h1
theorem rEncNum_old (t : List Int) (v : Int) (e : Enc) (w : Value) (A0 : Nat) (h h1 : SH) (hp : Pick h A0 ⟨nodes t, false⟩ h1) (hv : RO h e.out w) (ht : t.length = 64) (hok : EncOk 800000 e) (hf : nfr t e v = false) :
    (nenc t e v).2.out = e.out ∧ SRun Try.prog 65 [reV w e.low e.size, gsl A0 0 64 64 1, I v] h fun r q =>
      ∃ B, r = .tuple ⟨[reV w (nenc t e v).2.low (nenc t e v).2.size, gsl B 0 64 64 1]⟩ ∧ q = (B, ⟨nodes (nenc t e v).1, false⟩) :: h := by
  refine ⟨nfr_out hf, (rEncNum_any t v e w A0 h h1 hp hv ht hok).mono ?_⟩
  rintro r q ⟨B, w', qo, rfl, ro, rfl⟩
  rw [hf] at ro
  generalize (nenc t e v).2.out = o2 at ro
  cases ro
  exact ⟨B, rfl, rfl⟩
theorem rEncNum_new (t : List Int) (v : Int) (e : Enc) (w : Value) (A0 : Nat) (h h1 : SH) (hp : Pick h A0 ⟨nodes t, false⟩ h1) (hv : RO h e.out w) (ht : t.length = 64) (hok : EncOk 800000 e) (hf : nfr t e v = true) :
    SRun Try.prog 65 [reV w e.low e.size, gsl A0 0 64 64 1, I v] h fun r q =>
      ∃ B O, r = .tuple ⟨[reV (gsl O 0 (nenc t e v).2.out.length (nenc t e v).2.out.length 1) (nenc t e v).2.low (nenc t e v).2.size, gsl B 0 64 64 1]⟩ ∧ q = (B, ⟨nodes (nenc t e v).1, false⟩) :: (O, ⟨bytesV (nenc t e v).2.out, false⟩) :: h := by
  refine (rEncNum_any t v e w A0 h h1 hp hv ht hok).mono ?_
  rintro r q ⟨B, w', qo, rfl, ro, rfl⟩
  rw [hf] at ro
  cases ro with
  | new o O => exact ⟨B, O, rfl, rfl⟩
theorem rEncodeNumbers_any (L : List Int) (v : Value) (h : SH) (hv : Has h (nodes L) 1 L.length v) (hl : L.length ≤ maxLen) : SRun Try.prog 40 [v] h fun r q => r = .tuple #[S (mEncN L).1, I (mEncN L).2] ∧ q = h := by
  have hN := fun n h h0 hn => rNumber4_any n h h0 hn
  unfold maxLen at hl
  obtain ⟨ad, fl, rfl, hh⟩ := id hv
  by_cases h0 : 4096 < L.length
  · rw [show mEncN L = ([], 9) from if_pos h0]
    refine w_body1 Try.func40 rfl rfl ?_
    repeat' (first | apply w_seq | apply w_region | apply o_nil | (apply o_g tyOk; exact rfl; exact rfl) | (apply w_dT; exact rfl; (focus (first | exact ‹_› | with_reducible exact rfl | omega))) | apply thenS_normal | apply thenS_ret | apply w_ret | ((with_reducible apply Sd.mk); (first | exact True.intro | omega | (constructor <;> first | omega | (unfold maxLen; omega)) | (unfold maxLen; omega))))
    all_goals first
      | (exfalso; omega)
      | (apply s_fin; (exact (show ResS _ _ _ _ [_, _] from ⟨rfl, ⟨rfl, trivial⟩⟩)); (focus (exact ⟨rfl, rfl⟩)); (focus (repeat (first | with_reducible exact Take.nil | with_reducible apply Take.c | ((with_reducible apply Take.cE); (first | exact rfl | (apply blkE; (focus (first | exact rfl | exact recs_snocE rfl | exact map_snocE rfl | exact congrArg (fun v => [v]) (gslE rfl rfl (by first | rfl | exact ‹_› | omega | (simp ; first | done | omega)) (by first | rfl | exact ‹_› | omega | (simp ; first | done | omega)) rfl)))))) | with_reducible apply Take.drop))))
      | trace_state
  have hm : mEncN L = if ∀ z ∈ L, nOk z then (if L.length = 0 then vnum 0 else vnum L.length ++ fin (nencN L L.length 0 nt0 encZ), 0) else ([], 2) := if_neg h0
  rw [hm]
  have hB : ∀ h, SRun Try.prog 32 [I 6] h fun r q => ∃ A, r = gsl A 0 64 64 1 ∧ q = (A, ⟨nodes nt0, false⟩) :: h := fun h => rNewTree_any 6 h (by decide)
  obtain ⟨R, hR⟩ : ∃ R, nencN L L.length 0 nt0 encZ = R := ⟨_, rfl⟩
  rw [hR]
  have hX : nt0.length = 64 := List.length_replicate
  generalize nt0 = X at *
  have hlb : (nodes L).length = L.length := by simp
  refine w_body1 Try.func40 rfl rfl ?_
  repeat' (first | apply w_seq | apply w_region | apply o_nil | (apply o_g tyOk; exact rfl; exact rfl) | (apply o_stores tyOk; (iterate 4 exact rfl); (focus (exact ⟨rfl⟩)); (focus (exact up))) | (apply o_alloc tyOk; iterate 5 exact rfl) | (apply o_call; exact rfl; exact rfl; (focus (first | exact rfl | assumption)); exact rfl; (focus (exact ⟨_, rNewEncoder_any _, by repeat (first | with_reducible exact Take.nil | with_reducible apply Take.c | with_reducible apply Take.drop)⟩)); rintro _ _ ⟨rfl, rfl⟩) | (apply o_call; exact rfl; exact rfl; (focus (first | exact rfl | assumption)); exact rfl; (focus (exact ⟨_, hB _, by repeat (first | with_reducible exact Take.nil | with_reducible apply Take.c | with_reducible apply Take.drop)⟩)); rintro _ _ ⟨T0, rfl, rfl⟩) | (apply w_dF; exact rfl; (focus (first | exact ‹_› | with_reducible exact rfl | omega))) | apply thenS_normal | apply w_skip | apply w_block | ((with_reducible apply Sd.mk); (first | exact True.intro | omega | (constructor <;> first | omega | (unfold maxLen; omega)) | (unfold maxLen; omega))) | ((with_reducible apply Ln.mk); (first | rfl | exact ‹_› | omega | (simp ; first | done | omega))) | ((with_reducible apply Pu.mk); (first | exact putAt_all rfl | exact putAt_recZ (fun _ => rfl) (by omega) | exact putAt_rec (fun _ => rfl) (by omega))) | exact True.intro | intro A)
  all_goals first | (exfalso; omega) | skip
  rename_i q0
  refine w_loop (S := Nat × List Int × Nat × Enc × Value × SH) (fun x => [(0, .slice ad L.length fl), (4, gptr A 0 3), (5, gsl x.2.2.1 0 64 64 1), (6, I x.1)]) (fun x => (A, ⟨reC x.2.2.2.2.1 x.2.2.2.1.low x.2.2.2.1.size, false⟩) :: x.2.2.2.2.2)
    (fun x => x.1 ≤ L.length ∧ x.2.1.length = 64 ∧ EncOk (136 * x.1) x.2.2.2.1 ∧ RO x.2.2.2.2.2 x.2.2.2.1.out x.2.2.2.2.1 ∧ (∃ h2, Pick x.2.2.2.2.2 x.2.2.1 ⟨nodes x.2.1, false⟩ h2) ∧ Take x.2.2.2.2.2 q0 ∧ (∀ j, j < x.1 → nOk L[j]!) ∧ nencN L (L.length - x.1) x.1 x.2.1 x.2.2.2.1 = R) (fun x => L.length - x.1)
    (0, X, T0, encZ, .slice none 0 0, (T0, ⟨nodes X, false⟩) :: q0) ⟨Nat.zero_le _, hX, encZ_ok, .inl ⟨rfl, rfl⟩, ⟨_, .head⟩, .drop .nil, fun j hj => absurd hj (Nat.not_lt_zero _), hR⟩ (by repeat' (first | exact trivial | refine ⟨rfl, ?_⟩ | refine ⟨congrArg some ?_, ?_⟩)) (by repeat (first | with_reducible exact Take.nil | with_reducible apply Take.c | ((with_reducible apply Take.cE); (first | exact rfl | (apply blkE; (focus (first | exact rfl | exact recs_snocE rfl | exact map_snocE rfl | exact congrArg (fun v => [v]) (gslE rfl rfl (by first | rfl | exact ‹_› | omega | (simp ; first | done | omega)) (by first | rfl | exact ‹_› | omega | (simp ; first | done | omega)) rfl)))))) | with_reducible apply Take.drop)) ?_
  rintro ⟨i, t, B, e, w, q⟩ ⟨hi, ht, hok, hro, ⟨h2, pB⟩, tq, hall, he⟩
  dsimp only at hi ht hok hro pB tq hall he ⊢
  by_cases hil : i < L.length
  · obtain ⟨A', ro, h1, rfl, hp⟩ := hh (by omega)
    obtain ⟨pL, hpL, -⟩ := tq.pick hp
    obtain ⟨z, hz⟩ : ∃ z, z = L[i]! := ⟨_, rfl⟩
    have hcl : (nodes L)[0 + ((i : Int)).toNat * 1]? = some (I z) := by rw [hz]; exact cell_mapZ hil
    by_cases hzz : z < 0 ∨ 4611686018427387903 < z
    · rw [if_neg (fun g => by have := g z (by rw [hz]; exact ibang_mem hil); omega)]
      rcases hzz with hzz | hzz
      all_goals
        repeat' (first | apply w_seq | apply w_region | apply o_nil | (apply o_g tyOk; exact rfl; exact rfl) | (apply o_load tyOk; (iterate 3 exact rfl); (focus (exact pk))) | (apply o_want; exact rfl; exact rfl) | (apply o_skip; iterate 4 exact rfl) | (apply o_gF; (iterate 3 exact rfl); (focus (first | exact ‹_› | with_reducible exact rfl | omega))) | (apply o_sT; (iterate 3 exact rfl); (focus (first | exact ‹_› | with_reducible exact rfl | omega)); exact rfl) | (apply w_true; exact rfl) | (apply w_dT; exact rfl; (focus (first | exact ‹_› | with_reducible exact rfl | omega))) | apply thenS_normal | apply thenS_ret | apply blockS_ret | apply w_skip | apply w_ret | apply w_block | ((with_reducible apply Sd.mk); (first | exact True.intro | omega | (constructor <;> first | omega | (unfold maxLen; omega)) | (unfold maxLen; omega))) | ((with_reducible apply Ln.mk); (first | rfl | exact ‹_› | omega | (simp [hlb]; first | done | omega))) | ((with_reducible apply Ce.mk); (first | rfl | exact ‹_› | exact hcl | exact cell_recZ (fun _ => rfl) (by omega) (by decide) rfl | exact cell_rec (fun _ => rfl) (by omega) (by decide) rfl | exact cell_bytes (by omega) | exact cell_mapZ (by omega) | exact cell_map (by omega))) | exact True.intro | exact rfl)
        all_goals first
          | (exfalso; omega)
          | (apply s_fin; (exact (show ResS _ _ _ _ [_, _] from ⟨rfl, ⟨rfl, trivial⟩⟩)); (focus (exact ⟨rfl, rfl⟩)); (focus (repeat (first | with_reducible exact Take.nil | with_reducible apply Take.c | ((with_reducible apply Take.cE); (first | exact rfl | (apply blkE; (focus (first | exact rfl | exact recs_snocE rfl | exact map_snocE rfl | exact congrArg (fun v => [v]) (gslE rfl rfl (by first | rfl | exact ‹_› | omega | (simp [hlb]; first | done | omega)) (by first | rfl | exact ‹_› | omega | (simp [hlb]; first | done | omega)) rfl)))))) | with_reducible apply Take.drop))))
          | trace_state
        all_goals exact tq
    have hok2 := nenc_ok (t := t) hok z
    rw [show L.length - i = (L.length - (i + 1)) + 1 by omega] at he
    have he : nencN L (L.length - (i + 1)) (i + 1) (nenc t e z).1 (nenc t e z).2 = R := by rw [hz]; exact he
    have hall2 : ∀ j, j < i + 1 → nOk L[j]! := fun j hj => by
      by_cases g : j = i
      · rw [g, ← hz]; exact ⟨by omega, by omega⟩
      · exact hall j (by omega)
    have hok3 : EncOk (136 * (i + 1)) (nenc t e z).2 := by rw [show 136 * (i + 1) = 136 * i + 136 by omega]; exact hok2.1
    have hlt2 := hok2.2
    have hOld := fun w hr hf => rEncNum_old t z e w B ((A, ⟨reC w e.low e.size, false⟩) :: q) _ (.tail pB) hr ht (hok.mono (by omega)) hf
    have hNew := fun w hr hf => rEncNum_new t z e w B ((A, ⟨reC w e.low e.size, false⟩) :: q) _ (.tail pB) hr ht (hok.mono (by omega)) hf
    cases hfr : nfr t e z with
    | false =>
      obtain ⟨hout, hE⟩ := hOld w (hro.re (.drop .nil)) hfr
      generalize nenc t e z = T at *
      obtain ⟨t2, e2⟩ := T
      dsimp only at *
      rcases id hro with ⟨e0, rfl⟩ | ⟨A1, p2, rfl, hp4⟩
      all_goals
        repeat' (first | apply w_seq | apply w_region | apply o_nil | (apply w_draw; (focus (kernel_rfl)); (focus (kernel_rfl))) | (apply o_g tyOk; exact rfl; exact rfl) | (apply o_ar tyOk; exact rfl; exact rfl) | (apply o_load tyOk; (iterate 3 exact rfl); (focus (exact pk))) | (apply o_loads tyOk; (iterate 3 exact rfl); (focus (exact pk))) | (apply o_stores tyOk; (iterate 4 exact rfl); (focus (exact ⟨rfl⟩)); (focus (exact up))) | (apply o_callE1; (iterate 4 exact rfl); (focus (exact ⟨hE, by repeat (first | with_reducible exact Take.nil | with_reducible apply Take.c | with_reducible apply Take.drop)⟩)); (focus ((intro _; (first | exact List.Perm.refl _ | (simp; done) | exact List.Perm.swap _ _ _)))); (focus ((intro A1 A2 ρ D e1 d1 hρ hD; refine ⟨?_, ?_⟩; (focus (repeat (first | exact VR.const rfl | (apply VR.ptr'; (focus (first | exact e1 | exact e2 | exact e3 | ((apply rho_pick hρ); (exact pk)))); (focus (first | exact d1 | exact d2 | exact d3 | ((apply dom_pick hD); (exact pk))))) | (apply VR.slc'; (focus (first | exact e1 | exact e2 | exact e3 | ((apply rho_pick hρ); (exact pk)))); (focus (first | exact d1 | exact d2 | exact d3 | ((apply dom_pick hD); (exact pk))))) | exact VR.sdead | apply VRs.tuple | apply VRs.agg | exact VRs.nil | ((apply VRs.const); (focus (first | exact bytesV_const _ | exact map_const (fun _ => rfl) | exact recs_const (fun _ v hv => by simp only [List.mem_cons, List.not_mem_nil, or_false] at hv; rcases hv with rfl | rfl | rfl | rfl | rfl <;> rfl)))) | apply VRs.cons))); (focus (repeat (first | exact SHR.nil | ((apply SHR.same); (focus (intro x hx; (repeat (first | exact hx | apply List.mem_cons_of_mem)); done))) | ((apply SHR.keep); (focus ((repeat (first | with_reducible exact List.mem_cons_self | apply List.mem_cons_of_mem)); done))) | (apply SHR.cons; (focus (first | exact e1 | exact e2 | exact e3 | ((apply rho_pick hρ); (exact pk)))); (focus (repeat (first | exact VR.const rfl | (apply VR.ptr'; (focus (first | exact e1 | exact e2 | exact e3 | ((apply rho_pick hρ); (exact pk)))); (focus (first | exact d1 | exact d2 | exact d3 | ((apply dom_pick hD); (exact pk))))) | (apply VR.slc'; (focus (first | exact e1 | exact e2 | exact e3 | ((apply rho_pick hρ); (exact pk)))); (focus (first | exact d1 | exact d2 | exact d3 | ((apply dom_pick hD); (exact pk))))) | exact VR.sdead | apply VRs.tuple | apply VRs.agg | exact VRs.nil | ((apply VRs.const); (focus (first | exact bytesV_const _ | exact map_const (fun _ => rfl) | exact recs_const (fun _ v hv => by simp only [List.mem_cons, List.not_mem_nil, or_false] at hv; rcases hv with rfl | rfl | rfl | rfl | rfl <;> rfl)))) | apply VRs.cons))))))))))) | (apply o_want; exact rfl; exact rfl) | (apply o_gF; (iterate 3 exact rfl); (focus (first | exact ‹_› | with_reducible exact rfl | omega))) | (apply w_dT; exact rfl; (focus (first | exact ‹_› | with_reducible exact rfl | omega))) | (apply w_dF; exact rfl; (focus (first | exact ‹_› | with_reducible exact rfl | omega))) | apply thenS_normal | apply blockS_normal | apply w_skip | apply w_block | ((with_reducible apply Sd.mk); (first | exact True.intro | omega | (constructor <;> first | omega | (unfold maxLen; omega)) | (unfold maxLen; omega))) | ((with_reducible apply Ln.mk); (first | rfl | exact ‹_› | omega | (simp [hlb]; first | done | omega))) | ((with_reducible apply Wr.mk); (first | exact IntWalk.i64_in _ (by omega) | exact IntWalk.u8_in _ (by omega) | exact IntWalk.u32_in _ (by omega) | exact IntWalk.u64_in _ (by omega) | exact IntKind.wrap_u8 _ | exact IntKind.wrap_u32 _ | rfl)) | ((with_reducible apply Ce.mk); (first | rfl | exact ‹_› | exact hcl | exact cell_recZ (fun _ => rfl) (by omega) (by decide) rfl | exact cell_rec (fun _ => rfl) (by omega) (by decide) rfl | exact cell_bytes (by omega) | exact cell_mapZ (by omega) | exact cell_map (by omega))) | ((with_reducible apply Pu.mk); (first | exact putAt_all rfl | exact putAt_recZ (fun _ => rfl) (by omega) | exact putAt_rec (fun _ => rfl) (by omega))) | ((with_reducible apply Su.mk); (first | exact subAt_all | exact subAt_recZ (fun _ => rfl) (by omega) | exact subAt_rec (fun _ => rfl) (by omega))) | exact True.intro | exact Or.inl rfl | apply And.intro | intro A | exact rfl)
        all_goals first
          | (exfalso; omega)
          | exact ⟨(i + 1, t2, A, e2, _, (A, ⟨nodes t2, false⟩) :: q), ⟨hil, hlt2.trans ht, hok3, by rw [hout]; exact hro.re (.drop .nil), ⟨_, .head⟩, .drop tq, hall2, he⟩, by show L.length - (i + 1) < L.length - i; omega, (by repeat' (first | exact trivial | refine ⟨rfl, ?_⟩ | refine ⟨congrArg some ?_, ?_⟩)), .cons (.tail .head) .nil⟩
          | trace_state
    | true =>
      have hE := hNew w (hro.re (.drop .nil)) hfr
      generalize nenc t e z = T at *
      obtain ⟨t2, e2⟩ := T
      dsimp only at *
      repeat' (first | apply w_seq | apply w_region | apply o_nil | (apply w_draw; (focus (kernel_rfl)); (focus (kernel_rfl))) | (apply o_g tyOk; exact rfl; exact rfl) | (apply o_ar tyOk; exact rfl; exact rfl) | (apply o_load tyOk; (iterate 3 exact rfl); (focus (exact pk))) | (apply o_loads tyOk; (iterate 3 exact rfl); (focus (exact pk))) | (apply o_stores tyOk; (iterate 4 exact rfl); (focus (exact ⟨rfl⟩)); (focus (exact up))) | (apply o_callE2; (iterate 4 exact rfl); (focus (exact ⟨hE, by repeat (first | with_reducible exact Take.nil | with_reducible apply Take.c | with_reducible apply Take.drop)⟩)); (focus ((intro _ _; (first | exact List.Perm.refl _ | (simp; done) | exact List.Perm.swap _ _ _)))); (focus ((intro A1 A2 B1 B2 ρ D e1 e2 d1 d2 hρ hD; refine ⟨?_, ?_⟩; (focus (repeat (first | exact VR.const rfl | (apply VR.ptr'; (focus (first | exact e1 | exact e2 | exact e3 | ((apply rho_pick hρ); (exact pk)))); (focus (first | exact d1 | exact d2 | exact d3 | ((apply dom_pick hD); (exact pk))))) | (apply VR.slc'; (focus (first | exact e1 | exact e2 | exact e3 | ((apply rho_pick hρ); (exact pk)))); (focus (first | exact d1 | exact d2 | exact d3 | ((apply dom_pick hD); (exact pk))))) | exact VR.sdead | apply VRs.tuple | apply VRs.agg | exact VRs.nil | ((apply VRs.const); (focus (first | exact bytesV_const _ | exact map_const (fun _ => rfl) | exact recs_const (fun _ v hv => by simp only [List.mem_cons, List.not_mem_nil, or_false] at hv; rcases hv with rfl | rfl | rfl | rfl | rfl <;> rfl)))) | apply VRs.cons))); (focus (repeat (first | exact SHR.nil | ((apply SHR.same); (focus (intro x hx; (repeat (first | exact hx | apply List.mem_cons_of_mem)); done))) | ((apply SHR.keep); (focus ((repeat (first | with_reducible exact List.mem_cons_self | apply List.mem_cons_of_mem)); done))) | (apply SHR.cons; (focus (first | exact e1 | exact e2 | exact e3 | ((apply rho_pick hρ); (exact pk)))); (focus (repeat (first | exact VR.const rfl | (apply VR.ptr'; (focus (first | exact e1 | exact e2 | exact e3 | ((apply rho_pick hρ); (exact pk)))); (focus (first | exact d1 | exact d2 | exact d3 | ((apply dom_pick hD); (exact pk))))) | (apply VR.slc'; (focus (first | exact e1 | exact e2 | exact e3 | ((apply rho_pick hρ); (exact pk)))); (focus (first | exact d1 | exact d2 | exact d3 | ((apply dom_pick hD); (exact pk))))) | exact VR.sdead | apply VRs.tuple | apply VRs.agg | exact VRs.nil | ((apply VRs.const); (focus (first | exact bytesV_const _ | exact map_const (fun _ => rfl) | exact recs_const (fun _ v hv => by simp only [List.mem_cons, List.not_mem_nil, or_false] at hv; rcases hv with rfl | rfl | rfl | rfl | rfl <;> rfl)))) | apply VRs.cons))))))))))) | (apply o_want; exact rfl; exact rfl) | (apply o_gF; (iterate 3 exact rfl); (focus (first | exact ‹_› | with_reducible exact rfl | omega))) | (apply w_dT; exact rfl; (focus (first | exact ‹_› | with_reducible exact rfl | omega))) | (apply w_dF; exact rfl; (focus (first | exact ‹_› | with_reducible exact rfl | omega))) | apply thenS_normal | apply blockS_normal | apply w_skip | apply w_block | ((with_reducible apply Sd.mk); (first | exact True.intro | omega | (constructor <;> first | omega | (unfold maxLen; omega)) | (unfold maxLen; omega))) | ((with_reducible apply Ln.mk); (first | rfl | exact ‹_› | omega | (simp [hlb]; first | done | omega))) | ((with_reducible apply Wr.mk); (first | exact IntWalk.i64_in _ (by omega) | exact IntWalk.u8_in _ (by omega) | exact IntWalk.u32_in _ (by omega) | exact IntWalk.u64_in _ (by omega) | exact IntKind.wrap_u8 _ | exact IntKind.wrap_u32 _ | rfl)) | ((with_reducible apply Ce.mk); (first | rfl | exact ‹_› | exact hcl | exact cell_recZ (fun _ => rfl) (by omega) (by decide) rfl | exact cell_rec (fun _ => rfl) (by omega) (by decide) rfl | exact cell_bytes (by omega) | exact cell_mapZ (by omega) | exact cell_map (by omega))) | ((with_reducible apply Pu.mk); (first | exact putAt_all rfl | exact putAt_recZ (fun _ => rfl) (by omega) | exact putAt_rec (fun _ => rfl) (by omega))) | ((with_reducible apply Su.mk); (first | exact subAt_all | exact subAt_recZ (fun _ => rfl) (by omega) | exact subAt_rec (fun _ => rfl) (by omega))) | exact True.intro | exact Or.inl rfl | apply And.intro | intro A | exact rfl)
      rename_i B2
      all_goals first
        | (exfalso; omega)
        | exact ⟨(i + 1, t2, B2, e2, _, (B2, ⟨nodes t2, false⟩) :: (A, ⟨bytesV e2.out, false⟩) :: q), ⟨hil, hlt2.trans ht, hok3, .inr ⟨A, _, rfl, .tail .head⟩, ⟨_, .head⟩, .drop (.drop tq), hall2, he⟩, by show L.length - (i + 1) < L.length - i; omega, (by repeat' (first | exact trivial | refine ⟨rfl, ?_⟩ | refine ⟨congrArg some ?_, ?_⟩)), .cons (.tail (.tail .head)) .nil⟩
        | trace_state
  · obtain rfl : i = L.length := by omega
    rw [if_pos (all_bang hall)]
    rw [Nat.sub_self] at he
    have he : e = R := he
    subst he
    by_cases h1 : L.length = 0
    · rw [if_pos h1]
      repeat' (first | apply w_seq | apply w_region | apply o_nil | (apply o_g tyOk; exact rfl; exact rfl) | (apply o_call; exact rfl; exact rfl; (focus (first | exact rfl | assumption)); exact rfl; (focus (exact ⟨_, hN 0 _ (by decide) (by decide), by repeat (first | with_reducible exact Take.nil | with_reducible apply Take.c | with_reducible apply Take.drop)⟩)); rintro _ _ ⟨rfl, rfl⟩) | (apply w_dT; exact rfl; (focus (first | exact ‹_› | with_reducible exact rfl | omega))) | (apply w_dF; exact rfl; (focus (first | exact ‹_› | with_reducible exact rfl | omega))) | apply thenS_normal | apply thenS_ret | apply thenS_exit | apply blockS_exit | apply w_ret | apply w_exit | ((with_reducible apply Sd.mk); (first | exact True.intro | omega | (constructor <;> first | omega | (unfold maxLen; omega)) | (unfold maxLen; omega))))
      all_goals first
        | (exfalso; omega)
        | (apply s_fin; (exact (show ResS _ _ _ _ [_, _] from ⟨rfl, ⟨rfl, trivial⟩⟩)); (focus (exact ⟨rfl, rfl⟩)); (focus (repeat (first | with_reducible exact Take.nil | with_reducible apply Take.c | ((with_reducible apply Take.cE); (first | exact rfl | (apply blkE; (focus (first | exact rfl | exact recs_snocE rfl | exact map_snocE rfl | exact congrArg (fun v => [v]) (gslE rfl rfl (by first | rfl | exact ‹_› | omega | (simp ; first | done | omega)) (by first | rfl | exact ‹_› | omega | (simp ; first | done | omega)) rfl)))))) | with_reducible apply Take.drop))))
        | trace_state
      all_goals exact tq
    rw [if_neg h1]
    have hs1 := vnum_len (n := (L.length : Int)) (by omega)
    have hs2 := (vk_ok (n := (L.length : Int)) (by omega)).2
    have hs3 : (fin e).length = e.out.length + 4 := by simp [fin, tail4]
    have hs4 := hok.out
    rcases id hro with ⟨e0, rfl⟩ | ⟨A1, p2, rfl, hp4⟩
    all_goals
      repeat' (first | apply w_seq | apply w_region | apply o_nil | (apply w_draw; (focus (kernel_rfl)); (focus (kernel_rfl))) | (apply o_g tyOk; exact rfl; exact rfl) | (apply o_loads tyOk; (iterate 3 exact rfl); (focus (exact pk))) | (apply o_callD; (iterate 4 exact rfl); (focus (exact ⟨_, hN _ _ (Int.natCast_nonneg _) (by omega), by repeat (first | with_reducible exact Take.nil | with_reducible apply Take.c | with_reducible apply Take.drop)⟩)); (focus (exact fun _ _ h => h.1)); (focus ((repeat (first | exact Flat.c rfl | apply flat_tuple | apply flat_agg | exact FlatL.nil | apply FlatL.cons))))) | (apply o_callE0; (iterate 4 exact rfl); (focus (exact ⟨rFinish_any e _ ((A, ⟨reC _ e.low e.size, false⟩) :: q) (hro.re (.drop .nil)) (by omega) hok.low, by repeat (first | with_reducible exact Take.nil | with_reducible apply Take.c | with_reducible apply Take.drop)⟩)); (focus (first | exact List.Perm.refl _ | (simp; done) | exact List.Perm.swap _ _ _)); (focus ((intro ρ D hρ hD; refine ⟨?_, ?_⟩; (focus (repeat (first | exact VR.const rfl | (apply VR.ptr'; (focus (first | exact e1 | exact e2 | exact e3 | ((apply rho_pick hρ); (exact pk)))); (focus (first | exact d1 | exact d2 | exact d3 | ((apply dom_pick hD); (exact pk))))) | (apply VR.slc'; (focus (first | exact e1 | exact e2 | exact e3 | ((apply rho_pick hρ); (exact pk)))); (focus (first | exact d1 | exact d2 | exact d3 | ((apply dom_pick hD); (exact pk))))) | exact VR.sdead | apply VRs.tuple | apply VRs.agg | exact VRs.nil | ((apply VRs.const); (focus (first | exact bytesV_const _ | exact map_const (fun _ => rfl) | exact recs_const (fun _ v hv => by simp only [List.mem_cons, List.not_mem_nil, or_false] at hv; rcases hv with rfl | rfl | rfl | rfl | rfl <;> rfl)))) | apply VRs.cons))); (focus (repeat (first | exact SHR.nil | ((apply SHR.same); (focus (intro x hx; (repeat (first | exact hx | apply List.mem_cons_of_mem)); done))) | ((apply SHR.keep); (focus ((repeat (first | with_reducible exact List.mem_cons_self | apply List.mem_cons_of_mem)); done))) | (apply SHR.cons; (focus (first | exact e1 | exact e2 | exact e3 | ((apply rho_pick hρ); (exact pk)))); (focus (repeat (first | exact VR.const rfl | (apply VR.ptr'; (focus (first | exact e1 | exact e2 | exact e3 | ((apply rho_pick hρ); (exact pk)))); (focus (first | exact d1 | exact d2 | exact d3 | ((apply dom_pick hD); (exact pk))))) | (apply VR.slc'; (focus (first | exact e1 | exact e2 | exact e3 | ((apply rho_pick hρ); (exact pk)))); (focus (first | exact d1 | exact d2 | exact d3 | ((apply dom_pick hD); (exact pk))))) | exact VR.sdead | apply VRs.tuple | apply VRs.agg | exact VRs.nil | ((apply VRs.const); (focus (first | exact bytesV_const _ | exact map_const (fun _ => rfl) | exact recs_const (fun _ v hv => by simp only [List.mem_cons, List.not_mem_nil, or_false] at hv; rcases hv with rfl | rfl | rfl | rfl | rfl <;> rfl)))) | apply VRs.cons))))))))))) | (apply w_dF; exact rfl; (focus (first | exact ‹_› | with_reducible exact rfl | omega))) | apply thenS_normal | apply thenS_exit | apply blockS_exit | apply w_skip | apply w_ret | apply w_exit | ((with_reducible apply Sd.mk); (first | exact True.intro | omega | (constructor <;> first | omega | (unfold maxLen; omega)) | (unfold maxLen; omega))) | ((with_reducible apply Ln.mk); (first | rfl | exact ‹_› | omega | (simp ; first | done | omega))) | ((with_reducible apply Su.mk); (first | exact subAt_all | exact subAt_recZ (fun _ => rfl) (by omega) | exact subAt_rec (fun _ => rfl) (by omega))) | exact True.intro | exact Or.inl rfl | apply And.intro | exact rfl)
      all_goals first
        | (exfalso; omega)
        | (apply s_fin; (exact (show ResS _ _ _ _ [_, _] from ⟨rfl, ⟨rfl, trivial⟩⟩)); (focus (exact ⟨rfl, rfl⟩)); (focus (repeat (first | with_reducible exact Take.nil | with_reducible apply Take.c | ((with_reducible apply Take.cE); (first | exact rfl | (apply blkE; (focus (first | exact rfl | exact recs_snocE rfl | exact map_snocE rfl | exact congrArg (fun v => [v]) (gslE rfl rfl (by first | rfl | exact ‹_› | omega | (simp ; first | done | omega)) (by first | rfl | exact ‹_› | omega | (simp ; first | done | omega)) rfl)))))) | with_reducible apply Take.drop))))
        | trace_state
      all_goals exact tq
theorem rDecodeNumbers_any (l : List UInt8) (most : Int) (h : SH) (hl : l.length ≤ 100000) : SRun Try.prog 42 [S l, I most] h fun r q =>
    ∃ w, r = .tuple #[w, Er (mDecN l most).2] ∧ Has q (nodes (mDecN l most).1) 1 (mDecN l most).1.length w ∧ Take q h := by
  have hF := fun h => rfront_any l most h hl
  obtain ⟨x, hx⟩ : ∃ x, mDecN l most = x := ⟨_, rfl⟩
  rw [hx]
  have hsh := vpeek_shape l
  have hln := vpeek_len l
  have hnil : ∀ z ∈ ([] : List Int), 0 ≤ z := fun _ g => absurd g List.not_mem_nil
  -- the reference's way, as0 the package's
  have key : (rfr l most).2.2 ≠ 0 ∧ x = ([], (rfr l most).2.2) ∨ (rfr l most).2.2 = 0 ∧ (0 ≤ (rfr l most).1 ∧ (rfr l most).1 ≤ 4096) ∧ (rfr l most).2.1.length ≤ 100000 ∧
      x = if (rfr l most).1 = 0 then ([], 0) else if ∀ z ∈ (ndecN (rfr l most).1.toNat nt0 (dnew (rfr l most).2.1)).1, 0 ≤ z then (if dend (ndecN (rfr l most).1.toNat nt0 (dnew (rfr l most).2.1)).2 ≠ 0 then ([], dend (ndecN (rfr l most).1.toNat nt0 (dnew (rfr l most).2.1)).2) else ((ndecN (rfr l most).1.toNat nt0 (dnew (rfr l most).2.1)).1, 0)) else ([], 12) := by
    have k0 : ∀ y, rdecN l most nt0 = ([], y) → mDecN l most = ([], y) := fun y g => by unfold mDecN; rw [g, if_pos hnil]
    rw [← hx]
    unfold rfr
    rcases hsh with ⟨h1, h2, h3⟩ | ⟨h1, h2, h3⟩
    · rw [if_pos (show (vpeek l).2.1 = 0 ∨ 4096 < (vpeek l).1 from .inl h2)]
      exact .inl ⟨by show ¬ (12 : Int) = 0; decide, k0 _ (by unfold rdecN rdN; rw [if_pos h1]; exact if_pos (by show ¬ (12 : Int) = 0; decide))⟩
    · by_cases g1 : 4096 < (vpeek l).1
      · rw [if_pos (show (vpeek l).2.1 = 0 ∨ 4096 < (vpeek l).1 from .inr g1)]
        exact .inl ⟨by show ¬ (12 : Int) = 0; decide, k0 _ (by unfold rdecN rdN; rw [if_neg (show ¬ (vpeek l).2.2 = false by rw [h1]; decide), if_pos (show (vpeek l).1 < 0 ∨ 4096 < (vpeek l).1 from .inr g1)]; exact if_pos (by show ¬ (2 : Int) = 0; decide))⟩
      · rw [if_neg (show ¬ ((vpeek l).2.1 = 0 ∨ 4096 < (vpeek l).1) by omega)]
        have hrd : rdN l 4096 = ((vpeek l).1, l.drop (vpeek l).2.1.toNat, 0) := by
          unfold rdN
          rw [if_neg (show ¬ (vpeek l).2.2 = false by rw [h1]; decide), if_neg (show ¬ ((vpeek l).1 < 0 ∨ 4096 < (vpeek l).1) by omega)]
        by_cases g2 : most < (vpeek l).1
        · rw [if_pos g2]
          exact .inl ⟨by show ¬ (2 : Int) = 0; decide, k0 _ (by unfold rdecN; rw [hrd]; dsimp only; rw [if_neg (show ¬ (0 : Int) ≠ 0 from fun k => k rfl), if_pos g2])⟩
        · rw [if_neg g2]
          by_cases g3 : (vpeek l).1 = 0
          · by_cases g4 : (vpeek l).2.1 < l.length
            · rw [if_pos (show (vpeek l).1 = 0 ∧ (vpeek l).2.1 < l.length from ⟨g3, g4⟩)]
              refine .inl ⟨by show ¬ (12 : Int) = 0; decide, k0 _ ?_⟩
              unfold rdecN
              rw [hrd]
              dsimp only
              rw [if_neg (show ¬ (0 : Int) ≠ 0 from fun k => k rfl), if_neg g2, if_pos g3, show rend (l.drop (vpeek l).2.1.toNat) 0 = 12 from if_pos ⟨rfl, fun k => by have := congrArg List.length k; rw [List.length_drop, List.length_nil] at this; omega⟩]
            · rw [if_neg (show ¬ ((vpeek l).1 = 0 ∧ (vpeek l).2.1 < l.length) from fun k => g4 k.2)]
              refine .inr ⟨rfl, by dsimp only; omega, by dsimp only; rw [List.length_drop]; omega, ?_⟩
              dsimp only
              rw [if_pos g3]
              refine k0 _ ?_
              unfold rdecN
              rw [hrd]
              dsimp only
              rw [if_neg (show ¬ (0 : Int) ≠ 0 from fun k => k rfl), if_neg g2, if_pos g3, List.drop_of_length_le (by omega)]
              rfl
          · rw [if_neg (show ¬ ((vpeek l).1 = 0 ∧ (vpeek l).2.1 < l.length) from fun k => g3 k.1)]
            refine .inr ⟨rfl, by dsimp only; omega, by dsimp only; rw [List.length_drop]; omega, ?_⟩
            dsimp only
            rw [if_neg g3]
            have hre : rdecN l most nt0 = if dend (ndecN (vpeek l).1.toNat nt0 (dnew (l.drop (vpeek l).2.1.toNat))).2 ≠ 0 then ([], dend (ndecN (vpeek l).1.toNat nt0 (dnew (l.drop (vpeek l).2.1.toNat))).2) else ((ndecN (vpeek l).1.toNat nt0 (dnew (l.drop (vpeek l).2.1.toNat))).1, 0) := by
              unfold rdecN
              rw [hrd]
              dsimp only
              rw [if_neg (show ¬ (0 : Int) ≠ 0 from fun k => k rfl), if_neg g2, if_neg g3]
            unfold mDecN
            rw [hre]
            generalize ndecN (vpeek l).1.toNat nt0 (dnew (l.drop (vpeek l).2.1.toNat)) = N
            by_cases g5 : dend N.2 = 0
            · have e : (if dend N.2 ≠ 0 then (([] : List Int), dend N.2) else (N.1, 0)) = (N.1, 0) := if_neg (fun k => absurd g5 k)
              rw [e]
            · have e : (if dend N.2 ≠ 0 then (([] : List Int), dend N.2) else (N.1, 0)) = ([], dend N.2) := if_pos g5
              have e12 : dend N.2 = 12 := by
                unfold dend at g5 ⊢
                split
                · rfl
                · rename_i k; rw [if_neg k] at g5; exact absurd rfl g5
              rw [e, if_pos hnil, e12]
              split <;> rfl
  clear hx hsh hln hnil
  generalize rfr l most = V at *
  obtain ⟨n, R, e⟩ := V
  dsimp only at *
  have hX0 : nt0.length = 64 := List.length_replicate
  have hB : ∀ h, SRun Try.prog 32 [I 6] h fun r q => ∃ A, r = gsl A 0 64 64 1 ∧ q = (A, ⟨nodes nt0, false⟩) :: h := fun h => rNewTree_any 6 h (by decide)
  generalize nt0 = X at *
  have hnone : ∀ h : SH, Has h (nodes []) 1 ([] : List Int).length (.slice none 0 0) := fun h => ⟨none, 0, rfl, fun k => absurd rfl k⟩
  rcases key with ⟨k1, rfl⟩ | ⟨rfl, k2, k3, hx⟩
  · refine w_body2 Try.func42 rfl rfl ?_
    repeat' (first | apply w_seq | apply w_region | apply o_nil | (apply o_g tyOk; exact rfl; exact rfl) | (apply o_call; exact rfl; exact rfl; (focus (first | exact rfl | assumption)); exact rfl; (focus (exact ⟨_, hF _, by repeat (first | with_reducible exact Take.nil | with_reducible apply Take.c | with_reducible apply Take.drop)⟩)); rintro _ _ ⟨rfl, rfl⟩) | (apply o_skip; iterate 4 exact rfl) | (apply o_sT; (iterate 3 exact rfl); (focus (first | exact ‹_› | with_reducible exact rfl | omega)); exact rfl) | (apply w_true; exact rfl) | apply thenS_normal | apply thenS_ret | apply w_ret | ((with_reducible apply Sd.mk); (first | exact True.intro | omega | (constructor <;> first | omega | (unfold maxLen; omega)) | (unfold maxLen; omega))))
    all_goals first
      | contradiction
      | (apply s_fin; (exact (show ResS _ _ _ _ [_, _] from ⟨rfl, ⟨rfl, trivial⟩⟩)); (focus (exact ⟨_, rfl, hnone _, .nil⟩)); (focus (repeat (first | with_reducible exact Take.nil | with_reducible apply Take.c | ((with_reducible apply Take.cE); (first | exact rfl | (apply blkE; (focus (first | exact rfl | exact recs_snocE rfl | exact map_snocE rfl | exact congrArg (fun v => [v]) (gslE rfl rfl (by first | rfl | exact ‹_› | omega | (simp ; first | done | omega)) (by first | rfl | exact ‹_› | omega | (simp ; first | done | omega)) rfl)))))) | with_reducible apply Take.drop))))
      | trace_state
  by_cases h0 : n = 0
  · rw [if_pos h0] at hx
    subst hx
    refine w_body2 Try.func42 rfl rfl ?_
    repeat' (first | apply w_seq | apply w_region | apply o_nil | (apply o_g tyOk; exact rfl; exact rfl) | (apply o_call; exact rfl; exact rfl; (focus (first | exact rfl | assumption)); exact rfl; (focus (exact ⟨_, hF _, by repeat (first | with_reducible exact Take.nil | with_reducible apply Take.c | with_reducible apply Take.drop)⟩)); rintro _ _ ⟨rfl, rfl⟩) | (apply o_want; exact rfl; exact rfl) | (apply w_dT; exact rfl; (focus (first | exact ‹_› | with_reducible exact rfl | omega))) | apply thenS_normal | apply thenS_ret | apply w_ret | ((with_reducible apply Sd.mk); (first | exact True.intro | omega | (constructor <;> first | omega | (unfold maxLen; omega)) | (unfold maxLen; omega))))
    all_goals first
      | contradiction
      | (exfalso; omega)
      | (apply s_fin; (exact (show ResS _ _ _ _ [_, _] from ⟨rfl, ⟨rfl, trivial⟩⟩)); (focus (exact ⟨_, rfl, hnone _, .nil⟩)); (focus (repeat (first | with_reducible exact Take.nil | with_reducible apply Take.c | ((with_reducible apply Take.cE); (first | exact rfl | (apply blkE; (focus (first | exact rfl | exact recs_snocE rfl | exact map_snocE rfl | exact congrArg (fun v => [v]) (gslE rfl rfl (by first | rfl | exact ‹_› | omega | (simp ; first | done | omega)) (by first | rfl | exact ‹_› | omega | (simp ; first | done | omega)) rfl)))))) | with_reducible apply Take.drop))))
      | trace_state
  rw [if_neg h0] at hx
  obtain ⟨m, rfl⟩ := Int.eq_ofNat_of_zero_le k2.1
  rw [Int.toNat_natCast] at hx
  refine w_body2 Try.func42 rfl rfl ?_
  repeat' (first | apply w_seq | apply w_region | apply o_nil | (apply o_g tyOk; exact rfl; exact rfl) | (apply o_stores tyOk; (iterate 4 exact rfl); (focus (exact ⟨rfl⟩)); (focus (exact up))) | (apply o_alloc tyOk; iterate 5 exact rfl) | (apply o_buildSlice tyOk; (iterate 5 exact rfl); (focus (decide)); exact rfl; (focus (decide)); (focus (repeat (first | exact CatR.nil | exact CatR.last rfl | (apply CatR.one; exact rfl; exact rfl) | (apply CatR.agg; exact rfl)))); exact rfl) | (apply o_call; exact rfl; exact rfl; (focus (first | exact rfl | assumption)); exact rfl; (focus (exact ⟨_, hF _, by repeat (first | with_reducible exact Take.nil | with_reducible apply Take.c | with_reducible apply Take.drop)⟩)); rintro _ _ ⟨rfl, rfl⟩) | (apply o_call; exact rfl; exact rfl; (focus (first | exact rfl | assumption)); exact rfl; (focus (exact ⟨_, rNewDecoder_any _ _ (by omega), by repeat (first | with_reducible exact Take.nil | with_reducible apply Take.c | with_reducible apply Take.drop)⟩)); rintro _ _ ⟨rfl, rfl⟩) | (apply o_call; exact rfl; exact rfl; (focus (first | exact rfl | assumption)); exact rfl; (focus (exact ⟨_, hB _, by repeat (first | with_reducible exact Take.nil | with_reducible apply Take.c | with_reducible apply Take.drop)⟩)); rintro _ _ ⟨T0, rfl, rfl⟩) | (apply o_want; exact rfl; exact rfl) | (apply w_dF; exact rfl; (focus (first | exact ‹_› | with_reducible exact rfl | omega))) | apply thenS_normal | apply w_skip | apply w_block | ((with_reducible apply Sd.mk); (first | exact True.intro | omega | (constructor <;> first | omega | (unfold maxLen; omega)) | (unfold maxLen; omega))) | ((with_reducible apply Ln.mk); (first | rfl | exact ‹_› | omega | (simp ; first | done | omega))) | ((with_reducible apply Pu.mk); (first | exact putAt_all rfl | exact putAt_recZ (fun _ => rfl) (by omega) | exact putAt_rec (fun _ => rfl) (by omega))) | exact True.intro | intro A)
  all_goals first | contradiction | (exfalso; omega) | skip
  rename_i q0 D0
  refine w_loop (S := Nat × List Int × List Int × Dec × Nat × SH) (fun x => [(6, I m), (9, gptr D0 0 5), (10, gsl x.2.2.2.2.1 0 64 64 1), (11, gsl A 0 x.2.1.length x.2.1.length 1), (12, I x.1)])
    (fun x => (A, ⟨nodes x.2.1, false⟩) :: (D0, ⟨rdC x.2.2.2.1, false⟩) :: x.2.2.2.2.2)
    (fun x => x.1 ≤ m ∧ x.2.1.length = x.1 ∧ x.2.2.1.length = 64 ∧ DecOk x.2.2.2.1 ∧ (∃ h2, Pick x.2.2.2.2.2 x.2.2.2.2.1 ⟨nodes x.2.2.1, false⟩ h2) ∧ Take x.2.2.2.2.2 q0 ∧ (∀ z ∈ x.2.1, 0 ≤ z) ∧
      (x.2.1 ++ (ndecN (m - x.1) x.2.2.1 x.2.2.2.1).1, (ndecN (m - x.1) x.2.2.1 x.2.2.2.1).2) = ndecN m X (dnew R)) (fun x => m - x.1)
    (0, [], X, dnew R, T0, (T0, ⟨nodes X, false⟩) :: q0) ⟨Nat.zero_le _, rfl, hX0, dnew_ok (by omega), ⟨_, .head⟩, .drop .nil, fun _ g => absurd g List.not_mem_nil, rfl⟩ (by repeat' (first | exact trivial | refine ⟨rfl, ?_⟩ | refine ⟨congrArg some ?_, ?_⟩)) (by repeat (first | with_reducible exact Take.nil | with_reducible apply Take.c | ((with_reducible apply Take.cE); (first | exact rfl | (apply blkE; (focus (first | exact rfl | exact recs_snocE rfl | exact map_snocE rfl | exact congrArg (fun v => [v]) (gslE rfl rfl (by first | rfl | exact ‹_› | omega | (simp ; first | done | omega)) (by first | rfl | exact ‹_› | omega | (simp ; first | done | omega)) rfl)))))) | with_reducible apply Take.drop)) ?_
  rintro ⟨i, L, t, d, B, q⟩ ⟨hi, hL, ht, hok, ⟨h2, pB⟩, tq, hnn, he⟩
  dsimp only at hi hL ht hok pB tq hnn he ⊢
  have hlb : (nodes L).length = L.length := by simp
  by_cases him : i < m
  · have hb := ndec_ok (t := t) hok ht
    rw [show m - i = (m - (i + 1)) + 1 by omega] at he
    rw [show ∀ k, ndecN (k + 1) t d = ((ndec t d).2.2 :: (ndecN k (ndec t d).1 (ndec t d).2.1).1, (ndecN k (ndec t d).1 (ndec t d).2.1).2) from fun _ => rfl] at he
    have hE := rDecNum_any t d B ((A, ⟨nodes L, false⟩) :: (D0, ⟨rdC d, false⟩) :: q) _ (.tail (.tail pB)) ht hok
    generalize ndec t d = T at *
    obtain ⟨t2, d2, c2⟩ := T
    dsimp only at he hE hb
    have hsb : nodes L ++ [I c2] = nodes (L ++ [c2]) := map_snocI
    by_cases hneg : c2 < 0
    · rw [if_neg (fun g => by have := g c2 (by rw [← he]; simp); omega)] at hx
      subst hx
      repeat' (first | apply w_seq | apply w_region | apply o_nil | (apply o_g tyOk; exact rfl; exact rfl) | (apply o_loads tyOk; (iterate 3 exact rfl); (focus (exact pk))) | (apply o_stores tyOk; (iterate 4 exact rfl); (focus (exact ⟨rfl⟩)); (focus (exact up))) | (apply o_alloc tyOk; iterate 5 exact rfl) | (apply o_call; exact rfl; exact rfl; (focus (first | exact rfl | assumption)); exact rfl; (focus (exact ⟨_, hE, by repeat (first | with_reducible exact Take.nil | with_reducible apply Take.c | with_reducible apply Take.drop)⟩)); rintro _ _ ⟨B2, rfl, rfl⟩) | (apply w_dT; exact rfl; (focus (first | exact ‹_› | with_reducible exact rfl | omega))) | apply thenS_normal | apply thenS_ret | apply blockS_ret | apply w_skip | apply w_ret | apply w_block | ((with_reducible apply Sd.mk); (first | exact True.intro | omega | (constructor <;> first | omega | (unfold maxLen; omega)) | (unfold maxLen; omega))) | ((with_reducible apply Ln.mk); (first | rfl | exact ‹_› | omega | (simp [hlb]; first | done | omega))) | ((with_reducible apply Pu.mk); (first | exact putAt_all rfl | exact putAt_recZ (fun _ => rfl) (by omega) | exact putAt_rec (fun _ => rfl) (by omega))) | ((with_reducible apply Su.mk); (first | exact subAt_all | exact subAt_recZ (fun _ => rfl) (by omega) | exact subAt_rec (fun _ => rfl) (by omega))) | exact True.intro | intro A | exact rfl)
      all_goals first
        | (exfalso; omega)
        | (apply s_fin; (exact (show ResS _ _ _ _ [_, _] from ⟨rfl, ⟨rfl, trivial⟩⟩)); (focus (exact ⟨_, rfl, hnone _, .nil⟩)); (focus (repeat (first | with_reducible exact Take.nil | with_reducible apply Take.c | ((with_reducible apply Take.cE); (first | exact rfl | (apply blkE; (focus (first | exact rfl | exact recs_snocE rfl | exact map_snocE rfl | exact congrArg (fun v => [v]) (gslE rfl rfl (by first | rfl | exact ‹_› | omega | (simp [hlb]; first | done | omega)) (by first | rfl | exact ‹_› | omega | (simp [hlb]; first | done | omega)) rfl)))))) | with_reducible apply Take.drop))))
        | trace_state
      all_goals exact tq
    · repeat' (first | apply w_seq | apply w_region | apply o_nil | (apply w_draw; (focus (kernel_rfl)); (focus (kernel_rfl))) | (apply o_g tyOk; exact rfl; exact rfl) | (apply o_ar tyOk; exact rfl; exact rfl) | (apply o_loads tyOk; (iterate 3 exact rfl); (focus (exact pk))) | (apply o_stores tyOk; (iterate 4 exact rfl); (focus (exact ⟨rfl⟩)); (focus (exact up))) | (apply o_alloc tyOk; iterate 5 exact rfl) | (apply o_buildSlice tyOk; (iterate 5 exact rfl); (focus (decide)); exact rfl; (focus (decide)); (focus (repeat (first | exact CatR.nil | exact CatR.last rfl | (apply CatR.one; exact rfl; exact rfl) | (apply CatR.agg; exact rfl)))); exact rfl) | (apply o_append tyOk; (iterate 5 exact rfl); (focus (exact ⟨by decide⟩)); (focus (exact up)); (focus (exact pk))) | (apply o_call; exact rfl; exact rfl; (focus (first | exact rfl | assumption)); exact rfl; (focus (exact ⟨_, hE, by repeat (first | with_reducible exact Take.nil | with_reducible apply Take.c | with_reducible apply Take.drop)⟩)); rintro _ _ ⟨B2, rfl, rfl⟩) | (apply w_dT; exact rfl; (focus (first | exact ‹_› | with_reducible exact rfl | omega))) | (apply w_dF; exact rfl; (focus (first | exact ‹_› | with_reducible exact rfl | omega))) | apply thenS_normal | apply blockS_normal | apply w_skip | apply w_block | ((with_reducible apply Sd.mk); (first | exact True.intro | omega | (constructor <;> first | omega | (unfold maxLen; omega)) | (unfold maxLen; omega))) | ((with_reducible apply Ln.mk); (first | rfl | exact ‹_› | omega | (simp [hlb]; first | done | omega))) | ((with_reducible apply Wr.mk); (first | exact IntWalk.i64_in _ (by omega) | exact IntWalk.u8_in _ (by omega) | exact IntWalk.u32_in _ (by omega) | exact IntWalk.u64_in _ (by omega) | exact IntKind.wrap_u8 _ | exact IntKind.wrap_u32 _ | rfl)) | ((with_reducible apply Pu.mk); (first | exact putAt_all rfl | exact putAt_recZ (fun _ => rfl) (by omega) | exact putAt_rec (fun _ => rfl) (by omega))) | ((with_reducible apply Su.mk); (first | exact subAt_all | exact subAt_recZ (fun _ => rfl) (by omega) | exact subAt_rec (fun _ => rfl) (by omega))) | exact True.intro | refine Rc.mk ⟨_, _, pk, ?_⟩ | exact Or.inl rfl | apply And.intro | apply Or.inr | intro A | exact rfl)
      all_goals first
        | (exfalso; omega)
        | exact ⟨(i + 1, L ++ [c2], t2, d2, B2, (B2, ⟨nodes t2, false⟩) :: q), ⟨him, by simp [hL], hb.2, hb.1, ⟨_, .head⟩, .drop tq, fun z hz => by
            rcases List.mem_append.1 hz with hz | hz
            · exact hnn z hz
            · rw [List.mem_singleton.1 hz]; omega, by dsimp only; rw [List.append_assoc]; exact he⟩, by show m - (i + 1) < m - i; omega,
            ⟨rfl, rfl, rfl, congrArg some (gslE rfl rfl (by simp) (by simp) rfl), rfl, trivial⟩, .consE (.tail (.tail (.tail .head))) (blkE hsb) (.cons (.tail (.tail (.tail .head))) (.cons (.tail (.tail .head)) (.drop (.drop .nil))))⟩
        | trace_state
  · obtain rfl : i = m := by omega
    rw [Nat.sub_self] at he
    have he : (L ++ [], d) = ndecN i X (dnew R) := he
    rw [List.append_nil] at he
    rw [← he] at hx
    dsimp only at hx
    rw [if_pos hnn] at hx
    by_cases h3 : dend d = 0
    · rw [if_neg (fun g => g h3)] at hx
      subst hx
      repeat' (first | apply w_seq | apply w_region | apply o_nil | (apply o_g tyOk; exact rfl; exact rfl) | (apply o_loads tyOk; (iterate 3 exact rfl); (focus (exact pk))) | (apply o_call; exact rfl; exact rfl; (focus (first | exact rfl | assumption)); exact rfl; (focus (exact ⟨_, rEnd_any _ _, by repeat (first | with_reducible exact Take.nil | with_reducible apply Take.c | with_reducible apply Take.drop)⟩)); rintro _ _ ⟨rfl, rfl⟩) | (apply w_dF; exact rfl; (focus (first | exact ‹_› | with_reducible exact rfl | omega))) | apply thenS_normal | apply thenS_exit | apply blockS_exit | apply w_skip | apply w_ret | apply w_exit | ((with_reducible apply Sd.mk); (first | exact True.intro | omega | (constructor <;> first | omega | (unfold maxLen; omega)) | (unfold maxLen; omega))) | ((with_reducible apply Ln.mk); (first | rfl | exact ‹_› | omega | (simp ; first | done | omega))) | ((with_reducible apply Su.mk); (first | exact subAt_all | exact subAt_recZ (fun _ => rfl) (by omega) | exact subAt_rec (fun _ => rfl) (by omega))) | exact True.intro | exact rfl)
      all_goals first
        | contradiction
        | (apply s_fin; (exact (show ResS _ _ _ _ [_, _] from ⟨rfl, ⟨rfl, trivial⟩⟩)); (focus (exact ⟨_, rfl, (show Has ((A, ⟨nodes L, false⟩) :: q0) (nodes L) 1 L.length (gsl A 0 L.length L.length 1) from ⟨_, _, rfl, fun _ => ⟨A, false, _, by rw [Nat.one_mul], .head⟩⟩), .drop .nil⟩)); (focus (repeat (first | with_reducible exact Take.nil | with_reducible apply Take.c | ((with_reducible apply Take.cE); (first | exact rfl | (apply blkE; (focus (first | exact rfl | exact recs_snocE rfl | exact map_snocE rfl | exact congrArg (fun v => [v]) (gslE rfl rfl (by first | rfl | exact ‹_› | omega | (simp ; first | done | omega)) (by first | rfl | exact ‹_› | omega | (simp ; first | done | omega)) rfl)))))) | with_reducible apply Take.drop))))
        | trace_state
      all_goals first | exact tq | exact .drop tq
    · rw [if_pos h3] at hx
      subst hx
      repeat' (first | apply w_seq | apply w_region | apply o_nil | (apply o_g tyOk; exact rfl; exact rfl) | (apply o_loads tyOk; (iterate 3 exact rfl); (focus (exact pk))) | (apply o_call; exact rfl; exact rfl; (focus (first | exact rfl | assumption)); exact rfl; (focus (exact ⟨_, rEnd_any _ _, by repeat (first | with_reducible exact Take.nil | with_reducible apply Take.c | with_reducible apply Take.drop)⟩)); rintro _ _ ⟨rfl, rfl⟩) | (apply w_dT; exact rfl; (focus (first | exact ‹_› | with_reducible exact rfl | omega))) | (apply w_dF; exact rfl; (focus (first | exact ‹_› | with_reducible exact rfl | omega))) | apply thenS_normal | apply thenS_ret | apply thenS_exit | apply blockS_exit | apply w_ret | apply w_exit | ((with_reducible apply Sd.mk); (first | exact True.intro | omega | (constructor <;> first | omega | (unfold maxLen; omega)) | (unfold maxLen; omega))) | ((with_reducible apply Ln.mk); (first | rfl | exact ‹_› | omega | (simp ; first | done | omega))) | ((with_reducible apply Su.mk); (first | exact subAt_all | exact subAt_recZ (fun _ => rfl) (by omega) | exact subAt_rec (fun _ => rfl) (by omega))) | exact True.intro | exact rfl)
      all_goals first
        | contradiction
        | (apply s_fin; (exact (show ResS _ _ _ _ [_, _] from ⟨rfl, ⟨rfl, trivial⟩⟩)); (focus (exact ⟨_, rfl, hnone _, .nil⟩)); (focus (repeat (first | with_reducible exact Take.nil | with_reducible apply Take.c | ((with_reducible apply Take.cE); (first | exact rfl | (apply blkE; (focus (first | exact rfl | exact recs_snocE rfl | exact map_snocE rfl | exact congrArg (fun v => [v]) (gslE rfl rfl (by first | rfl | exact ‹_› | omega | (simp ; first | done | omega)) (by first | rfl | exact ‹_› | omega | (simp ; first | done | omega)) rfl)))))) | with_reducible apply Take.drop))))
        | trace_state
      all_goals exact tq
theorem Numbers_any (L : List Int) (v : Value) (D : List UInt8) (most : Int) (h : SH) (hv : Has h (recs (fun z : Int => [I z]) L) 1 L.length v) (_ : ∀ z ∈ L, (Lit.int .i64 z).wf = true) (hm : L.length ≤ maxLen) (_ : D.length ≤ 9223372036854775807) (_ : -9223372036854775808 ≤ most ∧ most ≤ 9223372036854775807) :
    SRun Try.prog 7 [v, S D, I most] h fun r _ => r = B true := by
  have hm0 := hm
  unfold maxLen at hm
  rw [recs_iV] at hv
  have hv0 := hv
  obtain ⟨ad, fl, rfl, hh⟩ := hv
  refine w_body3 Try.func7 rfl rfl ?_
  by_cases hbig : 100 < L.length ∨ 600 < D.length
  · repeat' (first | apply w_seq | apply w_region | apply o_nil | (apply o_g tyOk; exact rfl; exact rfl) | (apply o_notB; exact rfl; exact rfl) | (apply o_call; exact rfl; exact rfl; (focus (first | exact rfl | assumption)); exact rfl; (focus (exact ⟨_, awakeM_any _, by repeat (first | with_reducible exact Take.nil | with_reducible apply Take.c | with_reducible apply Take.drop)⟩)); rintro _ _ ⟨rfl, rfl⟩) | (apply o_want; exact rfl; exact rfl) | (apply o_skip; iterate 4 exact rfl) | (apply o_guardF; (iterate 3 exact rfl); all_goals intro hc) | (apply w_true; exact rfl) | (apply w_false; exact rfl) | (apply w_dT; exact rfl; (focus (first | exact ‹_› | with_reducible exact rfl | omega))) | apply thenS_normal | apply thenS_ret | apply w_skip | apply w_ret | ((with_reducible apply Sd.mk); (first | exact True.intro | omega | (constructor <;> first | omega | (unfold maxLen; omega)) | (unfold maxLen; omega))))
    all_goals first
      | (apply s_fin; (exact (show ResS _ _ _ _ [_] from ⟨rfl, trivial⟩)); (focus (rfl)); (focus (repeat (first | with_reducible exact Take.nil | with_reducible apply Take.c | ((with_reducible apply Take.cE); (first | exact rfl | (apply blkE; (focus (first | exact rfl | exact recs_snocE rfl | exact map_snocE rfl | exact congrArg (fun v => [v]) (gslE rfl rfl (by first | rfl | exact ‹_› | omega | (simp ; first | done | omega)) (by first | rfl | exact ‹_› | omega | (simp ; first | done | omega)) rfl)))))) | with_reducible apply Take.drop))))
      | (exfalso; omega)
  have hE := fun h hv => EncodeNumbers_any L (.slice ad L.length fl) h hv hm0
  have hR := fun h hv => rEncodeNumbers_any L (.slice ad L.length fl) h hv hm0
  have hM1 := fun h => DecodeNumbers_has D most h (by omega)
  have hM2 := fun h => rDecodeNumbers_any D most h (by omega)
  have hlen : (mDecN D most).1.length ≤ 1000000 := by
    unfold mDecN
    split
    · exact Nat.le_trans (rdecN_len D most nt0) (by decide)
    · exact Nat.zero_le _
  generalize mDecN D most = Z at *
  generalize mEncN L = E at *
  repeat' (first | apply w_seq | apply w_region | apply o_nil | (apply o_g tyOk; exact rfl; exact rfl) | (apply o_notB; exact rfl; exact rfl) | (apply o_call; exact rfl; exact rfl; (focus (first | exact rfl | assumption)); exact rfl; (focus (exact ⟨_, awakeM_any _, by repeat (first | with_reducible exact Take.nil | with_reducible apply Take.c | with_reducible apply Take.drop)⟩)); rintro _ _ ⟨rfl, rfl⟩) | (apply o_call; exact rfl; exact rfl; (focus (first | exact rfl | assumption)); exact rfl; (focus (exact ⟨_, hE _ hv0, by repeat (first | with_reducible exact Take.nil | with_reducible apply Take.c | with_reducible apply Take.drop)⟩)); rintro _ _ ⟨rfl, rfl⟩) | (apply o_call; exact rfl; exact rfl; (focus (first | exact rfl | assumption)); exact rfl; (focus (exact ⟨_, hR _ hv0, by repeat (first | with_reducible exact Take.nil | with_reducible apply Take.c | with_reducible apply Take.drop)⟩)); rintro _ _ ⟨rfl, rfl⟩) | (apply o_call; exact rfl; exact rfl; (focus (first | exact rfl | assumption)); exact rfl; (focus (exact ⟨_, hM1 _, by repeat (first | with_reducible exact Take.nil | with_reducible apply Take.c | with_reducible apply Take.drop)⟩)); rintro _ _ ⟨w1, rfl, k1, t1⟩) | (apply o_call; exact rfl; exact rfl; (focus (first | exact rfl | assumption)); exact rfl; (focus (exact ⟨_, hM2 _, by repeat (first | with_reducible exact Take.nil | with_reducible apply Take.c | with_reducible apply Take.drop)⟩)); rintro _ _ ⟨w2, rfl, k2, t2⟩) | (apply o_want; exact rfl; exact rfl) | (apply o_gT; (iterate 3 exact rfl); (focus (first | exact ‹_› | with_reducible exact rfl | omega))) | (apply o_gF; (iterate 3 exact rfl); (focus (first | exact ‹_› | with_reducible exact rfl | omega))) | (apply w_false; exact rfl) | (apply w_dF; exact rfl; (focus (first | exact ‹_› | with_reducible exact rfl | omega))) | apply thenS_normal | apply w_skip | ((with_reducible apply Sd.mk); (first | exact True.intro | omega | (constructor <;> first | omega | (unfold maxLen; omega)) | (unfold maxLen; omega))))
  all_goals first | (exfalso; omega) | skip
  have hI := IntsM_any Z.1 Z.1 w1 w2 _ (k1.re t2) k2 hlen
  rw [decide_eq_true rfl] at hI
  repeat' (first | apply o_nil | (apply o_g tyOk; exact rfl; exact rfl) | (apply o_call; exact rfl; exact rfl; (focus (first | exact rfl | assumption)); exact rfl; (focus (exact ⟨_, hI, by repeat (first | with_reducible exact Take.nil | with_reducible apply Take.c | with_reducible apply Take.drop)⟩)); rintro _ _ ⟨rfl, rfl⟩) | (apply o_want; exact rfl; exact rfl) | apply thenS_normal | apply w_ret | ((with_reducible apply Sd.mk); (first | exact True.intro | omega | (constructor <;> first | omega | (unfold maxLen; omega)) | (unfold maxLen; omega))))
  all_goals first
    | contradiction
    | (apply s_fin; (exact (show ResS _ _ _ _ [_] from ⟨rfl, trivial⟩)); (focus (rfl)); (focus (repeat (first | with_reducible exact Take.nil | with_reducible apply Take.c | ((with_reducible apply Take.cE); (first | exact rfl | (apply blkE; (focus (first | exact rfl | exact recs_snocE rfl | exact map_snocE rfl | exact congrArg (fun v => [v]) (gslE rfl rfl (by first | rfl | exact ‹_› | omega | (simp ; first | done | omega)) (by first | rfl | exact ‹_› | omega | (simp ; first | done | omega)) rfl)))))) | with_reducible apply Take.drop))))
    | (apply s_fin; (exact (show ResS _ _ _ _ [_] from ⟨rfl, trivial⟩)); (focus (show B _ = B true; simp)); (focus (repeat (first | with_reducible exact Take.nil | with_reducible apply Take.c | ((with_reducible apply Take.cE); (first | exact rfl | (apply blkE; (focus (first | exact rfl | exact recs_snocE rfl | exact map_snocE rfl | exact congrArg (fun v => [v]) (gslE rfl rfl (by first | rfl | exact ‹_› | omega | (simp ; first | done | omega)) (by first | rfl | exact ‹_› | omega | (simp ; first | done | omega)) rfl)))))) | with_reducible apply Take.drop))))
    | trace_state
end Go.Proofs.Ytinfmojbdaiogaa
end
section
set_option linter.unusedVariables false
set_option linter.unusedSimpArgs false
set_option maxRecDepth 4000
namespace Go.Gh
open Go.RowKit Go.ChangeShapes

section
variable {H : Type} {enc : TypeId × Value → H} {P : Program}
theorem trodAll_below (hl : laidOutB P = true) {W W' : World} (hb : Below W.heap.size W W') : ∀ {ts : List TypeId} {vs : List Value} {ds : List (DataW H)} {ps : List MemPlace},
    (ts.all fun t => P.readableRec t && decide (t < P.types.size)) = true → DataW.TrodAll enc P W 0 (fun _ => true) true ts vs ds ps → (∀ x ∈ ps, x.block < W.heap.size) →
    DataW.TrodAll enc P W' 0 (fun b => decide (b < W.heap.size)) true ts vs ds ps := by
  intro ts
  induction ts with
  | nil => intro vs ds ps _ h _; cases vs <;> cases ds <;> first | exact h | exact h.elim
  | cons t ts ih =>
    intro vs ds ps hr h hlt
    simp only [List.all_cons, Bool.and_eq_true, decide_eq_true_eq] at hr
    cases vs with
    | nil => exact h.elim
    | cons v vs =>
      cases ds with
      | nil => exact h.elim
      | cons d ds =>
        obtain ⟨p, q, h1, h2, rfl⟩ := h
        exact ⟨p, q, Below.trod hl hr.1.1 hr.1.2 h1 hb (fun x hx => hlt x (List.mem_append_left _ hx)), ih (by simpa using hr.2) h2 (fun x hx => hlt x (List.mem_append_right _ hx)), rfl⟩

/-- The end of a law: it returned true, only new blocks came. -/
theorem post_law {f : Func} {s : ChangeSpec} {W W' : World} {args : Array Value} {ds gs : List (DataW H)} {before : List MemPlace} {tb : TypeId} (hl : laidOutB P = true)
    (hW : DataW.Whole enc P f.params.toList s.vars false W args.toList ds gs before) (hv : s.vars = []) (hr : (f.params.toList.all fun t => P.readableRec t && decide (t < P.types.size)) = true)
    (ht : f.resultTypes = #[tb]) (hk : P.underlying tb = some .bool) (hs : (s.fn H ds).results = [.lit (.bool true)] ∧ (s.fn H ds).args = ds ∧ (s.fn H ds).vars = []) (hb : Below W.heap.size W W') :
    s.post enc P f false true false false W args (.bool true) W' := by
  have hlt : ∀ p ∈ before, p.block < W.heap.size := fun p hp => hW.lt p hp
  have hW1 := hW
  obtain ⟨p, q, h1, h2, h3, h4, h5⟩ := hW1
  rw [hv] at h2
  have hg : gs = [] ∧ q = [] := by
    cases gs with
    | nil => exact ⟨rfl, h2⟩
    | cons g gs => exact h2.elim
  obtain ⟨rfl, rfl⟩ := hg
  rw [List.append_nil] at h3
  subst h3
  refine ⟨ds, [], before, [], before, [], hW, ?_, ?_, ?_, World.keptBut_mono (fun x hx => ⟨hx, .inr (.inl hx)⟩) (hb.frame (· ∈ before)), fun h => by cases h⟩
  · rw [List.append_nil, hs.1, ht]
    exact ⟨[], [], shut_bool hk true, rfl, rfl⟩
  · rw [List.append_nil, hs.2.1]
    exact trodAll_below hl hb hr h1 hlt
  · rw [List.append_nil, hs.2.2, hv]; rfl
end
end Go.Gh
namespace Go.Gh
open Go.RowKit
theorem wf_i64 {n : Int} (h : (Lit.int .i64 n).wf = true) : -9223372036854775808 ≤ n ∧ n ≤ 9223372036854775807 := by simp [Lit.wf, IntKind.min, IntKind.max, IntKind.signed, IntKind.bits] at h; omega
theorem len_max {l : List UInt8} (h : (⟨⟨l⟩⟩ : ByteArray).size ≤ maxLen) : l.length ≤ 9223372036854775807 := by
  have : (⟨⟨l⟩⟩ : ByteArray).size = l.length := rfl
  unfold maxLen at h; omega
end Go.Gh
end
section
set_option linter.unusedVariables false
set_option linter.unusedSimpArgs false
set_option maxRecDepth 4000
namespace Go.Gh
open Go.RowKit Go.ChangeShapes Go.WideShapes

/-- A block that comes in, with the world it lies in. -/
structure CB (W : World) (e : Loc × Blk) : Prop where
  ro : e.2.ro = true
  mp : e.1.mp = false
  ex : ∃ c T fz, W.heap[e.1.b]? = some (.cells c T fz) ∧ c.size = e.1.size ∧ e.1.base + e.2.cells.length ≤ c.size ∧ ∀ i v, e.2.cells[i]? = some v → c[e.1.base + i]? = some v ∧ constOk v = true
/-- An argument: its blocks; its ghost by the number of its first block. -/
structure Arg (W : World) (v : Value) (es : List (Loc × Blk)) (g : Nat → Value) : Prop where
  cb : ∀ e ∈ es, CB W e
  val : ∀ (φ : Nat → Loc) (L : Lens) (k : Nat), (∀ (j : Nat) e, es[j]? = some e → φ (k + j) = e.1 ∧ L (k + j) = some e.2.cells.length) → Val φ L (g k) v
theorem arg_const {W : World} {v : Value} (h : constOk v = true) : Arg W v [] (fun _ => v) := ⟨fun e he => (by cases he), fun _ _ _ _ => Val.const h⟩
inductive ArgAll (W : World) : Nat → List Value → List (Loc × Blk) → List Value → Prop
  | nil {k} : ArgAll W k [] [] []
  | cons {k v vs es es' g as0} (h : Arg W v es g) (r : ArgAll W (k + es.length) vs es' as0) : ArgAll W k (v :: vs) (es ++ es') (g k :: as0)
def num : Nat → List Blk → SH
  | _, [] => []
  | k, b :: r => (k, b) :: num (k + 1) r
theorem pick_num : ∀ {l : List Blk} {k j : Nat} {b : Blk}, l[j]? = some b → ∃ h1, Pick (num k l) (k + j) b h1
  | [], k, j, b, h => by simp at h
  | x :: r, k, 0, b, h => by simp only [List.getElem?_cons_zero, Option.some.injEq] at h; subst h; exact ⟨_, .head⟩
  | x :: r, k, j + 1, b, h => by
    obtain ⟨h1, p⟩ := pick_num (k := k + 1) (l := r) (j := j) (by simpa using h)
    exact ⟨_, .tail (by rw [show k + (j + 1) = k + 1 + j by omega]; exact p)⟩
theorem num_sat : ∀ {l : List Blk} {k : Nat} {x : Nat × Blk}, x ∈ num k l → k ≤ x.1 ∧ l[x.1 - k]? = some x.2
  | [], k, x, h => by cases h
  | b :: r, k, x, h => by
    rcases List.mem_cons.1 h with rfl | h
    · simp
    · obtain ⟨h1, h2⟩ := num_sat h
      refine ⟨by omega, ?_⟩
      rw [show x.1 - k = (x.1 - (k + 1)) + 1 by omega]; simpa using h2
theorem num_nodup : ∀ (l : List Blk) (k : Nat), ((num k l).map (·.1)).Nodup
  | [], _ => List.nodup_nil
  | b :: r, k => by
    simp only [num, List.map_cons, List.nodup_cons]
    refine ⟨fun hm => ?_, num_nodup r (k + 1)⟩
    obtain ⟨x, hx, e⟩ := List.mem_map.1 hm
    have := (num_sat hx).1
    omega
theorem ArgAll.cb {W : World} {k : Nat} {vs : List Value} {es : List (Loc × Blk)} {as0 : List Value} (h : ArgAll W k vs es as0) : ∀ e ∈ es, CB W e := by
  induction h with
  | nil => intro e he; cases he
  | cons h _ ih =>
    intro e he
    rcases List.mem_append.1 he with he | he
    · exact h.cb e he
    · exact ih e he
theorem ArgAll.rel {W : World} {k : Nat} {vs : List Value} {es : List (Loc × Blk)} {as0 : List Value} (h : ArgAll W k vs es as0) (φ : Nat → Loc) (L : Lens)
    (hφ : ∀ (j : Nat) e, es[j]? = some e → φ (k + j) = e.1 ∧ L (k + j) = some e.2.cells.length) : vs.length = as0.length ∧ ∀ (i : Nat) a, as0[i]? = some a → ∃ v, vs[i]? = some v ∧ Val φ L a v := by
  induction h with
  | nil => exact ⟨rfl, fun i a h => by simp at h⟩
  | @cons k v vs es es' g as0 h _ ih =>
    have h1 := h.val φ L k fun j e he => hφ j e (by rw [List.getElem?_append_left (List.getElem?_eq_some_iff.1 he).1]; exact he)
    obtain ⟨h2, h3⟩ := ih fun j e he => by
      have := hφ (es.length + j) e (by rw [List.getElem?_append_right (by omega), show es.length + j - es.length = j by omega]; exact he)
      rwa [show k + (es.length + j) = k + es.length + j by omega] at this
    refine ⟨by simp [h2], fun i a hi => ?_⟩
    cases i with
    | zero => simp only [List.getElem?_cons_zero, Option.some.injEq] at hi; subst hi; exact ⟨v, rfl, h1⟩
    | succ i => obtain ⟨u, g1, g2⟩ := h3 i a (by simpa using hi); exact ⟨u, by simpa using g1, g2⟩

/-- A contract over arguments, as the model's calls. -/
theorem calls_args {P : Program} {f : FuncId} {W : World} {vs : List Value} {es : List (Loc × Blk)} {as0 : List Value} (ha : ArgAll W 0 vs es as0) (h : SRun P f as0 (num 0 (es.map (·.2))) fun r _ => r = B true) :
    Calls P f vs.toArray W fun e W' => e = .returned (.bool true) ∧ Below W.heap.size W W' := by
  unfold SRun at h
  have h1 := h (es.map fun e => some e.2) (.start (fun x hx => (by have := (num_sat hx).2; simpa using this)) (num_nodup _ _))
  unfold Run at h1
  have hcb := ha.cb
  obtain ⟨hl, hv⟩ := ha.rel (fun A => ((es[A]?).map (·.1)).getD ⟨0, 0, 0, false⟩) (lens (es.map fun e => some e.2)) fun j e he => by
    simp only [Nat.zero_add, he, Option.map_some, Option.getD_some, lens, List.getElem?_map, Option.join_some, and_self]
  have get : ∀ (A : Nat) (g : Blk), (es.map fun e => some e.2)[A]? = some (some g) → ∃ e : Loc × Blk, es[A]? = some e ∧ e.2 = g := fun A g hA => by
    rw [List.getElem?_map] at hA
    cases he : es[A]? with
    | none => rw [he] at hA; cases hA
    | some e => rw [he] at hA; simp only [Option.map_some, Option.some.injEq] at hA; exact ⟨e, rfl, hA⟩
  have hro : ∀ (A : Nat) (g : Blk), (es.map fun e => some e.2)[A]? = some (some g) → g.ro = true := fun A g hA => by
    obtain ⟨e, h1, rfl⟩ := get A g hA
    exact (hcb e (List.mem_of_getElem? h1)).ro
  have h2 := h1 W.heap.size W (fun A => ((es[A]?).map (·.1)).getD ⟨0, 0, 0, false⟩) (lens (es.map fun e => some e.2)) (fun A => ((es[A]?).map (·.1)).getD ⟨0, 0, 0, false⟩) W vs.toArray (.refl _ _)
    ⟨Below.refl _ _, Nat.le_refl _, fun A g hA => by
        obtain ⟨e, h1, rfl⟩ := get A g hA
        have hc := hcb e (List.mem_of_getElem? h1)
        obtain ⟨c, T, fz, g1, g2, g3, g4⟩ := hc.ex
        refine ⟨⟨.cells c T fz, c, ?_, .cells ?_ ?_ (fun hr => ?_), ?_, fun i v hi => ?_⟩⟩
        · simp only [h1, Option.map_some, Option.getD_some]; exact g1
        · simp only [h1, Option.map_some, Option.getD_some]; exact hc.mp
        · simp only [h1, Option.map_some, Option.getD_some]; exact g2
        · rw [hc.ro] at hr; cases hr
        · simp only [h1, Option.map_some, Option.getD_some]; exact g3
        · simp only [h1, Option.map_some, Option.getD_some]; exact ⟨v, (g4 i v hi).1, Val.const (g4 i v hi).2⟩,
      fun A g hA hr => (by rw [hro A g hA] at hr; cases hr), fun A A' g _ hA hr => by rw [hro A g hA] at hr; cases hr⟩
    ⟨by simp [hl], fun i a hi => by obtain ⟨v, g1, g2⟩ := hv i a hi; exact ⟨v, by simpa using g1, g2⟩⟩
  refine h2.mono ?_
  rintro e W' ⟨φ', r, H', v, g1, g2, rfl, g4, q, rfl, g5⟩
  cases g4
  exact ⟨rfl, g2.below⟩

theorem has_at {esL es esR : List (Loc × Blk)} (j : Nat) (b : Loc × Blk) (h : es[j]? = some b) : ∃ h1, Pick (num 0 ((esL ++ (es ++ esR)).map (·.2))) (esL.length + j) b.2 h1 := by
  have hg : ((esL ++ (es ++ esR)).map (·.2))[esL.length + j]? = some b.2 := by
    rw [List.getElem?_map, List.getElem?_append_right (by omega), show esL.length + j - esL.length = j by omega, List.getElem?_append_left (List.getElem?_eq_some_iff.1 h).1, h]; rfl
  obtain ⟨h1, p⟩ := pick_num (k := 0) hg
  rw [Nat.zero_add] at p
  exact ⟨h1, p⟩
/-- How an element of a slice reads. -/
structure Elem {H : Type} (enc : TypeId × Value → H) (P : Program) (e : TypeId) {α : Type} (f : α → List Value) (w : Nat) (ok : α → Prop) : Prop where
  cells : P.cellsOf e = w
  pos : 0 < w
  len : ∀ y, (f y).length = w
  cst : ∀ y, ∀ v ∈ f y, constOk v = true
  rd : ∀ {W : World} {base : Nat} {sp : Nat → Bool} {held : Bool} {n : Nat} {cs : List Value} {x : DataW H × List MemPlace}, DataW.trod enc P W base sp held n e cs = some x → ∃ y, cs = f y ∧ ok y

section
variable {H : Type} {enc : TypeId × Value → H} {P : Program} {W : World} {α : Type} {f : α → List Value} {w : Nat} {ok : α → Prop}
theorem cell_heap {a : Addr} {v : Value} (h : W.cell? a = some v) : a.spot = none ∧ ∃ c T fz, W.heap[a.block]? = some (.cells c T fz) ∧ c[a.off]? = some v := by
  unfold World.cell? at h
  split at h
  · rename_i c T fz hc
    split at h
    · cases h
    · rename_i hs
      exact ⟨by cases hsp : a.spot <;> simp_all, c, T, fz, hc, h⟩
  · cases h
theorem arg_slice [Inhabited α] {t e : TypeId} {base : Nat} {held : Bool} {v : Value} {d : DataW H} {ps : List MemPlace} {r : Reach} {b0 : Nat} (E : Elem enc P e f w ok) (ht : P.underlying t = some (.slice e)) (hval : Value.okWide P W r b0 t v)
    (hd : DataW.Trod enc P W base (fun _ => true) held t v d ps) :
    ∃ (l : List α) (es : List (Loc × Blk)) (g : Nat → Value), Arg W v es g ∧ (∀ x ∈ l, ok x) ∧ l.length ≤ maxLen ∧ ∀ (h : SH) (k : Nat), (∀ (j : Nat) b, es[j]? = some b → ∃ h1, Pick h (k + j) b.2 h1) → Has h (recs f l) w l.length (g k) := by
  obtain ⟨a, len, cap, rfl⟩ := okWide_slice ht hval
  obtain ⟨fuel, hf⟩ := hd
  simp only [Value.cells] at hf
  rcases Go.Deep.open_slice ht hf with ⟨h0, _⟩ | ⟨a', len', cap', m, n, D, Pl, h0, hb, hl, hm, hmm, _, hx⟩
  · simp only [List.cons.injEq, Value.slice.injEq, and_true] at h0
    obtain ⟨rfl, rfl, rfl⟩ := h0
    exact ⟨[], [], fun _ => .slice none 0 0, ⟨fun e he => (by cases he), fun _ _ _ _ => .snil⟩, fun x hx => (by cases hx), by simp, fun h k _ => ⟨none, 0, rfl, fun hn => absurd rfl hn⟩⟩
  · simp only [List.cons.injEq, Value.slice.injEq, and_true] at h0
    obtain ⟨rfl, rfl, rfl⟩ := h0
    simp only [if_true] at hmm
    subst hmm
    by_cases hz : len = 0
    · subst hz
      exact ⟨[], [], fun _ => .slice (some ⟨0, 0, none⟩) 0 0, ⟨fun e he => (by cases he), fun _ _ _ _ => .sdead _ _ hm⟩, fun x hx => (by cases hx), by simp, fun h k _ => ⟨_, 0, rfl, fun hn => absurd rfl hn⟩⟩
    · rw [E.cells] at hx
      obtain ⟨Y, hY⟩ := Go.Deep.choose_lt (α := α) (n := len) (p := fun i y => W.cells? base (a'.add (i * w)) w = some (f y) ∧ ok y) fun i hi => by
        obtain ⟨cs, h1, h2⟩ := hx i (by omega)
        obtain ⟨y, rfl, h3⟩ := E.rd h2
        exact ⟨y, h1, h3⟩
      have hw := E.pos
      have hcell : ∀ i j, i < len → j < w → ∃ u, (f (Y i))[j]? = some u ∧ W.cell? ((a'.add (i * w)).add j) = some u := fun i j hi hj => by
        obtain ⟨_, _, h1⟩ := World.cells?_some (hY i hi).1
        obtain ⟨u, hu⟩ : ∃ u, (f (Y i))[j]? = some u := ⟨_, List.getElem?_eq_getElem (by rw [E.len]; exact hj)⟩
        exact ⟨u, hu, (h1 j hj).trans hu⟩
      obtain ⟨u0, _, hu0⟩ := hcell 0 0 (by omega) hw
      obtain ⟨hsp, c, T, fz, hc, _⟩ := cell_heap hu0
      simp only [Nat.zero_mul, Addr.add, if_true] at hsp hc
      obtain ⟨ab, ao, asp⟩ := a'
      simp only at hsp hc
      subst hsp
      have hget : ∀ i j, i < len → j < w → ∃ u, (f (Y i))[j]? = some u ∧ c[ao + (i * w + j)]? = some u := fun i j hi hj => by
        obtain ⟨u, h1, h2⟩ := hcell i j hi hj
        rw [Go.Deep.add_add] at h2
        obtain ⟨_, c2, T2, fz2, h3, h4⟩ := cell_heap h2
        have eb : (Addr.add ⟨ab, ao, none⟩ (i * w + j)).block = ab := by unfold Addr.add; split <;> rfl
        have eo : (Addr.add ⟨ab, ao, none⟩ (i * w + j)).off = ao + (i * w + j) := by unfold Addr.add; split <;> simp_all
        rw [eb, hc] at h3
        simp only [Option.some.injEq, Obj.cells.injEq] at h3
        obtain ⟨rfl, _, _⟩ := h3
        rw [eo] at h4
        exact ⟨u, h1, h4⟩
      have hll : ((List.range len).map Y).length = len := by simp
      have hlY : ∀ i, i < len → ((List.range len).map Y)[i]! = Y i := fun i hi => by rw [getElem!_pos _ i (by simpa using hi)]; simp
      have hrl : (recs f ((List.range len).map Y)).length = len * w := by rw [recs_len E.len, hll]
      refine ⟨(List.range len).map Y, [(⟨ab, ao, c.size, false⟩, ⟨recs f ((List.range len).map Y), true⟩)], fun k => .slice (some ⟨k, 0, some (w * len)⟩) len 0, ⟨fun e he => ?_, fun φ L k hφ => ?_⟩, fun x hx => ?_, by rw [hll]; omega, fun h k hp => ?_⟩
      · obtain rfl := List.mem_singleton.1 he
        refine ⟨rfl, rfl, c, T, fz, hc, rfl, ?_, fun i u hi => ?_⟩
        · show ao + (recs f _).length ≤ c.size
          rw [hrl]
          obtain ⟨u, _, h1⟩ := hget (len - 1) (w - 1) (by omega) (by omega)
          have := (Array.getElem?_eq_some_iff.1 h1).1
          have e : (len - 1) * w + (w - 1) + 1 = len * w := by
            obtain ⟨q, rfl⟩ : ∃ q, len = q + 1 := ⟨len - 1, by omega⟩
            rw [Nat.add_sub_cancel, Nat.add_mul]; omega
          omega
        · have hi2 : i < len * w := by have := (List.getElem?_eq_some_iff.1 hi).1; rw [hrl] at this; exact this
          have hq : i / w < len := (Nat.div_lt_iff_lt_mul hw).2 hi2
          have hr := Nat.mod_lt i hw
          have e := Nat.div_add_mod' i w
          have hg := recs_get (l := (List.range len).map Y) E.len (i := i / w) (j := i % w) (by rw [hll]; exact hq) hr
          rw [e, hlY _ hq] at hg
          obtain ⟨u2, h1, h2⟩ := hget (i / w) (i % w) hq hr
          rw [e] at h2
          have : u = u2 := by
            have h3 := hi.symm.trans (hg.trans h1)
            exact Option.some.inj h3
          subst this
          exact ⟨h2, E.cst _ _ (List.mem_of_getElem? h1)⟩
      · obtain ⟨h1, h2⟩ := hφ 0 _ rfl
        rw [Nat.add_zero] at h1 h2
        exact .slc k 0 (w * len) (w * len) len 0 _ ⟨ab, ao, none⟩ (by rw [h2, hrl, Nat.mul_comm]) (Nat.le_refl _) hl hm fun _ => ⟨by rw [h1]; rfl, fun h => absurd rfl h, by rw [h1]⟩
      · obtain ⟨i, hi, rfl⟩ := List.mem_map.1 hx
        exact (hY i (List.mem_range.1 hi)).2
      · obtain ⟨h1, p⟩ := hp 0 _ rfl
        rw [hll]
        exact ⟨_, 0, rfl, fun _ => ⟨k, true, h1, rfl, p⟩⟩

/-- A field, an element of one cell. -/
structure C1 {H : Type} (enc : TypeId × Value → H) (P : Program) (e : TypeId) {α : Type} (f : α → Value) (ok : α → Prop) : Prop where
  cells : P.cellsOf e = 1
  cst : ∀ y, constOk (f y) = true
  rd : ∀ {W : World} {base : Nat} {sp : Nat → Bool} {held : Bool} {n : Nat} {cs : List Value} {x : DataW H × List MemPlace}, DataW.trod enc P W base sp held n e cs = some x → ∃ y, cs = [f y] ∧ ok y
theorem c1_int {e : TypeId} {k : IntKind} (he : P.underlying e = some (.int k)) (hc : P.cellsOf e = 1) : C1 enc P e (fun z => .int k z) (fun z => (Lit.int k z).wf = true) :=
  ⟨hc, fun _ => rfl, fun h => let ⟨n, h1, _, h2⟩ := DataW.trod_int he h; ⟨n, h1, h2⟩⟩
theorem el_one {e : TypeId} {α : Type} {f : α → Value} {ok : α → Prop} (h : C1 enc P e f ok) : Elem enc P e (fun y => [f y]) 1 ok :=
  ⟨h.cells, by decide, fun _ => rfl, fun y v hv => by obtain rfl := List.mem_singleton.1 hv; exact h.cst y, h.rd⟩
/-- The fields of a struct from an offset on. -/
structure Flds {H : Type} (enc : TypeId × Value → H) (P : Program) (fs : List Field) (o : Nat) {α : Type} (f : α → List Value) (w : Nat) (ok : α → Prop) : Prop where
  len : ∀ y, (f y).length = w
  cst : ∀ y, ∀ v ∈ f y, constOk v = true
  rd : ∀ {W : World} {base : Nat} {sp : Nat → Bool} {held : Bool} {n : Nat} {cs : List Value}, cs.length = o + w → (∀ fl ∈ fs, ∃ x, DataW.trod enc P W base sp held n fl.type ((cs.drop fl.offset).take (P.cellsOf fl.type)) = some x) → ∃ y, cs.drop o = f y ∧ ok y
theorem Flds.last {fl : Field} {o : Nat} (ho : fl.offset = o) (E : Elem enc P fl.type f w ok) : Flds enc P [fl] o f w ok :=
  ⟨E.len, E.cst, fun {W base sp held n cs} hl h => by
    obtain ⟨x, hx⟩ := h fl (by simp)
    rw [ho, E.cells, List.take_of_length_le (by rw [List.length_drop]; omega)] at hx
    exact E.rd hx⟩
theorem Flds.cons {β : Type} {g : β → List Value} {w2 : Nat} {ok2 : β → Prop} {fl : Field} {fs : List Field} {o : Nat} (ho : fl.offset = o) (E : Elem enc P fl.type f w ok) (r : Flds enc P fs (o + w) g w2 ok2) :
    Flds enc P (fl :: fs) o (fun y : α × β => f y.1 ++ g y.2) (w + w2) (fun y => ok y.1 ∧ ok2 y.2) :=
  ⟨fun y => by rw [List.length_append, E.len, r.len], fun y v hv => by
    rcases List.mem_append.1 hv with hv | hv
    · exact E.cst _ _ hv
    · exact r.cst _ _ hv, fun {W base sp held n cs} hl h => by
    obtain ⟨x, hx⟩ := h fl (by simp)
    rw [ho, E.cells] at hx
    obtain ⟨y1, h1, k1⟩ := E.rd hx
    obtain ⟨y2, h2, k2⟩ := r.rd (by omega) (fun z hz => h z (by simp [hz]))
    refine ⟨(y1, y2), ?_, k1, k2⟩
    dsimp only
    rw [← h1, ← h2, ← List.drop_drop, List.take_append_drop]⟩
end
end Go.Gh
end
