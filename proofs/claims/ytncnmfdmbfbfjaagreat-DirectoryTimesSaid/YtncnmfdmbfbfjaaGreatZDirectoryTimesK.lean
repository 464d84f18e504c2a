/- Part 11 of the proof of the law DirectoryTimes: texts merged. No condition. -/
import Derived.Test.YtncnmfdmbfbfjaaGreatZDirectoryTimesJ
section
set_option linter.unusedVariables false
set_option linter.unusedSimpArgs false
set_option maxRecDepth 4000
namespace Go.Proofs.YtncnmfdmbfbfjaaGreat
open Go.Gh Go.RowKit
set_option maxRecDepth 8000

set_option maxHeartbeats 4000000 in
theorem TimesD_any (d : Ex3) (l : List Eny) (v : Value) (t : Int) (h : SH) (_ : okX d) (hv : Has h (recs enF l) 7 l.length v) (_ : ∀ x ∈ l, okY x) (_ : l.length ≤ maxLen)
    (_ : -9223372036854775808 ≤ t ∧ t ≤ 9223372036854775807) :
    SRun Tryz.prog 7 [drV d v, I t] h fun r q => r = B true := by
  obtain ⟨ad, fl, rfl, hh⟩ := id hv
  have hlb := en_len l
  by_cases hl : l.length ≤ 40
  · have hV := fun h hv => DValid_any d l (.slice ad l.length fl) h hv (by omega)
    by_cases hd : dvl d l
    · have hen := hd.2.2.1
      have hin := ents_in (by omega) hen
      rw [decide_eq_true hd] at hV
      have hF := fun t h hv => Find_any d l t (.slice ad l.length fl) h hv (by omega)
      have hE := fun h hv => DEnd_any d l (.slice ad l.length fl) h hv (by omega)
      rw [lsa_lst] at hE
      have hls := lsa_ge hen
      obtain ⟨d1, d2, d3⟩ := d
      have hV : ∀ h, Has h (recs enF l) 7 l.length (.slice ad l.length fl) → SRun Tryz.prog 13 [.agg ⟨[I d1, I d2, I d3, .slice ad l.length fl]⟩] h fun r q => r = B true ∧ q = h := hV
      have hF : ∀ t h, Has h (recs enF l) 7 l.length (.slice ad l.length fl) → SRun Tryz.prog 22 [.agg ⟨[I d1, I d2, I d3, .slice ad l.length fl]⟩, I t] h fun r q => r = .tuple #[I (fnd t 0 l).1, B (fnd t 0 l).2] ∧ q = h := hF
      have hE : ∀ h, Has h (recs enF l) 7 l.length (.slice ad l.length fl) → SRun Tryz.prog 24 [.agg ⟨[I d1, I d2, I d3, .slice ad l.length fl]⟩] h fun r q => r = I (lsa (-1) l) ∧ q = h := hE
      show SRun _ _ [.agg ⟨[I d1, I d2, I d3, .slice ad l.length fl]⟩, I t] h _
      refine w_body2 Tryz.func7 rfl rfl ?_
      repeat' (first | apply w_seq | apply w_region | apply o_nil | (apply o_g tyOk; exact rfl; exact rfl) | (apply o_notB; exact rfl; exact rfl) | (apply o_load tyOk; (iterate 3 exact rfl); (focus (exact pk))) | (apply o_loads tyOk; (iterate 3 exact rfl); (focus (exact pk))) | (apply o_box (tt := tyT); iterate 5 exact rfl) | (apply o_call; exact rfl; exact rfl; (focus (first | exact rfl | assumption)); exact rfl; (focus (exact ⟨_, awakeD_any _, by repeat (first | with_reducible exact Take.nil | with_reducible apply Take.c | with_reducible apply Take.drop)⟩)); rintro _ _ ⟨rfl, rfl⟩) | (apply o_call; exact rfl; exact rfl; (focus (first | exact rfl | assumption)); exact rfl; (focus (exact ⟨_, hV _ (hv.re (.drop .nil)), by repeat (first | with_reducible exact Take.nil | with_reducible apply Take.c | with_reducible apply Take.drop)⟩)); rintro _ _ ⟨rfl, rfl⟩) | (apply o_want; exact rfl; exact rfl) | (apply o_gF; (iterate 3 exact rfl); (focus (first | exact ‹_› | with_reducible exact rfl | omega))) | (apply w_false; exact rfl) | apply thenS_normal | apply w_skip | apply w_block | ((with_reducible apply Sd.mk); (first | exact True.intro | omega | (constructor <;> first | omega | (unfold maxLen; omega)) | (unfold maxLen; omega))) | ((with_reducible apply Ln.mk); (first | rfl | exact ‹_› | omega | (simp ; first | done | omega))) | ((with_reducible apply Ce.mk); (first | rfl | exact ‹_› | exact cell_recZ (fun _ => rfl) (by omega) (by decide) rfl | exact cell_rec (fun _ => rfl) (by omega) (by decide) rfl | exact cell_bytes (by omega) | exact cell_mapZ (by omega) | exact cell_map (by omega))) | ((with_reducible apply Su.mk); (first | exact subAt_all | exact subAt_recZ (fun _ => rfl) (by omega) | exact subAt_rec (fun _ => rfl) (by omega))) | exact True.intro | intro A | exact rfl)
      all_goals first | contradiction | (exfalso; omega) | skip
      revert A; intro A2
      refine w_loop (S := Nat) (fun i => [(1, I t), (2, gptr A2 0 4), (5, I (lsa (-1) (l.take i))), (26, .slice ad l.length fl), (27, I l.length), (28, I i)])
        (fun i => (A2, ⟨[I d1, I d2, I d3, .slice ad l.length fl], false⟩) :: h) (fun i => i ≤ l.length) (fun i => l.length - i) 0 (Nat.zero_le _) (by repeat' (first | exact trivial | refine ⟨rfl, ?_⟩ | refine ⟨congrArg some ?_, ?_⟩)) (by repeat (first | with_reducible exact Take.nil | with_reducible apply Take.c | with_reducible apply Take.drop)) ?_
      rintro i hi
      by_cases hil : i < l.length
      · obtain ⟨A', ro, h1, rfl, hp1⟩ := hh (by omega)
        have hmem := hin _ (sbang_mem hil)
        have hlk := ents_link hen i hil
        have hlt := lsa_take (a := -1) i hil
        have hf0 := fnd_at (t := l[i]!.1 + 1) (i := 0) i hen hil (by omega) (by omega)
        have hf1 := fnd_at (t := l[i]!.2.1) (i := 0) i hen hil (by omega) (by omega)
        obtain ⟨x, hx⟩ : ∃ x, x = l[i]! := ⟨_, rfl⟩
        rw [← hx] at hmem hlk hlt hf0 hf1
        have hsub : SubAt (recs enF l) (0 + ((i : Int)).toNat * 7) (enF x) := by rw [hx]; exact subAt_recZ (fun _ => rfl) hil
        obtain ⟨x1, x2, x3, x4, y1, y2, y3⟩ := x
        dsimp only at hmem hlk hlt hf0 hf1
        have hsub : SubAt (recs enF l) (0 + ((i : Int)).toNat * 7) [I x1, I x2, I x3, I x4, I y1, I y2, I y3] := hsub
        rw [Nat.zero_add] at hf0 hf1
        have hF0 := hF (x1 + 1)
        have hF1 := hF x2
        rw [hf0] at hF0
        rw [hf1] at hF1
        repeat' (first | apply w_seq | apply w_region | apply o_nil | (apply o_g tyOk; exact rfl; exact rfl) | (apply o_ar tyOk; exact rfl; exact rfl) | (apply o_load tyOk; (iterate 3 exact rfl); (focus (exact pk))) | (apply o_loads tyOk; (iterate 3 exact rfl); (focus (exact pk))) | (apply o_stores tyOk; (iterate 4 exact rfl); (focus (exact ⟨rfl⟩)); (focus (exact up))) | (apply o_alloc tyOk; iterate 5 exact rfl) | (apply o_buildSlice tyOk; (iterate 5 exact rfl); (focus (decide)); exact rfl; (focus (decide)); (focus (repeat (first | exact CatR.nil | exact CatR.last rfl | (apply CatR.one; exact rfl; exact rfl) | (apply CatR.agg; exact rfl)))); exact rfl) | (apply w_dT; exact rfl; (focus (first | exact ‹_› | with_reducible exact rfl | omega))) | apply thenS_normal | apply w_skip | apply w_block | ((with_reducible apply Sd.mk); (first | exact True.intro | omega | (constructor <;> first | omega | (unfold maxLen; omega)) | (unfold maxLen; omega))) | ((with_reducible apply Ln.mk); (first | rfl | exact ‹_› | omega | (simp [hlb]; first | done | omega))) | ((with_reducible apply Wr.mk); (first | exact IntWalk.i64_in _ (by omega) | exact IntWalk.u8_in _ (by omega) | exact IntWalk.u32_in _ (by omega) | exact IntWalk.u64_in _ (by omega) | exact IntKind.wrap_u8 _ | exact IntKind.wrap_u32 _ | rfl)) | ((with_reducible apply Ce.mk); (first | rfl | exact ‹_› | exact cell_recZ (fun _ => rfl) (by omega) (by decide) rfl | exact cell_rec (fun _ => rfl) (by omega) (by decide) rfl | exact cell_bytes (by omega) | exact cell_mapZ (by omega) | exact cell_map (by omega))) | ((with_reducible apply Pu.mk); (first | exact putAt_all rfl | exact putAt_recZ (fun _ => rfl) (by omega) | exact putAt_rec (fun _ => rfl) (by omega))) | ((with_reducible apply Su.mk); (first | exact hsub | exact subAt_all | exact subAt_recZ (fun _ => rfl) (by omega) | exact subAt_rec (fun _ => rfl) (by omega))) | exact True.intro | intro A | exact rfl)
        all_goals first | contradiction | (exfalso; omega) | skip
        rename_i A5
        revert A; intro A38
        refine w_loop (S := Nat) (fun j => [(1, I t), (2, gptr A2 0 4), (5, I (lsa (-1) (l.take i))), (26, .slice (some ⟨A', 0, some (7 * l.length)⟩) l.length fl), (27, I l.length), (28, I i), (6, I i), (7, gptr A5 0 7), (38, gsl A38 0 2 2 1), (39, I 2), (40, I j)])
          (fun j => (A38, ⟨[I (x1 + 1), I x2], false⟩) :: (A5, ⟨[I x1, I x2, I x3, I x4, I y1, I y2, I y3], false⟩) :: (A2, ⟨[I d1, I d2, I d3, .slice (some ⟨A', 0, some (7 * l.length)⟩) l.length fl], false⟩) :: h)
          (fun j => j ≤ 2) (fun j => 2 - j) 0 (Nat.zero_le _) (by repeat' (first | exact trivial | refine ⟨rfl, ?_⟩ | refine ⟨congrArg some ?_, ?_⟩)) (by repeat (first | with_reducible exact Take.nil | with_reducible apply Take.c | with_reducible apply Take.drop)) ?_
        rintro j hj
        by_cases hj2 : j < 2
        · have hjj : j = 0 ∨ j = 1 := by omega
          rcases hjj with rfl | rfl
          · repeat' (first | apply w_seq | apply w_region | apply o_nil | (apply o_g tyOk; exact rfl; exact rfl) | (apply o_ar tyOk; exact rfl; exact rfl) | (apply o_notB; exact rfl; exact rfl) | (apply o_load tyOk; (iterate 3 exact rfl); (focus (exact pk))) | (apply o_loads tyOk; (iterate 3 exact rfl); (focus (exact pk))) | (apply o_call; exact rfl; exact rfl; (focus (first | exact rfl | assumption)); exact rfl; (focus (exact ⟨_, hF0 _ (hv.re (.drop (.drop (.drop .nil)))), by repeat (first | with_reducible exact Take.nil | with_reducible apply Take.c | with_reducible apply Take.drop)⟩)); rintro _ _ ⟨rfl, rfl⟩) | (apply o_want; exact rfl; exact rfl) | (apply w_true; exact rfl) | (apply w_dF; exact rfl; (focus (first | exact ‹_› | with_reducible exact rfl | omega))) | apply thenS_normal | apply blockS_normal | apply w_skip | apply w_block | ((with_reducible apply Sd.mk); (first | exact True.intro | omega | (constructor <;> first | omega | (unfold maxLen; omega)) | (unfold maxLen; omega))) | ((with_reducible apply Ln.mk); (first | rfl | exact ‹_› | omega | (simp ; first | done | omega))) | ((with_reducible apply Wr.mk); (first | exact IntWalk.i64_in _ (by omega) | exact IntWalk.u8_in _ (by omega) | exact IntWalk.u32_in _ (by omega) | exact IntWalk.u64_in _ (by omega) | exact IntKind.wrap_u8 _ | exact IntKind.wrap_u32 _ | rfl)) | ((with_reducible apply Ce.mk); (first | rfl | exact ‹_› | exact cell_recZ (fun _ => rfl) (by omega) (by decide) rfl | exact cell_rec (fun _ => rfl) (by omega) (by decide) rfl | exact cell_bytes (by omega) | exact cell_mapZ (by omega) | exact cell_map (by omega))) | ((with_reducible apply Su.mk); (first | exact subAt_all | exact subAt_recZ (fun _ => rfl) (by omega) | exact subAt_rec (fun _ => rfl) (by omega))) | exact True.intro | exact rfl)
            all_goals first
              | contradiction
              | (exfalso; omega)
              | exact ⟨1, by omega, by omega, (by repeat' (first | exact trivial | refine ⟨rfl, ?_⟩ | refine ⟨congrArg some ?_, ?_⟩)), (by repeat (first | with_reducible exact Take.nil | with_reducible apply Take.c | with_reducible apply Take.drop))⟩
              | trace_state
          · repeat' (first | apply w_seq | apply w_region | apply o_nil | (apply o_g tyOk; exact rfl; exact rfl) | (apply o_ar tyOk; exact rfl; exact rfl) | (apply o_notB; exact rfl; exact rfl) | (apply o_load tyOk; (iterate 3 exact rfl); (focus (exact pk))) | (apply o_loads tyOk; (iterate 3 exact rfl); (focus (exact pk))) | (apply o_call; exact rfl; exact rfl; (focus (first | exact rfl | assumption)); exact rfl; (focus (exact ⟨_, hF1 _ (hv.re (.drop (.drop (.drop .nil)))), by repeat (first | with_reducible exact Take.nil | with_reducible apply Take.c | with_reducible apply Take.drop)⟩)); rintro _ _ ⟨rfl, rfl⟩) | (apply o_want; exact rfl; exact rfl) | (apply w_true; exact rfl) | (apply w_dF; exact rfl; (focus (first | exact ‹_› | with_reducible exact rfl | omega))) | apply thenS_normal | apply blockS_normal | apply w_skip | apply w_block | ((with_reducible apply Sd.mk); (first | exact True.intro | omega | (constructor <;> first | omega | (unfold maxLen; omega)) | (unfold maxLen; omega))) | ((with_reducible apply Ln.mk); (first | rfl | exact ‹_› | omega | (simp ; first | done | omega))) | ((with_reducible apply Wr.mk); (first | exact IntWalk.i64_in _ (by omega) | exact IntWalk.u8_in _ (by omega) | exact IntWalk.u32_in _ (by omega) | exact IntWalk.u64_in _ (by omega) | exact IntKind.wrap_u8 _ | exact IntKind.wrap_u32 _ | rfl)) | ((with_reducible apply Ce.mk); (first | rfl | exact ‹_› | exact cell_recZ (fun _ => rfl) (by omega) (by decide) rfl | exact cell_rec (fun _ => rfl) (by omega) (by decide) rfl | exact cell_bytes (by omega) | exact cell_mapZ (by omega) | exact cell_map (by omega))) | ((with_reducible apply Su.mk); (first | exact subAt_all | exact subAt_recZ (fun _ => rfl) (by omega) | exact subAt_rec (fun _ => rfl) (by omega))) | exact True.intro | exact rfl)
            all_goals first
              | contradiction
              | (exfalso; omega)
              | exact ⟨2, by omega, by omega, (by repeat' (first | exact trivial | refine ⟨rfl, ?_⟩ | refine ⟨congrArg some ?_, ?_⟩)), (by repeat (first | with_reducible exact Take.nil | with_reducible apply Take.c | with_reducible apply Take.drop))⟩
              | trace_state
        · obtain rfl : j = 2 := by omega
          repeat' (first | apply w_seq | apply w_region | apply o_nil | (apply o_g tyOk; exact rfl; exact rfl) | (apply o_ar tyOk; exact rfl; exact rfl) | (apply o_load tyOk; (iterate 3 exact rfl); (focus (exact pk))) | (apply w_false; exact rfl) | (apply w_dF; exact rfl; (focus (first | exact ‹_› | with_reducible exact rfl | omega))) | apply thenS_normal | apply thenS_exit | apply blockS_normal | apply blockS_exit | apply w_skip | apply w_exit | ((with_reducible apply Sd.mk); (first | exact True.intro | omega | (constructor <;> first | omega | (unfold maxLen; omega)) | (unfold maxLen; omega))) | ((with_reducible apply Ln.mk); (first | rfl | exact ‹_› | omega | (simp ; first | done | omega))) | ((with_reducible apply Wr.mk); (first | exact IntWalk.i64_in _ (by omega) | exact IntWalk.u8_in _ (by omega) | exact IntWalk.u32_in _ (by omega) | exact IntWalk.u64_in _ (by omega) | exact IntKind.wrap_u8 _ | exact IntKind.wrap_u32 _ | rfl)) | ((with_reducible apply Ce.mk); (first | rfl | exact ‹_› | exact cell_recZ (fun _ => rfl) (by omega) (by decide) rfl | exact cell_rec (fun _ => rfl) (by omega) (by decide) rfl | exact cell_bytes (by omega) | exact cell_mapZ (by omega) | exact cell_map (by omega))) | exact True.intro | exact rfl)
          all_goals first
            | contradiction
            | (exfalso; omega)
            | exact ⟨i + 1, hil, by show l.length - (i + 1) < l.length - i; omega, by rw [hlt]; exact (by repeat' (first | exact trivial | refine ⟨rfl, ?_⟩ | refine ⟨congrArg some ?_, ?_⟩)), (by repeat (first | with_reducible exact Take.nil | with_reducible apply Take.c | with_reducible apply Take.drop))⟩
            | trace_state
      · obtain rfl : i = l.length := by omega
        rw [List.take_length]
        have hFt := hF t
        have hcs : (t < 0 ∨ lsa (-1) l < t) ∨ ∃ k, k < l.length ∧ l[k]!.1 < t ∧ t ≤ l[k]!.2.1 := by
          by_cases g : t < 0 ∨ lsa (-1) l < t
          · exact .inl g
          · exact .inr (fnd_some hen (by omega) (by omega))
        rcases hcs with g | ⟨k, hk, hk1, hk2⟩
        · have hfn := fnd_none (t := t) (i := 0) hen (by omega)
          rw [hfn] at hFt
          generalize lsa (-1) l = e at *
          have hz : (I ((0 : Nat) : Int)) = I 0 := rfl
          repeat' (first | apply w_seq | apply w_region | apply o_nil | (apply o_g tyOk; exact rfl; exact rfl) | (apply o_notB; exact rfl; exact rfl) | (apply o_loads tyOk; (iterate 3 exact rfl); (focus (exact pk))) | (apply o_call; exact rfl; exact rfl; (focus (first | exact rfl | assumption)); exact rfl; (focus (exact ⟨_, hFt _ (hv.re (.drop .nil)), by repeat (first | with_reducible exact Take.nil | with_reducible apply Take.c | with_reducible apply Take.drop)⟩)); rintro _ _ ⟨rfl, rfl⟩) | (apply o_call; exact rfl; exact rfl; (focus (first | exact rfl | assumption)); exact rfl; (focus (exact ⟨_, hE _ (hv.re (.drop .nil)), by repeat (first | with_reducible exact Take.nil | with_reducible apply Take.c | with_reducible apply Take.drop)⟩)); rintro _ _ ⟨rfl, rfl⟩) | (apply o_want; exact rfl; exact rfl) | (apply o_skip; iterate 4 exact rfl) | (apply o_guardF; (iterate 3 exact rfl); all_goals intro hc) | (apply w_true; exact rfl) | (apply w_dT; exact rfl; (focus (first | exact ‹_› | with_reducible exact rfl | omega))) | (apply w_dF; exact rfl; (focus (first | exact ‹_› | with_reducible exact rfl | omega))) | apply thenS_normal | apply thenS_ret | apply thenS_exit | apply blockS_exit | apply w_ret | apply w_exit | ((with_reducible apply Sd.mk); (first | exact True.intro | omega | (constructor <;> first | omega | (unfold maxLen; omega)) | (unfold maxLen; omega))) | ((with_reducible apply Ln.mk); (first | rfl | exact ‹_› | omega | (simp ; first | done | omega))) | ((with_reducible apply Su.mk); (first | exact subAt_all | exact subAt_recZ (fun _ => rfl) (by omega) | exact subAt_rec (fun _ => rfl) (by omega))) | exact True.intro | exact rfl)
          all_goals first
            | contradiction
            | (exfalso; omega)
            | (apply s_fin; (exact (show ResS _ _ _ _ [_] from ⟨rfl, trivial⟩)); (focus (exact rfl)); (focus (repeat (first | with_reducible exact Take.nil | with_reducible apply Take.c | with_reducible apply Take.drop))))
            | (apply s_fin; (exact (show ResS _ _ _ _ [_] from ⟨rfl, trivial⟩)); (focus (show B _ = B true; simp)); (focus (repeat (first | with_reducible exact Take.nil | with_reducible apply Take.c | with_reducible apply Take.drop))))
            | trace_state
        · have hfn := fnd_at (t := t) (i := 0) k hen hk hk1 hk2
          have hle : t ≤ lsa (-1) l := by
            by_cases g : t ≤ lsa (-1) l
            · exact g
            · have := fnd_none (t := t) (i := 0) hen (by omega)
              rw [this] at hfn
              exact Bool.noConfusion (show false = true from congrArg Prod.snd hfn)
          have hgt : -1 < t := by
            have := (ents_ge hen k hk).1; omega
          rw [hfn, Nat.zero_add] at hFt
          generalize lsa (-1) l = e at *
          obtain ⟨A', ro, h1, rfl, hp1⟩ := hh (by omega)
          obtain ⟨x, hx⟩ : ∃ x, x = l[k]! := ⟨_, rfl⟩
          rw [← hx] at hk1 hk2
          have hsub : SubAt (recs enF l) (0 + ((k : Int)).toNat * 7) (enF x) := by rw [hx]; exact subAt_recZ (fun _ => rfl) hk
          obtain ⟨x1, x2, x3, x4, y1, y2, y3⟩ := x
          dsimp only at hk1 hk2
          have hc0 : (recs enF l)[0 + ((k : Int)).toNat * 7 + 0]? = some (I x1) := hsub 0 _ rfl
          have hc1 : (recs enF l)[0 + ((k : Int)).toNat * 7 + 1]? = some (I x2) := hsub 1 _ rfl
          repeat' (first | apply w_seq | apply w_region | apply o_nil | (apply o_g tyOk; exact rfl; exact rfl) | (apply o_load tyOk; (iterate 3 exact rfl); (focus (exact pk))) | (apply o_loads tyOk; (iterate 3 exact rfl); (focus (exact pk))) | (apply o_call; exact rfl; exact rfl; (focus (first | exact rfl | assumption)); exact rfl; (focus (exact ⟨_, hFt _ (hv.re (.drop .nil)), by repeat (first | with_reducible exact Take.nil | with_reducible apply Take.c | with_reducible apply Take.drop)⟩)); rintro _ _ ⟨rfl, rfl⟩) | (apply o_call; exact rfl; exact rfl; (focus (first | exact rfl | assumption)); exact rfl; (focus (exact ⟨_, hE _ (hv.re (.drop .nil)), by repeat (first | with_reducible exact Take.nil | with_reducible apply Take.c | with_reducible apply Take.drop)⟩)); rintro _ _ ⟨rfl, rfl⟩) | (apply o_want; exact rfl; exact rfl) | (apply o_gT; (iterate 3 exact rfl); (focus (first | exact ‹_› | with_reducible exact rfl | omega))) | (apply o_gF; (iterate 3 exact rfl); (focus (first | exact ‹_› | with_reducible exact rfl | omega))) | (apply w_dF; exact rfl; (focus (first | exact ‹_› | with_reducible exact rfl | omega))) | apply thenS_normal | apply thenS_exit | apply blockS_exit | apply w_skip | apply w_ret | apply w_exit | ((with_reducible apply Sd.mk); (first | exact True.intro | omega | (constructor <;> first | omega | (unfold maxLen; omega)) | (unfold maxLen; omega))) | ((with_reducible apply Ln.mk); (first | rfl | exact ‹_› | omega | (simp [hlb]; first | done | omega))) | ((with_reducible apply Ce.mk); (first | rfl | exact ‹_› | exact hc0 | exact hc1 | exact cell_recZ (fun _ => rfl) (by omega) (by decide) rfl | exact cell_rec (fun _ => rfl) (by omega) (by decide) rfl | exact cell_bytes (by omega) | exact cell_mapZ (by omega) | exact cell_map (by omega))) | ((with_reducible apply Su.mk); (first | exact subAt_all | exact subAt_recZ (fun _ => rfl) (by omega) | exact subAt_rec (fun _ => rfl) (by omega))) | exact True.intro | exact rfl)
          all_goals first
            | contradiction
            | (exfalso; omega)
            | (apply s_fin; (exact (show ResS _ _ _ _ [_] from ⟨rfl, trivial⟩)); (focus (exact rfl)); (focus (repeat (first | with_reducible exact Take.nil | with_reducible apply Take.c | with_reducible apply Take.drop))))
            | (apply s_fin; (exact (show ResS _ _ _ _ [_] from ⟨rfl, trivial⟩)); (focus (show B _ = B true; simp)); (focus (repeat (first | with_reducible exact Take.nil | with_reducible apply Take.c | with_reducible apply Take.drop))))
            | trace_state
    · rw [decide_eq_false hd] at hV
      obtain ⟨d1, d2, d3⟩ := d
      have hV : ∀ h, Has h (recs enF l) 7 l.length (.slice ad l.length fl) → SRun Tryz.prog 13 [.agg ⟨[I d1, I d2, I d3, .slice ad l.length fl]⟩] h fun r q => r = B false ∧ q = h := hV
      show SRun _ _ [.agg ⟨[I d1, I d2, I d3, .slice ad l.length fl]⟩, I t] h _
      refine w_body2 Tryz.func7 rfl rfl ?_
      repeat' ((fail_if_success (show SWp _ _ (Code.seq (Code.region 5 _ _) _) _ _ _)); (fail_if_success (show SWp _ _ (Code.region 5 _ _) _ _ _)); first | apply w_seq | apply w_region | apply o_nil | (apply o_g tyOk; exact rfl; exact rfl) | (apply o_notB; exact rfl; exact rfl) | (apply o_load tyOk; (iterate 3 exact rfl); (focus (exact pk))) | (apply o_loads tyOk; (iterate 3 exact rfl); (focus (exact pk))) | (apply o_box (tt := tyT); iterate 5 exact rfl) | (apply o_call; exact rfl; exact rfl; (focus (first | exact rfl | assumption)); exact rfl; (focus (exact ⟨_, awakeD_any _, by repeat (first | with_reducible exact Take.nil | with_reducible apply Take.c | with_reducible apply Take.drop)⟩)); rintro _ _ ⟨rfl, rfl⟩) | (apply o_call; exact rfl; exact rfl; (focus (first | exact rfl | assumption)); exact rfl; (focus (exact ⟨_, hV _ (hv.re (.drop .nil)), by repeat (first | with_reducible exact Take.nil | with_reducible apply Take.c | with_reducible apply Take.drop)⟩)); rintro _ _ ⟨rfl, rfl⟩) | (apply o_want; exact rfl; exact rfl) | (apply o_gF; (iterate 3 exact rfl); (focus (first | exact ‹_› | with_reducible exact rfl | omega))) | (apply w_true; exact rfl) | (apply w_false; exact rfl) | apply thenS_normal | apply thenS_ret | apply w_skip | apply w_ret | ((with_reducible apply Sd.mk); (first | exact True.intro | omega | (constructor <;> first | omega | (unfold maxLen; omega)) | (unfold maxLen; omega))) | ((with_reducible apply Ln.mk); (first | rfl | exact ‹_› | omega | (simp ; first | done | omega))) | ((with_reducible apply Ce.mk); (first | rfl | exact ‹_› | exact cell_recZ (fun _ => rfl) (by omega) (by decide) rfl | exact cell_rec (fun _ => rfl) (by omega) (by decide) rfl | exact cell_bytes (by omega) | exact cell_mapZ (by omega) | exact cell_map (by omega))) | ((with_reducible apply Su.mk); (first | exact subAt_all | exact subAt_recZ (fun _ => rfl) (by omega) | exact subAt_rec (fun _ => rfl) (by omega))) | exact True.intro | intro A | exact rfl)
      all_goals first
        | contradiction
        | (exfalso; omega)
        | (apply s_fin; (exact (show ResS _ _ _ _ [_] from ⟨rfl, trivial⟩)); (focus (exact rfl)); (focus (repeat (first | with_reducible exact Take.nil | with_reducible apply Take.c | with_reducible apply Take.drop))))
        | trace_state
  · obtain ⟨d1, d2, d3⟩ := d
    show SRun _ _ [.agg ⟨[I d1, I d2, I d3, .slice ad l.length fl]⟩, I t] h _
    refine w_body2 Tryz.func7 rfl rfl ?_
    repeat' ((fail_if_success (show SWp _ _ (Code.seq (Code.region 5 _ _) _) _ _ _)); (fail_if_success (show SWp _ _ (Code.region 5 _ _) _ _ _)); first | apply w_seq | apply w_region | apply o_nil | (apply o_g tyOk; exact rfl; exact rfl) | (apply o_notB; exact rfl; exact rfl) | (apply o_load tyOk; (iterate 3 exact rfl); (focus (exact pk))) | (apply o_box (tt := tyT); iterate 5 exact rfl) | (apply o_call; exact rfl; exact rfl; (focus (first | exact rfl | assumption)); exact rfl; (focus (exact ⟨_, awakeD_any _, by repeat (first | with_reducible exact Take.nil | with_reducible apply Take.c | with_reducible apply Take.drop)⟩)); rintro _ _ ⟨rfl, rfl⟩) | (apply o_skip; iterate 4 exact rfl) | (apply o_sT; (iterate 3 exact rfl); (focus (first | exact ‹_› | with_reducible exact rfl | omega)); exact rfl) | (apply w_true; exact rfl) | (apply w_false; exact rfl) | apply thenS_normal | apply thenS_ret | apply w_skip | apply w_ret | ((with_reducible apply Sd.mk); (first | exact True.intro | omega | (constructor <;> first | omega | (unfold maxLen; omega)) | (unfold maxLen; omega))) | ((with_reducible apply Ln.mk); (first | rfl | exact ‹_› | omega | (simp ; first | done | omega))) | ((with_reducible apply Ce.mk); (first | rfl | exact ‹_› | exact cell_recZ (fun _ => rfl) (by omega) (by decide) rfl | exact cell_rec (fun _ => rfl) (by omega) (by decide) rfl | exact cell_bytes (by omega) | exact cell_mapZ (by omega) | exact cell_map (by omega))) | exact True.intro | intro A | exact rfl)
    all_goals first
      | contradiction
      | (exfalso; omega)
      | (apply s_fin; (exact (show ResS _ _ _ _ [_] from ⟨rfl, trivial⟩)); (focus (exact rfl)); (focus (repeat (first | with_reducible exact Take.nil | with_reducible apply Take.c | with_reducible apply Take.drop))))
      | trace_state
end Go.Proofs.YtncnmfdmbfbfjaaGreat
end
