/- Part 11 of the proof of the law DirectoryStrict: texts merged. No condition. -/
import Derived.Test.YtncnmfdmbfbfjaaGreatZDirectoryStrictJ
section
set_option linter.unusedVariables false
set_option linter.unusedSimpArgs false
set_option maxRecDepth 4000
namespace Go.Proofs.YtncnmfdmbfbfjaaGreat
open Go.Gh Go.RowKit

theorem DRegions_any (d : Ex3) (l : List Eny) (v : Value) (h : SH) (hv : Has h (recs enF l) 7 l.length v) (hl : l.length ≤ 1000) (hd : dvl d l) :
    SRun Tryz.prog 15 [drV d v] h fun r q => ∃ A, r = gsl A 0 ((rgs d l).length * 2) (rgs d l).length 2 ∧ q = (A, ⟨recs prF (rgs d l), false⟩) :: h := by
  have hV := fun h hv => DValid_any d l v h hv hl
  rw [decide_eq_true hd] at hV
  have hG := fun h hv => regions_any d l v h hv hl hd.2.1.1 hd.2.1.2
  obtain ⟨ad, fl, rfl, hh⟩ := id hv
  generalize rgs d l = R at *
  obtain ⟨d1, d2, d3⟩ := d
  have hV : ∀ h, Has h (recs enF l) 7 l.length (.slice ad l.length fl) → SRun Tryz.prog 13 [.agg ⟨[I d1, I d2, I d3, .slice ad l.length fl]⟩] h fun r q => r = B true ∧ q = h := hV
  have hG : ∀ h, Has h (recs enF l) 7 l.length (.slice ad l.length fl) → SRun Tryz.prog 33 [.agg ⟨[I d1, I d2, I d3, .slice ad l.length fl]⟩] h fun r q => ∃ A, r = gsl A 0 (R.length * 2) R.length 2 ∧ q = (A, ⟨recs prF R, false⟩) :: h := hG
  show SRun _ _ [.agg ⟨[I d1, I d2, I d3, .slice ad l.length fl]⟩] h _
  refine w_body1 Tryz.func15 rfl rfl ?_
  repeat' (first | apply w_seq | apply w_region | apply o_nil | (apply o_g tyOk; exact rfl; exact rfl) | (apply o_notB; exact rfl; exact rfl) | (apply o_loads tyOk; (iterate 3 exact rfl); (focus (exact pk))) | (apply o_box (tt := tyT); iterate 5 exact rfl) | (apply o_call; exact rfl; exact rfl; (focus (first | exact rfl | assumption)); exact rfl; (focus (exact ⟨_, hV _ (hv.re (.drop .nil)), by repeat (first | with_reducible exact Take.nil | with_reducible apply Take.c | with_reducible apply Take.drop)⟩)); rintro _ _ ⟨rfl, rfl⟩) | (apply o_call; exact rfl; exact rfl; (focus (first | exact rfl | assumption)); exact rfl; (focus (exact ⟨_, hG _ (hv.re (.drop .nil)), by repeat (first | with_reducible exact Take.nil | with_reducible apply Take.c | with_reducible apply Take.drop)⟩)); rintro _ _ ⟨A2, rfl, rfl⟩) | (apply w_false; exact rfl) | apply thenS_normal | apply w_skip | apply w_ret | ((with_reducible apply Sd.mk); (first | exact True.intro | omega | (constructor <;> first | omega | (unfold maxLen; omega)) | (unfold maxLen; omega))) | ((with_reducible apply Ln.mk); (first | rfl | exact ‹_› | omega | (simp ; first | done | omega))) | ((with_reducible apply Su.mk); (first | exact subAt_all | exact subAt_recZ (fun _ => rfl) (by omega) | exact subAt_rec (fun _ => rfl) (by omega))) | exact True.intro | intro A | exact rfl)
  all_goals first
    | contradiction
    | (apply s_fin; (exact (show ResS _ _ _ _ [_] from ⟨rfl, trivial⟩)); (focus (exact ⟨A2, rfl, rfl⟩)); (focus (repeat (first | with_reducible exact Take.nil | with_reducible apply Take.c | with_reducible apply Take.drop))))
    | trace_state
theorem EnO.sl {h q : SH} {l : List Eny} {v : Value} (g : EnO h l v q) : ∃ ad fl, v = .slice ad l.length fl := by
  obtain ⟨ad, fl, e, _⟩ := g.has.1; exact ⟨ad, fl, e⟩
set_option maxRecDepth 8000
/-- The example. -/
abbrev dX : Ex3 := (4, 100, 0)
abbrev lX : List Eny := [(-1, 9, 0, 0, 6, 1, 0), (9, 20, 0, 0, 7, 64, 0)]
abbrev cX : List Value := [I (-1), I 9, I 0, I 0, I 6, I 1, I 0, I 9, I 20, I 0, I 0, I 7, I 64, I 0]
theorem dvlX : dvl dX lX := by decide +kernel
theorem hasX {h h1 : SH} {A : Nat} (p : Pick h A ⟨cX, false⟩ h1) : Has h (recs enF lX) 7 lX.length (gsl A 0 14 2 7) := ⟨_, _, rfl, fun _ => ⟨A, _, _, rfl, p⟩⟩
theorem awakeD_any (h : SH) : SRun Tryz.prog 10 [] h fun r q => r = B true ∧ q = h := by
  obtain ⟨p1, p2, p3, p4⟩ := decD_enc dvlX
  have e1 : ∀ (A : Nat) (h h1 : SH), Pick h A ⟨cX, false⟩ h1 → SRun Tryz.prog 12 [.agg ⟨[I 4, I 100, I 0, gsl A 0 14 2 7]⟩] h fun r q => r = .tuple #[S (encD dX lX).1, I 0] ∧ q = h := fun A h h1 p => by
    have := DEncode_any dX lX _ h (hasX p) (by decide); rwa [p2] at this
  have e2 : ∀ h, SRun Tryz.prog 19 [S (encD dX lX).1] h fun r q => ∃ A, r = .tuple #[.agg ⟨[I 4, I 100, I 0, gsl A 0 14 2 7]⟩, I 0] ∧ q = (A, ⟨cX, false⟩) :: h := fun h =>
    (DDecode_any (encD dX lX).1 h (by omega)).mono fun r q k => by
      rw [p1] at k
      obtain ⟨v, k1, k2⟩ := k
      cases k2 with
      | some A _ => exact ⟨A, k1, rfl⟩
  have e3 : ∀ (A : Nat) (h h1 : SH), Pick h A ⟨cX, false⟩ h1 → SRun Tryz.prog 22 [.agg ⟨[I 4, I 100, I 0, gsl A 0 14 2 7]⟩, I 10] h fun r q => r = .tuple #[I 1, B true] ∧ q = h := fun A h h1 p => Find_any dX lX 10 _ h (hasX p) (by decide)
  have e4 : ∀ (A : Nat) (h h1 : SH), Pick h A ⟨cX, false⟩ h1 → SRun Tryz.prog 13 [.agg ⟨[I 4, I 100, I 0, gsl A 0 14 2 7]⟩] h fun r q => r = B true ∧ q = h := fun A h h1 p => by
    have := DValid_any dX lX _ h (hasX p) (by decide); rwa [decide_eq_true dvlX] at this
  have e5 : ∀ (A A2 : Nat) (h h1 h2 : SH), Pick h A ⟨cX, false⟩ h1 → Pick h A2 ⟨cX, false⟩ h2 → SRun Tryz.prog 21 [.agg ⟨[I 4, I 100, I 0, gsl A 0 14 2 7]⟩, .agg ⟨[I 4, I 100, I 0, gsl A2 0 14 2 7]⟩] h fun r q => r = B true ∧ q = h := fun A A2 h h1 h2 p k => by
    have := rDSame_any dX dX lX lX _ _ h (hasX p) (hasX k) (by decide) (by decide); rwa [decide_eq_true ⟨rfl, rfl⟩] at this
  have e6 : ∀ (A : Nat) (h h1 : SH), Pick h A ⟨cX, false⟩ h1 → SRun Tryz.prog 24 [.agg ⟨[I 4, I 100, I 0, gsl A 0 14 2 7]⟩] h fun r q => r = I 20 ∧ q = h := fun A h h1 p => DEnd_any dX lX _ h (hasX p) (by decide)
  have e7 : ∀ (A : Nat) (h h1 : SH), Pick h A ⟨cX, false⟩ h1 → SRun Tryz.prog 15 [.agg ⟨[I 4, I 100, I 0, gsl A 0 14 2 7]⟩] h fun r q => ∃ A, r = gsl A 0 6 3 2 ∧ q = (A, ⟨recs prF (rgs dX lX), false⟩) :: h := fun A h h1 p => DRegions_any dX lX _ h (hasX p) (by decide) dvlX
  have e8 : ∀ (A A2 : Nat) (h h1 h2 : SH), Pick h A ⟨cX, false⟩ h1 → Pick h A2 ⟨cX, false⟩ h2 → SRun Tryz.prog 20 [.agg ⟨[I 4, I 100, I 0, gsl A 0 14 2 7]⟩, .agg ⟨[I 4, I 100, I 0, gsl A2 0 14 2 7]⟩] h fun r q => r = B true ∧ q = h := fun A A2 h h1 h2 p k => by
    have := DSame_any dX dX lX lX _ _ h (hasX p) (hasX k) (by decide) (by decide); rwa [decide_eq_true ⟨rfl, rfl⟩] at this
  have hne : (encD dX lX).1 ≠ [] := fun k => by rw [k] at p4; exact absurd p4 (by decide)
  generalize (encD dX lX).1 = T at *
  refine w_body0 Tryz.func10 rfl rfl ?_
  repeat' (first | apply w_seq | apply w_region | apply o_nil | (apply o_g tyOk; exact rfl; exact rfl) | (apply o_loads tyOk; (iterate 3 exact rfl); (focus (exact pk))) | (apply o_stores tyOk; (iterate 4 exact rfl); (focus (exact ⟨rfl⟩)); (focus (exact up))) | (apply o_alloc tyOk; iterate 5 exact rfl) | (apply o_build tyOk; exact rfl; exact rfl; (focus (first | with_reducible exact pl8 | with_reducible exact pl13 | with_reducible exact pl22 | with_reducible exact pl23 | with_reducible exact pl26 | with_reducible exact pl48)); exact rfl; (focus (repeat (first | exact BuildR.nil | (apply BuildR.one; exact rfl; exact rfl; (first | (focus ((repeat (first | exact SetAt.zero | apply SetAt.succ)); done)) | exact setAt_bytes (by omega) (by omega) | exact setAt_mapZ (by omega) | exact setAt_map (by omega))) | (apply BuildR.agg; exact rfl; exact rfl; (first | exact putAt_all rfl | exact putAt_h4 | exact putAt_e7 | exact putAt_recZ (fun _ => rfl) (by omega) | exact putAt_rec (fun _ => rfl) (by omega)))))); exact rfl) | (apply o_buildSlice tyOk; (iterate 5 exact rfl); (focus (decide)); exact rfl; (focus (decide)); (focus (repeat (first | exact CatR.nil | exact CatR.last rfl | (apply CatR.one; exact rfl; exact rfl) | (apply CatR.agg; exact rfl)))); exact rfl) | (apply o_call; exact rfl; exact rfl; (focus (first | exact rfl | assumption)); exact rfl; (focus (exact ⟨_, e1 _ _ _ pk, by repeat (first | with_reducible exact Take.nil | with_reducible apply Take.c | with_reducible apply Take.drop)⟩)); rintro _ _ ⟨rfl, rfl⟩) | (apply o_call; exact rfl; exact rfl; (focus (first | exact rfl | assumption)); exact rfl; (focus (exact ⟨_, e2 _, by repeat (first | with_reducible exact Take.nil | with_reducible apply Take.c | with_reducible apply Take.drop)⟩)); rintro _ _ ⟨A9, rfl, rfl⟩) | (apply o_call; exact rfl; exact rfl; (focus (first | exact rfl | assumption)); exact rfl; (focus (exact ⟨_, e3 _ _ _ pk, by repeat (first | with_reducible exact Take.nil | with_reducible apply Take.c | with_reducible apply Take.drop)⟩)); rintro _ _ ⟨rfl, rfl⟩) | (apply o_call; exact rfl; exact rfl; (focus (first | exact rfl | assumption)); exact rfl; (focus (exact ⟨_, e4 _ _ _ pk, by repeat (first | with_reducible exact Take.nil | with_reducible apply Take.c | with_reducible apply Take.drop)⟩)); rintro _ _ ⟨rfl, rfl⟩) | (apply o_call; exact rfl; exact rfl; (focus (first | exact rfl | assumption)); exact rfl; (focus (exact ⟨_, e5 _ _ _ _ _ pk pk, by repeat (first | with_reducible exact Take.nil | with_reducible apply Take.c | with_reducible apply Take.drop)⟩)); rintro _ _ ⟨rfl, rfl⟩) | (apply o_call; exact rfl; exact rfl; (focus (first | exact rfl | assumption)); exact rfl; (focus (exact ⟨_, e6 _ _ _ pk, by repeat (first | with_reducible exact Take.nil | with_reducible apply Take.c | with_reducible apply Take.drop)⟩)); rintro _ _ ⟨rfl, rfl⟩) | (apply o_call; exact rfl; exact rfl; (focus (first | exact rfl | assumption)); exact rfl; (focus (exact ⟨_, e7 _ _ _ pk, by repeat (first | with_reducible exact Take.nil | with_reducible apply Take.c | with_reducible apply Take.drop)⟩)); rintro _ _ ⟨A8, rfl, rfl⟩) | (apply o_call; exact rfl; exact rfl; (focus (first | exact rfl | assumption)); exact rfl; (focus (exact ⟨_, e8 _ _ _ _ _ pk pk, by repeat (first | with_reducible exact Take.nil | with_reducible apply Take.c | with_reducible apply Take.drop)⟩)); rintro _ _ ⟨rfl, rfl⟩) | (apply o_want; exact rfl; exact rfl) | (apply o_gT; (iterate 3 exact rfl); (focus (first | exact ‹_› | with_reducible exact rfl | omega | exact hne))) | apply thenS_normal | apply w_ret | ((with_reducible apply Sd.mk); (first | exact True.intro | omega | (constructor <;> first | omega | (unfold maxLen; omega)) | (unfold maxLen; omega))) | ((with_reducible apply Ln.mk); (first | rfl | exact ‹_› | omega | (simp ; first | done | omega))) | ((with_reducible apply Pu.mk); (first | exact putAt_all rfl | exact putAt_h4 | exact putAt_e7 | exact putAt_recZ (fun _ => rfl) (by omega) | exact putAt_rec (fun _ => rfl) (by omega))) | ((with_reducible apply Su.mk); (first | exact subAt_all | exact subAt_recZ (fun _ => rfl) (by omega) | exact subAt_rec (fun _ => rfl) (by omega))) | exact True.intro | intro A | exact rfl)
  all_goals first
    | contradiction
    | (exfalso; exact ‹¬ _› hne)
    | (apply s_fin; (exact (show ResS _ _ _ _ [_] from ⟨rfl, trivial⟩)); (focus (exact ⟨rfl, rfl⟩)); (focus (repeat (first | with_reducible exact Take.nil | with_reducible apply Take.c | with_reducible apply Take.drop))))
    | trace_state
theorem StrictD_any (D : List UInt8) (hD0 : D.length ≤ 9223372036854775807) : SRun Tryz.prog 5 [S D] [] fun r q => r = B true := by
  by_cases hl : D.length ≤ 600
  · have hD := fun h => DDecode_any D h hD0
    cases hc : decD D with
    | none =>
      rw [hc] at hD
      have hD : ∀ h, SRun Tryz.prog 19 [S D] h fun r q => r = .tuple #[.agg ⟨[I 0, I 0, I 0, .slice none 0 0]⟩, I 12] ∧ q = h := hD
      have hS : ∀ h, SRun Tryz.prog 21 [.agg ⟨[I 0, I 0, I 0, .slice none 0 0]⟩, .agg ⟨[I 0, I 0, I 0, .slice none 0 0]⟩] h fun r q => r = B true ∧ q = h := fun h => by
        have := rDSame_any (0, 0, 0) (0, 0, 0) [] [] (.slice none 0 0) (.slice none 0 0) h ⟨none, 0, rfl, fun k => absurd rfl k⟩ ⟨none, 0, rfl, fun k => absurd rfl k⟩ (by decide) (by decide)
        rwa [decide_eq_true ⟨rfl, rfl⟩] at this
      refine w_body1 Tryz.func5 rfl rfl ?_
      repeat' (first | apply w_seq | apply w_region | apply o_nil | (apply o_g tyOk; exact rfl; exact rfl) | (apply o_notB; exact rfl; exact rfl) | (apply o_loads tyOk; (iterate 3 exact rfl); (focus (exact pk))) | (apply o_stores tyOk; (iterate 4 exact rfl); (focus (exact ⟨rfl⟩)); (focus (exact up))) | (apply o_alloc tyOk; iterate 5 exact rfl) | (apply o_build tyOk; exact rfl; exact rfl; (focus (first | with_reducible exact pl26)); exact rfl; (focus (repeat (first | exact BuildR.nil | (apply BuildR.one; exact rfl; exact rfl; (first | (focus ((repeat (first | exact SetAt.zero | apply SetAt.succ)); done)) | exact setAt_bytes (by omega) (by omega) | exact setAt_mapZ (by omega) | exact setAt_map (by omega))) | (apply BuildR.agg; exact rfl; exact rfl; (first | exact putAt_all rfl | exact putAt_h4 | exact putAt_e7 | exact putAt_recZ (fun _ => rfl) (by omega) | exact putAt_rec (fun _ => rfl) (by omega)))))); exact rfl) | (apply o_call; exact rfl; exact rfl; (focus (first | exact rfl | assumption)); exact rfl; (focus (exact ⟨_, awakeD_any _, by repeat (first | with_reducible exact Take.nil | with_reducible apply Take.c | with_reducible apply Take.drop)⟩)); rintro _ _ ⟨rfl, rfl⟩) | (apply o_call; exact rfl; exact rfl; (focus (first | exact rfl | assumption)); exact rfl; (focus (exact ⟨_, hD _, by repeat (first | with_reducible exact Take.nil | with_reducible apply Take.c | with_reducible apply Take.drop)⟩)); rintro _ _ ⟨rfl, rfl⟩) | (apply o_call; exact rfl; exact rfl; (focus (first | exact rfl | assumption)); exact rfl; (focus (exact ⟨_, hS _, by repeat (first | with_reducible exact Take.nil | with_reducible apply Take.c | with_reducible apply Take.drop)⟩)); rintro _ _ ⟨rfl, rfl⟩) | (apply o_want; exact rfl; exact rfl) | (apply w_true; exact rfl) | (apply w_false; exact rfl) | (apply w_dF; exact rfl; (focus (first | exact ‹_› | with_reducible exact rfl | omega))) | apply thenS_normal | apply thenS_ret | apply w_skip | apply w_ret | ((with_reducible apply Sd.mk); (first | exact True.intro | omega | (constructor <;> first | omega | (unfold maxLen; omega)) | (unfold maxLen; omega))) | ((with_reducible apply Ln.mk); (first | rfl | exact ‹_› | omega | (simp ; first | done | omega))) | ((with_reducible apply Pu.mk); (first | exact putAt_all rfl | exact putAt_h4 | exact putAt_e7 | exact putAt_recZ (fun _ => rfl) (by omega) | exact putAt_rec (fun _ => rfl) (by omega))) | ((with_reducible apply Su.mk); (first | exact subAt_all | exact subAt_recZ (fun _ => rfl) (by omega) | exact subAt_rec (fun _ => rfl) (by omega))) | exact True.intro | intro A | exact rfl)
      all_goals first
        | contradiction
        | (exfalso; omega)
        | (apply s_fin; (exact (show ResS _ _ _ _ [_] from ⟨rfl, trivial⟩)); (focus (exact rfl)); (focus (repeat (first | with_reducible exact Take.nil | with_reducible apply Take.c | with_reducible apply Take.drop))))
        | trace_state
    | some V =>
      obtain ⟨⟨d1, d2, d3⟩, l⟩ := V
      rw [hc] at hD
      obtain ⟨hd, he⟩ := decD_strict hc
      have h32 := hd.1
      have hD : ∀ h, SRun Tryz.prog 19 [S D] h fun r q => ∃ wd wf, r = .tuple #[.agg ⟨[I d1, I d2, I d3, .slice wd l.length wf]⟩, I 0] ∧ EnO h l (.slice wd l.length wf) q := fun h => (hD h).mono fun r q ⟨w, k1, k2⟩ => by obtain ⟨wd, wf, rfl⟩ := k2.sl; exact ⟨wd, wf, k1, k2⟩
      have hE := fun w h hv => DEncode_any (d1, d2, d3) l w h hv (by omega)
      have hV := fun w h hv => DValid_any (d1, d2, d3) l w h hv (by omega)
      rw [he] at hE
      rw [decide_eq_true hd] at hV
      have hE : ∀ w h, Has h (recs enF l) 7 l.length w → SRun Tryz.prog 12 [.agg ⟨[I d1, I d2, I d3, w]⟩] h fun r q => r = .tuple #[S D, I 0] ∧ q = h := hE
      have hV : ∀ w h, Has h (recs enF l) 7 l.length w → SRun Tryz.prog 13 [.agg ⟨[I d1, I d2, I d3, w]⟩] h fun r q => r = B true ∧ q = h := hV
      refine w_body1 Tryz.func5 rfl rfl ?_
      repeat' ((fail_if_success (show SWp _ _ (Code.seq (Code.region 8 _ _) _) _ _ _)); (fail_if_success (show SWp _ _ (Code.region 8 _ _) _ _ _)); first | apply w_seq | apply w_region | apply o_nil | (apply o_g tyOk; exact rfl; exact rfl) | (apply o_notB; exact rfl; exact rfl) | (apply o_stores tyOk; (iterate 4 exact rfl); (focus (exact ⟨rfl⟩)); (focus (exact up))) | (apply o_alloc tyOk; iterate 5 exact rfl) | (apply o_call; exact rfl; exact rfl; (focus (first | exact rfl | assumption)); exact rfl; (focus (exact ⟨_, awakeD_any _, by repeat (first | with_reducible exact Take.nil | with_reducible apply Take.c | with_reducible apply Take.drop)⟩)); rintro _ _ ⟨rfl, rfl⟩) | (apply o_call; exact rfl; exact rfl; (focus (first | exact rfl | assumption)); exact rfl; (focus (exact ⟨_, hD _, by repeat (first | with_reducible exact Take.nil | with_reducible apply Take.c | with_reducible apply Take.drop)⟩)); rintro _ _ ⟨wd, wf, rfl, hg⟩) | (apply w_false; exact rfl) | (apply w_dF; exact rfl; (focus (first | exact ‹_› | with_reducible exact rfl | omega))) | apply thenS_normal | apply w_skip | ((with_reducible apply Sd.mk); (first | exact True.intro | omega | (constructor <;> first | omega | (unfold maxLen; omega)) | (unfold maxLen; omega))) | ((with_reducible apply Ln.mk); (first | rfl | exact ‹_› | omega | (simp ; first | done | omega))) | ((with_reducible apply Pu.mk); (first | exact putAt_all rfl | exact putAt_h4 | exact putAt_e7 | exact putAt_recZ (fun _ => rfl) (by omega) | exact putAt_rec (fun _ => rfl) (by omega))) | exact True.intro | intro A)
      all_goals first | contradiction | (exfalso; omega) | skip
      have hg2 := hg.has
      cases hg with
      | nil =>
        repeat' (first | apply w_seq | apply w_region | apply o_nil | (apply o_g tyOk; exact rfl; exact rfl) | (apply o_loads tyOk; (iterate 3 exact rfl); (focus (exact pk))) | (apply o_call; exact rfl; exact rfl; (focus (first | exact rfl | assumption)); exact rfl; (focus (exact ⟨_, hE _ _ (hg2.1.re (.drop .nil)), by repeat (first | with_reducible exact Take.nil | with_reducible apply Take.c | with_reducible apply Take.drop)⟩)); rintro _ _ ⟨rfl, rfl⟩) | (apply o_call; exact rfl; exact rfl; (focus (first | exact rfl | assumption)); exact rfl; (focus (exact ⟨_, hV _ _ (hg2.1.re (.drop .nil)), by repeat (first | with_reducible exact Take.nil | with_reducible apply Take.c | with_reducible apply Take.drop)⟩)); rintro _ _ ⟨rfl, rfl⟩) | (apply o_want; exact rfl; exact rfl) | (apply o_gT; (iterate 3 exact rfl); (focus (first | exact ‹_› | with_reducible exact rfl | omega))) | apply thenS_normal | apply w_ret | ((with_reducible apply Sd.mk); (first | exact True.intro | omega | (constructor <;> first | omega | (unfold maxLen; omega)) | (unfold maxLen; omega))) | ((with_reducible apply Ln.mk); (first | rfl | exact ‹_› | omega | (simp ; first | done | omega))) | ((with_reducible apply Su.mk); (first | exact subAt_all | exact subAt_recZ (fun _ => rfl) (by omega) | exact subAt_rec (fun _ => rfl) (by omega))) | exact True.intro | exact rfl)
        all_goals first
          | contradiction
          | (exfalso; omega)
          | (apply s_fin; (exact (show ResS _ _ _ _ [_] from ⟨rfl, trivial⟩)); (focus (exact rfl)); (focus (repeat (first | with_reducible exact Take.nil | with_reducible apply Take.c | with_reducible apply Take.drop))))
          | trace_state
      | some A1 _ =>
        repeat' (first | apply w_seq | apply w_region | apply o_nil | (apply o_g tyOk; exact rfl; exact rfl) | (apply o_loads tyOk; (iterate 3 exact rfl); (focus (exact pk))) | (apply o_call; exact rfl; exact rfl; (focus (first | exact rfl | assumption)); exact rfl; (focus (exact ⟨_, hE _ _ (hg2.1.re (.drop .nil)), by repeat (first | with_reducible exact Take.nil | with_reducible apply Take.c | with_reducible apply Take.drop)⟩)); rintro _ _ ⟨rfl, rfl⟩) | (apply o_call; exact rfl; exact rfl; (focus (first | exact rfl | assumption)); exact rfl; (focus (exact ⟨_, hV _ _ (hg2.1.re (.drop .nil)), by repeat (first | with_reducible exact Take.nil | with_reducible apply Take.c | with_reducible apply Take.drop)⟩)); rintro _ _ ⟨rfl, rfl⟩) | (apply o_want; exact rfl; exact rfl) | (apply o_gT; (iterate 3 exact rfl); (focus (first | exact ‹_› | with_reducible exact rfl | omega))) | apply thenS_normal | apply w_ret | ((with_reducible apply Sd.mk); (first | exact True.intro | omega | (constructor <;> first | omega | (unfold maxLen; omega)) | (unfold maxLen; omega))) | ((with_reducible apply Ln.mk); (first | rfl | exact ‹_› | omega | (simp ; first | done | omega))) | ((with_reducible apply Su.mk); (first | exact subAt_all | exact subAt_recZ (fun _ => rfl) (by omega) | exact subAt_rec (fun _ => rfl) (by omega))) | exact True.intro | exact rfl)
        all_goals first
          | contradiction
          | (exfalso; omega)
          | (apply s_fin; (exact (show ResS _ _ _ _ [_] from ⟨rfl, trivial⟩)); (focus (exact rfl)); (focus (repeat (first | with_reducible exact Take.nil | with_reducible apply Take.c | with_reducible apply Take.drop))))
          | trace_state
  · refine w_body1 Tryz.func5 rfl rfl ?_
    repeat' (first | apply w_seq | apply w_region | apply o_nil | (apply o_g tyOk; exact rfl; exact rfl) | (apply o_notB; exact rfl; exact rfl) | (apply o_call; exact rfl; exact rfl; (focus (first | exact rfl | assumption)); exact rfl; (focus (exact ⟨_, awakeD_any _, by repeat (first | with_reducible exact Take.nil | with_reducible apply Take.c | with_reducible apply Take.drop)⟩)); rintro _ _ ⟨rfl, rfl⟩) | (apply w_false; exact rfl) | (apply w_dT; exact rfl; (focus (first | exact ‹_› | with_reducible exact rfl | omega))) | apply thenS_normal | apply thenS_ret | apply w_skip | apply w_ret | ((with_reducible apply Sd.mk); (first | exact True.intro | omega | (constructor <;> first | omega | (unfold maxLen; omega)) | (unfold maxLen; omega))))
    all_goals first
      | contradiction
      | (exfalso; omega)
      | (apply s_fin; (exact (show ResS _ _ _ _ [_] from ⟨rfl, trivial⟩)); (focus (exact rfl)); (focus (repeat (first | with_reducible exact Take.nil | with_reducible apply Take.c | with_reducible apply Take.drop))))
      | trace_state
end Go.Proofs.YtncnmfdmbfbfjaaGreat
end
