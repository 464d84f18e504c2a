/- Part 5 of the proof of the law DirectoryForm: texts merged. No condition. -/
import Derived.Test.YtncnmfdmbfbfjaaGreatZDirectoryFormD
import Derived.MapKept
section
set_option linter.unusedVariables false
set_option linter.unusedSimpArgs false
set_option maxRecDepth 4000
namespace Go.Proofs.YtncnmfdmbfbfjaaGreat
open Go.Gh Go.RowKit

def lvl (e : Eny) : Prop := (e.2.2.1 = 1 ∧ 1 ≤ e.2.2.2.1 ∧ e.2.2.2.1 ≤ 1099511627776) ∨ ((e.2.2.1 = 0 ∨ e.2.2.1 = 2) ∧ e.2.2.2.1 = 0)
instance (e : Eny) : Decidable (lvl e) := inferInstanceAs (Decidable (_ ∨ _))
/-- An entry is valid behind a time. -/
def eok (a : Int) (e : Eny) : Prop := e.1 = a ∧ e.1 < e.2.1 ∧ e.2.1 ≤ 1099511627776 ∧ lvl e
instance (a : Int) (e : Eny) : Decidable (eok a e) := inferInstanceAs (Decidable (_ ∧ _))
def ents : Int → List Eny → Prop
  | _, [] => True
  | a, e :: r => eok a e ∧ ents e.2.1 r
instance decEnts : ∀ (a : Int) (l : List Eny), Decidable (ents a l)
  | _, [] => inferInstanceAs (Decidable True)
  | a, e :: r => @instDecidableAnd (eok a e) (ents e.2.1 r) inferInstance (decEnts e.2.1 r)
/-- A directory is valid. -/
def dvl (d : Ex3) (l : List Eny) : Prop := l.length ≤ 32 ∧ fitAll d l ∧ ents (-1) l ∧ svld 1024 (rgs d l)
instance (d : Ex3) (l : List Eny) : Decidable (dvl d l) := inferInstanceAs (Decidable (_ ∧ _ ∧ _ ∧ _))
/-- Entries and their places. -/
def cmb (a : Int) (l : List Eny) : Prop := ents a l ∧ ∀ e ∈ l, fit (plc e)
theorem cmb_cons {a : Int} {e : Eny} {r : List Eny} : cmb a (e :: r) ↔ (eok a e ∧ fit (plc e)) ∧ cmb e.2.1 r := by
  unfold cmb
  constructor
  · rintro ⟨⟨h1, h2⟩, h3⟩
    exact ⟨⟨h1, h3 e List.mem_cons_self⟩, h2, fun x hx => h3 x (List.mem_cons_of_mem _ hx)⟩
  · rintro ⟨⟨h1, h2⟩, h3, h4⟩
    refine ⟨⟨h1, h3⟩, fun x hx => ?_⟩
    rcases List.mem_cons.1 hx with rfl | hx
    · exact h2
    · exact h4 x hx
theorem cmb_step {a : Int} {l : List Eny} {i : Nat} (h : i < l.length) : cmb a (l.drop i) ↔ (eok a l[i]! ∧ fit (plc l[i]!)) ∧ cmb l[i]!.2.1 (l.drop (i + 1)) := by
  rw [drop_bang h]; exact cmb_cons
theorem ents_step {a : Int} {l : List Eny} {i : Nat} (h : i < l.length) : ents a (l.drop i) ↔ eok a l[i]! ∧ ents l[i]!.2.1 (l.drop (i + 1)) := by
  rw [drop_bang h]; exact Iff.rfl
theorem vld_four {L : List Rg} (h : ∀ x ∈ L, 4 ≤ x.1) : svld 1024 (L ++ [(0, 4)]) ↔ svld 1024 L := by
  unfold svld
  constructor
  · rintro ⟨h1, h2, h3⟩
    exact ⟨h1, fun x hx => h2 x (List.mem_append_left _ hx), (List.pairwise_append.1 h3).1⟩
  · rintro ⟨h1, h2, h3⟩
    refine ⟨h1, fun x hx => ?_, List.pairwise_append.2 ⟨h3, by simp, fun x hx y hy => ?_⟩⟩
    · rcases List.mem_append.1 hx with hx | hx
      · exact h2 x hx
      · obtain rfl : x = (0, 4) := by simpa using hx
        decide
    · obtain rfl : y = (0, 4) := by simpa using hy
      have := h x hx
      exact .inr (by show (0 : Int) + 4 ≤ x.1; omega)
theorem rgs_four {d : Ex3} {l : List Eny} (h : fitAll d l) : ∀ x ∈ rgs d l, 4 ≤ x.1 := by
  intro x hx
  unfold rgs at hx
  rcases List.mem_cons.1 hx with rfl | hx
  · exact h.1.2.2.2.2.1
  · obtain ⟨e, he, rfl⟩ := List.mem_map.1 hx
    exact (h.2 e he).2.2.2.2.1
set_option maxHeartbeats 4000000 in
theorem DValid_any (d : Ex3) (l : List Eny) (v : Value) (h : SH) (hv : Has h (recs enF l) 7 l.length v) (hl : l.length ≤ 1000) :
    SRun Tryz.prog 13 [drV d v] h fun r q => r = B (decide (dvl d l)) ∧ q = h := by
  have hG := fun h hv => regions_any d l v h hv hl
  obtain ⟨ad, fl, rfl, hh⟩ := id hv
  have hlb := en_len l
  have hf0 := fun h => fits_any d h
  by_cases hd : fit d ∧ l.length ≤ 32
  · obtain ⟨hfd, h32⟩ := hd
    rw [decide_eq_true hfd] at hf0
    have hdv : dvl d l ↔ cmb (-1) l ∧ svld 1024 (rgs d l) := by
      unfold dvl fitAll cmb
      constructor
      · rintro ⟨_, ⟨_, h2⟩, h3, h4⟩; exact ⟨⟨h3, h2⟩, h4⟩
      · rintro ⟨⟨h3, h2⟩, h4⟩; exact ⟨h32, ⟨hfd, h2⟩, h3, h4⟩
    obtain ⟨d1, d2, d3⟩ := d
    have hf0 : ∀ h, SRun Tryz.prog 32 [.agg ⟨[I d1, I d2, I d3]⟩] h fun r q => r = B true ∧ q = h := hf0
    show SRun _ _ [.agg ⟨[I d1, I d2, I d3, .slice ad l.length fl]⟩] h _
    refine w_body1 Tryz.func13 rfl rfl ?_
    repeat' (first | apply w_seq | apply w_region | apply o_nil | (apply o_loadH tyOk; (iterate 5 exact rfl); (focus (exact pk))) | (apply o_g tyOk; exact rfl; exact rfl) | (apply o_notB; exact rfl; exact rfl) | (apply o_load tyOk; (iterate 3 exact rfl); (focus (exact pk))) | (apply o_box (tt := tyT); iterate 5 exact rfl) | (apply o_call; exact rfl; exact rfl; (focus (first | exact rfl)); exact rfl; (focus (exact ⟨_, hf0 _, by repeat (first | with_reducible exact Take.nil)⟩)); rintro _ _ ⟨rfl, rfl⟩) | (apply o_want; exact rfl; exact rfl) | (apply w_dF; exact rfl; (focus (first | omega))) | apply thenS_normal | apply w_skip | apply w_block | ((with_reducible apply Sd.mk); (first | exact True.intro)) | ((with_reducible apply Ln.mk); (first | rfl)) | ((with_reducible apply Ce.mk); (first | rfl)) | exact True.intro | intro A | exact rfl)
    all_goals first | (exfalso; omega) | skip
    revert A; intro A1
    refine w_loop (S := Nat × Int) (fun x => [(1, gptr A1 0 4), (3, I x.2), (18, .slice ad l.length fl), (19, I l.length), (20, I x.1)])
      (fun _ => (A1, ⟨[I d1, I d2, I d3, .slice ad l.length fl], false⟩) :: h) (fun x => x.1 ≤ l.length ∧ (cmb x.2 (l.drop x.1) ↔ cmb (-1) l)) (fun x => l.length - x.1) (0, -1) ⟨Nat.zero_le _, Iff.rfl⟩ (by repeat' (first | exact trivial | refine ⟨rfl, ?_⟩ | refine ⟨congrArg some ?_, ?_⟩)) (by repeat (first | with_reducible exact Take.nil | with_reducible apply Take.c | with_reducible apply Take.drop)) ?_
    rintro ⟨i, a⟩ ⟨hi, hiff⟩
    dsimp only at hi hiff ⊢
    by_cases hil : i < l.length
    · obtain ⟨A', ro, h1, rfl, hp1⟩ := hh (by omega)
      rw [cmb_step hil] at hiff
      have hfp := fun h => fits_any (plc l[i]!) h
      obtain ⟨x, hx⟩ : ∃ x, x = l[i]! := ⟨_, rfl⟩
      rw [← hx] at hiff hfp
      obtain ⟨x1, x2, x3, x4, y1, y2, y3⟩ := x
      have hsub : SubAt (recs enF l) (0 + ((i : Int)).toNat * 7) [I x1, I x2, I x3, I x4, I y1, I y2, I y3] := by rw [show [I x1, I x2, I x3, I x4, I y1, I y2, I y3] = enF l[i]! by rw [← hx]]; exact subAt_recZ (fun _ => rfl) hil
      have hs3 : SubAt [I x1, I x2, I x3, I x4, I y1, I y2, I y3] 4 [I y1, I y2, I y3] := fun j u hj => by
        match j, hj with
        | 0, hj => exact hj
        | 1, hj => exact hj
        | 2, hj => exact hj
      have hfp : ∀ h, SRun Tryz.prog 32 [.agg ⟨[I y1, I y2, I y3]⟩] h fun r q => r = B (decide (fit (y1, y2, y3))) ∧ q = h := hfp
      by_cases hf : fit (y1, y2, y3)
      · rw [decide_eq_true hf] at hfp
        by_cases he : eok a (x1, x2, x3, x4, y1, y2, y3)
        · have hiff : cmb x2 (l.drop (i + 1)) ↔ cmb (-1) l := ⟨fun g => hiff.1 ⟨⟨he, hf⟩, g⟩, fun g => (hiff.2 g).2⟩
          unfold eok lvl at he
          dsimp only at he
          obtain ⟨e1, e2, e3, e4⟩ := he
          repeat' (first | apply w_seq | apply w_region | apply o_nil | (apply o_g tyOk; exact rfl; exact rfl) | (apply o_ar tyOk; exact rfl; exact rfl) | (apply o_not; exact rfl; exact rfl) | (apply o_notB; exact rfl; exact rfl) | (apply o_load tyOk; (iterate 3 exact rfl); (focus (exact pk))) | (apply o_loads tyOk; (iterate 3 exact rfl); (focus (exact pk))) | (apply o_stores tyOk; (iterate 4 exact rfl); (focus (exact ⟨rfl⟩)); (focus (exact up))) | (apply o_alloc tyOk; iterate 5 exact rfl) | (apply o_call; exact rfl; exact rfl; (focus (first | exact rfl)); exact rfl; (focus (exact ⟨_, hfp _, by repeat (first | with_reducible exact Take.nil)⟩)); rintro _ _ ⟨rfl, rfl⟩) | (apply o_want; exact rfl; exact rfl) | (apply o_skip; iterate 4 exact rfl) | (apply o_skip_undef; iterate 3 exact rfl) | (apply o_gT; (iterate 3 exact rfl); (focus (first | exact ‹_›))) | (apply o_gF; (iterate 3 exact rfl); (focus (first | omega))) | (apply o_sF; (iterate 3 exact rfl); (focus (first | omega)); exact rfl) | (apply o_guardT; (iterate 3 exact rfl); all_goals intro hc) | (apply w_false; exact rfl) | (apply w_dT; exact rfl; (focus (first | omega))) | (apply w_dF; exact rfl; (focus (first | omega))) | apply thenS_normal | apply blockS_normal | apply w_skip | apply w_block | ((with_reducible apply Sd.mk); (first | exact True.intro | omega)) | ((with_reducible apply Ln.mk); (first | rfl | omega)) | ((with_reducible apply Wr.mk); (first | exact IntWalk.i64_in _ (by omega))) | ((with_reducible apply Ce.mk); (first | rfl)) | ((with_reducible apply Pu.mk); (first | exact putAt_all rfl)) | ((with_reducible apply Su.mk); (first | exact hsub | exact hs3)) | exact True.intro | intro A | exact rfl)
          all_goals first
            | (exfalso; omega)
            | exact ⟨(i + 1, x2), ⟨hil, hiff⟩, by show l.length - (i + 1) < l.length - i; omega, (by repeat' (first | exact trivial | refine ⟨rfl, ?_⟩ | refine ⟨congrArg some ?_, ?_⟩)), (by repeat (first | with_reducible exact Take.nil | with_reducible apply Take.c | with_reducible apply Take.drop))⟩
            | trace_state
        · have hno : ¬ cmb (-1) l := fun g => he (hiff.2 g).1.1
          rw [decide_eq_false (fun g => hno (hdv.1 g).1)]
          unfold eok lvl at he
          dsimp only at he
          repeat' ((fail_if_success (show SWp _ _ (Code.seq (Code.region 10 _ _) _) _ _ _)); (fail_if_success (show SWp _ _ (Code.region 10 _ _) _ _ _)); first | apply w_seq | apply w_region | apply o_nil | (apply o_g tyOk; exact rfl; exact rfl) | (apply o_not; exact rfl; exact rfl) | (apply o_notB; exact rfl; exact rfl) | (apply o_load tyOk; (iterate 3 exact rfl); (focus (exact pk))) | (apply o_loads tyOk; (iterate 3 exact rfl); (focus (exact pk))) | (apply o_stores tyOk; (iterate 4 exact rfl); (focus (exact ⟨rfl⟩)); (focus (exact up))) | (apply o_alloc tyOk; iterate 5 exact rfl) | (apply o_call; exact rfl; exact rfl; (focus (first | exact rfl)); exact rfl; (focus (exact ⟨_, hfp _, by repeat (first | with_reducible exact Take.nil)⟩)); rintro _ _ ⟨rfl, rfl⟩) | (apply o_want; exact rfl; exact rfl) | (apply o_skip; iterate 4 exact rfl) | (apply o_skip_undef; iterate 3 exact rfl) | (apply o_gT; (iterate 3 exact rfl); (focus (first | exact ‹_›))) | (apply o_sT; (iterate 3 exact rfl); (focus (first | omega)); exact rfl) | (apply o_guardFN; (iterate 3 exact rfl); all_goals intro hc) | (apply o_guardT; (iterate 3 exact rfl); all_goals intro hc) | (apply o_guardF; (iterate 3 exact rfl); all_goals intro hc) | (apply w_true; exact rfl) | (apply w_dT; exact rfl; (focus (first | omega))) | apply thenS_normal | apply thenS_ret | apply blockS_ret | apply w_skip | apply w_ret | apply w_block | ((with_reducible apply Sd.mk); (first | exact True.intro | omega)) | ((with_reducible apply Ln.mk); (first | rfl | omega)) | ((with_reducible apply Ce.mk); (first | rfl)) | ((with_reducible apply Pu.mk); (first | exact putAt_all rfl)) | ((with_reducible apply Su.mk); (first | exact hsub | exact hs3)) | exact True.intro | intro A | exact rfl)
          all_goals first
            | (apply s_fin; (exact (show ResS _ _ _ _ [_] from ⟨rfl, trivial⟩)); (focus (exact ⟨rfl, rfl⟩)); (focus (repeat (first | with_reducible exact Take.nil | with_reducible apply Take.c | with_reducible apply Take.drop))))
            | (exfalso; omega)
            | trace_state
      · rw [decide_eq_false hf] at hfp
        have hno : ¬ cmb (-1) l := fun g => hf (hiff.2 g).1.2
        rw [decide_eq_false (fun g => hno (hdv.1 g).1)]
        repeat' ((fail_if_success (show SWp _ _ (Code.seq (Code.region 10 _ _) _) _ _ _)); (fail_if_success (show SWp _ _ (Code.region 10 _ _) _ _ _)); first | apply w_seq | apply w_region | apply o_nil | (apply o_g tyOk; exact rfl; exact rfl) | (apply o_notB; exact rfl; exact rfl) | (apply o_load tyOk; (iterate 3 exact rfl); (focus (exact pk))) | (apply o_loads tyOk; (iterate 3 exact rfl); (focus (exact pk))) | (apply o_stores tyOk; (iterate 4 exact rfl); (focus (exact ⟨rfl⟩)); (focus (exact up))) | (apply o_alloc tyOk; iterate 5 exact rfl) | (apply o_call; exact rfl; exact rfl; (focus (first | exact rfl)); exact rfl; (focus (exact ⟨_, hfp _, by repeat (first | with_reducible exact Take.nil)⟩)); rintro _ _ ⟨rfl, rfl⟩) | (apply o_want; exact rfl; exact rfl) | (apply o_skip; iterate 4 exact rfl) | (apply o_skip_undef; iterate 3 exact rfl) | (apply o_guardFN; (iterate 3 exact rfl); all_goals intro hc) | (apply o_guardF; (iterate 3 exact rfl); all_goals intro hc) | (apply w_true; exact rfl) | (apply w_dT; exact rfl; (focus (first | omega))) | apply thenS_normal | apply thenS_ret | apply blockS_ret | apply w_skip | apply w_ret | apply w_block | ((with_reducible apply Sd.mk); (first | exact True.intro | omega)) | ((with_reducible apply Ln.mk); (first | rfl | omega)) | ((with_reducible apply Ce.mk); (first | rfl)) | ((with_reducible apply Pu.mk); (first | exact putAt_all rfl)) | ((with_reducible apply Su.mk); (first | exact hsub | exact hs3)) | exact True.intro | intro A | exact rfl)
        all_goals first
          | (apply s_fin; (exact (show ResS _ _ _ _ [_] from ⟨rfl, trivial⟩)); (focus (exact ⟨rfl, rfl⟩)); (focus (repeat (first | with_reducible exact Take.nil | with_reducible apply Take.c | with_reducible apply Take.drop))))
          | contradiction
          | (exfalso; omega)
          | trace_state
    · rw [List.drop_of_length_le (by omega)] at hiff
      have hcm : cmb (-1) l := hiff.1 ⟨trivial, fun e he => by cases he⟩
      have hall : fitAll (d1, d2, d3) l := ⟨hfd, hcm.2⟩
      have hdv2 : decide (svld 1024 (rgs (d1, d2, d3) l ++ [(0, 4)])) = decide (dvl (d1, d2, d3) l) := decide_eq_decide.2 (by rw [vld_four (rgs_four hall), hdv]; exact ⟨fun g => ⟨hcm, g⟩, fun g => g.2⟩)
      rw [← hdv2]
      have hrl : (rgs (d1, d2, d3) l).length = l.length + 1 := by simp [rgs]
      have hpl := pr_len (rgs (d1, d2, d3) l)
      have hG2 : ∀ h, Has h (recs enF l) 7 l.length (.slice ad l.length fl) → SRun Tryz.prog 33 [.agg ⟨[I d1, I d2, I d3, .slice ad l.length fl]⟩] h fun r q => ∃ A, r = gsl A 0 ((rgs (d1, d2, d3) l).length * 2) (rgs (d1, d2, d3) l).length 2 ∧ q = (A, ⟨recs prF (rgs (d1, d2, d3) l), false⟩) :: h := fun h hv => hG h hv hfd hcm.2
      generalize hR : rgs (d1, d2, d3) l = R at *
      have hVV : ∀ (A : Nat) (h : SH), SRun Tryz.prog 26 [I 1024, gsl A 0 (R.length * 2 + 2) (R.length + 1) 2] ((A, ⟨recs prF R ++ [I 0, I 4], false⟩) :: h) fun r q => r = B (decide (svld 1024 (R ++ [(0, 4)]))) ∧ q = (A, ⟨recs prF R ++ [I 0, I 4], false⟩) :: h := fun A h => by
        have hln : (R ++ [((0, 4) : Rg)]).length = R.length + 1 := by simp
        have e : recs prF R ++ [I 0, I 4] = recs prF (R ++ [(0, 4)]) := recs_snocE rfl
        rw [e]
        refine Valid_any 1024 (R ++ [(0, 4)]) _ _ ?_ (by omega)
        rw [hln]
        exact ⟨_, _, rfl, fun _ => ⟨A, _, _, by rw [show 2 * (R.length + 1) = R.length * 2 + 2 by omega], .head⟩⟩
      repeat' (first | apply w_seq | apply w_region | apply o_nil | (apply o_g tyOk; exact rfl; exact rfl) | (apply o_loads tyOk; (iterate 3 exact rfl); (focus (exact pk))) | (apply o_build tyOk; exact rfl; exact rfl; (focus (first | with_reducible exact pl53)); exact rfl; (focus (repeat (first | exact BuildR.nil | (apply BuildR.one; exact rfl; exact rfl; (first | (focus ((repeat (first | exact SetAt.zero | apply SetAt.succ)); done))))))); exact rfl) | (apply o_buildSlice tyOk; (iterate 5 exact rfl); (focus (decide)); exact rfl; (focus (decide)); (focus (repeat (first | exact CatR.last rfl))); exact rfl) | (apply o_append tyOk; (iterate 5 exact rfl); (focus (exact ⟨by decide⟩)); (focus (exact up)); (focus (exact pk))) | (apply o_call; exact rfl; exact rfl; (focus (first | exact rfl)); exact rfl; (focus (exact ⟨_, hG2 _ (hv.re (.drop .nil)), by repeat (first | with_reducible exact Take.nil)⟩)); rintro _ _ ⟨A2, rfl, rfl⟩) | (apply o_call; exact rfl; exact rfl; (focus (first | exact rfl)); exact rfl; (focus (exact ⟨_, hVV _ _, by repeat (first | with_reducible exact Take.nil | with_reducible apply Take.c)⟩)); rintro _ _ ⟨rfl, rfl⟩) | (apply w_dF; exact rfl; (focus (first | omega))) | apply thenS_normal | apply thenS_exit | apply blockS_exit | apply w_ret | apply w_exit | ((with_reducible apply Sd.mk); (first | exact True.intro | (constructor <;> first | omega | (unfold maxLen; omega)))) | ((with_reducible apply Ln.mk); (first | rfl | omega)) | ((with_reducible apply Su.mk); (first | exact subAt_all)) | exact True.intro | intro A | exact rfl)
      all_goals first
        | (exfalso; omega)
        | (apply s_fin; (exact (show ResS _ _ _ _ [_] from ⟨rfl, trivial⟩)); (focus (exact ⟨rfl, rfl⟩)); (focus (repeat (first | with_reducible exact Take.nil | with_reducible apply Take.c | with_reducible apply Take.drop))))
        | trace_state
  · have hno : ¬ dvl d l := fun g => hd ⟨g.2.1.1, g.1⟩
    rw [decide_eq_false hno]
    obtain ⟨d1, d2, d3⟩ := d
    have hf0 : ∀ h, SRun Tryz.prog 32 [.agg ⟨[I d1, I d2, I d3]⟩] h fun r q => r = B (decide (fit (d1, d2, d3))) ∧ q = h := hf0
    show SRun _ _ [.agg ⟨[I d1, I d2, I d3, .slice ad l.length fl]⟩] h _
    refine w_body1 Tryz.func13 rfl rfl ?_
    repeat' ((fail_if_success (show SWp _ _ (Code.seq (Code.region 3 _ _) _) _ _ _)); (fail_if_success (show SWp _ _ (Code.region 3 _ _) _ _ _)); first | apply w_seq | apply w_region | apply o_nil | (apply o_loadH tyOk; (iterate 5 exact rfl); (focus (exact pk))) | (apply o_g tyOk; exact rfl; exact rfl) | (apply o_not; exact rfl; exact rfl) | (apply o_load tyOk; (iterate 3 exact rfl); (focus (exact pk))) | (apply o_box (tt := tyT); iterate 5 exact rfl) | (apply o_call; exact rfl; exact rfl; (focus (first | exact rfl)); exact rfl; (focus (exact ⟨_, hf0 _, by repeat (first | with_reducible exact Take.nil)⟩)); rintro _ _ ⟨rfl, rfl⟩) | (apply o_want; exact rfl; exact rfl) | (apply o_skip; iterate 4 exact rfl) | (apply o_guardFN; (iterate 3 exact rfl); all_goals intro hc) | (apply w_true; exact rfl) | (apply w_if; exact rfl; all_goals intro hc) | apply thenS_normal | apply thenS_ret | apply w_skip | apply w_ret | ((with_reducible apply Sd.mk); (first | exact True.intro)) | ((with_reducible apply Ln.mk); (first | rfl)) | ((with_reducible apply Ce.mk); (first | rfl)) | exact True.intro | intro A | exact rfl)
    all_goals first
      | (apply s_fin; (exact (show ResS _ _ _ _ [_] from ⟨rfl, trivial⟩)); (focus (exact ⟨rfl, rfl⟩)); (focus (repeat (first | with_reducible exact Take.nil | with_reducible apply Take.c | with_reducible apply Take.drop))))
      | (exfalso; exact hd ⟨by simpa using ‹_›, by omega⟩)
      | trace_state
set_option maxHeartbeats 4000000 in
theorem rDValid_any (d : Ex3) (l : List Eny) (v : Value) (h : SH) (hv : Has h (recs enF l) 7 l.length v) (hl : l.length ≤ 1000) :
    SRun Tryz.prog 11 [drV d v] h fun r q => r = B (decide (dvl d l)) ∧ q = h := by
  have hG := fun h hv => rregions_any d l v h hv hl
  obtain ⟨ad, fl, rfl, hh⟩ := id hv
  have hlb := en_len l
  by_cases h32 : l.length ≤ 32
  · by_cases hfa : fitAll d l ∧ svld 1024 (rgs d l)
    · obtain ⟨hfa, hvl⟩ := hfa
      rw [decide_eq_true hfa, rrgs_fit hfa] at hG
      have hdv : dvl d l ↔ ents (-1) l := ⟨fun g => g.2.2.1, fun g => ⟨h32, hfa, g, hvl⟩⟩
      rw [show decide (dvl d l) = decide (ents (-1) l) from decide_eq_decide.2 hdv]
      have hrl : (rgs d l).length = l.length + 1 := by simp [rgs]
      have hVV : ∀ (A : Nat) (h : SH), SRun Tryz.prog 30 [I 1024, gsl A 0 ((rgs d l).length * 2) (rgs d l).length 2] ((A, ⟨recs prF (rgs d l), false⟩) :: h) fun r q => r = B true ∧ q = (A, ⟨recs prF (rgs d l), false⟩) :: h := fun A h => by
        have := rSValid_any 1024 (rgs d l) (gsl A 0 ((rgs d l).length * 2) (rgs d l).length 2) ((A, ⟨recs prF (rgs d l), false⟩) :: h) ⟨_, _, rfl, fun _ => ⟨A, _, _, by rw [Nat.mul_comm], .head⟩⟩ (by omega)
        rwa [decide_eq_true hvl] at this
      obtain ⟨R, hR⟩ : ∃ R, R = rgs d l := ⟨_, rfl⟩
      rw [← hR] at hG hrl hVV
      clear hdv hvl hfa hR
      obtain ⟨d1, d2, d3⟩ := d
      have hG : ∀ h, Has h (recs enF l) 7 l.length (.slice ad l.length fl) → SRun Tryz.prog 29 [.agg ⟨[I d1, I d2, I d3, .slice ad l.length fl]⟩] h fun r q => ∃ A, r = .tuple #[gsl A 0 (R.length * 2) R.length 2, B true] ∧ q = (A, ⟨recs prF R, false⟩) :: h := hG
      show SRun _ _ [.agg ⟨[I d1, I d2, I d3, .slice ad l.length fl]⟩] h _
      refine w_body1 Tryz.func11 rfl rfl ?_
      repeat' (first | apply w_seq | apply w_region | apply o_nil | (apply o_g tyOk; exact rfl; exact rfl) | (apply o_notB; exact rfl; exact rfl) | (apply o_load tyOk; (iterate 3 exact rfl); (focus (exact pk))) | (apply o_loads tyOk; (iterate 3 exact rfl); (focus (exact pk))) | (apply o_box (tt := tyT); iterate 5 exact rfl) | (apply o_call; exact rfl; exact rfl; (focus (first | exact rfl)); exact rfl; (focus (exact ⟨_, hG _ (hv.re (.drop .nil)), by repeat (first | with_reducible exact Take.nil)⟩)); rintro _ _ ⟨A2, rfl, rfl⟩) | (apply o_call; exact rfl; exact rfl; (focus (first | exact rfl)); exact rfl; (focus (exact ⟨_, hVV _ _, by repeat (first | with_reducible exact Take.nil)⟩)); rintro _ _ ⟨rfl, rfl⟩) | (apply o_want; exact rfl; exact rfl) | (apply w_false; exact rfl) | (apply w_dF; exact rfl; (focus (first | omega))) | apply thenS_normal | apply w_skip | apply w_block | ((with_reducible apply Sd.mk); (first | exact True.intro)) | ((with_reducible apply Ln.mk); (first | rfl)) | ((with_reducible apply Ce.mk); (first | rfl)) | ((with_reducible apply Su.mk); (first | exact subAt_all)) | exact True.intro | intro A | exact rfl)
      all_goals first | (exfalso; omega) | skip
      revert A; intro A1
      refine w_loop (S := Nat × Int) (fun x => [(1, gptr A1 0 4), (5, I x.2), (6, I x.1)])
        (fun _ => (A1, ⟨[I d1, I d2, I d3, .slice ad l.length fl], false⟩) :: h) (fun x => x.1 ≤ l.length ∧ (ents x.2 (l.drop x.1) ↔ ents (-1) l)) (fun x => l.length - x.1) (0, -1) ⟨Nat.zero_le _, Iff.rfl⟩ (by repeat' (first | exact trivial | refine ⟨rfl, ?_⟩ | refine ⟨congrArg some ?_, ?_⟩)) (by repeat (first | with_reducible exact Take.nil | with_reducible apply Take.c | with_reducible apply Take.drop)) ?_
      rintro ⟨i, a⟩ ⟨hi, hiff⟩
      dsimp only at hi hiff ⊢
      by_cases hil : i < l.length
      · obtain ⟨A', ro, h1, rfl, hp1⟩ := hh (by omega)
        rw [ents_step hil] at hiff
        obtain ⟨x, hx⟩ : ∃ x, x = l[i]! := ⟨_, rfl⟩
        rw [← hx] at hiff
        obtain ⟨x1, x2, x3, x4, y1, y2, y3⟩ := x
        have hsub : SubAt (recs enF l) (0 + ((i : Int)).toNat * 7) [I x1, I x2, I x3, I x4, I y1, I y2, I y3] := by rw [show [I x1, I x2, I x3, I x4, I y1, I y2, I y3] = enF l[i]! by rw [← hx]]; exact subAt_recZ (fun _ => rfl) hil
        by_cases he : eok a (x1, x2, x3, x4, y1, y2, y3)
        · have hiff : ents x2 (l.drop (i + 1)) ↔ ents (-1) l := ⟨fun g => hiff.1 ⟨he, g⟩, fun g => (hiff.2 g).2⟩
          unfold eok lvl at he
          dsimp only at he
          obtain ⟨e1, e2, e3, e4⟩ := he
          repeat' (first | apply w_seq | apply w_region | apply o_nil | (apply o_g tyOk; exact rfl; exact rfl) | (apply o_ar tyOk; exact rfl; exact rfl) | (apply o_not; exact rfl; exact rfl) | (apply o_notB; exact rfl; exact rfl) | (apply o_load tyOk; (iterate 3 exact rfl); (focus (exact pk))) | (apply o_loads tyOk; (iterate 3 exact rfl); (focus (exact pk))) | (apply o_stores tyOk; (iterate 4 exact rfl); (focus (exact ⟨rfl⟩)); (focus (exact up))) | (apply o_alloc tyOk; iterate 5 exact rfl) | (apply o_want; exact rfl; exact rfl) | (apply o_skip; iterate 4 exact rfl) | (apply o_skip_undef; iterate 3 exact rfl) | (apply o_gT; (iterate 3 exact rfl); (focus (first | omega))) | (apply o_gF; (iterate 3 exact rfl); (focus (first | omega))) | (apply o_sF; (iterate 3 exact rfl); (focus (first | omega)); exact rfl) | (apply o_guardTN; (iterate 3 exact rfl); all_goals intro hc) | (apply o_guardT; (iterate 3 exact rfl); all_goals intro hc) | (apply w_false; exact rfl) | (apply w_dT; exact rfl; (focus (first | omega))) | (apply w_dF; exact rfl; (focus (first | omega))) | apply thenS_normal | apply blockS_normal | apply w_skip | apply w_block | ((with_reducible apply Sd.mk); (first | exact True.intro | omega)) | ((with_reducible apply Ln.mk); (first | rfl | omega)) | ((with_reducible apply Wr.mk); (first | exact IntWalk.i64_in _ (by omega))) | ((with_reducible apply Ce.mk); (first | rfl)) | ((with_reducible apply Pu.mk); (first | exact putAt_all rfl)) | ((with_reducible apply Su.mk); (first | exact hsub)) | exact True.intro | intro A | exact rfl)
          all_goals first
            | (exfalso; omega)
            | exact ⟨(i + 1, x2), ⟨hil, hiff⟩, by show l.length - (i + 1) < l.length - i; omega, (by repeat' (first | exact trivial | refine ⟨rfl, ?_⟩ | refine ⟨congrArg some ?_, ?_⟩)), (by repeat (first | with_reducible exact Take.nil | with_reducible apply Take.c | with_reducible apply Take.drop))⟩
            | trace_state
        · have hno : ¬ ents (-1) l := fun g => he (hiff.2 g).1
          rw [decide_eq_false hno]
          unfold eok lvl at he
          dsimp only at he
          repeat' ((fail_if_success (show SWp _ _ (Code.seq (Code.region 16 _ _) _) _ _ _)); (fail_if_success (show SWp _ _ (Code.region 16 _ _) _ _ _)); first | apply w_seq | apply w_region | apply o_nil | (apply o_g tyOk; exact rfl; exact rfl) | (apply o_not; exact rfl; exact rfl) | (apply o_notB; exact rfl; exact rfl) | (apply o_load tyOk; (iterate 3 exact rfl); (focus (exact pk))) | (apply o_loads tyOk; (iterate 3 exact rfl); (focus (exact pk))) | (apply o_stores tyOk; (iterate 4 exact rfl); (focus (exact ⟨rfl⟩)); (focus (exact up))) | (apply o_alloc tyOk; iterate 5 exact rfl) | (apply o_want; exact rfl; exact rfl) | (apply o_skip; iterate 4 exact rfl) | (apply o_gT; (iterate 3 exact rfl); (focus (first | omega))) | (apply o_sT; (iterate 3 exact rfl); (focus (first | omega)); exact rfl) | (apply o_guardTN; (iterate 3 exact rfl); all_goals intro hc) | (apply o_guardFN; (iterate 3 exact rfl); all_goals intro hc) | (apply o_guardT; (iterate 3 exact rfl); all_goals intro hc) | (apply o_guardF; (iterate 3 exact rfl); all_goals intro hc) | (apply w_true; exact rfl) | (apply w_dT; exact rfl; (focus (first | omega))) | (apply w_if; exact rfl; all_goals intro hc) | apply thenS_normal | apply thenS_ret | apply blockS_ret | apply w_skip | apply w_ret | apply w_block | ((with_reducible apply Sd.mk); (first | exact True.intro | omega)) | ((with_reducible apply Ln.mk); (first | rfl | omega)) | ((with_reducible apply Ce.mk); (first | rfl)) | ((with_reducible apply Pu.mk); (first | exact putAt_all rfl)) | ((with_reducible apply Su.mk); (first | exact hsub)) | exact True.intro | intro A | exact rfl)
          all_goals first
            | (apply s_fin; (exact (show ResS _ _ _ _ [_] from ⟨rfl, trivial⟩)); (focus (exact ⟨rfl, rfl⟩)); (focus (repeat (first | with_reducible exact Take.nil | with_reducible apply Take.c | with_reducible apply Take.drop))))
            | (exfalso; omega)
            | trace_state
      · rw [List.drop_of_length_le (by omega)] at hiff
        rw [decide_eq_true (hiff.1 trivial)]
        repeat' (first | apply w_seq | apply w_region | apply o_nil | (apply o_g tyOk; exact rfl; exact rfl) | (apply o_load tyOk; (iterate 3 exact rfl); (focus (exact pk))) | (apply w_dF; exact rfl; (focus (first | omega))) | apply thenS_normal | apply thenS_exit | apply blockS_exit | apply w_ret | apply w_exit | ((with_reducible apply Sd.mk); (first | exact True.intro)) | ((with_reducible apply Ln.mk); (first | rfl)) | ((with_reducible apply Ce.mk); (first | rfl)) | exact True.intro | exact rfl)
        all_goals first
          | (exfalso; omega)
          | (apply s_fin; (exact (show ResS _ _ _ _ [_] from ⟨rfl, trivial⟩)); (focus (exact ⟨rfl, rfl⟩)); (focus (repeat (first | with_reducible exact Take.nil | with_reducible apply Take.c | with_reducible apply Take.drop))))
          | trace_state
    · have hno : ¬ dvl d l := fun g => hfa ⟨g.2.1, g.2.2.2⟩
      rw [decide_eq_false hno]
      have hrl : (rrgs d l).length = l.length + 1 := by simp [rrgs]
      have hVV : ∀ (A : Nat) (h : SH), SRun Tryz.prog 30 [I 1024, gsl A 0 ((rrgs d l).length * 2) (rrgs d l).length 2] ((A, ⟨recs prF (rrgs d l), false⟩) :: h) fun r q => r = B (decide (svld 1024 (rrgs d l))) ∧ q = (A, ⟨recs prF (rrgs d l), false⟩) :: h := fun A h =>
        rSValid_any 1024 (rrgs d l) (gsl A 0 ((rrgs d l).length * 2) (rrgs d l).length 2) _ ⟨_, _, rfl, fun _ => ⟨A, _, _, by rw [Nat.mul_comm], .head⟩⟩ (by omega)
      by_cases hF : fitAll d l
      · have hVV : ∀ (A : Nat) (h : SH), SRun Tryz.prog 30 [I 1024, gsl A 0 ((rrgs d l).length * 2) (rrgs d l).length 2] ((A, ⟨recs prF (rrgs d l), false⟩) :: h) fun r q => r = B false ∧ q = (A, ⟨recs prF (rrgs d l), false⟩) :: h := fun A h => by
          have := hVV A h
          rwa [decide_eq_false (fun g => hfa ⟨hF, by rw [← rrgs_fit hF]; exact g⟩)] at this
        rw [decide_eq_true hF] at hG
        generalize rrgs d l = R at *
        obtain ⟨d1, d2, d3⟩ := d
        have hG : ∀ h, Has h (recs enF l) 7 l.length (.slice ad l.length fl) → SRun Tryz.prog 29 [.agg ⟨[I d1, I d2, I d3, .slice ad l.length fl]⟩] h fun r q => ∃ A, r = .tuple #[gsl A 0 (R.length * 2) R.length 2, B true] ∧ q = (A, ⟨recs prF R, false⟩) :: h := hG
        show SRun _ _ [.agg ⟨[I d1, I d2, I d3, .slice ad l.length fl]⟩] h _
        refine w_body1 Tryz.func11 rfl rfl ?_
        repeat' ((fail_if_success (show SWp _ _ (Code.seq (Code.region 6 _ _) _) _ _ _)); (fail_if_success (show SWp _ _ (Code.region 6 _ _) _ _ _)); first | apply w_seq | apply w_region | apply o_nil | (apply o_g tyOk; exact rfl; exact rfl) | (apply o_notB; exact rfl; exact rfl) | (apply o_load tyOk; (iterate 3 exact rfl); (focus (exact pk))) | (apply o_loads tyOk; (iterate 3 exact rfl); (focus (exact pk))) | (apply o_box (tt := tyT); iterate 5 exact rfl) | (apply o_call; exact rfl; exact rfl; (focus (first | exact rfl)); exact rfl; (focus (exact ⟨_, hG _ (hv.re (.drop .nil)), by repeat (first | with_reducible exact Take.nil)⟩)); rintro _ _ ⟨A2, rfl, rfl⟩) | (apply o_call; exact rfl; exact rfl; (focus (first | exact rfl)); exact rfl; (focus (exact ⟨_, hVV _ _, by repeat (first | with_reducible exact Take.nil)⟩)); rintro _ _ ⟨rfl, rfl⟩) | (apply o_want; exact rfl; exact rfl) | (apply w_true; exact rfl) | (apply w_dF; exact rfl; (focus (first | omega))) | apply thenS_normal | apply thenS_ret | apply w_skip | apply w_ret | ((with_reducible apply Sd.mk); (first | exact True.intro)) | ((with_reducible apply Ln.mk); (first | rfl)) | ((with_reducible apply Ce.mk); (first | rfl)) | ((with_reducible apply Su.mk); (first | exact subAt_all)) | exact True.intro | intro A | exact rfl)
        all_goals first
          | (exfalso; omega)
          | (apply s_fin; (exact (show ResS _ _ _ _ [_] from ⟨rfl, trivial⟩)); (focus (exact ⟨rfl, rfl⟩)); (focus (repeat (first | with_reducible exact Take.nil | with_reducible apply Take.c | with_reducible apply Take.drop))))
          | trace_state
      · rw [decide_eq_false hF] at hG
        generalize rrgs d l = R at *
        obtain ⟨d1, d2, d3⟩ := d
        have hG : ∀ h, Has h (recs enF l) 7 l.length (.slice ad l.length fl) → SRun Tryz.prog 29 [.agg ⟨[I d1, I d2, I d3, .slice ad l.length fl]⟩] h fun r q => ∃ A, r = .tuple #[gsl A 0 (R.length * 2) R.length 2, B false] ∧ q = (A, ⟨recs prF R, false⟩) :: h := hG
        show SRun _ _ [.agg ⟨[I d1, I d2, I d3, .slice ad l.length fl]⟩] h _
        refine w_body1 Tryz.func11 rfl rfl ?_
        repeat' ((fail_if_success (show SWp _ _ (Code.seq (Code.region 6 _ _) _) _ _ _)); (fail_if_success (show SWp _ _ (Code.region 6 _ _) _ _ _)); first | apply w_seq | apply w_region | apply o_nil | (apply o_g tyOk; exact rfl; exact rfl) | (apply o_notB; exact rfl; exact rfl) | (apply o_load tyOk; (iterate 3 exact rfl); (focus (exact pk))) | (apply o_loads tyOk; (iterate 3 exact rfl); (focus (exact pk))) | (apply o_box (tt := tyT); iterate 5 exact rfl) | (apply o_call; exact rfl; exact rfl; (focus (first | exact rfl)); exact rfl; (focus (exact ⟨_, hG _ (hv.re (.drop .nil)), by repeat (first | with_reducible exact Take.nil)⟩)); rintro _ _ ⟨A2, rfl, rfl⟩) | (apply o_skip; iterate 4 exact rfl) | (apply w_true; exact rfl) | (apply w_dF; exact rfl; (focus (first | omega))) | apply thenS_normal | apply thenS_ret | apply w_skip | apply w_ret | ((with_reducible apply Sd.mk); (first | exact True.intro)) | ((with_reducible apply Ln.mk); (first | rfl)) | ((with_reducible apply Ce.mk); (first | rfl)) | ((with_reducible apply Su.mk); (first | exact subAt_all)) | exact True.intro | intro A | exact rfl)
        all_goals first
          | (exfalso; omega)
          | (apply s_fin; (exact (show ResS _ _ _ _ [_] from ⟨rfl, trivial⟩)); (focus (exact ⟨rfl, rfl⟩)); (focus (repeat (first | with_reducible exact Take.nil | with_reducible apply Take.c | with_reducible apply Take.drop))))
          | trace_state
  · have hno : ¬ dvl d l := fun g => h32 g.1
    rw [decide_eq_false hno]
    obtain ⟨d1, d2, d3⟩ := d
    show SRun _ _ [.agg ⟨[I d1, I d2, I d3, .slice ad l.length fl]⟩] h _
    refine w_body1 Tryz.func11 rfl rfl ?_
    repeat' ((fail_if_success (show SWp _ _ (Code.seq (Code.region 3 _ _) _) _ _ _)); (fail_if_success (show SWp _ _ (Code.region 3 _ _) _ _ _)); first | apply w_seq | apply w_region | apply o_nil | (apply o_g tyOk; exact rfl; exact rfl) | (apply o_load tyOk; (iterate 3 exact rfl); (focus (exact pk))) | (apply o_box (tt := tyT); iterate 5 exact rfl) | (apply w_dT; exact rfl; (focus (first | omega))) | apply thenS_normal | apply thenS_ret | apply w_ret | ((with_reducible apply Sd.mk); (first | exact True.intro)) | ((with_reducible apply Ln.mk); (first | rfl)) | ((with_reducible apply Ce.mk); (first | rfl)) | exact True.intro | intro A | exact rfl)
    all_goals first
      | (exfalso; omega)
      | (apply s_fin; (exact (show ResS _ _ _ _ [_] from ⟨rfl, trivial⟩)); (focus (exact ⟨rfl, rfl⟩)); (focus (repeat (first | with_reducible exact Take.nil | with_reducible apply Take.c | with_reducible apply Take.drop))))
      | trace_state
end Go.Proofs.YtncnmfdmbfbfjaaGreat
end
section
set_option linter.unusedVariables false
set_option linter.unusedSimpArgs false
set_option maxRecDepth 4000
namespace Go.Gh
open Go.RowKit

theorem eqFields_int {P : Program} {w : World} (d : Nat) (xs ys : Array Value) (f : Field) (fs : List Field) {k : Nat} {k0 kk : IntKind} {m n : Int} {b : Bool} (hname : f.name ≠ "_") (hoff : f.offset = k) (hu : P.underlying f.type = some (.int k0))
    (hx : xs[k]? = some (.int kk m)) (hy : ys[k]? = some (.int kk n)) (ih : (Op.eqFields (d + 1) xs ys fs).run P w = .ok b w) : (Op.eqFields (d + 1) xs ys (f :: fs)).run P w = .ok (decide (m = n) && b) w := by
  have hag : aggT P f.type = some false := by unfold aggT; rw [hu]
  have he : (Op.equalIn (d + 1) f.type (.int kk m) (.int kk n)).run P w = .ok (decide (m = n)) w := by
    simp only [Op.equalIn, Sem.run_bind, run_underlying hu, Result.andThen_ok, if_true, Sem.run_pure]
    rfl
  unfold Op.eqFields
  rw [if_pos hname]
  simp only [Sem.run_bind, part, run_isAgg hag, Result.andThen_ok, Bool.false_eq_true, if_false, hoff, hx, hy, Sem.run_pure, he]
  by_cases h : m = n
  · simpa [h] using ih
  · simp [h]
theorem equalIn_flat {P : Program} {T : TypeId} {xs ys : Array Value} {n : Nat} {w : World} (d : Nat) (hT : flatB P T n = true) (hx : xs.size = n) (hy : ys.size = n) (hl : cellsLike xs.toList ys.toList = true)
    (hk : ∀ (i : Nat) (f : Field), (P.fieldsOf T).toList[i]? = some f → ∀ u v, xs[i]? = some u → ys[i]? = some v → (match P.underlying f.type, u with | some .bool, .bool _ => true | some (.int _), .int _ _ => true | some .string, .string _ => true | _, _ => false) = true) :
    (Op.equalIn (d + 2) T (.agg xs) (.agg ys)).run P w = .ok (cellsEqB xs.toList ys.toList) w := by
  unfold flatB at hT
  simp only [Bool.and_eq_true, decide_eq_true_eq, Bool.not_eq_true'] at hT
  obtain ⟨⟨⟨⟨h1, h2⟩, h3⟩, h4⟩, h5⟩ := hT
  have hst : P.underlying T = some (.struct (P.fieldsOf T)) := by
    unfold Program.fieldsOf
    cases hu : P.underlying T with
    | none => rw [hu] at h1; simp at h1
    | some d => rw [hu] at h1; cases d <;> first | rfl | (simp at h1)
  rw [run_equalIn_struct w (d + 1) T xs ys hst h3]
  have := eqFields_flat (P := P) (w := w) d xs ys (P.fieldsOf T).toList 0 h5 (by omega) (by omega) (by simpa using hl) (fun i f hf u v hu hv => hk i f hf u v (by simpa using hu) (by simpa using hv))
  simpa using this
end Go.Gh
end
section
set_option linter.unusedVariables false
set_option linter.unusedSimpArgs false
set_option maxRecDepth 4000
namespace Go.Gh
open Go.RowKit

/-- A struct of four numbers and a struct of three. -/
structure EntT (P : Program) (T : TypeId) : Prop where
  st : (match P.underlying T with | some (.struct _) => true | _ => false) = true
  held : P.stoodInHeld T = false
  guard : P.eqGuardType P.depth T = false
  fs : ∃ f0 f1 f2 f3 f4 g0 g1 g2 k0 k1 k2 k3 j0 j1 j2, (P.fieldsOf T).toList = [f0, f1, f2, f3, f4] ∧ (f0.name ≠ "_" ∧ f1.name ≠ "_" ∧ f2.name ≠ "_" ∧ f3.name ≠ "_" ∧ f4.name ≠ "_") ∧ (f0.offset = 0 ∧ f1.offset = 1 ∧ f2.offset = 2 ∧ f3.offset = 3 ∧ f4.offset = 4) ∧
    (P.underlying f0.type = some (.int k0) ∧ P.underlying f1.type = some (.int k1) ∧ P.underlying f2.type = some (.int k2) ∧ P.underlying f3.type = some (.int k3)) ∧
    flatB P f4.type 3 = true ∧ (P.info? f4.type).map (·.size) = some 3 ∧ (P.fieldsOf f4.type).toList = [g0, g1, g2] ∧ P.underlying g0.type = some (.int j0) ∧ P.underlying g1.type = some (.int j1) ∧ P.underlying g2.type = some (.int j2)
abbrev enV (a b c d e f g : Int) : List Value := [.int .i64 a, .int .i64 b, .int .i64 c, .int .i64 d, .int .i64 e, .int .i64 f, .int .i64 g]
theorem eq_ent {P : Program} {T : TypeId} (h : EntT P T) {a b c d e f g a' b' c' d' e' f' g' : Int} {w : World} :
    (Op.equal T (.agg (enV a b c d e f g).toArray) (.agg (enV a' b' c' d' e' f' g').toArray)).run P w = .ok (cellsEqB (enV a b c d e f g) (enV a' b' c' d' e' f' g')) w := by
  obtain ⟨h1, h3, _, f0, f1, f2, f3, f4, g0, g1, g2, k0, k1, k2, k3, j0, j1, j2, el, ⟨n0, n1, n2, n3, n4⟩, ⟨o0, o1, o2, o3, o4⟩, ⟨u0, u1, u2, u3⟩, hfl, hsz, eg, v0, v1, v2⟩ := h
  have hst : P.underlying T = some (.struct (P.fieldsOf T)) := by
    unfold Program.fieldsOf
    cases hu : P.underlying T with
    | none => rw [hu] at h1; simp at h1
    | some d => rw [hu] at h1; cases d <;> first | rfl | (simp at h1)
  show (Op.equalIn (9999 + 1) T _ _).run P w = _
  rw [run_equalIn_struct w 9999 T _ _ hst h3, el]
  have hagg : aggT P f4.type = some true := by
    have := hfl
    unfold flatB at this
    simp only [Bool.and_eq_true] at this
    have h := this.1.1.1.1
    unfold aggT
    cases hu : P.underlying f4.type with
    | none => rw [hu] at h; simp at h
    | some q => rw [hu] at h; cases q <;> first | rfl | (simp at h)
  have hso : (sizeOf f4.type).run P w = .ok 3 w := by
    unfold sizeOf typeInfo
    cases hi : P.info? f4.type with
    | none => rw [hi] at hsz; cases hsz
    | some i =>
      rw [hi] at hsz
      have : i.size = 3 := by simpa using hsz
      simp [Sem.run_bind, hi, this, Result.andThen, program, Sem.run]
  have last : (Op.eqFields (9997 + 2) (enV a b c d e f g).toArray (enV a' b' c' d' e' f' g').toArray [f4]).run P w =
      .ok (cellsEqB [.int .i64 e, .int .i64 f, .int .i64 g] [.int .i64 e', .int .i64 f', .int .i64 g']) w := by
    have key := equalIn_flat (P := P) (T := f4.type) (xs := #[.int .i64 e, .int .i64 f, .int .i64 g]) (ys := #[.int .i64 e', .int .i64 f', .int .i64 g']) (w := w) 9997 hfl rfl rfl rfl (fun i fl hf u v hu hv => by
      rw [eg] at hf
      match i, hf, hu with
      | 0, hf, hu => obtain rfl := Option.some.inj hf; obtain rfl := Option.some.inj hu; rw [v0]; rfl
      | 1, hf, hu => obtain rfl := Option.some.inj hf; obtain rfl := Option.some.inj hu; rw [v1]; rfl
      | 2, hf, hu => obtain rfl := Option.some.inj hf; obtain rfl := Option.some.inj hu; rw [v2]; rfl
      | i + 3, hf, hu => simp at hf)
    unfold Op.eqFields
    rw [if_pos n4]
    simp only [Sem.run_bind, part, run_isAgg hagg, Result.andThen_ok, if_true, hso, o4, Sem.run_pure]
    have x1 : (enV a b c d e f g).toArray.extract 4 (4 + 3) = #[.int .i64 e, .int .i64 f, .int .i64 g] := rfl
    have x2 : (enV a' b' c' d' e' f' g').toArray.extract 4 (4 + 3) = #[.int .i64 e', .int .i64 f', .int .i64 g'] := rfl
    rw [x1, x2, key]
    cases cellsEqB [.int .i64 e, .int .i64 f, .int .i64 g] [.int .i64 e', .int .i64 f', .int .i64 g'] <;> simp [Op.eqFields]
  exact eqFields_int 9998 _ _ f0 [f1, f2, f3, f4] n0 o0 u0 rfl rfl (eqFields_int 9998 _ _ f1 [f2, f3, f4] n1 o1 u1 rfl rfl (eqFields_int 9998 _ _ f2 [f3, f4] n2 o2 u2 rfl rfl (eqFields_int 9998 _ _ f3 [f4] n3 o3 u3 rfl rfl last)))
theorem a_neqE {P : Program} {N : Fr} {o : Oper} {af : AF} {H : Heap} (T U : TypeId) (x y : Operand) {a b c d e f g a' b' c' d' e' f' g' : Int} (hF : EntT P T) (ho : o.op = .binOp .neq T x y U) (hx : ev af x = some (.agg (enV a b c d e f g).toArray)) (hy : ev af y = some (.agg (enV a' b' c' d' e' f' g').toArray)) :
    APure P N o af H (.bool (decide (¬ cellsEqB (enV a b c d e f g) (enV a' b' c' d' e' f' g') = true))) := by
  refine ⟨fun _ _ φ w ac _ hf => ⟨_, .bool _, fun w _ => ?_⟩⟩
  have e1 := eqs_aux (ys := enV a' b' c' d' e' f' g') hf hx rfl
  have e2 := eqs_aux (ys := enV a b c d e f g) hf hy rfl
  refine exec_binOp ho (by rw [e1, e2]; unfold eqGuard; simp [hF.guard]) ?_
  rw [e1, e2]
  have key := eq_ent (w := w) hF (a := a) (b := b) (c := c) (d := d) (e := e) (f := f) (g := g) (a' := a') (b' := b') (c' := c') (d' := d') (e' := e') (f' := f') (g' := g')
  simp only [binOp, Sem.run_bind, key, Result.andThen_ok, Sem.run_pure]
  simp
theorem o_neqE {mo : Mode} {P : Program} {sz : Nat} {ops : Array Oper} {Q : SPost} {rest : List Oper} {af : AF} {h : SH} {t : Nat} {ty : TypeId} {pos : String} {aft : Array Edge} {T U : Nat} {x y : Operand} {a b c d e f g a' b' c' d' e' f' g' : Int}
    (hx : ev af x = some (.agg ⟨enV a b c d e f g⟩)) (hy : ev af y = some (.agg ⟨enV a' b' c' d' e' f' g'⟩)) (hF : EntT P T) (hN : Nat.blt t sz = true)
    (kk : GO mo.next P sz ops Q rest ((t, .bool (decide (¬ cellsEqB (enV a b c d e f g) (enV a' b' c' d' e' f' g') = true))) :: af) h) : GO mo P sz ops Q (⟨some t, .binOp .neq T x y U, ty, pos, aft, none⟩ :: rest) af h :=
  o_pure (fun _ _ _ hag => a_neqE T U x y hF rfl ((hag.ev (by simp [Op.operands, Call.operands])).trans hx) ((hag.ev (by simp [Op.operands, Call.operands])).trans hy)) hN kk
end Go.Gh
namespace Go.Proofs.YtncnmfdmbfbfjaaGreat
open Go.Gh Go.RowKit
theorem en_ok : EntT Tryz.prog 48 :=
  ⟨by kernel_rfl, by kernel_rfl, by kernel_rfl, _, _, _, _, _, _, _, _, _, _, _, _, _, _, _, (by unfold Program.fieldsOf; rw [Tryz.underlying48]), ⟨by decide, by decide, by decide, by decide, by decide⟩, ⟨rfl, rfl, rfl, rfl, rfl⟩, ⟨Tryz.underlying3, Tryz.underlying3, Tryz.underlying3, Tryz.underlying3⟩,
    by kernel_rfl, by kernel_rfl, (by unfold Program.fieldsOf; rw [Tryz.underlying23]), Tryz.underlying3, Tryz.underlying3, Tryz.underlying3⟩
end Go.Proofs.YtncnmfdmbfbfjaaGreat
end
section
set_option linter.unusedVariables false
set_option linter.unusedSimpArgs false
set_option maxRecDepth 4000
namespace Go.Proofs.YtncnmfdmbfbfjaaGreat
open Go.Gh Go.RowKit

instance decEx : DecidableEq Ex3 := inferInstance
instance decEn : DecidableEq Eny := inferInstance
instance decEl : DecidableEq (List Eny) := inferInstance
theorem exEq {a b c d e f : Int} : cellsEqB [I a, I b, I c] [I d, I e, I f] = true ↔ ((a, b, c) : Ex3) = (d, e, f) := by
  constructor
  · intro h
    have h2 : a = d ∧ b = e ∧ c = f := by simpa [cellsEqB] using h
    rw [h2.1, h2.2.1, h2.2.2]
  · intro h
    cases h
    simp [cellsEqB]
theorem enEq {a1 a2 a3 a4 a5 a6 a7 b1 b2 b3 b4 b5 b6 b7 : Int} : cellsEqB [I a1, I a2, I a3, I a4, I a5, I a6, I a7] [I b1, I b2, I b3, I b4, I b5, I b6, I b7] = true ↔ ((a1, a2, a3, a4, a5, a6, a7) : Eny) = (b1, b2, b3, b4, b5, b6, b7) := by
  constructor
  · intro h
    have h2 : a1 = b1 ∧ a2 = b2 ∧ a3 = b3 ∧ a4 = b4 ∧ a5 = b5 ∧ a6 = b6 ∧ a7 = b7 := by simpa [cellsEqB] using h
    rw [h2.1, h2.2.1, h2.2.2.1, h2.2.2.2.1, h2.2.2.2.2.1, h2.2.2.2.2.2.1, h2.2.2.2.2.2.2]
  · intro h
    cases h
    simp [cellsEqB]
/-- Whether two directories are equal (the program). -/
theorem DSame_any (d g : Ex3) (a b : List Eny) (v w : Value) (h : SH) (hv : Has h (recs enF a) 7 a.length v) (hw : Has h (recs enF b) 7 b.length w) (ha : a.length ≤ 1000) (hb : b.length ≤ 1000) :
    SRun Tryz.prog 20 [drV d v, drV g w] h fun r q => r = B (decide (d = g ∧ a = b)) ∧ q = h := by
  obtain ⟨ad, fl, rfl, hh⟩ := hv
  obtain ⟨bd, gl, rfl, hk⟩ := hw
  obtain ⟨d1, d2, d3⟩ := d
  obtain ⟨g1, g2, g3⟩ := g
  show SRun _ _ [.agg ⟨[I d1, I d2, I d3, .slice ad a.length fl]⟩, .agg ⟨[I g1, I g2, I g3, .slice bd b.length gl]⟩] h _
  have hqd := exEq (a := d1) (b := d2) (c := d3) (d := g1) (e := g2) (f := g3)
  by_cases hl : a.length = b.length ∧ ((d1, d2, d3) : Ex3) = (g1, g2, g3)
  · obtain ⟨hl, hdg⟩ := hl
    have hcq := hqd.2 hdg
    refine w_body2 Tryz.func20 rfl rfl ?_
    repeat' (first | apply w_seq | apply w_region | apply o_nil | (apply o_loadH tyOk; (iterate 5 exact rfl); (focus (exact pk))) | (apply o_g tyOk; exact rfl; exact rfl) | (apply o_load tyOk; (iterate 3 exact rfl); (focus (exact pk))) | (apply o_box (tt := tyT); iterate 5 exact rfl) | (apply o_neqs; (iterate 3 exact rfl); (focus (kernel_rfl)); exact rfl; exact rfl; (focus (kernel_rfl)); exact rfl) | (apply o_want; exact rfl; exact rfl) | (apply o_gF; (iterate 3 exact rfl); (focus (first | exact fun k => k hcq))) | (apply w_dF; exact rfl; (focus (first | omega))) | apply thenS_normal | apply w_skip | apply w_block | ((with_reducible apply Sd.mk); (first | exact True.intro)) | ((with_reducible apply Ln.mk); (first | rfl)) | ((with_reducible apply Ce.mk); (first | rfl)) | exact True.intro | intro A | exact rfl)
    all_goals first | (exfalso; omega) | (exfalso; exact ‹¬ _› hcq) | skip
    rename_i A1
    revert A; intro A2
    have hd1 : decide (((d1, d2, d3) : Ex3) = (g1, g2, g3) ∧ a = b) = decide (a = b) := decide_eq_decide.2 ⟨fun k => k.2, fun k => ⟨hdg, k⟩⟩
    rw [hd1]
    refine w_loop (S := Nat) (fun i => [(2, gptr A1 0 4), (3, gptr A2 0 4), (22, I a.length), (23, I i)]) (fun _ => (A2, ⟨[I g1, I g2, I g3, .slice bd b.length gl], false⟩) :: (A1, ⟨[I d1, I d2, I d3, .slice ad a.length fl], false⟩) :: h) (fun i => i ≤ a.length ∧ ∀ j : Nat, j < i → a[j]! = b[j]!) (fun i => a.length - i) 0 ⟨Nat.zero_le _, fun j hj => by omega⟩ (by repeat' (first | exact trivial | refine ⟨rfl, ?_⟩ | refine ⟨congrArg some ?_, ?_⟩)) (by repeat (first | with_reducible exact Take.nil | with_reducible apply Take.c | with_reducible apply Take.drop)) ?_
    rintro i ⟨hi, he⟩
    by_cases hil : i < a.length
    · obtain ⟨A', ro, hx1, rfl, hp⟩ := hh (by omega)
      obtain ⟨B', ro2, hx2, rfl, hp2⟩ := hk (by omega)
      obtain ⟨⟨x1, x2, x3, x4, x5, x6, x7⟩, hx⟩ : ∃ x, x = a[i]! := ⟨_, rfl⟩
      obtain ⟨⟨y1, y2, y3, y4, y5, y6, y7⟩, hy⟩ : ∃ x, x = b[i]! := ⟨_, rfl⟩
      have hs1 : SubAt (recs enF a) (0 + ((i : Int)).toNat * 7) [I x1, I x2, I x3, I x4, I x5, I x6, I x7] := by rw [show [I x1, I x2, I x3, I x4, I x5, I x6, I x7] = enF a[i]! by rw [← hx]]; exact subAt_recZ (fun _ => rfl) hil
      have hs2 : SubAt (recs enF b) (0 + ((i : Int)).toNat * 7) [I y1, I y2, I y3, I y4, I y5, I y6, I y7] := by rw [show [I y1, I y2, I y3, I y4, I y5, I y6, I y7] = enF b[i]! by rw [← hy]]; exact subAt_recZ (fun _ => rfl) (by omega)
      have hl1 := en_len a
      have hl2 := en_len b
      have hq := enEq (a1 := x1) (a2 := x2) (a3 := x3) (a4 := x4) (a5 := x5) (a6 := x6) (a7 := x7) (b1 := y1) (b2 := y2) (b3 := y3) (b4 := y4) (b5 := y5) (b6 := y6) (b7 := y7)
      rw [hx, hy] at hq
      repeat' (first | apply w_seq | apply w_region | apply o_nil | (apply w_draw; (focus (kernel_rfl)); (focus (kernel_rfl))) | (apply o_neqE; exact rfl; exact rfl; exact en_ok; exact rfl) | (apply o_g tyOk; exact rfl; exact rfl) | (apply o_ar tyOk; exact rfl; exact rfl) | (apply o_load tyOk; (iterate 3 exact rfl); (focus (exact pk))) | (apply o_loads tyOk; (iterate 3 exact rfl); (focus (exact pk))) | (apply w_dT; exact rfl; (focus (first | omega))) | (apply w_ifN; exact rfl; all_goals intro hc) | apply thenS_normal | apply thenS_ret | apply blockS_normal | apply blockS_ret | apply w_skip | apply w_ret | apply w_block | ((with_reducible apply Sd.mk); (first | exact True.intro | omega)) | ((with_reducible apply Ln.mk); (first | rfl | omega)) | ((with_reducible apply Wr.mk); (first | exact IntWalk.i64_in _ (by omega))) | ((with_reducible apply Ce.mk); (first | rfl)) | ((with_reducible apply Su.mk); (first | exact hs1 | exact hs2)) | exact True.intro | exact rfl)
      all_goals first
        | (exfalso; omega)
        | (have hne := fun k => hc (hq.2 k)
           (apply s_fin; (exact (show ResS _ _ _ _ [_] from ⟨rfl, trivial⟩)); (focus (exact ⟨congrArg B (decide_eq_false (fun k => hne (by rw [k]))).symm, rfl⟩)); (focus (repeat (first | with_reducible exact Take.nil | with_reducible apply Take.c | with_reducible apply Take.drop)))))
        | (have heq := hq.1 (by simpa using hc)
           exact ⟨i + 1, ⟨hil, fun j hj => by
             by_cases e : j = i
             · subst e; exact heq
             · exact he j (by omega)⟩, by show a.length - (i + 1) < a.length - i; omega, (by repeat' (first | exact trivial | refine ⟨rfl, ?_⟩ | refine ⟨congrArg some ?_, ?_⟩)), (by repeat (first | with_reducible exact Take.nil | with_reducible apply Take.c | with_reducible apply Take.drop))⟩)
        | trace_state
    · have hab : a = b := List.ext_getElem hl fun j h1 h2 => by
        have := he j (by omega)
        rwa [getElem!_pos a j h1, getElem!_pos b j h2] at this
      rw [decide_eq_true hab]
      repeat' (first | apply w_seq | apply w_region | apply o_nil | (apply o_g tyOk; exact rfl; exact rfl) | (apply w_dF; exact rfl; (focus (first | omega))) | apply thenS_normal | apply thenS_exit | apply blockS_exit | apply w_ret | apply w_exit | ((with_reducible apply Sd.mk); (first | exact True.intro)))
      all_goals first
        | (exfalso; omega)
        | (apply s_fin; (exact (show ResS _ _ _ _ [_] from ⟨rfl, trivial⟩)); (focus (exact ⟨rfl, rfl⟩)); (focus (repeat (first | with_reducible exact Take.nil | with_reducible apply Take.c | with_reducible apply Take.drop))))
        | trace_state
  · rw [decide_eq_false (fun k => hl ⟨by rw [k.2], k.1⟩)]
    refine w_body2 Tryz.func20 rfl rfl ?_
    repeat' ((fail_if_success (show SWp _ _ (Code.seq (Code.region 3 _ _) _) _ _ _)); (fail_if_success (show SWp _ _ (Code.region 3 _ _) _ _ _)); first | apply w_seq | apply w_region | apply o_nil | (apply o_loadH tyOk; (iterate 5 exact rfl); (focus (exact pk))) | (apply o_g tyOk; exact rfl; exact rfl) | (apply o_load tyOk; (iterate 3 exact rfl); (focus (exact pk))) | (apply o_box (tt := tyT); iterate 5 exact rfl) | (apply o_neqs; (iterate 3 exact rfl); (focus (kernel_rfl)); exact rfl; exact rfl; (focus (kernel_rfl)); exact rfl) | (apply o_want; exact rfl; exact rfl) | (apply o_skip; iterate 4 exact rfl) | (apply o_guardFN; (iterate 3 exact rfl); all_goals intro hc) | (apply w_true; exact rfl) | (apply w_ifN; exact rfl; all_goals intro hc) | apply thenS_normal | apply thenS_ret | apply w_skip | apply w_ret | ((with_reducible apply Sd.mk); (first | exact True.intro)) | ((with_reducible apply Ln.mk); (first | rfl)) | ((with_reducible apply Ce.mk); (first | rfl)) | exact True.intro | intro A | exact rfl)
    all_goals first
      | (apply s_fin; (exact (show ResS _ _ _ _ [_] from ⟨rfl, trivial⟩)); (focus (exact ⟨rfl, rfl⟩)); (focus (repeat (first | with_reducible exact Take.nil | with_reducible apply Take.c | with_reducible apply Take.drop))))
      | (exfalso; exact hl ⟨by omega, hqd.1 (by simpa using ‹¬ ¬ _›)⟩)
      | (exfalso; exact hl ⟨by omega, hqd.1 (by simpa using ‹_ = true›)⟩)
      | trace_state
/-- Whether two directories are equal (the reference). -/
theorem rDSame_any (d g : Ex3) (a b : List Eny) (v w : Value) (h : SH) (hv : Has h (recs enF a) 7 a.length v) (hw : Has h (recs enF b) 7 b.length w) (ha : a.length ≤ 1000) (hb : b.length ≤ 1000) :
    SRun Tryz.prog 21 [drV d v, drV g w] h fun r q => r = B (decide (d = g ∧ a = b)) ∧ q = h := by
  obtain ⟨ad, fl, rfl, hh⟩ := hv
  obtain ⟨bd, gl, rfl, hk⟩ := hw
  obtain ⟨d1, d2, d3⟩ := d
  obtain ⟨g1, g2, g3⟩ := g
  show SRun _ _ [.agg ⟨[I d1, I d2, I d3, .slice ad a.length fl]⟩, .agg ⟨[I g1, I g2, I g3, .slice bd b.length gl]⟩] h _
  have hqd := exEq (a := d1) (b := d2) (c := d3) (d := g1) (e := g2) (f := g3)
  by_cases hl : a.length = b.length ∧ ((d1, d2, d3) : Ex3) = (g1, g2, g3)
  · obtain ⟨hl, hdg⟩ := hl
    have hcq := hqd.2 hdg
    refine w_body2 Tryz.func21 rfl rfl ?_
    repeat' (first | apply w_seq | apply w_region | apply o_nil | (apply o_loadH tyOk; (iterate 5 exact rfl); (focus (exact pk))) | (apply o_g tyOk; exact rfl; exact rfl) | (apply o_load tyOk; (iterate 3 exact rfl); (focus (exact pk))) | (apply o_box (tt := tyT); iterate 5 exact rfl) | (apply o_neqs; (iterate 3 exact rfl); (focus (kernel_rfl)); exact rfl; exact rfl; (focus (kernel_rfl)); exact rfl) | (apply o_want; exact rfl; exact rfl) | (apply o_gF; (iterate 3 exact rfl); (focus (first | exact fun k => k hcq))) | (apply w_dF; exact rfl; (focus (first | omega))) | apply thenS_normal | apply w_skip | apply w_block | ((with_reducible apply Sd.mk); (first | exact True.intro)) | ((with_reducible apply Ln.mk); (first | rfl)) | ((with_reducible apply Ce.mk); (first | rfl)) | exact True.intro | intro A | exact rfl)
    all_goals first | (exfalso; omega) | (exfalso; exact ‹¬ _› hcq) | skip
    rename_i A1
    revert A; intro A2
    have hd1 : decide (((d1, d2, d3) : Ex3) = (g1, g2, g3) ∧ a = b) = decide (a = b) := decide_eq_decide.2 ⟨fun k => k.2, fun k => ⟨hdg, k⟩⟩
    rw [hd1]
    refine w_loop (S := Nat) (fun i => [(2, gptr A1 0 4), (3, gptr A2 0 4), (5, I i)]) (fun _ => (A2, ⟨[I g1, I g2, I g3, .slice bd b.length gl], false⟩) :: (A1, ⟨[I d1, I d2, I d3, .slice ad a.length fl], false⟩) :: h) (fun i => i ≤ a.length ∧ ∀ j : Nat, j < i → a[j]! = b[j]!) (fun i => a.length - i) 0 ⟨Nat.zero_le _, fun j hj => by omega⟩ (by repeat' (first | exact trivial | refine ⟨rfl, ?_⟩ | refine ⟨congrArg some ?_, ?_⟩)) (by repeat (first | with_reducible exact Take.nil | with_reducible apply Take.c | with_reducible apply Take.drop)) ?_
    rintro i ⟨hi, he⟩
    by_cases hil : i < a.length
    · obtain ⟨A', ro, hx1, rfl, hp⟩ := hh (by omega)
      obtain ⟨B', ro2, hx2, rfl, hp2⟩ := hk (by omega)
      obtain ⟨⟨x1, x2, x3, x4, x5, x6, x7⟩, hx⟩ : ∃ x, x = a[i]! := ⟨_, rfl⟩
      obtain ⟨⟨y1, y2, y3, y4, y5, y6, y7⟩, hy⟩ : ∃ x, x = b[i]! := ⟨_, rfl⟩
      have hs1 : SubAt (recs enF a) (0 + ((i : Int)).toNat * 7) [I x1, I x2, I x3, I x4, I x5, I x6, I x7] := by rw [show [I x1, I x2, I x3, I x4, I x5, I x6, I x7] = enF a[i]! by rw [← hx]]; exact subAt_recZ (fun _ => rfl) hil
      have hs2 : SubAt (recs enF b) (0 + ((i : Int)).toNat * 7) [I y1, I y2, I y3, I y4, I y5, I y6, I y7] := by rw [show [I y1, I y2, I y3, I y4, I y5, I y6, I y7] = enF b[i]! by rw [← hy]]; exact subAt_recZ (fun _ => rfl) (by omega)
      have hl1 := en_len a
      have hl2 := en_len b
      have hq := enEq (a1 := x1) (a2 := x2) (a3 := x3) (a4 := x4) (a5 := x5) (a6 := x6) (a7 := x7) (b1 := y1) (b2 := y2) (b3 := y3) (b4 := y4) (b5 := y5) (b6 := y6) (b7 := y7)
      rw [hx, hy] at hq
      repeat' (first | apply w_seq | apply w_region | apply o_nil | (apply w_draw; (focus (kernel_rfl)); (focus (kernel_rfl))) | (apply o_neqE; exact rfl; exact rfl; exact en_ok; exact rfl) | (apply o_g tyOk; exact rfl; exact rfl) | (apply o_ar tyOk; exact rfl; exact rfl) | (apply o_load tyOk; (iterate 3 exact rfl); (focus (exact pk))) | (apply o_loads tyOk; (iterate 3 exact rfl); (focus (exact pk))) | (apply w_dT; exact rfl; (focus (first | omega))) | (apply w_ifN; exact rfl; all_goals intro hc) | apply thenS_normal | apply thenS_ret | apply blockS_normal | apply blockS_ret | apply w_skip | apply w_ret | apply w_block | ((with_reducible apply Sd.mk); (first | exact True.intro | omega)) | ((with_reducible apply Ln.mk); (first | rfl | omega)) | ((with_reducible apply Wr.mk); (first | exact IntWalk.i64_in _ (by omega))) | ((with_reducible apply Ce.mk); (first | rfl)) | ((with_reducible apply Su.mk); (first | exact hs1 | exact hs2)) | exact True.intro | exact rfl)
      all_goals first
        | (exfalso; omega)
        | (have hne := fun k => hc (hq.2 k)
           (apply s_fin; (exact (show ResS _ _ _ _ [_] from ⟨rfl, trivial⟩)); (focus (exact ⟨congrArg B (decide_eq_false (fun k => hne (by rw [k]))).symm, rfl⟩)); (focus (repeat (first | with_reducible exact Take.nil | with_reducible apply Take.c | with_reducible apply Take.drop)))))
        | (have heq := hq.1 (by simpa using hc)
           exact ⟨i + 1, ⟨hil, fun j hj => by
             by_cases e : j = i
             · subst e; exact heq
             · exact he j (by omega)⟩, by show a.length - (i + 1) < a.length - i; omega, (by repeat' (first | exact trivial | refine ⟨rfl, ?_⟩ | refine ⟨congrArg some ?_, ?_⟩)), (by repeat (first | with_reducible exact Take.nil | with_reducible apply Take.c | with_reducible apply Take.drop))⟩)
        | trace_state
    · have hab : a = b := List.ext_getElem hl fun j h1 h2 => by
        have := he j (by omega)
        rwa [getElem!_pos a j h1, getElem!_pos b j h2] at this
      rw [decide_eq_true hab]
      repeat' (first | apply w_seq | apply w_region | apply o_nil | (apply o_g tyOk; exact rfl; exact rfl) | (apply o_load tyOk; (iterate 3 exact rfl); (focus (exact pk))) | (apply w_dF; exact rfl; (focus (first | omega))) | apply thenS_normal | apply thenS_exit | apply blockS_exit | apply w_ret | apply w_exit | ((with_reducible apply Sd.mk); (first | exact True.intro)) | ((with_reducible apply Ln.mk); (first | rfl)) | ((with_reducible apply Ce.mk); (first | rfl)) | exact True.intro | exact rfl)
      all_goals first
        | (exfalso; omega)
        | (apply s_fin; (exact (show ResS _ _ _ _ [_] from ⟨rfl, trivial⟩)); (focus (exact ⟨rfl, rfl⟩)); (focus (repeat (first | with_reducible exact Take.nil | with_reducible apply Take.c | with_reducible apply Take.drop))))
        | trace_state
  · rw [decide_eq_false (fun k => hl ⟨by rw [k.2], k.1⟩)]
    refine w_body2 Tryz.func21 rfl rfl ?_
    repeat' ((fail_if_success (show SWp _ _ (Code.seq (Code.region 3 _ _) _) _ _ _)); (fail_if_success (show SWp _ _ (Code.region 3 _ _) _ _ _)); first | apply w_seq | apply w_region | apply o_nil | (apply o_loadH tyOk; (iterate 5 exact rfl); (focus (exact pk))) | (apply o_g tyOk; exact rfl; exact rfl) | (apply o_load tyOk; (iterate 3 exact rfl); (focus (exact pk))) | (apply o_box (tt := tyT); iterate 5 exact rfl) | (apply o_neqs; (iterate 3 exact rfl); (focus (kernel_rfl)); exact rfl; exact rfl; (focus (kernel_rfl)); exact rfl) | (apply o_want; exact rfl; exact rfl) | (apply o_skip; iterate 4 exact rfl) | (apply o_guardFN; (iterate 3 exact rfl); all_goals intro hc) | (apply w_true; exact rfl) | (apply w_ifN; exact rfl; all_goals intro hc) | apply thenS_normal | apply thenS_ret | apply w_skip | apply w_ret | ((with_reducible apply Sd.mk); (first | exact True.intro)) | ((with_reducible apply Ln.mk); (first | rfl)) | ((with_reducible apply Ce.mk); (first | rfl)) | exact True.intro | intro A | exact rfl)
    all_goals first
      | (apply s_fin; (exact (show ResS _ _ _ _ [_] from ⟨rfl, trivial⟩)); (focus (exact ⟨rfl, rfl⟩)); (focus (repeat (first | with_reducible exact Take.nil | with_reducible apply Take.c | with_reducible apply Take.drop))))
      | (exfalso; exact hl ⟨by omega, hqd.1 (by simpa using ‹¬ ¬ _›)⟩)
      | (exfalso; exact hl ⟨by omega, hqd.1 (by simpa using ‹_ = true›)⟩)
      | trace_state
/-- The index of the block with a time. -/
def fnd (t : Int) : Nat → List Eny → Nat × Bool
  | _, [] => (0, false)
  | i, e :: r => if e.1 < t ∧ t ≤ e.2.1 then (i, true) else fnd t (i + 1) r
theorem fnd_step {t : Int} {l : List Eny} {i : Nat} (h : i < l.length) : fnd t i (l.drop i) = if l[i]!.1 < t ∧ t ≤ l[i]!.2.1 then (i, true) else fnd t (i + 1) (l.drop (i + 1)) := by
  rw [drop_bang h]; rfl
theorem Find_any (d : Ex3) (l : List Eny) (t : Int) (v : Value) (h : SH) (hv : Has h (recs enF l) 7 l.length v) (hl : l.length ≤ 1000) :
    SRun Tryz.prog 22 [drV d v, I t] h fun r q => r = .tuple #[I (fnd t 0 l).1, B (fnd t 0 l).2] ∧ q = h := by
  obtain ⟨R, hR⟩ : ∃ R, fnd t 0 l = R := ⟨_, rfl⟩
  rw [hR]
  obtain ⟨ad, fl, rfl, hh⟩ := hv
  obtain ⟨d1, d2, d3⟩ := d
  have hlb := en_len l
  show SRun _ _ [.agg ⟨[I d1, I d2, I d3, .slice ad l.length fl]⟩, I t] h _
  refine w_body2 Tryz.func22 rfl rfl ?_
  repeat' (first | apply w_seq | apply w_region | apply o_nil | (apply o_g tyOk; exact rfl; exact rfl) | (apply o_load tyOk; (iterate 3 exact rfl); (focus (exact pk))) | (apply o_box (tt := tyT); iterate 5 exact rfl) | apply thenS_normal | apply w_block | ((with_reducible apply Sd.mk); (first | exact True.intro)) | ((with_reducible apply Ln.mk); (first | rfl)) | ((with_reducible apply Ce.mk); (first | rfl)) | exact True.intro | intro A | exact rfl)
  refine w_loop (S := Nat) (fun i => [(1, I t), (9, .slice ad l.length fl), (10, I l.length), (11, I i)]) (fun _ => h) (fun i => i ≤ l.length ∧ fnd t i (l.drop i) = R) (fun i => l.length - i) 0 ⟨Nat.zero_le _, hR⟩ (by repeat' (first | exact trivial | refine ⟨rfl, ?_⟩ | refine ⟨congrArg some ?_, ?_⟩)) (by repeat (first | with_reducible exact Take.nil | with_reducible apply Take.c | with_reducible apply Take.drop)) ?_
  rintro i ⟨hi, he⟩
  by_cases hil : i < l.length
  · obtain ⟨A', ro, hx1, rfl, hp⟩ := hh (by omega)
    rw [fnd_step hil] at he
    obtain ⟨⟨x1, x2, x3, x4, x5, x6, x7⟩, hx⟩ : ∃ x, x = l[i]! := ⟨_, rfl⟩
    have hs1 : SubAt (recs enF l) (0 + ((i : Int)).toNat * 7) [I x1, I x2, I x3, I x4, I x5, I x6, I x7] := by rw [show [I x1, I x2, I x3, I x4, I x5, I x6, I x7] = enF l[i]! by rw [← hx]]; exact subAt_recZ (fun _ => rfl) hil
    rw [← hx] at he
    dsimp only at he
    by_cases hc1 : x1 < t ∧ t ≤ x2
    · rw [if_pos hc1] at he
      subst he
      repeat' (first | apply w_seq | apply w_region | apply o_nil | (apply o_g tyOk; exact rfl; exact rfl) | (apply o_load tyOk; (iterate 3 exact rfl); (focus (exact pk))) | (apply o_loads tyOk; (iterate 3 exact rfl); (focus (exact pk))) | (apply o_stores tyOk; (iterate 4 exact rfl); (focus (exact ⟨rfl⟩)); (focus (exact up))) | (apply o_alloc tyOk; iterate 5 exact rfl) | (apply o_want; exact rfl; exact rfl) | (apply o_gT; (iterate 3 exact rfl); (focus (first | omega))) | (apply w_dT; exact rfl; (focus (first | omega))) | apply thenS_normal | apply thenS_ret | apply blockS_ret | apply w_skip | apply w_ret | apply w_block | ((with_reducible apply Sd.mk); (first | exact True.intro | omega)) | ((with_reducible apply Ln.mk); (first | rfl | omega)) | ((with_reducible apply Ce.mk); (first | rfl)) | ((with_reducible apply Pu.mk); (first | exact putAt_all rfl)) | ((with_reducible apply Su.mk); (first | exact hs1)) | exact True.intro | intro A | exact rfl)
      all_goals first
        | (exfalso; omega)
        | (apply s_fin; (exact (show ResS _ _ _ _ [_, _] from ⟨rfl, ⟨rfl, trivial⟩⟩)); (focus (exact ⟨rfl, rfl⟩)); (focus (repeat (first | with_reducible exact Take.nil | with_reducible apply Take.c | with_reducible apply Take.drop))))
        | trace_state
    · rw [if_neg hc1] at he
      repeat' (first | apply w_seq | apply w_region | apply o_nil | (apply o_g tyOk; exact rfl; exact rfl) | (apply o_ar tyOk; exact rfl; exact rfl) | (apply o_load tyOk; (iterate 3 exact rfl); (focus (exact pk))) | (apply o_loads tyOk; (iterate 3 exact rfl); (focus (exact pk))) | (apply o_stores tyOk; (iterate 4 exact rfl); (focus (exact ⟨rfl⟩)); (focus (exact up))) | (apply o_alloc tyOk; iterate 5 exact rfl) | (apply o_want; exact rfl; exact rfl) | (apply o_skip; iterate 4 exact rfl) | (apply o_guardT; (iterate 3 exact rfl); all_goals intro hc) | (apply w_false; exact rfl) | (apply w_dT; exact rfl; (focus (first | omega))) | (apply w_dF; exact rfl; (focus (first | omega))) | apply thenS_normal | apply blockS_normal | apply w_skip | apply w_block | ((with_reducible apply Sd.mk); (first | exact True.intro | omega)) | ((with_reducible apply Ln.mk); (first | rfl | omega)) | ((with_reducible apply Wr.mk); (first | exact IntWalk.i64_in _ (by omega))) | ((with_reducible apply Ce.mk); (first | rfl)) | ((with_reducible apply Pu.mk); (first | exact putAt_all rfl)) | ((with_reducible apply Su.mk); (first | exact hs1)) | exact True.intro | intro A | exact rfl)
      all_goals first
        | (exfalso; omega)
        | exact ⟨i + 1, ⟨hil, he⟩, by show l.length - (i + 1) < l.length - i; omega, (by repeat' (first | exact trivial | refine ⟨rfl, ?_⟩ | refine ⟨congrArg some ?_, ?_⟩)), (by repeat (first | with_reducible exact Take.nil | with_reducible apply Take.c | with_reducible apply Take.drop))⟩
        | trace_state
  · rw [List.drop_of_length_le (by omega)] at he
    subst he
    repeat' (first | apply w_seq | apply w_region | apply o_nil | (apply o_g tyOk; exact rfl; exact rfl) | (apply w_dF; exact rfl; (focus (first | omega))) | apply thenS_normal | apply thenS_exit | apply blockS_exit | apply w_ret | apply w_exit | ((with_reducible apply Sd.mk); (first | exact True.intro)))
    all_goals first
      | (exfalso; omega)
      | (apply s_fin; (exact (show ResS _ _ _ _ [_, _] from ⟨rfl, ⟨rfl, trivial⟩⟩)); (focus (exact ⟨rfl, rfl⟩)); (focus (repeat (first | with_reducible exact Take.nil | with_reducible apply Take.c | with_reducible apply Take.drop))))
      | trace_state
/-- The last time. -/
def lstT (l : List Eny) : Int := if l.length = 0 then -1 else l[l.length - 1]!.2.1
theorem DEnd_any (d : Ex3) (l : List Eny) (v : Value) (h : SH) (hv : Has h (recs enF l) 7 l.length v) (hl : l.length ≤ 1000) :
    SRun Tryz.prog 24 [drV d v] h fun r q => r = I (lstT l) ∧ q = h := by
  obtain ⟨ad, fl, rfl, hh⟩ := hv
  obtain ⟨d1, d2, d3⟩ := d
  have hlb := en_len l
  show SRun _ _ [.agg ⟨[I d1, I d2, I d3, .slice ad l.length fl]⟩] h _
  unfold lstT
  by_cases h0 : l.length = 0
  · rw [if_pos h0]
    refine w_body1 Tryz.func24 rfl rfl ?_
    repeat' (first | apply w_seq | apply w_region | apply o_nil | (apply o_g tyOk; exact rfl; exact rfl) | (apply o_load tyOk; (iterate 3 exact rfl); (focus (exact pk))) | (apply o_box (tt := tyT); iterate 5 exact rfl) | (apply w_dT; exact rfl; (focus (first | omega))) | apply thenS_normal | apply thenS_ret | apply w_ret | ((with_reducible apply Sd.mk); (first | exact True.intro)) | ((with_reducible apply Ln.mk); (first | rfl)) | ((with_reducible apply Ce.mk); (first | rfl)) | exact True.intro | intro A | exact rfl)
    all_goals first
      | (exfalso; omega)
      | (apply s_fin; (exact (show ResS _ _ _ _ [_] from ⟨rfl, trivial⟩)); (focus (exact ⟨rfl, rfl⟩)); (focus (repeat (first | with_reducible exact Take.nil | with_reducible apply Take.c | with_reducible apply Take.drop))))
      | trace_state
  · rw [if_neg h0]
    obtain ⟨A', ro, hx1, rfl, hp⟩ := hh h0
    have hcell : (recs enF l)[0 + ((l.length : Int) - 1).toNat * 7 + 1]? = some (I l[l.length - 1]!.2.1) := by
      rw [show ((l.length : Int) - 1).toNat = l.length - 1 by omega]
      exact cell_rec (fun _ => rfl) (by omega) (by decide) rfl
    refine w_body1 Tryz.func24 rfl rfl ?_
    repeat' (first | apply w_seq | apply w_region | apply o_nil | (apply o_g tyOk; exact rfl; exact rfl) | (apply o_ar tyOk; exact rfl; exact rfl) | (apply o_load tyOk; (iterate 3 exact rfl); (focus (exact pk))) | (apply o_box (tt := tyT); iterate 5 exact rfl) | (apply w_dF; exact rfl; (focus (first | omega))) | apply thenS_normal | apply w_skip | apply w_ret | ((with_reducible apply Sd.mk); (first | exact True.intro | omega)) | ((with_reducible apply Ln.mk); (first | rfl | omega)) | ((with_reducible apply Wr.mk); (first | exact IntWalk.i64_in _ (by omega))) | ((with_reducible apply Ce.mk); (first | rfl | exact hcell)) | exact True.intro | intro A | exact rfl)
    all_goals first
      | (exfalso; omega)
      | (apply s_fin; (exact (show ResS _ _ _ _ [_] from ⟨rfl, trivial⟩)); (focus (exact ⟨rfl, rfl⟩)); (focus (repeat (first | with_reducible exact Take.nil | with_reducible apply Take.c | with_reducible apply Take.drop))))
      | trace_state
end Go.Proofs.YtncnmfdmbfbfjaaGreat
end
section
set_option linter.unusedVariables false
set_option linter.unusedSimpArgs false
set_option maxRecDepth 4000
namespace Go.Gh
open Go.RowKit

abbrev UB (x : BitVec 32) : Value := .int .u32 x.toNat
theorem ofInt_toNat (x : BitVec 32) : BitVec.ofInt 32 (x.toNat : Int) = x := by
  apply BitVec.eq_of_toNat_eq
  rw [BitVec.toNat_ofInt]
  have := x.isLt
  omega
theorem a_compl {P : Program} {N : Fr} {o : Oper} {a : AF} {H : Heap} (T : TypeId) (x : Operand) {b : BitVec 32} (ho : o.op = .unOp .xor T x) (hx : ev a x = some (UB b)) : APure P N o a H (UB (~~~ b)) := by
  refine ⟨fun _ _ φ w ac _ hf => ?_⟩
  have h1 := (ev_rel hf hx).scalar rfl
  have hv : IntKind.u32.wrap ((BitVec.ofInt 32 4294967295 ^^^ BitVec.ofInt 32 (b.toNat : Int)).toNat : Int) = ((~~~ b).toNat : Int) := by
    rw [ofInt_toNat, show BitVec.ofInt 32 4294967295 = BitVec.allOnes 32 from rfl, BitVec.allOnes_xor]
    exact IntWalk.u32_in _ (by have := (~~~ b).isLt; omega)
  exact ⟨_, .int _ _, fun w _ => by
    unfold execOp
    simp only [ho, h1, Op.unary, Op.intBits, Sem.run_bind, Sem.run_pure, Result.andThen_ok]
    exact congrArg (fun v => Result.ok (Next.value (Value.int .u32 v)) w) hv⟩
theorem o_compl {m : Mode} {P : Program} {sz : Nat} {ops : Array Oper} {Q : SPost} {rest : List Oper} {a : AF} {h : SH} {t : Nat} {ty : TypeId} {pos : String} {aft : Array Edge} {T : Nat} {x : Operand} {b : BitVec 32}
    (hx : ev a x = some (UB b)) (hN : Nat.blt t sz = true) (k : GO m.next P sz ops Q rest ((t, UB (~~~ b)) :: a) h) : GO m P sz ops Q (⟨some t, .unOp .xor T x, ty, pos, aft, none⟩ :: rest) a h :=
  o_pure (fun _ _ _ hag => a_compl _ _ rfl ((hag.ev (by simp [Op.operands, Call.operands])).trans hx)) hN k
end Go.Gh
end
section
set_option linter.unusedVariables false
set_option linter.unusedSimpArgs false
set_option maxRecDepth 4000
namespace Go.Proofs.YtncnmfdmbfbfjaaGreat
open Go.Gh Go.RowKit

theorem ex8u (m : Int) : m / 2 ^ (min (Int.toNat 8) IntKind.u32.bits) = m / 256 := rfl
theorem ex16u (m : Int) : m / 2 ^ (min (Int.toNat 16) IntKind.u32.bits) = m / 65536 := rfl
theorem ex24u (m : Int) : m / 2 ^ (min (Int.toNat 24) IntKind.u32.bits) = m / 16777216 := rfl
theorem ex8i (m : Int) : m / 2 ^ (min (Int.toNat 8) IntKind.i64.bits) = m / 256 := rfl
theorem w_shl8u (m : Int) : IntKind.u32.wrap (m * 2 ^ (min (Int.toNat 8) IntKind.u32.bits)) = m * 256 % 4294967296 := IntKind.wrap_u32 _
theorem w_quoU {m n : Int} (hm : 0 ≤ m) (h : 0 ≤ m / n ∧ m / n ≤ 4294967295) : IntKind.u32.wrap (m.tdiv n) = m / n := by rw [Int.tdiv_eq_ediv_of_nonneg hm]; exact IntWalk.u32_in _ h
theorem w_quoI {m n : Int} (hm : 0 ≤ m) (h : 0 ≤ m / n ∧ m / n ≤ 9223372036854775807) : IntKind.i64.wrap (m.tdiv n) = m / n := by rw [Int.tdiv_eq_ediv_of_nonneg hm]; exact IntWalk.i64_in _ (by omega)
abbrev U (n : Int) : Value := .int .u32 n
abbrev Y (n : Int) : Value := .int .u8 n

/-- The probability that is used. -/
def clp (z : Int) : Int := min (max z 1) 2047
theorem clp_in (z : Int) : 1 ≤ clp z ∧ clp z ≤ 2047 := by unfold clp; omega
theorem clamp_any (z : Int) (h : SH) : SRun Tryz.prog 93 [I z] h fun r q => r = U (clp z) ∧ q = h := by
  refine w_body1 Tryz.func93 rfl rfl ?_
  repeat' (first | apply w_seq | apply w_region | apply o_nil | (apply o_g tyOk; exact rfl; exact rfl) | (apply o_ar tyOk; exact rfl; exact rfl) | (apply o_min; iterate 3 exact rfl) | (apply o_max; iterate 3 exact rfl) | apply thenS_normal | apply w_ret | ((with_reducible apply Sd.mk); (first | exact True.intro)) | ((with_reducible apply Wr.mk); (first | exact IntWalk.u32_in _ (by omega))))
  (apply s_fin; (exact (show ResS _ _ _ _ [_] from ⟨rfl, trivial⟩)); (focus (exact ⟨rfl, rfl⟩)); (focus (repeat (first | with_reducible exact Take.nil | with_reducible apply Take.c | with_reducible apply Take.drop))))
abbrev vldP (z : Int) : Prop := 1 ≤ z ∧ z ≤ 2047
structure Enc where
  out : List UInt8
  low : Int
  size : Int
/-- One is added to the byte before place k, and to the ones before it as long as they run over. -/
def carryAt (l : List UInt8) : Nat → List UInt8
  | 0 => l
  | k + 1 => if (bat l k + 1) % 256 ≠ 0 then l.set k (b8 ((bat l k + 1) % 256)) else carryAt (l.set k (b8 ((bat l k + 1) % 256))) k
@[simp] theorem carryAt_len (l : List UInt8) : ∀ k, (carryAt l k).length = l.length := by
  intro k
  induction k generalizing l with
  | zero => rfl
  | succ k ih => unfold carryAt; split <;> simp [ih]
def carry (l : List UInt8) : List UInt8 := carryAt l l.length
@[simp] theorem carry_len (l : List UInt8) : (carry l).length = l.length := carryAt_len l _
def eshift (e : Enc) : Enc := ⟨e.out ++ [b8 (e.low / 16777216)], e.low * 256 % 4294967296, e.size * 256⟩
def norm : Nat → Enc → Enc
  | 0, e => e
  | k + 1, e => if e.size < 16777216 then norm k (eshift e) else e
def bound (size z : Int) : Int := size / 2048 * clp z
def estep (e : Enc) (z b : Int) : Enc := if b = 0 then ⟨e.out, e.low, bound e.size z⟩ else
  if 4294967296 ≤ e.low + bound e.size z then ⟨carry e.out, e.low + bound e.size z - 4294967296, e.size - bound e.size z⟩ else ⟨e.out, e.low + bound e.size z, e.size - bound e.size z⟩
def ebit (e : Enc) (z b : Int) : Enc := norm 2 (estep e z b)
structure EncOk (n : Nat) (e : Enc) : Prop where
  out : e.out.length ≤ n
  low : 0 ≤ e.low ∧ e.low ≤ 4294967295
  size : 16777216 ≤ e.size ∧ e.size ≤ 4294967295

abbrev encC (sl : Value) (low size : Int) : List Value := [sl, U low, U size]
/-- The blocks of an encoder at n. -/
inductive EncB (n : Nat) (h : SH) : Enc → SH → Prop
  | nil (low size : Int) : EncB n h ⟨[], low, size⟩ ((n, ⟨encC (.slice none 0 0) low size, false⟩) :: h)
  | some (o : List UInt8) (low size : Int) (A : Nat) : EncB n h ⟨o, low, size⟩ ((n, ⟨encC (gsl A 0 o.length o.length 1) low size, false⟩) :: (A, ⟨bytesV o, false⟩) :: h)

theorem EncB.some' {n : Nat} {h : SH} {o : List UInt8} {m : Nat} (hm : o.length = m) (low size : Int) (A : Nat) : EncB n h ⟨o, low, size⟩ ((n, ⟨encC (gsl A 0 m m 1) low size, false⟩) :: (A, ⟨bytesV o, false⟩) :: h) := by subst hm; exact .some _ _ _ _
theorem cell_bytes_set {l : List UInt8} {i n : Int} (hi : 0 ≤ i ∧ i < l.length) (h : 0 ≤ n ∧ n < 256) : (bytesV (l.set i.toNat (b8 n)))[0 + i.toNat * 1]? = some (.int .u8 n) := by
  have h1 : i.toNat < l.length := by omega
  rw [Nat.zero_add, Nat.mul_one]
  unfold bytesV
  rw [List.getElem?_map, List.getElem?_set_self h1, Option.map_some]
  exact congrArg (fun x => some (Value.int .u8 x)) (b8_val h)
theorem size_dvd {s : Int} (h : 16777216 ≤ s ∧ s ≤ 4294967295) (z : Int) : 8192 ≤ bound s z ∧ bound s z + 8192 ≤ s := by
  have h1 := clp_in z
  unfold bound
  generalize clp z = c at *
  have h2 : 8192 ≤ s / 2048 := by omega
  have h3 : s / 2048 * 2048 ≤ s := by omega
  generalize s / 2048 = d at *
  have h4 : d * c ≤ d * 2047 := Int.mul_le_mul_of_nonneg_left h1.2 (by omega)
  have h5 : d * 1 ≤ d * c := Int.mul_le_mul_of_nonneg_left h1.1 (by omega)
  omega
theorem estep_ok {n : Nat} {e : Enc} (h : EncOk n e) (z b : Int) : (estep e z b).out.length ≤ n ∧ (0 ≤ (estep e z b).low ∧ (estep e z b).low ≤ 4294967295) ∧ 8192 ≤ (estep e z b).size ∧ (estep e z b).size ≤ 4294967295 := by
  have h1 := size_dvd h.size z
  have := h.low; have := h.size; have := h.out
  unfold estep
  split
  · dsimp only; omega
  · split
    · dsimp only; rw [carry_len]; omega
    · dsimp only; omega

theorem norm_go {k : Nat} {e : Enc} (h : e.size < 16777216) (g : 16777216 ≤ e.size * 256 ^ k) : ∃ k', k = k' + 1 ∧ norm k e = norm k' (eshift e) ∧ 16777216 ≤ (eshift e).size * 256 ^ k' := by
  cases k with
  | zero => simp at g; omega
  | succ k =>
    refine ⟨k, rfl, if_pos h, ?_⟩
    show _ ≤ e.size * 256 * 256 ^ k
    rw [Int.mul_assoc, ← Int.pow_succ']; exact g
theorem norm_end {k : Nat} {e : Enc} (h : ¬ e.size < 16777216) : norm k e = e := by
  cases k with
  | zero => rfl
  | succ k => exact if_neg h

theorem norm_ok {n : Nat} : ∀ {k : Nat} {e : Enc}, e.out.length + k ≤ n → (0 ≤ e.low ∧ e.low ≤ 4294967295) → 16777216 ≤ e.size * 256 ^ k → e.size ≤ 4294967295 → EncOk n (norm k e)
  | 0, e, h1, h2, h3, h4 => ⟨by show e.out.length ≤ n; omega, h2, by show 16777216 ≤ e.size ∧ e.size ≤ _; simp at h3; omega⟩
  | k + 1, e, h1, h2, h3, h4 => by
    by_cases hc : e.size < 16777216
    · obtain ⟨k', e0, e1, e2⟩ := norm_go hc h3
      obtain rfl : k = k' := by omega
      rw [e1]
      exact norm_ok (by show (e.out ++ [_]).length + k ≤ n; simp only [List.length_append, List.length_singleton]; omega) (by show 0 ≤ e.low * 256 % 4294967296 ∧ e.low * 256 % 4294967296 ≤ _; omega) e2 (by show e.size * 256 ≤ _; omega)
    · rw [norm_end hc]; exact ⟨by omega, h2, by omega⟩
theorem ebit_ok {n : Nat} {e : Enc} (h : EncOk n e) (z b : Int) : EncOk (n + 2) (ebit e z b) := by
  have h4 := estep_ok h z b
  exact norm_ok (by omega) h4.2.1 (by omega) h4.2.2.2
end Go.Proofs.YtncnmfdmbfbfjaaGreat
end
section
set_option linter.unusedVariables false
set_option linter.unusedSimpArgs false
set_option maxRecDepth 4000
namespace Go.Proofs.YtncnmfdmbfbfjaaGreat
open Go.Gh Go.RowKit

theorem and1 (m : Int) : ((BitVec.ofInt 64 m &&& BitVec.ofInt 64 1).toNat : Int) = m % 2 := by
  have h1 : (BitVec.ofInt 64 m &&& BitVec.ofInt 64 1).toNat = (BitVec.ofInt 64 m).toNat % 2 := by
    rw [BitVec.toNat_and, show (BitVec.ofInt 64 1).toNat = 1 from rfl, Nat.and_one_is_mod]
  rw [h1, BitVec.toNat_ofInt]
  omega
theorem w_and1 (m : Int) : IntKind.i64.wrap ((BitVec.ofInt IntKind.i64.bits m &&& BitVec.ofInt IntKind.i64.bits 1).toNat : Int) = m % 2 := by
  rw [show (IntKind.i64.bits) = 64 from rfl, and1]
  exact IntWalk.i64_in _ (by omega)
theorem ex_shrk {m : Int} {k : Nat} (h : k ≤ 64) : m / 2 ^ (min (Int.toNat (k : Int)) IntKind.i64.bits) = m / 2 ^ k := by
  rw [Int.toNat_natCast, show (IntKind.i64.bits) = 64 from rfl, Nat.min_eq_left h]

theorem EncB.pick {n : Nat} {h p : SH} {e : Enc} (hb : EncB n h e p) {A : Nat} {b : Blk} {h1 : SH} (hp : Pick h A b h1) : ∃ p1, Pick p A b p1 := by
  cases hb with
  | nil => exact ⟨_, .tail hp⟩
  | some => exact ⟨_, .tail (.tail hp)⟩
/-- An encoder that is there to be read. -/
inductive EncR (n : Nat) (p : SH) : Enc → Prop
  | nil (low size : Int) (p1 : SH) (hp : Pick p n ⟨encC (.slice none 0 0) low size, false⟩ p1) : EncR n p ⟨[], low, size⟩
  | some (o : List UInt8) (low size : Int) (A : Nat) (p1 p2 : SH) (hp : Pick p n ⟨encC (gsl A 0 o.length o.length 1) low size, false⟩ p1) (ha : Pick p A ⟨bytesV o, false⟩ p2) : EncR n p ⟨o, low, size⟩
theorem EncB.r {n : Nat} {h p : SH} {e : Enc} (hb : EncB n h e p) : EncR n p e := by
  cases hb with
  | nil => exact .nil _ _ _ .head
  | some => exact .some _ _ _ _ _ _ .head (.tail .head)
theorem EncR.up {n m : Nat} {h p : SH} {e e2 : Enc} (hr : EncR n h e) (hb : EncB m h e2 p) : EncR n p e := by
  cases hr with
  | nil _ _ _ hp => obtain ⟨p1, g⟩ := hb.pick hp; exact .nil _ _ _ g
  | some _ _ _ _ _ _ hp ha => obtain ⟨p1, g⟩ := hb.pick hp; obtain ⟨p2, g2⟩ := hb.pick ha; exact .some _ _ _ _ _ _ g g2
/-- Two encoders: which one lies on top does not matter. -/
theorem EncB.swap {n m : Nat} {h p1 p : SH} {e e2 : Enc} (h1 : EncB n h e p1) (h2 : EncB m p1 e2 p) : ∃ q1 q, EncB m h e2 q1 ∧ EncB n q1 e q ∧ Take p q := by
  cases h1 with
  | nil =>
    cases h2 with
    | nil => exact ⟨_, _, .nil _ _, .nil _ _, .cons (.tail .head) .nil⟩
    | some => exact ⟨_, _, .some _ _ _ _, .nil _ _, .cons (.tail (.tail .head)) .nil⟩
  | some =>
    cases h2 with
    | nil => exact ⟨_, _, .nil _ _, .some _ _ _ _, .cons (.tail .head) (.cons (.tail .head) .nil)⟩
    | some => exact ⟨_, _, .some _ _ _ _, .some _ _ _ _, .cons (.tail (.tail .head)) (.cons (.tail (.tail .head)) .nil)⟩
theorem EncB.take {n : Nat} {h p : SH} {e : Enc} (hb : EncB n h e p) : Take p h := by
  cases hb with
  | nil => exact .drop .nil
  | some => exact .drop (.drop .nil)
/-- Bits of a number, the highest first. -/
def ebits (v : Int) : Nat → Enc → Enc
  | 0, e => e
  | k + 1, e => ebits v k (ebit e 1024 (v / 2 ^ k % 2))
def edir (e : Enc) (n v : Int) : Enc := if n < 0 ∨ 62 < n then e else ebits v n.toNat e
theorem ebits_ok {v : Int} : ∀ {k n : Nat} {e : Enc}, EncOk n e → EncOk (n + 2 * k) (ebits v k e)
  | 0, n, e, h => h
  | k + 1, n, e, h => by
    have := ebits_ok (v := v) (k := k) (ebit_ok h 1024 (v / 2 ^ k % 2))
    rw [show n + 2 * (k + 1) = n + 2 + 2 * k by omega]; exact this
theorem EncOk.mono {n m : Nat} {e : Enc} (h : EncOk n e) (hm : n ≤ m) : EncOk m e := ⟨by have := h.out; omega, h.low, h.size⟩
theorem edir_ok {n : Nat} {e : Enc} (h : EncOk n e) (x v : Int) : EncOk (n + 124) (edir e x v) := by
  unfold edir
  split
  · exact h.mono (by omega)
  · exact (ebits_ok h).mono (by omega)

def tail4 (low : Int) : List UInt8 := [b8 (low / 16777216), b8 (low / 65536 % 256), b8 (low / 256 % 256), b8 (low % 256)]
/-- The bytes of an encoder. -/
def fin (e : Enc) : List UInt8 := e.out ++ tail4 e.low
theorem subAt_tail {low : Int} (h : 0 ≤ low ∧ low ≤ 4294967295) : SubAt [Y (low / 16777216), Y (low / 65536 % 256), Y (low / 256 % 256), Y (low % 256)] 0 (bytesV (tail4 low)) := by
  have e : bytesV (tail4 low) = [Y (low / 16777216), Y (low / 65536 % 256), Y (low / 256 % 256), Y (low % 256)] := by
    unfold tail4
    rw [show ∀ a b c d : UInt8, [a, b, c, d] = [a] ++ ([b] ++ ([c] ++ [d])) from fun _ _ _ _ => rfl, bytesV_app, bytesV_app, bytesV_app, bytesV_one (by omega), bytesV_one (by omega), bytesV_one (by omega), bytesV_one (by omega)]
    rfl
  rw [e]; exact subAt_all
theorem tail4_len (l : Int) : (tail4 l).length = 4 := rfl
theorem Finish_any (n : Nat) (e : Enc) (p : SH) (hb : EncR n p e) (ho : e.out.length ≤ 1000000) (hl : 0 ≤ e.low ∧ e.low ≤ 4294967295) :
    SRun Tryz.prog 55 [gptr n 0 3] p fun r q => r = S (fin e) ∧ q = p := by
  cases hb with
  | nil _ _ _ hp =>
    dsimp only at ho hl
    refine w_body1 Tryz.func55 rfl rfl ?_
    repeat' (first | apply w_seq | apply w_region | apply o_nil | (apply w_draw; (focus (kernel_rfl)); (focus (kernel_rfl))) | (apply o_g tyOk; exact rfl; exact rfl) | (apply o_ar tyOk; exact rfl; exact rfl) | (apply o_ex; exact rfl; exact rfl) | (apply o_load tyOk; (iterate 3 exact rfl); (focus (exact pk))) | (apply o_stores tyOk; (iterate 4 exact rfl); (focus (exact ⟨rfl⟩)); (focus (exact up))) | (apply o_alloc tyOk; iterate 5 exact rfl) | (apply o_buildArr tyOk; (iterate 4 exact rfl); (focus (repeat (first | exact BuildR.nil | (apply BuildR.one; exact rfl; exact rfl; (first | (focus ((repeat (first | exact SetAt.zero | apply SetAt.succ)); done))))))); exact rfl) | (apply o_toString tyOk; (iterate 6 exact rfl); (focus (exact pk))) | (apply o_toString_nil tyOk; iterate 7 exact rfl) | apply thenS_normal | apply w_ret | ((with_reducible apply Sd.mk); (first | exact True.intro | omega | (unfold maxLen; omega) | (simp only [tail4_len, List.length_nil]; omega))) | ((with_reducible apply Ln.mk); (first | rfl)) | ((with_reducible apply Wr.mk); (first | exact IntWalk.u8_in _ (by omega) | exact IntKind.wrap_u8 _)) | ((with_reducible apply Ex.mk); (first | exact ex8u _ | exact ex16u _ | exact ex24u _)) | ((with_reducible apply Ce.mk); (first | rfl)) | ((with_reducible apply Pu.mk); (first | exact putAt_all rfl)) | ((with_reducible apply Su.mk); (first | exact subAt_tail (by omega))) | exact True.intro | exact Or.inl rfl | apply And.intro | intro A | exact rfl)
    (apply s_fin; (exact (show ResS _ _ _ _ [_] from ⟨rfl, trivial⟩)); (focus (exact ⟨rfl, rfl⟩)); (focus (repeat (first | with_reducible exact Take.nil | with_reducible apply Take.c | with_reducible apply Take.drop))))
  | some _ _ _ _ _ _ hp ha =>
    dsimp only at ho hl
    refine w_body1 Tryz.func55 rfl rfl ?_
    repeat' (first | apply w_seq | apply w_region | apply o_nil | (apply w_draw; (focus (kernel_rfl)); (focus (kernel_rfl))) | (apply o_g tyOk; exact rfl; exact rfl) | (apply o_ar tyOk; exact rfl; exact rfl) | (apply o_ex; exact rfl; exact rfl) | (apply o_load tyOk; (iterate 3 exact rfl); (focus (exact pk))) | (apply o_stores tyOk; (iterate 4 exact rfl); (focus (exact ⟨rfl⟩)); (focus (exact up))) | (apply o_alloc tyOk; iterate 5 exact rfl) | (apply o_buildArr tyOk; (iterate 4 exact rfl); (focus (repeat (first | exact BuildR.nil | (apply BuildR.one; exact rfl; exact rfl; (first | (focus ((repeat (first | exact SetAt.zero | apply SetAt.succ)); done))))))); exact rfl) | (apply o_toString tyOk; (iterate 6 exact rfl); (focus (exact pk))) | apply thenS_normal | apply w_ret | ((with_reducible apply Sd.mk); (first | exact True.intro | omega | (unfold maxLen; omega) | (simp only [tail4_len, List.length_nil]; omega))) | ((with_reducible apply Ln.mk); (first | rfl | (simp ; first | done | omega))) | ((with_reducible apply Wr.mk); (first | exact IntWalk.u8_in _ (by omega) | exact IntKind.wrap_u8 _)) | ((with_reducible apply Ex.mk); (first | exact ex8u _ | exact ex16u _ | exact ex24u _)) | ((with_reducible apply Ce.mk); (first | rfl)) | ((with_reducible apply Pu.mk); (first | exact putAt_all rfl)) | ((with_reducible apply Su.mk); (first | exact subAt_tail (by omega) | exact subAt_all)) | exact True.intro | exact Or.inl rfl | apply And.intro | intro A | exact rfl)
    (apply s_fin; (exact (show ResS _ _ _ _ [_] from ⟨rfl, trivial⟩)); (focus (exact ⟨rfl, rfl⟩)); (focus (repeat (first | with_reducible exact Take.nil | with_reducible apply Take.c | with_reducible apply Take.drop))))

abbrev stF (s : Int × Int) : List Value := [I s.1, I s.2]
theorem stW (s : Int × Int) : (stF s).length = 2 := rfl
@[simp] theorem len_sts (l : List (Int × Int)) : (recs stF l).length = 2 * l.length := by rw [recs_len stW]; omega
abbrev vldS (s : Int × Int) : Prop := vldP s.1 ∧ (s.2 = 0 ∨ s.2 = 1)
/-- Steps, as long as they are valid. -/
def erun : List (Int × Int) → Enc → Option Enc
  | [], e => some e
  | s :: r, e => if vldS s then erun r (ebit e s.1 s.2) else none
def enc (l : List (Int × Int)) : List UInt8 × Int := match erun l ⟨[], 0, 4294967295⟩ with
  | some e => (fin e, 0)
  | none => ([], 1)
abbrev Er (n : Int) : Value := .int .i64 n

end Go.Proofs.YtncnmfdmbfbfjaaGreat
end
section
set_option linter.unusedVariables false
set_option linter.unusedSimpArgs false
set_option maxRecDepth 4000
namespace Go.Proofs.YtncnmfdmbfbfjaaGreat
open Go.Gh Go.RowKit

theorem or_low {a b : Nat} (n : Nat) (h : b < 2 ^ n) : 2 ^ n * a ||| b = 2 ^ n * a + b := (Nat.two_pow_add_eq_or_of_lt h a).symm
theorem or8n (q c : Nat) (hq : q < 16777216) (hc : c < 256) : (BitVec.ofInt 32 ((q * 256 : Nat) : Int) ||| BitVec.ofInt 32 (c : Int)).toNat = q * 256 + c := by
  rw [BitVec.ofInt_natCast, BitVec.ofInt_natCast, BitVec.toNat_or, BitVec.toNat_ofNat, BitVec.toNat_ofNat, Nat.mod_eq_of_lt (by omega), Nat.mod_eq_of_lt (by omega), Nat.mul_comm q 256]
  exact or_low 8 hc
theorem w_or8 (m c : Int) (h : 0 ≤ c ∧ c < 256) : IntKind.u32.wrap ((BitVec.ofInt IntKind.u32.bits (m * 256 % 4294967296) ||| BitVec.ofInt IntKind.u32.bits c).toNat : Int) = m * 256 % 4294967296 + c := by
  obtain ⟨c, rfl⟩ := Int.eq_ofNat_of_zero_le h.1
  obtain ⟨q, hq, hq2⟩ : ∃ q : Nat, m * 256 % 4294967296 = ((q * 256 : Nat) : Int) ∧ q < 16777216 := ⟨(m % 16777216).toNat, by omega, by omega⟩
  rw [hq, show (IntKind.u32.bits) = 32 from rfl, or8n q c hq2 (by omega), IntWalk.u32_in _ (by omega)]
  omega

structure Dec where
  rest : List UInt8
  code : Int
  size : Int
  missing : Bool
  full : Bool
structure DecOk (d : Dec) : Prop where
  rest : d.rest.length ≤ 1000000
  code : 0 ≤ d.code ∧ d.code ≤ 4294967295
  size : 16777216 ≤ d.size ∧ d.size ≤ 4294967295
def dnext (d : Dec) : Dec := match d.rest with
  | [] => { d with missing := true, code := d.code * 256 % 4294967296 + 0 }
  | c :: r => { d with rest := r, code := d.code * 256 % 4294967296 + c.toNat }
abbrev decC (d : Dec) : List Value := [S d.rest, U d.code, U d.size, B d.missing, B d.full]
abbrev decB (n : Nat) (d : Dec) : Nat × Blk := (n, ⟨decC d, false⟩)

theorem next_any (n : Nat) (d : Dec) (h : SH) (hr : d.rest.length ≤ 9223372036854775807) : SRun Tryz.prog 123 [gptr n 0 5] (decB n d :: h) fun _ q => q = decB n (dnext d) :: h := by
  obtain ⟨rest, code, size, missing, full⟩ := d
  dsimp only at hr
  cases rest with
  | nil =>
    show SRun _ _ _ ((n, ⟨[S [], U code, U size, B missing, B full], false⟩) :: h) _
    refine w_body1 Tryz.func123 rfl rfl ?_
    repeat' (first | apply w_seq | apply w_region | apply o_nil | (apply o_g tyOk; exact rfl; exact rfl) | (apply o_ar tyOk; exact rfl; exact rfl) | (apply o_load tyOk; (iterate 3 exact rfl); (focus (exact pk))) | (apply o_store tyOk; (iterate 4 exact rfl); (focus (exact up))) | (apply w_true; exact rfl) | apply thenS_normal | ((with_reducible apply Sd.mk); (first | exact True.intro | omega)) | ((with_reducible apply Ln.mk); (first | rfl)) | ((with_reducible apply Wr.mk); (first | exact w_shl8u _ | exact w_or8 _ _ (by omega) | exact IntWalk.u32_in _ (by omega))) | ((with_reducible apply Ce.mk); (first | rfl)) | ((with_reducible apply Se.mk); (first | (focus ((repeat (first | exact SetAt.zero | apply SetAt.succ)); done)))) | exact True.intro | exact rfl)
    (apply s_finN; (exact (show ResS _ _ _ _ [] from trivial)); (focus (rfl)); (focus (repeat (first | with_reducible exact Take.nil | with_reducible apply Take.c | ((with_reducible apply Take.cE); (first | exact rfl | (apply blkE; (focus (first | exact rfl | exact recs_snocE rfl | exact map_snocE rfl | exact congrArg (fun v => [v]) (gslE rfl rfl (by first | rfl | exact ‹_› | omega | (simp ; first | done | omega)) (by first | rfl | exact ‹_› | omega | (simp ; first | done | omega)) rfl)))))) | with_reducible apply Take.drop))))
  | cons c r =>
    have hc1 : 0 ≤ bat (c :: r) 0 ∧ bat (c :: r) 0 < 256 := by
      have := c.toNat_lt
      show (0 : Int) ≤ (c.toNat : Int) ∧ (c.toNat : Int) < 256; omega
    rw [List.length_cons] at hr
    show SRun _ _ _ ((n, ⟨[S (c :: r), U code, U size, B missing, B full], false⟩) :: h) _
    refine w_body1 Tryz.func123 rfl rfl ?_
    repeat' (first | apply w_seq | apply w_region | apply o_nil | (apply w_draw; (focus (kernel_rfl)); (focus (kernel_rfl))) | (apply o_g tyOk; exact rfl; exact rfl) | (apply o_ar tyOk; exact rfl; exact rfl) | (apply o_load tyOk; (iterate 3 exact rfl); (focus (exact pk))) | (apply o_store tyOk; (iterate 4 exact rfl); (focus (exact up))) | (apply w_false; exact rfl) | apply thenS_normal | ((with_reducible apply Sd.mk); (first | exact True.intro | omega | (simp only [List.length_cons]; omega))) | ((with_reducible apply Ln.mk); (first | rfl)) | ((with_reducible apply Wr.mk); (first | exact w_shl8u _ | exact w_or8 _ _ (by omega) | exact IntWalk.u32_in _ (by omega))) | ((with_reducible apply Ce.mk); (first | rfl)) | ((with_reducible apply Se.mk); (first | (focus ((repeat (first | exact SetAt.zero | apply SetAt.succ)); done)))) | exact True.intro | exact Or.inl rfl | apply And.intro | exact rfl)
    (apply s_finN; (exact (show ResS _ _ _ _ [] from trivial)); (focus (rfl)); (focus (repeat (first | with_reducible exact Take.nil | with_reducible apply Take.c | ((with_reducible apply Take.cE); (first | exact rfl | (apply blkE; (focus (first | exact rfl | exact recs_snocE rfl | exact map_snocE rfl | exact congrArg (fun v => [v]) (gslE rfl rfl (by first | rfl | exact ‹_› | omega | (simp ; first | done | omega)) (by first | rfl | exact ‹_› | omega | (simp ; first | done | omega)) rfl)))))) | with_reducible apply Take.drop))))
theorem dnext_ok (d : Dec) : 0 ≤ (dnext d).code ∧ (dnext d).code ≤ 4294967295 ∧ (dnext d).size = d.size ∧ (dnext d).rest.length ≤ d.rest.length := by
  obtain ⟨rest, code, size, missing, full⟩ := d
  cases rest with
  | nil => simp only [dnext]; refine ⟨?_, ?_, trivial, Nat.le_refl _⟩ <;> omega
  | cons c r =>
    have := c.toNat_lt
    simp only [dnext, List.length_cons]; refine ⟨?_, ?_, trivial, ?_⟩ <;> omega

/-- A decoder of bytes. -/
def dnew (l : List UInt8) : Dec :=
  let d := dnext (dnext (dnext (dnext ⟨l, 0, 4294967295, false, false⟩)))
  { d with full := decide (d.code = d.size) }
def dnexts : Nat → Dec → Dec
  | 0, d => d
  | k + 1, d => dnexts k (dnext d)
theorem NewDecoder_any (l : List UInt8) (h : SH) (hl : l.length ≤ 1000000) : SRun Tryz.prog 112 [S l] h fun r q => ∃ n, r = gptr n 0 5 ∧ q = decB n (dnew l) :: h := by
  refine w_body1 Tryz.func112 rfl rfl ?_
  repeat' (first | apply w_seq | apply w_region | apply o_nil | (apply o_g tyOk; exact rfl; exact rfl) | (apply o_box (tt := tyT); iterate 5 exact rfl) | (apply o_build tyOk; exact rfl; exact rfl; (focus (first | with_reducible exact pl177)); exact rfl; (focus (repeat (first | exact BuildR.nil | (apply BuildR.one; exact rfl; exact rfl; (first | (focus ((repeat (first | exact SetAt.zero | apply SetAt.succ)); done))))))); exact rfl) | apply thenS_normal | apply w_block | ((with_reducible apply Sd.mk); (first | exact True.intro)) | intro A)
  refine w_loop (S := Nat × Dec) (fun x => [(3, gptr A 0 5), (7, I x.1)]) (fun x => decB A x.2 :: h) (fun x => x.1 ≤ 4 ∧ x.2.rest.length ≤ 1000000 ∧ dnexts (4 - x.1) x.2 = dnexts 4 ⟨l, 0, 4294967295, false, false⟩) (fun x => 4 - x.1)
    (0, ⟨l, 0, 4294967295, false, false⟩) ⟨by omega, hl, rfl⟩ (by repeat' (first | exact trivial | refine ⟨rfl, ?_⟩ | refine ⟨congrArg some ?_, ?_⟩)) (by repeat (first | with_reducible exact Take.nil | with_reducible apply Take.c | with_reducible apply Take.drop)) ?_
  rintro ⟨k, d⟩ ⟨hk, hd, he⟩
  dsimp only at *
  by_cases hkl : k < 4
  · repeat' (first | apply w_seq | apply w_region | apply o_nil | (apply o_g tyOk; exact rfl; exact rfl) | (apply o_ar tyOk; exact rfl; exact rfl) | (apply o_call; exact rfl; exact rfl; (focus (first | exact rfl)); exact rfl; (focus (exact ⟨_, next_any _ d _ (by omega), by repeat (first | with_reducible exact Take.nil)⟩)); rintro _ _ rfl) | (apply w_dT; exact rfl; (focus (first | omega))) | apply thenS_normal | apply blockS_normal | apply w_skip | apply w_block | ((with_reducible apply Sd.mk); (first | exact True.intro)) | ((with_reducible apply Wr.mk); (first | exact IntWalk.i64_in _ (by omega))))
    exact ⟨(k + 1, dnext d), ⟨hkl, by have := (dnext_ok d).2.2.2; show (dnext d).rest.length ≤ _; omega, by rw [← he, show 4 - k = (4 - (k + 1)) + 1 by omega]; rfl⟩, by show 4 - (k + 1) < 4 - k; omega, (by repeat' (first | exact trivial | refine ⟨rfl, ?_⟩ | refine ⟨congrArg some ?_, ?_⟩)), (by repeat (first | with_reducible exact Take.nil | with_reducible apply Take.c | with_reducible apply Take.drop))⟩
  · rw [show 4 - k = 0 by omega] at he
    obtain rfl : d = dnexts 4 ⟨l, 0, 4294967295, false, false⟩ := he
    repeat' (first | apply w_seq | apply w_region | apply o_nil | (apply w_draw; (focus (kernel_rfl)); (focus (kernel_rfl))) | (apply o_g tyOk; exact rfl; exact rfl) | (apply o_load tyOk; (iterate 3 exact rfl); (focus (exact pk))) | (apply o_store tyOk; (iterate 4 exact rfl); (focus (exact up))) | (apply w_dF; exact rfl; (focus (first | omega))) | apply thenS_normal | apply thenS_exit | apply blockS_exit | apply w_ret | apply w_exit | ((with_reducible apply Sd.mk); (first | exact True.intro)) | ((with_reducible apply Ln.mk); (first | rfl)) | ((with_reducible apply Ce.mk); (first | rfl)) | ((with_reducible apply Se.mk); (first | (focus ((repeat (first | exact SetAt.zero | apply SetAt.succ)); done)))) | exact True.intro | exact Or.inl rfl | apply And.intro | exact rfl)
    (apply s_fin; (exact (show ResS _ _ _ _ [_] from ⟨rfl, trivial⟩)); (focus (exact ⟨A, rfl, rfl⟩)); (focus (repeat (first | with_reducible exact Take.nil | with_reducible apply Take.c | ((with_reducible apply Take.cE); (first | exact rfl | (apply blkE; (focus (first | exact rfl | exact recs_snocE rfl | exact map_snocE rfl | exact congrArg (fun v => [v]) (gslE rfl rfl (by first | rfl | exact ‹_› | omega | (simp ; first | done | omega)) (by first | rfl | exact ‹_› | omega | (simp ; first | done | omega)) rfl)))))) | with_reducible apply Take.drop))))

def dnorm : Nat → Dec → Dec
  | 0, d => d
  | k + 1, d => if d.size < 16777216 then dnorm k { dnext d with size := (dnext d).size * 256 } else d
def dstep (d : Dec) (z : Int) : Dec × Int := if d.code < bound d.size z then ({ d with size := bound d.size z }, 0) else ({ d with code := d.code - bound d.size z, size := d.size - bound d.size z }, 1)
def dbit (d : Dec) (z : Int) : Dec × Int := (dnorm 2 (dstep d z).1, (dstep d z).2)
theorem dstep_ok {d : Dec} (h : DecOk d) (z : Int) : (dstep d z).1.rest.length ≤ 1000000 ∧ (0 ≤ (dstep d z).1.code ∧ (dstep d z).1.code ≤ 4294967295) ∧ 8192 ≤ (dstep d z).1.size ∧ (dstep d z).1.size ≤ 4294967295 := by
  have h1 := size_dvd h.size z
  have := h.rest; have := h.code; have := h.size
  unfold dstep
  split <;> (dsimp only; omega)
theorem dnorm_go {k : Nat} {d : Dec} (h : d.size < 16777216) (g : 16777216 ≤ d.size * 256 ^ k) : ∃ k', k = k' + 1 ∧ dnorm k d = dnorm k' { dnext d with size := (dnext d).size * 256 } ∧ 16777216 ≤ (dnext d).size * 256 * 256 ^ k' := by
  cases k with
  | zero => simp at g; omega
  | succ k =>
    refine ⟨k, rfl, if_pos h, ?_⟩
    rw [(dnext_ok d).2.2.1, Int.mul_assoc, ← Int.pow_succ']; exact g
theorem dnorm_end {k : Nat} {d : Dec} (h : ¬ d.size < 16777216) : dnorm k d = d := by
  cases k with
  | zero => rfl
  | succ k => exact if_neg h
theorem dnorm_ok : ∀ {k : Nat} {d : Dec}, d.rest.length ≤ 1000000 → (0 ≤ d.code ∧ d.code ≤ 4294967295) → 16777216 ≤ d.size * 256 ^ k → d.size ≤ 4294967295 → DecOk (dnorm k d)
  | 0, d, h1, h2, h3, h4 => ⟨h1, h2, by show 16777216 ≤ d.size ∧ d.size ≤ _; simp at h3; omega⟩
  | k + 1, d, h1, h2, h3, h4 => by
    by_cases hc : d.size < 16777216
    · obtain ⟨k', e0, e1, e2⟩ := dnorm_go hc h3
      obtain rfl : k = k' := by omega
      obtain ⟨g1, g2, g3, g4⟩ := dnext_ok d
      rw [e1]
      exact dnorm_ok (by show (dnext d).rest.length ≤ _; omega) ⟨g1, g2⟩ e2 (by show (dnext d).size * 256 ≤ _; omega)
    · rw [dnorm_end hc]; exact ⟨h1, h2, by omega⟩
theorem dbit_ok {d : Dec} (h : DecOk d) (z : Int) : DecOk (dbit d z).1 := by
  have h4 := dstep_ok h z
  exact dnorm_ok h4.1 h4.2.1 (by omega) h4.2.2.2
theorem dnew_ok {l : List UInt8} (hl : l.length ≤ 1000000) : DecOk (dnew l) := by
  have h1 := dnext_ok ⟨l, 0, 4294967295, false, false⟩
  have h2 := dnext_ok (dnext ⟨l, 0, 4294967295, false, false⟩)
  have h3 := dnext_ok (dnext (dnext ⟨l, 0, 4294967295, false, false⟩))
  have h4 := dnext_ok (dnext (dnext (dnext ⟨l, 0, 4294967295, false, false⟩)))
  refine ⟨?_, ⟨h4.1, h4.2.1⟩, ?_⟩
  · have : ∀ d : Dec, d.rest.length = d.rest.length := fun _ => rfl
    show (dnext (dnext (dnext (dnext ⟨l, 0, 4294967295, false, false⟩)))).rest.length ≤ _
    dsimp only at h1; omega
  · show 16777216 ≤ (dnext (dnext (dnext (dnext ⟨l, 0, 4294967295, false, false⟩)))).size ∧ (dnext (dnext (dnext (dnext ⟨l, 0, 4294967295, false, false⟩)))).size ≤ _
    dsimp only at h1; omega

theorem dBit_any (n : Nat) (z : Int) (d : Dec) (h : SH) (hok : DecOk d) :
    SRun Tryz.prog 124 [gptr n 0 5, I z] (decB n d :: h) fun r q => r = I (dbit d z).2 ∧ q = decB n (dbit d z).1 :: h := by
  have hd := size_dvd hok.size z
  unfold bound at hd
  have hz := clp_in z
  have h1 := hok.code; have h2 := hok.size; have h3 := hok.rest
  unfold dbit
  have h4 := dstep_ok hok z
  generalize hs : dstep d z = s at h4
  refine w_body2 Tryz.func124 rfl rfl ?_
  repeat' ((fail_if_success (show SWp _ _ (Code.cond (Operand.tmp 20) _ _) _ _ _)); first | apply w_seq | apply w_region | apply o_nil | (apply w_draw; (focus (kernel_rfl)); (focus (kernel_rfl))) | (apply o_g tyOk; exact rfl; exact rfl) | (apply o_ar tyOk; exact rfl; exact rfl) | (apply o_load tyOk; (iterate 3 exact rfl); (focus (exact pk))) | (apply o_callD; (iterate 4 exact rfl); (focus (exact ⟨_, clamp_any _ _, by repeat (first | with_reducible exact Take.nil)⟩)); (focus (exact fun _ _ h => h.1)); (focus ((repeat (first | exact Flat.c rfl))))) | apply thenS_normal | ((with_reducible apply Sd.mk); (first | exact True.intro | omega)) | ((with_reducible apply Ln.mk); (first | rfl)) | ((with_reducible apply Wr.mk); (first | exact w_quoU (by omega) (by omega) | exact IntWalk.u32_in _ (by omega))) | ((with_reducible apply Ce.mk); (first | rfl)) | exact True.intro | exact rfl)
  refine w_meet (S := Unit) (fun _ => [(0, gptr n 0 5), (6, I s.2)]) (fun _ => decB n s.1 :: h) (fun q => True) ?_ ?_
  · unfold dstep bound at hs
    repeat' (first | apply w_region | apply o_nil | (apply w_draw; (focus (kernel_rfl)); (focus (kernel_rfl))) | (apply o_g tyOk; exact rfl; exact rfl) | (apply o_ar tyOk; exact rfl; exact rfl) | (apply o_load tyOk; (iterate 3 exact rfl); (focus (exact pk))) | (apply o_store tyOk; (iterate 4 exact rfl); (focus (exact up))) | (apply w_if; exact rfl; all_goals intro hc) | apply thenS_normal | ((with_reducible apply Sd.mk); (first | exact True.intro)) | ((with_reducible apply Ln.mk); (first | rfl)) | ((with_reducible apply Wr.mk); (first | exact IntWalk.u32_in _ (by omega))) | ((with_reducible apply Ce.mk); (first | rfl)) | ((with_reducible apply Se.mk); (first | (focus ((repeat (first | exact SetAt.zero | apply SetAt.succ)); done)))) | exact True.intro | exact Or.inl rfl | apply And.intro | exact rfl)
    · rw [if_pos hc] at hs; subst hs
      exact ⟨(), trivial, (by repeat' (first | exact trivial | refine ⟨rfl, ?_⟩ | refine ⟨congrArg some ?_, ?_⟩)), (by repeat (first | with_reducible exact Take.nil | with_reducible apply Take.c | with_reducible apply Take.drop))⟩
    · rw [if_neg hc] at hs; subst hs
      exact ⟨(), trivial, (by repeat' (first | exact trivial | refine ⟨rfl, ?_⟩ | refine ⟨congrArg some ?_, ?_⟩)), (by repeat (first | with_reducible exact Take.nil | with_reducible apply Take.c | with_reducible apply Take.drop))⟩
  · rintro - -
    repeat' (first | apply w_seq | apply w_block)
    refine w_loop (S := Nat × Dec) (fun x => [(0, gptr n 0 5), (6, I s.2)]) (fun x => decB n x.2 :: h) (fun x => dnorm x.1 x.2 = dnorm 2 s.1 ∧ 16777216 ≤ x.2.size * 256 ^ x.1 ∧ 0 < x.2.size ∧ x.2.size ≤ 4294967295 ∧ (0 ≤ x.2.code ∧ x.2.code ≤ 4294967295) ∧ x.2.rest.length ≤ 1000000)
      (fun x => x.1) (2, s.1) ⟨rfl, by show _ ≤ s.1.size * 256 ^ 2; omega, by show 0 < s.1.size; omega, by show s.1.size ≤ _; omega, h4.2.1, h4.1⟩ (by repeat' (first | exact trivial | refine ⟨rfl, ?_⟩ | refine ⟨congrArg some ?_, ?_⟩)) (by repeat (first | with_reducible exact Take.nil | with_reducible apply Take.c | with_reducible apply Take.drop)) ?_
    rintro ⟨k, d⟩ ⟨he, g1, g2, g3, g4, g5⟩
    dsimp only at he g1 g2 g3 g4 g5 ⊢
    obtain ⟨q1, q2, q3, q4⟩ := dnext_ok d
    repeat' (first | apply w_seq | apply w_region | apply o_nil | (apply o_g tyOk; exact rfl; exact rfl) | (apply o_ar tyOk; exact rfl; exact rfl) | (apply o_load tyOk; (iterate 3 exact rfl); (focus (exact pk))) | (apply o_store tyOk; (iterate 4 exact rfl); (focus (exact up))) | (apply o_call; exact rfl; exact rfl; (focus (first | exact rfl)); exact rfl; (focus (exact ⟨_, next_any _ d _ (by omega), by repeat (first | with_reducible exact Take.nil)⟩)); rintro _ _ rfl) | (apply w_if; exact rfl; all_goals intro hc) | apply thenS_normal | apply thenS_exit | apply blockS_normal | apply blockS_exit | apply w_skip | apply w_ret | apply w_exit | apply w_block | ((with_reducible apply Sd.mk); (first | exact True.intro | omega)) | ((with_reducible apply Ln.mk); (first | rfl)) | ((with_reducible apply Wr.mk); (first | exact w_shl8u _)) | ((with_reducible apply Ce.mk); (first | rfl)) | ((with_reducible apply Se.mk); (first | (focus ((repeat (first | exact SetAt.zero | apply SetAt.succ)); done)))) | exact True.intro | exact rfl)
    · obtain ⟨k', rfl, e1, e2⟩ := dnorm_go hc g1
      rw [show (dnext d).size * 256 % 4294967296 = (dnext d).size * 256 by omega]
      exact ⟨(k', { dnext d with size := (dnext d).size * 256 }), ⟨by rw [← e1]; exact he, e2, by show 0 < (dnext d).size * 256; omega, by show (dnext d).size * 256 ≤ _; omega, ⟨q1, q2⟩, by show (dnext d).rest.length ≤ _; omega⟩, by show k' < k' + 1; omega, (by repeat' (first | exact trivial | refine ⟨rfl, ?_⟩ | refine ⟨congrArg some ?_, ?_⟩)), (by repeat (first | with_reducible exact Take.nil | with_reducible apply Take.c | with_reducible apply Take.drop))⟩
    · rw [dnorm_end hc] at he
      (apply s_fin; (exact (show ResS _ _ _ _ [_] from ⟨rfl, trivial⟩)); (focus (rw [← he]; exact ⟨rfl, rfl⟩)); (focus (repeat (first | with_reducible exact Take.nil | with_reducible apply Take.c | with_reducible apply Take.drop))))
end Go.Proofs.YtncnmfdmbfbfjaaGreat
end
section
set_option linter.unusedVariables false
set_option linter.unusedSimpArgs false
set_option maxRecDepth 4000
namespace Go.Proofs.YtncnmfdmbfbfjaaGreat
open Go.Gh Go.RowKit

theorem w_shl1 {v : Int} (h : 0 ≤ v ∧ v < 4611686018427387904) : IntKind.i64.wrap (v * 2 ^ (min (Int.toNat 1) IntKind.i64.bits)) = v * 2 := by
  rw [show (2 : Int) ^ (min (Int.toNat 1) IntKind.i64.bits) = 2 from rfl]
  exact IntWalk.i64_in _ (by omega)
theorem or1n (q c : Nat) (hq : q < 4611686018427387904) (hc : c < 2) : (BitVec.ofInt 64 ((q * 2 : Nat) : Int) ||| BitVec.ofInt 64 (c : Int)).toNat = q * 2 + c := by
  rw [BitVec.ofInt_natCast, BitVec.ofInt_natCast, BitVec.toNat_or, BitVec.toNat_ofNat, BitVec.toNat_ofNat, Nat.mod_eq_of_lt (by omega), Nat.mod_eq_of_lt (by omega), Nat.mul_comm q 2]
  exact or_low 1 hc
theorem w_or1 {v c : Int} (h : 0 ≤ v ∧ v < 4611686018427387904) (hc : 0 ≤ c ∧ c < 2) : IntKind.i64.wrap ((BitVec.ofInt IntKind.i64.bits (v * 2) ||| BitVec.ofInt IntKind.i64.bits c).toNat : Int) = v * 2 + c := by
  obtain ⟨q, rfl⟩ := Int.eq_ofNat_of_zero_le h.1
  obtain ⟨c, rfl⟩ := Int.eq_ofNat_of_zero_le hc.1
  rw [show (IntKind.i64.bits) = 64 from rfl, show ((q : Int)) * 2 = ((q * 2 : Nat) : Int) by omega, or1n q c (by omega) (by omega), IntWalk.i64_in _ (by omega)]
  omega

theorem dbit_bit (d : Dec) (z : Int) : 0 ≤ (dbit d z).2 ∧ (dbit d z).2 < 2 := by
  show 0 ≤ (dstep d z).2 ∧ (dstep d z).2 < 2
  unfold dstep; split <;> (dsimp only; omega)
def dbits : Nat → Dec → Int → Dec × Int
  | 0, d, v => (d, v)
  | k + 1, d, v => dbits k (dbit d 1024).1 (v * 2 + (dbit d 1024).2)
def ddir (d : Dec) (n : Int) : Dec × Int := if n < 0 ∨ 62 < n then (d, 0) else dbits n.toNat d 0
theorem dbits_ok : ∀ {k : Nat} {d : Dec} {v : Int}, DecOk d → DecOk (dbits k d v).1
  | 0, _, _, h => h
  | k + 1, d, v, h => by unfold dbits; exact dbits_ok (dbit_ok h _)
theorem ddir_ok {d : Dec} (h : DecOk d) (n : Int) : DecOk (ddir d n).1 := by
  unfold ddir
  split
  · exact h
  · exact dbits_ok h
theorem two_le {j n : Nat} (h : j ≤ n) : (2 : Int) ^ j ≤ 2 ^ n := by
  have := Nat.pow_le_pow_right (n := 2) (by decide) h
  exact_mod_cast this

theorem dDirect_any (n : Nat) (x : Int) (d : Dec) (h : SH) (hok : DecOk d) :
    SRun Tryz.prog 125 [gptr n 0 5, I x] (decB n d :: h) fun r q => r = I (ddir d x).2 ∧ q = decB n (ddir d x).1 :: h := by
  refine w_body2 Tryz.func125 rfl rfl ?_
  repeat' (first | apply w_seq | apply w_region | apply o_nil | (apply o_g tyOk; exact rfl; exact rfl) | (apply o_want; exact rfl; exact rfl) | (apply o_skip; iterate 4 exact rfl) | (apply o_guardF; (iterate 3 exact rfl); all_goals intro hc) | (apply w_true; exact rfl) | (apply w_if; exact rfl; all_goals intro hc) | apply thenS_normal | apply thenS_ret | apply w_skip | apply w_ret | apply w_block | ((with_reducible apply Sd.mk); (first | exact True.intro)))
  all_goals first | (apply s_fin; (exact (show ResS _ _ _ _ [_] from ⟨rfl, trivial⟩)); (focus (rw [show ddir d x = (d, 0) from if_pos (by omega)]; exact ⟨rfl, rfl⟩)); (focus (repeat (first | with_reducible exact Take.nil | with_reducible apply Take.c | with_reducible apply Take.drop)))) | skip
  obtain ⟨m, rfl⟩ := Int.eq_ofNat_of_zero_le (show 0 ≤ x by omega)
  have he : ddir d m = dbits m d 0 := if_neg (by omega)
  refine w_loop (S := Nat × Dec × Int) (fun x => [(0, gptr n 0 5), (5, I x.2.2), (12, I m), (13, I x.1)]) (fun x => decB n x.2.1 :: h) (fun x => DecOk x.2.1 ∧ x.1 ≤ m ∧ dbits (m - x.1) x.2.1 x.2.2 = ddir d m ∧ 0 ≤ x.2.2 ∧ x.2.2 < 2 ^ x.1)
    (fun x => m - x.1) (0, d, 0) ⟨hok, by omega, he.symm, Int.le_refl 0, by show (0 : Int) < 2 ^ 0; decide⟩ (by repeat' (first | exact trivial | refine ⟨rfl, ?_⟩ | refine ⟨congrArg some ?_, ?_⟩)) (by repeat (first | with_reducible exact Take.nil | with_reducible apply Take.c | with_reducible apply Take.drop)) ?_
  rintro ⟨k, d1, v⟩ ⟨hok1, hk, he1, hv1, hv2⟩
  dsimp only at *
  by_cases hkm : k < m
  · have h61 := two_le (show k ≤ 61 by omega)
    rw [show (2 : Int) ^ 61 = 2305843009213693952 from rfl] at h61
    have hb := dbit_bit d1 1024
    repeat' (first | apply w_seq | apply w_region | apply o_nil | (apply o_g tyOk; exact rfl; exact rfl) | (apply o_ar tyOk; exact rfl; exact rfl) | (apply o_call; exact rfl; exact rfl; (focus (first | exact rfl)); exact rfl; (focus (exact ⟨_, dBit_any _ _ _ _ hok1, by repeat (first | with_reducible exact Take.nil)⟩)); rintro _ _ ⟨rfl, rfl⟩) | (apply w_dT; exact rfl; (focus (first | omega))) | apply thenS_normal | apply blockS_normal | apply w_skip | apply w_block | ((with_reducible apply Sd.mk); (first | exact True.intro | omega)) | ((with_reducible apply Wr.mk); (first | exact w_shl1 (by omega) | exact w_or1 (by omega) (by omega) | exact IntWalk.i64_in _ (by omega))))
    refine ⟨(k + 1, (dbit d1 1024).1, v * 2 + (dbit d1 1024).2), ⟨dbit_ok hok1 _, hkm, ?_, by show 0 ≤ v * 2 + _; omega, ?_⟩, by show m - (k + 1) < _; omega, (by repeat' (first | exact trivial | refine ⟨rfl, ?_⟩ | refine ⟨congrArg some ?_, ?_⟩)), (by repeat (first | with_reducible exact Take.nil | with_reducible apply Take.c | with_reducible apply Take.drop))⟩
    · rw [← he1, show m - k = (m - (k + 1)) + 1 by omega]; rfl
    · show v * 2 + _ < (2 : Int) ^ (k + 1)
      rw [Int.pow_succ]; omega
  · obtain rfl : k = m := by omega
    rw [Nat.sub_self] at he1
    repeat' (first | apply w_seq | apply w_region | apply o_nil | (apply o_g tyOk; exact rfl; exact rfl) | (apply w_dF; exact rfl; (focus (first | omega))) | apply thenS_normal | apply thenS_exit | apply blockS_exit | apply w_ret | apply w_exit | ((with_reducible apply Sd.mk); (first | exact True.intro)))
    (apply s_fin; (exact (show ResS _ _ _ _ [_] from ⟨rfl, trivial⟩)); (focus (rw [← he1]; exact ⟨rfl, rfl⟩)); (focus (repeat (first | with_reducible exact Take.nil | with_reducible apply Take.c | ((with_reducible apply Take.cE); (first | exact rfl | (apply blkE; (focus (first | exact rfl | exact recs_snocE rfl | exact map_snocE rfl | exact congrArg (fun v => [v]) (gslE rfl rfl (by first | rfl | exact ‹_› | omega | (simp ; first | done | omega)) (by first | rfl | exact ‹_› | omega | (simp ; first | done | omega)) rfl)))))) | with_reducible apply Take.drop))))

def dend (d : Dec) : Int := if d.missing = true ∨ d.full = true ∨ d.rest ≠ [] ∨ d.code ≠ 0 then 12 else 0
end Go.Proofs.YtncnmfdmbfbfjaaGreat
end
section
set_option linter.unusedVariables false
set_option linter.unusedSimpArgs false
set_option maxRecDepth 4000
namespace Go.Gh
open Go.RowKit

theorem VRel.one {φ : Nat → Loc} {L : Lens} {v u : Value} (h : Val φ L v u) : VRel φ L [v] #[u] :=
  ⟨rfl, fun i w hi => by
    cases i with
    | zero => simp only [List.getElem?_cons_zero, Option.some.injEq] at hi; subst hi; exact ⟨u, rfl, h⟩
    | succ i => simp at hi⟩
section
variable {P : Program} {N : Fr} {ops : Array Oper} {Q : Post} {rest : List Oper} {o : Oper} {a : AF} {H : Heap}
theorem a_s2a (T : TypeId) (x : Operand) {A off v len fl n E : Nat} (ho : o.op = .sliceToArrayPointer T x) (hx : ev a x = some (.slice (some ⟨A, off, some v⟩) len fl)) (hT : P.underlying T = some (.array n E)) (hn : n ≤ len) : APure P N o a H (.pointer (some ⟨A, off, some v⟩)) := by
  refine ⟨fun _ _ φ w ac _ hf => ?_⟩
  have h1 := ev_rel hf hx
  generalize hu : ac.eval x = u at h1
  cases h1 with
  | slc _ _ _ m _ _ cap c hL hv hc hm h =>
    refine ⟨.pointer (some c), .ptr _ _ _ m _ hL hv (fun e => ⟨(h e).1, (h e).2.2⟩), fun w _ => ?_⟩
    unfold execOp
    simp [ho, hu, Instr.arrayAt, run_underlying hT, Nat.not_lt.2 hn]
end
section
variable {P : Program} {sz : Nat} {ops : Array Oper} {Q : SPost} {rest : List Oper} {a : AF} {h : SH} {m : Mode} {t : Nat} {ty : TypeId} {pos : String} {aft : Array Edge}
theorem o_s2a {T : Nat} {x : Operand} {A off v len fl n E : Nat} (hx : ev a x = some (.slice (some ⟨A, off, some v⟩) len fl)) (hT : P.underlying T = some (.array n E)) (hn : Sd (n ≤ len)) (hN : Nat.blt t sz = true) (k : GO m.next P sz ops Q rest ((t, .pointer (some ⟨A, off, some v⟩)) :: a) h) :
    GO m P sz ops Q (⟨some t, .sliceToArrayPointer T x, ty, pos, aft, none⟩ :: rest) a h := o_pure (fun _ _ _ hag => a_s2a T x rfl ((hag.ev (by simp [Op.operands, Call.operands])).trans hx) hT hn.h) hN k
end
end Go.Gh
end
section
set_option linter.unusedVariables false
set_option linter.unusedSimpArgs false
set_option maxRecDepth 4000
namespace Go.Proofs.YtncnmfdmbfbfjaaGreat
open Go.Gh Go.RowKit

theorem mclamp_any (z : Int) (h : SH) : SRun Tryz.prog 95 [I z] h fun r q => r = I (clp z) ∧ q = h := by
  refine w_body1 Tryz.func95 rfl rfl ?_
  repeat' (first | apply w_seq | apply w_region | apply o_nil | (apply o_g tyOk; exact rfl; exact rfl) | (apply o_min; iterate 3 exact rfl) | (apply o_max; iterate 3 exact rfl) | apply thenS_normal | apply w_ret | ((with_reducible apply Sd.mk); (first | exact True.intro)))
  (apply s_fin; (exact (show ResS _ _ _ _ [_] from ⟨rfl, trivial⟩)); (focus (exact ⟨rfl, rfl⟩)); (focus (repeat (first | with_reducible exact Take.nil | with_reducible apply Take.c | with_reducible apply Take.drop))))
/-- What a probability becomes. -/
def adp (z b : Int) : Int := if b = 0 then clp z + (2048 - clp z) / 32 else clp z - clp z / 32
theorem Adapt_any (z b : Int) (h : SH) : SRun Tryz.prog 73 [I z, I b] h fun r q => r = I (adp z b) ∧ q = h := by
  have hz := clp_in z
  unfold adp
  refine w_body2 Tryz.func73 rfl rfl ?_
  repeat' (first | apply w_seq | apply w_region | apply o_nil | (apply o_g tyOk; exact rfl; exact rfl) | (apply o_ar tyOk; exact rfl; exact rfl) | (apply o_call; exact rfl; exact rfl; (focus (first | exact rfl)); exact rfl; (focus (exact ⟨_, mclamp_any _ _, by repeat (first | with_reducible exact Take.nil)⟩)); rintro _ _ ⟨rfl, rfl⟩) | (apply w_if; exact rfl; all_goals intro hc) | apply thenS_normal | apply thenS_ret | apply w_skip | apply w_ret | ((with_reducible apply Sd.mk); (first | exact True.intro | omega)) | ((with_reducible apply Wr.mk); (first | exact w_quoI (by omega) (by omega) | exact IntWalk.i64_in _ (by omega))))
  all_goals first
    | (rw [if_pos (by assumption)]; (apply s_fin; (exact (show ResS _ _ _ _ [_] from ⟨rfl, trivial⟩)); (focus (exact ⟨rfl, rfl⟩)); (focus (repeat (first | with_reducible exact Take.nil | with_reducible apply Take.c | with_reducible apply Take.drop)))))
    | (rw [if_neg (by assumption)]; (apply s_fin; (exact (show ResS _ _ _ _ [_] from ⟨rfl, trivial⟩)); (focus (exact ⟨rfl, rfl⟩)); (focus (repeat (first | with_reducible exact Take.nil | with_reducible apply Take.c | with_reducible apply Take.drop)))))
    | trace_state
end Go.Proofs.YtncnmfdmbfbfjaaGreat
end
section
set_option linter.unusedVariables false
set_option linter.unusedSimpArgs false
set_option maxRecDepth 4000
namespace Go.Gh
open Go.RowKit Go.MapKept

section
variable {α : Type}
def mget [DecidableEq α] : List (α × Value) → α → Option Value
  | [], _ => none
  | e :: r, a => if e.1 = a then some e.2 else mget r a
def mput [DecidableEq α] : List (α × Value) → α → Value → List (α × Value)
  | [], a, x => [(a, x)]
  | e :: r, a, x => if e.1 = a then (a, x) :: r else e :: mput r a x
structure KeyF (d : TypeDesc) (kf : α → Value) : Prop where
  is : ∀ a, IsKey d (kf a)
  inj : ∀ a b, kf a = kf b → a = b
  sc : ∀ a, scalar (kf a) = true
/-- Entries of a map and what they are. -/
inductive EntR (φ : Nat → Loc) (L : Lens) (kf : α → Value) : List (α × Value) → List MapEntry → Prop
  | nil : EntR φ L kf [] []
  | cons {a : α} {v : Value} {e : MapEntry} {l es} (hk : e.key = kf a) (hv : Val φ L v e.val) (r : EntR φ L kf l es) : EntR φ L kf ((a, v) :: l) (e :: es)
theorem EntR.len {φ : Nat → Loc} {L : Lens} {kf : α → Value} {l : List (α × Value)} {es : List MapEntry} (h : EntR φ L kf l es) : es.length = l.length := by
  induction h with
  | nil => rfl
  | cons _ _ _ ih => simp [ih]
theorem EntR.keys {φ : Nat → Loc} {L : Lens} {kf : α → Value} {d : TypeDesc} (K : KeyF d kf) {l : List (α × Value)} {es : List MapEntry} (h : EntR φ L kf l es) : ∀ x ∈ es, IsKey d x.key := by
  induction h with
  | nil => intro x hx; cases hx
  | cons hk _ _ ih =>
    intro x hx
    rcases List.mem_cons.1 hx with rfl | hx
    · rw [hk]; exact K.is _
    · exact ih x hx
theorem EntR.mono {φ φ' : Nat → Loc} {L L' : Lens} (e : Ext φ L φ' L') {kf : α → Value} {l : List (α × Value)} {es : List MapEntry} (h : EntR φ L kf l es) : EntR φ' L' kf l es := by
  induction h with
  | nil => exact .nil
  | cons hk hv _ ih => exact .cons hk (hv.mono e) ih
theorem EntR.push [DecidableEq α] {φ : Nat → Loc} {L : Lens} {kf : α → Value} (a : α) {x x' : Value} (hx : Val φ L x x') (cl : Nat) {l : List (α × Value)} {es : List MapEntry} (h : EntR φ L kf l es) (hn : mget l a = none) : EntR φ L kf (mput l a x) (es ++ [⟨kf a, x', cl⟩]) := by
  induction h with
  | nil => exact .cons rfl hx .nil
  | @cons b v e l es hk hv _ ih =>
    unfold mget at hn
    split at hn
    · cases hn
    · rename_i hne
      unfold mput
      rw [if_neg hne]
      exact .cons hk hv (ih hn)
theorem EntR.modify [DecidableEq α] {φ : Nat → Loc} {L : Lens} {kf : α → Value} {d : TypeDesc} (K : KeyF d kf) (a : α) {x x' : Value} (hx : Val φ L x x') {l : List (α × Value)} {es : List MapEntry} (h : EntR φ L kf l es) :
    ∀ (j : Nat) (i : Nat) (y : Value), Instr.findNow d (kf a) es i = some (some (i + j, y)) → EntR φ L kf (mput l a x) (es.modify j fun e => { e with key := kf a, val := x' }) := by
  induction h with
  | nil => intro j i y hf; cases hf
  | @cons b v e l es hk hv hr' ih =>
    intro j i y hf
    obtain ⟨r, hr, hiff⟩ := sameNow_of_keys (K.is a) (hk ▸ K.is b : IsKey d e.key)
    cases r with
    | true =>
      have : b = a := (K.inj _ _ ((hiff.1 rfl).trans hk)).symm
      subst this
      simp only [Instr.findNow, hr, Option.some.injEq, Prod.mk.injEq] at hf
      obtain rfl : j = 0 := by omega
      unfold mput
      rw [if_pos rfl]
      exact .cons rfl hx hr'
    | false =>
      have hne : b ≠ a := fun q => by have := hiff.2 (by rw [hk, q]); cases this
      simp only [Instr.findNow, hr] at hf
      have hj : j ≠ 0 := fun h0 => by
        subst h0
        rcases findNow_spec (K.is a) es (i + 1) (hr'.keys K) with ⟨h1, _⟩ | ⟨q, e', h1, _⟩
        · rw [h1] at hf; cases hf
        · rw [h1] at hf; simp only [Option.some.injEq, Prod.mk.injEq] at hf; omega
      obtain ⟨j, rfl⟩ : ∃ m, j = m + 1 := ⟨j - 1, by omega⟩
      unfold mput
      rw [if_neg hne]
      exact .cons hk hv (ih j (i + 1) y (by rw [hf]; congr 3; omega))
end
section
variable {P : Program} {N : Fr} {o : Oper} {a : AF} {H : Heap} {α : Type}
/-- x[lo:h:h] -/
theorem a_slice3 (T : TypeId) (x lo hi mx : Operand) {A off n len fl E s b : Nat} {z : Option Value} {i' j k : IntKind} {i h : Int} (ho : o.op = .slice T x (some lo) (some hi) (some mx)) (hx : ev a x = some (gsl A off n len fl))
    (hlo : ev a lo = some (.int i' i)) (hhi : ev a hi = some (.int j h)) (hmx : ev a mx = some (.int k h)) (hT : P.underlying T = some (.slice E)) (hI : tinf P E = some (z, s, b)) (h1 : 0 ≤ i ∧ i ≤ h ∧ h ≤ len) (h2 : i < h) : APure P N o a H (gsl A (off + i.toNat * s) n (h - i).toNat 0) := by
  refine ⟨fun B0 w0 φ w ac r hf => ?_⟩
  have hu := ev_rel hf hx
  have e1 := (ev_rel hf hlo).scalar rfl
  have e2 := (ev_rel hf hhi).scalar rfl
  have e3 := (ev_rel hf hmx).scalar rfl
  generalize hv : ac.eval x = u at hu
  cases hu with
  | slc _ _ _ m _ _ cap c hL hle hc hm hh =>
    refine ⟨.slice (some (c.add (i.toNat * s))) (h.toNat - i.toNat) (h.toNat - i.toNat), ?_, fun w _ => ?_⟩
    · rw [show h.toNat - i.toNat = (h - i).toNat from by omega]
      exact .slc _ _ _ m _ _ _ _ hL hle (by omega) (by omega) (fun e => ⟨by rw [(hh e).1, addr_add, Nat.add_assoc], fun q => absurd rfl q, (hh e).2.2⟩)
    · unfold execOp
      simp only [ho, hv, e1, e2, e3, Instr.sliceAt, Instr.slice, Option.map_some, Sem.run_bind, run_underlying hT, Result.andThen_ok, Instr.sliceBounds, Instr.sliceBound, asIntOf, Sem.run_pure,
        Sem.run_ite, if_pos (show 0 ≤ h ∧ h ≤ (cap : Int) from ⟨by omega, by omega⟩), if_pos (show 0 ≤ h ∧ h ≤ (h.toNat : Int) from ⟨by omega, by omega⟩), if_pos (show 0 ≤ i ∧ i ≤ (h.toNat : Int) from ⟨by omega, by omega⟩), run_sizeOf hI]
      rw [if_neg (by omega)]
end
section
variable {P : Program} {tt : TT} {sz : Nat} {ops : Array Oper} {Q : SPost} {rest : List Oper} {a : AF} {h h' h1 h2 : SH} {m : Mode} {t : Nat} {op : Op} {ty : TypeId} {pos : String} {aft : Array Edge} {p : Prop} {v : Value} {α : Type}
theorem o_slice3 {T : Nat} {x w y z : Operand} {A off n len fl E s1 b1 s b : Nat} {z1 z2 : Option Value} {i' j kk : IntKind} {lo i : Int} {tk : TK} (ht : tt.Ok P) (hx : ev a x = some (gsl A off n len fl)) (hw : ev a w = some (.int i' lo)) (hy : ev a y = some (.int j i)) (hz : ev a z = some (.int kk i)) (hT : tt.get T = some ⟨.slice E, s1, b1, z1⟩) (hE : tt.get E = some ⟨tk, s, b, z2⟩)
    (hi : Sd ((0 ≤ lo ∧ lo ≤ i ∧ i ≤ len) ∧ lo < i)) (hN : Nat.blt t sz = true) (k : GO m.next P sz ops Q rest ((t, gsl A (off + lo.toNat * s) n (i - lo).toNat 0) :: a) h) : GO m P sz ops Q (⟨some t, .slice T x (some w) (some y) (some z), ty, pos, aft, none⟩ :: rest) a h :=
  o_pure (fun _ _ _ hag => let ⟨_, hI, _⟩ := te_inf (TT.get_ok ht hE); a_slice3 T x w y z rfl ((hag.ev (by simp [Op.operands, Call.operands])).trans hx) ((hag.ev (by simp [Op.operands, Call.operands])).trans hw) ((hag.ev (by simp [Op.operands, Call.operands])).trans hy) ((hag.ev (by simp [Op.operands, Call.operands])).trans hz) (te_slice (TT.get_ok ht hT) rfl) hI hi.1.1 hi.1.2) hN k
end
end Go.Gh
end
section
set_option linter.unusedVariables false
set_option linter.unusedSimpArgs false
set_option maxRecDepth 4000
namespace Go.Proofs.YtncnmfdmbfbfjaaGreat
open Go.Gh Go.RowKit

abbrev iV (z : Int) : Value := I z
abbrev trF (x : Int × Value) : List Value := [I x.1, x.2]
theorem trW : ∀ x : Int × Value, (trF x).length = 2 := fun _ => rfl
/-- A row of trees over one row of nodes. -/
def trR (N M K b : Nat) (i : Nat) : Int × Value := ((b : Int), gsl N (i * K) M K 0)
theorem shl_nat {m b M : Nat} (hm : m * 2 ^ b = M) (hb : b ≤ 8) (hM : M ≤ 100000) : IntKind.i64.wrap ((m : Int) * 2 ^ (min ((b : Int)).toNat IntKind.i64.bits)) = ((M : Nat) : Int) := by
  have h64 : IntKind.i64.bits = 64 := rfl
  rw [Int.toNat_natCast, h64, Nat.min_eq_left (by omega), ← hm]
  have e : ((m * 2 ^ b : Nat) : Int) = (m : Int) * 2 ^ b := by rw [Int.natCast_mul, Int.natCast_pow]; rfl
  rw [← e]
  exact IntWalk.i64_in _ (by omega)
theorem rep_of {α : Type} [Inhabited α] {l : List α} {x : α} {n : Nat} (hl : l.length = n) (h : ∀ j, j < n → l[j]! = x) : l = List.replicate n x := by
  apply List.ext_getElem (by simpa using hl)
  intro i h1 h2
  have := h i (by omega)
  rw [getElem!_pos l i h1] at this
  simpa using this
theorem map_of {α : Type} [Inhabited α] {l : List α} {f : Nat → α} {n : Nat} (hl : l.length = n) (h : ∀ j, j < n → l[j]! = f j) : l = (List.range n).map f := by
  apply List.ext_getElem (by simpa using hl)
  intro i h1 h2
  have := h i (by omega)
  rw [getElem!_pos l i h1] at this
  simpa using this
theorem set_bang {α : Type} [Inhabited α] {l : List α} {i j : Nat} {x : α} (hi : i < l.length) (hj : j < l.length) : (l.set i x)[j]! = if i = j then x else l[j]! := by
  rw [getElem!_pos (l.set i x) j (by simpa using hj), List.getElem_set]
  split
  · rfl
  · rw [getElem!_pos l j hj]
def Planted (n b : Nat) (h : SH) (r : Value) (q : SH) : Prop :=
  ∃ T N, r = gsl T 0 (n * 2) n 2 ∧ q = (T, ⟨recs trF ((List.range n).map (trR N (n * 2 ^ b) (2 ^ b) b)), false⟩) :: (N, ⟨(List.replicate (n * 2 ^ b) (1024 : Int)).map iV, false⟩) :: h
theorem plant_any (n b : Nat) (h : SH) (hn : 1 ≤ n ∧ n ≤ 8) (hb : 1 ≤ b ∧ b ≤ 8) :
    SRun Tryz.prog 92 [I n, I b] h fun r q => Planted n b h r q := by
  have hK : 2 ^ b ≤ 256 := Nat.pow_le_pow_right (n := 2) (by decide) hb.2
  have hK0 : 0 < 2 ^ b := Nat.two_pow_pos b
  unfold Planted
  have hsh : ∀ m : Nat, m ≤ 9 → IntKind.i64.wrap ((m : Int) * 2 ^ (min ((b : Int)).toNat IntKind.i64.bits)) = ((m * 2 ^ b : Nat) : Int) := fun m hm => shl_nat rfl hb.2 (by
    have := Nat.mul_le_mul hm hK; omega)
  generalize hKe : 2 ^ b = K at *
  have hM1 : n * K ≤ 2048 := Nat.mul_le_mul hn.2 hK
  have hmul : ∀ i, i < n → i * K + K ≤ n * K ∧ (i + 1) * K = i * K + K := fun i hi => ⟨by have := Nat.mul_le_mul_right K (Nat.succ_le_of_lt hi); rw [Nat.succ_mul] at this; exact this, Nat.succ_mul i K⟩
  have hshn := hsh n (by omega)
  generalize hM : n * K = M at *
  have hz1 : zrow (.int .i64 0) (M * 1) = (List.replicate M (0 : Int)).map iV := map_zrow (f := iV) 0 rfl rfl M
  have hz2 : zrow (.agg ⟨[I 0, .slice none 0 0]⟩) (n * 2) = recs trF (List.replicate n (0, .slice none 0 0)) := recs_zrow trW (by decide) _ rfl n
  refine w_body2 Tryz.func92 rfl rfl ?_
  repeat' (first | apply w_seq | apply w_region | apply o_nil | (apply o_g tyOk; exact rfl; exact rfl) | (apply o_ar tyOk; exact rfl; exact rfl) | (apply o_makeSlice tyOk; (iterate 6 exact rfl); (focus (decide)); (focus (first | omega)); (focus (first | exact hz1)); exact rfl) | apply thenS_normal | apply w_block | ((with_reducible apply Sd.mk); (first | exact True.intro | omega)) | ((with_reducible apply Wr.mk); (first | exact hshn)) | intro A)
  obtain ⟨N, rfl⟩ : ∃ N, N = A := ⟨_, rfl⟩
  have hg1 : gsl N 0 (M * 1) M 1 = gsl N 0 M M 1 := gslE rfl rfl (Nat.mul_one _) rfl rfl
  refine w_loop (S := Nat × List Int) (fun x => [(0, I n), (1, I b), (5, gsl N 0 M M 1), (15, gsl N 0 M M 1), (16, I M), (17, I x.1)]) (fun x => (N, ⟨x.2.map iV, false⟩) :: h) (fun x => x.1 ≤ M ∧ x.2.length = M ∧ ∀ j, j < x.1 → x.2[j]! = 1024) (fun x => M - x.1) (0, List.replicate M 0) ⟨Nat.zero_le _, by simp, fun j hj => absurd hj (Nat.not_lt_zero _)⟩ ⟨rfl, rfl, congrArg some hg1, congrArg some hg1, rfl, rfl, trivial⟩ (by repeat (first | with_reducible exact Take.nil | with_reducible apply Take.c | with_reducible apply Take.drop)) ?_
  rintro ⟨i, L⟩ ⟨hi, hl, hall⟩
  dsimp only at hi hl hall ⊢
  by_cases hiM : i < M
  · repeat' (first | apply w_seq | apply w_region | apply o_nil | (apply o_g tyOk; exact rfl; exact rfl) | (apply o_ar tyOk; exact rfl; exact rfl) | (apply o_store tyOk; (iterate 4 exact rfl); (focus (exact up))) | (apply w_dT; exact rfl; (focus (first | omega))) | apply thenS_normal | apply blockS_normal | apply w_skip | apply w_block | ((with_reducible apply Sd.mk); (first | exact True.intro | omega)) | ((with_reducible apply Ln.mk); (first | (simp ; first | done | omega))) | ((with_reducible apply Wr.mk); (first | exact IntWalk.i64_in _ (by omega))) | ((with_reducible apply Se.mk); (first | exact setAt_mapZ (by omega))) | exact True.intro)
    all_goals first
      | (exfalso; omega)
      | exact ⟨(i + 1, L.set i 1024), ⟨hiM, by simpa using hl, fun j hj => by
          rw [set_bang (by omega) (by omega)]
          split
          · rfl
          · exact hall j (by omega)⟩, by show M - (i + 1) < M - i; omega, (by repeat' (first | exact trivial | refine ⟨rfl, ?_⟩ | refine ⟨congrArg some ?_, ?_⟩)), (by repeat (first | with_reducible exact Take.nil | with_reducible apply Take.c | with_reducible apply Take.drop))⟩
      | trace_state
  · obtain rfl : i = M := by omega
    obtain rfl := rep_of hl hall
    clear hall hl hi hiM
    repeat' (first | apply w_seq | apply w_region | apply o_nil | (apply o_g tyOk; exact rfl; exact rfl) | (apply o_makeSlice tyOk; (iterate 6 exact rfl); (focus (decide)); (focus (first | omega)); (focus (first | exact hz2)); exact rfl) | (apply w_dF; exact rfl; (focus (first | omega))) | apply thenS_normal | apply thenS_exit | apply blockS_exit | apply w_exit | apply w_block | ((with_reducible apply Sd.mk); (first | exact True.intro)) | intro A)
    obtain ⟨T, rfl⟩ : ∃ T, T = A := ⟨_, rfl⟩
    refine w_loop (S := Nat × List (Int × Value)) (fun x => [(0, I n), (1, I b), (5, gsl N 0 i i 1), (7, gsl T 0 (n * 2) n 2), (26, gsl T 0 (n * 2) n 2), (27, I n), (28, I x.1)]) (fun x => (T, ⟨recs trF x.2, false⟩) :: (N, ⟨(List.replicate i (1024 : Int)).map iV, false⟩) :: h) (fun x => x.1 ≤ n ∧ x.2.length = n ∧ ∀ j, j < x.1 → x.2[j]! = trR N i K b j) (fun x => n - x.1) (0, List.replicate n (0, .slice none 0 0)) ⟨Nat.zero_le _, by simp, fun j hj => absurd hj (Nat.not_lt_zero _)⟩ (by repeat' (first | exact trivial | refine ⟨rfl, ?_⟩ | refine ⟨congrArg some ?_, ?_⟩)) (by repeat (first | with_reducible exact Take.nil | with_reducible apply Take.c | with_reducible apply Take.drop)) ?_
    rintro ⟨m, L⟩ ⟨hm, hl, hall⟩
    dsimp only at hm hl hall ⊢
    have hlr := recs_len (f := trF) (l := L) trW
    by_cases hmn : m < n
    · obtain ⟨hm1, hm2⟩ := hmul m hmn
      have hs1 := hsh m (by omega)
      have hs2 : IntKind.i64.wrap (((m : Int) + 1) * 2 ^ (min ((b : Int)).toNat IntKind.i64.bits)) = (((m + 1) * K : Nat) : Int) := hsh (m + 1) (by omega)
      rw [hm2] at hs2
      obtain ⟨w, hw⟩ : ∃ w, w = m * K := ⟨_, rfl⟩
      rw [← hw] at hs1 hs2 hm1
      have hput : PutAt (recs trF L) (0 + ((m : Int)).toNat * 2) [I b, gsl N (0 + ((w : Nat) : Int).toNat * 1) i (((w + K : Nat) : Int) - ((w : Nat) : Int)).toNat 0] (recs trF (L.set m (trR N i K b m))) := by
        have e : [I (b : Int), gsl N (0 + ((w : Nat) : Int).toNat * 1) i (((w + K : Nat) : Int) - ((w : Nat) : Int)).toNat 0] = trF (trR N i K b m) := by
          unfold trR trF
          rw [gslE (A := N) (A' := N) rfl (show 0 + ((w : Nat) : Int).toNat * 1 = m * K by omega) rfl (show (((w + K : Nat) : Int) - ((w : Nat) : Int)).toNat = K by omega) rfl]
        rw [e]
        exact putAt_recZ trW (by omega)
      repeat' (first | apply w_seq | apply w_region | apply o_nil | (apply w_draw; (focus (kernel_rfl)); (focus (kernel_rfl))) | (apply o_g tyOk; exact rfl; exact rfl) | (apply o_ar tyOk; exact rfl; exact rfl) | (apply o_stores tyOk; (iterate 4 exact rfl); (focus (exact ⟨rfl⟩)); (focus (exact up))) | (apply o_build tyOk; exact rfl; exact rfl; (focus (first | with_reducible exact pl120)); exact rfl; (focus (repeat (first | exact BuildR.nil | (apply BuildR.one; exact rfl; exact rfl; (first | (focus ((repeat (first | exact SetAt.zero | apply SetAt.succ)); done))))))); exact rfl) | (apply o_slice3 tyOk; iterate 6 exact rfl) | (apply w_dT; exact rfl; (focus (first | omega))) | apply thenS_normal | apply blockS_normal | apply w_skip | apply w_block | ((with_reducible apply Sd.mk); (first | exact True.intro | omega)) | ((with_reducible apply Ln.mk); (first | omega)) | ((with_reducible apply Wr.mk); (first | exact hs1 | exact hs2 | exact IntWalk.i64_in _ (by omega))) | ((with_reducible apply Pu.mk); (first | exact hput)) | exact True.intro | exact rfl)
      all_goals first
        | (exfalso; omega)
        | exact ⟨(m + 1, L.set m (trR N i K b m)), ⟨hmn, by simpa using hl, fun j hj => by
            rw [set_bang (by omega) (by omega)]
            split
            · subst_vars; rfl
            · exact hall j (by omega)⟩, by show n - (m + 1) < n - m; omega, (by repeat' (first | exact trivial | refine ⟨rfl, ?_⟩ | refine ⟨congrArg some ?_, ?_⟩)), (by repeat (first | with_reducible exact Take.nil | with_reducible apply Take.c | with_reducible apply Take.drop))⟩
        | trace_state
    · obtain rfl : m = n := by omega
      obtain rfl := map_of hl hall
      repeat' (first | apply w_seq | apply w_region | apply o_nil | (apply o_g tyOk; exact rfl; exact rfl) | (apply w_dF; exact rfl; (focus (first | omega))) | apply thenS_normal | apply thenS_exit | apply blockS_exit | apply w_ret | apply w_exit | ((with_reducible apply Sd.mk); (first | exact True.intro)))
      all_goals first
        | (exfalso; omega)
        | (apply s_fin; (exact (show ResS _ _ _ _ [_] from ⟨rfl, trivial⟩)); (focus (exact ⟨T, N, rfl, rfl⟩)); (focus (repeat (first | with_reducible exact Take.nil | with_reducible apply Take.c | with_reducible apply Take.drop))))
        | trace_state
end Go.Proofs.YtncnmfdmbfbfjaaGreat
end
section
set_option linter.unusedVariables false
set_option linter.unusedSimpArgs false
set_option maxRecDepth 4000
namespace Go.Proofs.YtncnmfdmbfbfjaaGreat
open Go.Gh Go.RowKit

abbrev nodes (L : List Int) : List Value := L.map iV
/-- The trees of the model of bytes. -/
def trs8 (N : Nat) : List (Int × Value) := (List.range 8).map (trR N 2048 256 8)
theorem plant8 (h : SH) : SRun Tryz.prog 92 [I 8, I 8] h fun r q =>
    ∃ T N, r = gsl T 0 16 8 2 ∧ q = (T, ⟨recs trF (trs8 N), false⟩) :: (N, ⟨nodes (List.replicate 2048 1024), false⟩) :: h := plant_any 8 8 h (by decide) (by decide)
theorem plant1 (b : Nat) (h : SH) (hb : 1 ≤ b ∧ b ≤ 8) : SRun Tryz.prog 92 [I 1, I b] h fun r q =>
    ∃ T N, r = gsl T 0 2 1 2 ∧ q = (T, ⟨[I b, gsl N 0 (2 ^ b) (2 ^ b) 0], false⟩) :: (N, ⟨nodes (List.replicate (2 ^ b) 1024), false⟩) :: h :=
  (plant_any 1 b h (by decide) hb).mono fun r q ⟨T, N, h1, h2⟩ => ⟨T, N, h1, by
    rw [h2, Nat.one_mul]
    show (T, (⟨[I b, gsl N (0 * 2 ^ b) (2 ^ b) (2 ^ b) 0], false⟩ : Blk)) :: _ = _
    rw [Nat.zero_mul]⟩
theorem NewNumbers_any (h : SH) : SRun Tryz.prog 71 [] h fun r q =>
    ∃ M N, r = gptr M 0 2 ∧ q = (M, ⟨[I 6, gsl N 0 64 64 0], false⟩) :: (N, ⟨nodes (List.replicate 64 1024), false⟩) :: h := by
  have hp : ∀ h, SRun Tryz.prog 92 [I 1, I 6] h fun r q => ∃ T N, r = gsl T 0 2 1 2 ∧ q = (T, ⟨[I 6, gsl N 0 64 64 0], false⟩) :: (N, ⟨nodes (List.replicate 64 1024), false⟩) :: h := fun h => plant1 6 h (by decide)
  generalize nodes (List.replicate 64 1024) = X at *
  refine w_body0 Tryz.func71 rfl rfl ?_
  repeat' (first | apply w_seq | apply w_region | apply o_nil | (apply o_g tyOk; exact rfl; exact rfl) | (apply o_loads tyOk; (iterate 3 exact rfl); (focus (exact pk))) | (apply o_box (tt := tyT); iterate 5 exact rfl) | (apply o_build tyOk; exact rfl; exact rfl; (focus (first | with_reducible exact pl127)); exact rfl; (focus (repeat (first | exact BuildR.nil | (apply BuildR.agg; exact rfl; exact rfl; (first | exact putAt_all rfl))))); exact rfl) | (apply o_call; exact rfl; exact rfl; (focus (first | exact rfl)); exact rfl; (focus (exact ⟨_, hp _, by repeat (first | with_reducible exact Take.nil)⟩)); rintro _ _ ⟨T, N, rfl, rfl⟩) | apply thenS_normal | apply w_ret | ((with_reducible apply Sd.mk); (first | exact True.intro | omega)) | ((with_reducible apply Ln.mk); (first | rfl)) | ((with_reducible apply Su.mk); (first | exact subAt_all)) | exact True.intro | intro A | exact rfl)
  all_goals first
    | (apply s_fin; (exact (show ResS _ _ _ _ [_] from ⟨rfl, trivial⟩)); (focus (exact ⟨A, N, rfl, rfl⟩)); (focus (repeat (first | with_reducible exact Take.nil | with_reducible apply Take.c | with_reducible apply Take.drop))))
    | trace_state
theorem NewTree_any (z : Int) (h : SH) : SRun Tryz.prog 69 [I z] h fun r q =>
    (1 ≤ z ∧ z ≤ 8 ∧ ∃ T N, r = .tuple #[gptr T 0 2, I 0] ∧ q = (T, ⟨[I z, gsl N 0 (2 ^ z.toNat) (2 ^ z.toNat) 0], false⟩) :: (N, ⟨nodes (List.replicate (2 ^ z.toNat) 1024), false⟩) :: h) ∨ (¬ (1 ≤ z ∧ z ≤ 8) ∧ r = .tuple #[.pointer none, I 2] ∧ q = h) := by
  by_cases hz : 1 ≤ z ∧ z ≤ 8
  · obtain ⟨b, rfl⟩ := Int.eq_ofNat_of_zero_le (show 0 ≤ z by omega)
    have hp := fun h => plant1 b h (by omega)
    rw [Int.toNat_natCast]
    generalize hX : nodes (List.replicate (2 ^ b) 1024) = X at *
    refine w_body1 Tryz.func69 rfl rfl ?_
    repeat' (first | apply w_seq | apply w_region | apply o_nil | (apply o_g tyOk; exact rfl; exact rfl) | (apply o_call; exact rfl; exact rfl; (focus (first | exact rfl)); exact rfl; (focus (exact ⟨_, hp _, by repeat (first | with_reducible exact Take.nil)⟩)); rintro _ _ ⟨T, N, rfl, rfl⟩) | (apply o_want; exact rfl; exact rfl) | (apply o_gF; (iterate 3 exact rfl); (focus (first | omega))) | (apply w_dF; exact rfl; (focus (first | omega))) | apply thenS_normal | apply w_skip | apply w_ret | ((with_reducible apply Sd.mk); (first | exact True.intro | omega)))
    all_goals first
      | (exfalso; omega)
      | (apply s_fin; (exact (show ResS _ _ _ _ [_, _] from ⟨rfl, ⟨rfl, trivial⟩⟩)); (focus (exact .inl ⟨hz.1, hz.2, T, N, rfl, rfl⟩)); (focus (repeat (first | with_reducible exact Take.nil | with_reducible apply Take.c | with_reducible apply Take.drop))))
      | trace_state
  · refine w_body1 Tryz.func69 rfl rfl ?_
    repeat' (first | apply w_seq | apply w_region | apply o_nil | (apply o_g tyOk; exact rfl; exact rfl) | (apply o_want; exact rfl; exact rfl) | (apply o_skip; iterate 4 exact rfl) | (apply o_guardF; (iterate 3 exact rfl); all_goals intro hc) | (apply w_true; exact rfl) | (apply w_dT; exact rfl; (focus (first | omega))) | apply thenS_normal | apply thenS_ret | apply w_ret | ((with_reducible apply Sd.mk); (first | exact True.intro)))
    all_goals first
      | (exfalso; omega)
      | (apply s_fin; (exact (show ResS _ _ _ _ [_, _] from ⟨rfl, ⟨rfl, trivial⟩⟩)); (focus (exact .inr ⟨hz, rfl, rfl⟩)); (focus (repeat (first | with_reducible exact Take.nil | with_reducible apply Take.c | with_reducible apply Take.drop))))
      | trace_state
theorem NewBytes_any (h : SH) : SRun Tryz.prog 70 [] h fun r q =>
    ∃ M N, r = gptr M 0 17 ∧ q = (M, ⟨recs trF (trs8 N) ++ [Y 0], false⟩) :: (N, ⟨nodes (List.replicate 2048 1024), false⟩) :: h := by
  have hp := plant8
  generalize nodes (List.replicate 2048 1024) = X at *
  have hput : ∀ N, PutAt [.int .i64 0, .slice none 0 0, .int .i64 0, .slice none 0 0, .int .i64 0, .slice none 0 0, .int .i64 0, .slice none 0 0, .int .i64 0, .slice none 0 0, .int .i64 0, .slice none 0 0, .int .i64 0, .slice none 0 0, .int .i64 0, .slice none 0 0, .int .u8 0] 0 (recs trF (trs8 N)) (recs trF (trs8 N) ++ [Y 0]) := fun N => ⟨(by decide : 16 ≤ 17), rfl⟩
  refine w_body0 Tryz.func70 rfl rfl ?_
  repeat' (first | apply w_seq | apply w_region | apply o_nil | (apply o_g tyOk; exact rfl; exact rfl) | (apply o_loads tyOk; (iterate 3 exact rfl); (focus (exact pk))) | (apply o_box (tt := tyT); iterate 5 exact rfl) | (apply o_build tyOk; exact rfl; exact rfl; (focus (first | with_reducible exact pl124)); exact rfl; (focus (repeat (first | exact BuildR.nil | (apply BuildR.agg; exact rfl; exact rfl; (first | exact hput _))))); exact rfl) | (apply o_s2a; exact rfl; (focus ((first | exact rfl))); (focus (exact ⟨by omega⟩)); exact rfl) | (apply o_call; exact rfl; exact rfl; (focus (first | exact rfl)); exact rfl; (focus (exact ⟨_, hp _, by repeat (first | with_reducible exact Take.nil)⟩)); rintro _ _ ⟨T, N, rfl, rfl⟩) | apply thenS_normal | apply w_ret | ((with_reducible apply Sd.mk); (first | exact True.intro)) | ((with_reducible apply Ln.mk); (first | rfl)) | ((with_reducible apply Su.mk); (first | exact subAt_all)) | exact True.intro | intro A | exact rfl)
  all_goals first
    | (apply s_fin; (exact (show ResS _ _ _ _ [_] from ⟨rfl, trivial⟩)); (focus (exact ⟨A, N, rfl, rfl⟩)); (focus (repeat (first | with_reducible exact Take.nil | with_reducible apply Take.c | with_reducible apply Take.drop))))
    | trace_state
end Go.Proofs.YtncnmfdmbfbfjaaGreat
end
section
set_option linter.unusedVariables false
set_option linter.unusedSimpArgs false
set_option maxRecDepth 4000
namespace Go.Proofs.YtncnmfdmbfbfjaaGreat
open Go.Gh Go.RowKit

/-- A tree's way: the tree, the encoder and the place behind k bits. -/
def tenc (v : Int) : Nat → List Int → Enc → Nat → List Int × Enc
  | 0, t, e, _ => (t, e)
  | k + 1, t, e, j => tenc v k (t.set j (adp t[j]! (v / 2 ^ k % 2))) (ebit e t[j]! (v / 2 ^ k % 2)) (2 * j + (v / 2 ^ k % 2).toNat)
theorem tenc_ok {v : Int} : ∀ {k n : Nat} {t : List Int} {e : Enc} {j : Nat}, EncOk n e → EncOk (n + 2 * k) (tenc v k t e j).2 ∧ (tenc v k t e j).1.length = t.length
  | 0, n, t, e, j, h => ⟨h, rfl⟩
  | k + 1, n, t, e, j, h => by
    have := tenc_ok (v := v) (k := k) (t := t.set j (adp t[j]! (v / 2 ^ k % 2))) (j := 2 * j + (v / 2 ^ k % 2).toNat) (ebit_ok h t[j]! (v / 2 ^ k % 2))
    rw [show n + 2 * (k + 1) = n + 2 + 2 * k by omega]
    exact ⟨this.1, by rw [show (tenc v (k + 1) t e j).1 = (tenc v k (t.set j (adp t[j]! (v / 2 ^ k % 2))) (ebit e t[j]! (v / 2 ^ k % 2)) (2 * j + (v / 2 ^ k % 2).toNat)).1 from rfl, this.2, List.length_set]⟩
/-- A node in a row of nodes. -/
theorem node_cell {A t Z : List Int} {j : Nat} (hj : j < t.length) : (nodes (A ++ t ++ Z))[A.length + ((j : Int)).toNat * 1]? = some (I t[j]!) := by
  rw [Int.toNat_natCast, Nat.mul_one, List.getElem?_map, List.append_assoc, List.getElem?_append_right (by omega), Nat.add_sub_cancel_left, List.getElem?_append_left hj, getElem!_pos t j hj, List.getElem?_eq_getElem hj]
  rfl
theorem node_set {A t Z : List Int} {j : Nat} (hj : j < t.length) (x : Int) : SetAt (nodes (A ++ t ++ Z)) (A.length + ((j : Int)).toNat * 1) (I x) (nodes (A ++ t.set j x ++ Z)) := by
  have e : nodes (A ++ t.set j x ++ Z) = (nodes (A ++ t ++ Z)).set (A.length + j) (I x) := by
    unfold nodes
    rw [List.append_assoc, List.append_assoc, show I x = iV x from rfl, ← List.map_set, List.set_append_right _ _ (by omega), Nat.add_sub_cancel_left, List.set_append_left _ _ hj]
  rw [Int.toNat_natCast, Nat.mul_one, e]
  exact SetAt.any (by simp; omega)
end Go.Proofs.YtncnmfdmbfbfjaaGreat
end
