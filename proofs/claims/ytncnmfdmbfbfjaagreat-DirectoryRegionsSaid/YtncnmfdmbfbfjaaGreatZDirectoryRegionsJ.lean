/- Part 10 of the proof of the law DirectoryRegions: texts merged. No condition. -/
import Derived.Test.YtncnmfdmbfbfjaaGreatZDirectoryRegionsI
section
set_option linter.unusedVariables false
set_option linter.unusedSimpArgs false
set_option maxRecDepth 4000
namespace Go.Proofs.YtncnmfdmbfbfjaaGreat
open Go.Gh Go.RowKit
set_option maxRecDepth 8000

set_option maxHeartbeats 4000000 in
theorem RegionsD_any (d : Ex3) (l : List Eny) (v : Value) (h : SH) (_ : okX d) (hv : Has h (recs enF l) 7 l.length v) (_ : ∀ x ∈ l, okY x) (_ : l.length ≤ maxLen) :
    SRun Tryz.prog 8 [drV d v] h fun r q => r = B true := by
  obtain ⟨ad, fl, rfl, hh⟩ := id hv
  have hlb := en_len l
  by_cases hl : l.length ≤ 40
  · have hV := fun h hv => DValid_any d l (.slice ad l.length fl) h hv (by omega)
    by_cases hd : dvl d l
    · rw [decide_eq_true hd] at hV
      have hR := fun h hv => DRegions_any d l (.slice ad l.length fl) h hv (by omega) hd
      have hrl : (rgs d l).length = l.length + 1 := by simp [rgs]
      have hpl := pr_len (rgs d l)
      have hfr := vld_front hd
      have hW : ∀ (A : Nat) (h h1 : SH), Pick h A ⟨[I 0, I 4] ++ recs prF (rgs d l), false⟩ h1 → SRun Tryz.prog 26 [I 1024, gsl A 0 (2 + (rgs d l).length * 2) (1 + (rgs d l).length) 2] h fun r q => r = B true ∧ q = h := fun A h h1 p => by
        have := Valid_any 1024 ((0, 4) :: rgs d l) (gsl A 0 (2 + (rgs d l).length * 2) (1 + (rgs d l).length) 2) h ⟨_, _, by rw [List.length_cons, Nat.add_comm 1], fun _ => ⟨A, false, h1, by rw [List.length_cons, show 2 * ((rgs d l).length + 1) = 2 + (rgs d l).length * 2 by omega], p⟩⟩ (by rw [List.length_cons]; omega)
        rwa [decide_eq_true hfr] at this
      have hget : ∀ i, i < (rgs d l).length → ∃ x : Ex3, fit x ∧ (rgs d l)[i]! = rgn x ∧ (i = 0 → x = d) ∧ (∀ k, i = k + 1 → k < l.length ∧ x = plc l[k]!) := by
        intro i hi
        cases i with
        | zero => exact ⟨d, hd.2.1.1, rfl, fun _ => rfl, fun k hk => by omega⟩
        | succ k =>
          have hk : k < l.length := by omega
          refine ⟨plc l[k]!, hd.2.1.2 _ (sbang_mem hk), ?_, fun h => by omega, fun j hj => ?_⟩
          · show (rgn d :: l.map fun e => rgn (plc e))[k + 1]! = _
            rw [getElem!_pos _ (k + 1) (by simp; omega), getElem!_pos l k hk]
            simp
          · obtain rfl : k = j := by omega
            exact ⟨hk, rfl⟩
      have hok : ∀ i, i < (rgs d l).length → ok1 1024 (rgs d l)[i]! := fun i hi => hfr.2.1 _ (List.mem_cons_of_mem _ (sbang_mem hi))
      generalize rgs d l = R at *
      obtain ⟨d1, d2, d3⟩ := d
      have hV : ∀ h, Has h (recs enF l) 7 l.length (.slice ad l.length fl) → SRun Tryz.prog 13 [.agg ⟨[I d1, I d2, I d3, .slice ad l.length fl]⟩] h fun r q => r = B true ∧ q = h := hV
      have hR : ∀ h, Has h (recs enF l) 7 l.length (.slice ad l.length fl) → SRun Tryz.prog 15 [.agg ⟨[I d1, I d2, I d3, .slice ad l.length fl]⟩] h fun r q => ∃ A, r = gsl A 0 (R.length * 2) R.length 2 ∧ q = (A, ⟨recs prF R, false⟩) :: h := hR
      show SRun _ _ [.agg ⟨[I d1, I d2, I d3, .slice ad l.length fl]⟩] h _
      refine w_body1 Tryz.func8 rfl rfl ?_
      repeat' (first | apply w_seq | apply w_region | apply o_nil | (apply o_g tyOk; exact rfl; exact rfl) | (apply o_ar tyOk; exact rfl; exact rfl) | (apply o_notB; exact rfl; exact rfl) | (apply o_load tyOk; (iterate 3 exact rfl); (focus (exact pk))) | (apply o_loads tyOk; (iterate 3 exact rfl); (focus (exact pk))) | (apply o_box (tt := tyT); iterate 5 exact rfl) | (apply o_build tyOk; exact rfl; exact rfl; (focus (first | with_reducible exact pl53)); exact rfl; (focus (repeat (first | exact BuildR.nil | (apply BuildR.one; exact rfl; exact rfl; (first | (focus ((repeat (first | exact SetAt.zero | apply SetAt.succ)); done))))))); exact rfl) | (apply o_buildSlice tyOk; (iterate 5 exact rfl); (focus (decide)); exact rfl; (focus (decide)); (focus (repeat (first | exact CatR.last rfl))); exact rfl) | (apply o_append tyOk; (iterate 5 exact rfl); (focus (exact ⟨by decide⟩)); (focus (exact up)); (focus (exact pk))) | (apply o_call; exact rfl; exact rfl; (focus (first | exact rfl)); exact rfl; (focus (exact ⟨_, awakeD_any _, by repeat (first | with_reducible exact Take.nil)⟩)); rintro _ _ ⟨rfl, rfl⟩) | (apply o_call; exact rfl; exact rfl; (focus (first | exact rfl)); exact rfl; (focus (exact ⟨_, hV _ (hv.re (.drop .nil)), by repeat (first | with_reducible exact Take.nil)⟩)); rintro _ _ ⟨rfl, rfl⟩) | (apply o_call; exact rfl; exact rfl; (focus (first | exact rfl)); exact rfl; (focus (exact ⟨_, hR _ (hv.re (.drop .nil)), by repeat (first | with_reducible exact Take.nil)⟩)); rintro _ _ ⟨A3, rfl, rfl⟩) | (apply o_call; exact rfl; exact rfl; (focus (first | exact rfl)); exact rfl; (focus (exact ⟨_, hW _ _ _ pk, by repeat (first | with_reducible exact Take.nil)⟩)); rintro _ _ ⟨rfl, rfl⟩) | (apply o_want; exact rfl; exact rfl) | (apply o_gF; (iterate 3 exact rfl); (focus (first | omega))) | (apply w_false; exact rfl) | apply thenS_normal | apply w_skip | apply w_block | ((with_reducible apply Sd.mk); (first | exact True.intro | (constructor <;> first | omega | (unfold maxLen; omega)))) | ((with_reducible apply Ln.mk); (first | rfl | (simp [hpl]; first | done | omega))) | ((with_reducible apply Wr.mk); (first | exact IntWalk.i64_in _ (by omega))) | ((with_reducible apply Ce.mk); (first | rfl)) | ((with_reducible apply Su.mk); (first | exact subAt_all)) | exact recs_all (fun _ => rfl) | exact True.intro | intro A | exact rfl)
      all_goals first | contradiction | (exfalso; omega) | skip
      rename_i A2
      refine w_loop (S := Nat) (fun i => [(1, gptr A2 0 4), (35, gsl A3 0 (R.length * 2) R.length 2), (36, I R.length), (37, I i)])
        (fun i => (A3, ⟨recs prF R, false⟩) :: (A2, ⟨[I d1, I d2, I d3, .slice ad l.length fl], false⟩) :: h) (fun i => i ≤ R.length) (fun i => R.length - i) 0 (Nat.zero_le _) (by repeat' (first | exact trivial | refine ⟨rfl, ?_⟩ | refine ⟨congrArg some ?_, ?_⟩)) (by repeat (first | with_reducible exact Take.nil | with_reducible apply Take.c | with_reducible apply Take.drop)) ?_
      rintro i hi
      by_cases hil : i < R.length
      · obtain ⟨x, hx, hRx, hx0, hxk⟩ := hget i hil
        have hk := hok i hil
        obtain ⟨rm1, rm2, rm3⟩ := rgn_room hx
        have hxl := hx.2.1
        rw [← hRx] at rm1 rm2 rm3
        have hsR : SubAt (recs prF R) (0 + ((i : Int)).toNat * 2) (prF R[i]!) := subAt_recZ (fun _ => rfl) hil
        generalize R[i]! = y at *
        obtain ⟨a, b⟩ := y
        dsimp only at rm1 rm2 rm3 hk
        have hsR : SubAt (recs prF R) (0 + ((i : Int)).toNat * 2) [I a, I b] := hsR
        cases i with
        | zero =>
          obtain rfl := hx0 rfl
          dsimp only at rm1 rm2 rm3 hxl
          repeat' (first | apply w_seq | apply w_region | apply o_nil | (apply o_loadH tyOk; (iterate 5 exact rfl); (focus (exact pk))) | (apply o_g tyOk; exact rfl; exact rfl) | (apply o_ar tyOk; exact rfl; exact rfl) | (apply o_load tyOk; (iterate 3 exact rfl); (focus (exact pk))) | (apply o_loads tyOk; (iterate 3 exact rfl); (focus (exact pk))) | (apply o_stores tyOk; (iterate 4 exact rfl); (focus (exact ⟨rfl⟩)); (focus (exact up))) | (apply o_alloc tyOk; iterate 5 exact rfl) | (apply o_want; exact rfl; exact rfl) | (apply o_gF; (iterate 3 exact rfl); (focus (first | omega))) | (apply w_false; exact rfl) | (apply w_dT; exact rfl; (focus (first | omega))) | (apply w_dF; exact rfl; (focus (first | omega))) | apply thenS_normal | apply blockS_normal | apply w_skip | apply w_block | ((with_reducible apply Sd.mk); (first | exact True.intro | omega)) | ((with_reducible apply Ln.mk); (first | rfl | (simp [hpl]; first | done | omega))) | ((with_reducible apply Wr.mk); (first | exact IntWalk.i64_in _ (by omega))) | ((with_reducible apply Ce.mk); (first | rfl)) | ((with_reducible apply Pu.mk); (first | exact putAt_all rfl)) | ((with_reducible apply Su.mk); (first | exact hsR)) | exact True.intro | intro A | exact rfl)
          all_goals first
            | contradiction
            | (exfalso; omega)
            | exact ⟨1, by omega, by omega, (by repeat' (first | exact trivial | refine ⟨rfl, ?_⟩ | refine ⟨congrArg some ?_, ?_⟩)), (by repeat (first | with_reducible exact Take.nil | with_reducible apply Take.c | with_reducible apply Take.drop))⟩
            | trace_state
        | succ k =>
          obtain ⟨hkl, hxe⟩ := hxk k rfl
          obtain ⟨A', ro, h1, rfl, hp1⟩ := hh (by omega)
          have hidx : (((k + 1 : Nat) : Int) - 1).toNat = k := by omega
          have hsub : SubAt (recs enF l) (0 + (((k + 1 : Nat) : Int) - 1).toNat * 7 + 4) (exF x) := fun j u hj => by
            have := subAt_recZ (f := enF) (w := 7) (l := l) (i := k) (fun _ => rfl) hkl (4 + j) u (by
              rw [← hj, hxe]
              match j, hj with
              | 0, hj => rfl
              | 1, hj => rfl
              | 2, hj => rfl)
            rw [← Nat.add_assoc, Int.toNat_natCast] at this
            rw [hidx]
            exact this
          obtain ⟨x1, x2, x3⟩ := x
          dsimp only at rm1 rm2 rm3 hxl
          have hsub : SubAt (recs enF l) (0 + (((k + 1 : Nat) : Int) - 1).toNat * 7 + 4) [I x1, I x2, I x3] := hsub
          repeat' (first | apply w_seq | apply w_region | apply o_nil | (apply o_loadH tyOk; (iterate 5 exact rfl); (focus (exact pk))) | (apply o_g tyOk; exact rfl; exact rfl) | (apply o_ar tyOk; exact rfl; exact rfl) | (apply o_load tyOk; (iterate 3 exact rfl); (focus (exact pk))) | (apply o_loads tyOk; (iterate 3 exact rfl); (focus (exact pk))) | (apply o_stores tyOk; (iterate 4 exact rfl); (focus (exact ⟨rfl⟩)); (focus (exact up))) | (apply o_alloc tyOk; iterate 5 exact rfl) | (apply o_want; exact rfl; exact rfl) | (apply o_gF; (iterate 3 exact rfl); (focus (first | omega))) | (apply w_dT; exact rfl; (focus (first | omega))) | (apply w_dF; exact rfl; (focus (first | omega))) | apply thenS_normal | apply blockS_normal | apply w_skip | apply w_block | ((with_reducible apply Sd.mk); (first | exact True.intro | omega)) | ((with_reducible apply Ln.mk); (first | rfl | omega | (simp [hpl, hlb]; first | done | omega))) | ((with_reducible apply Wr.mk); (first | exact IntWalk.i64_in _ (by omega))) | ((with_reducible apply Ce.mk); (first | rfl)) | ((with_reducible apply Pu.mk); (first | exact putAt_all rfl)) | ((with_reducible apply Su.mk); (first | exact hsR | exact hsub)) | exact True.intro | intro A | exact rfl)
          all_goals first
            | contradiction
            | (exfalso; omega)
            | exact ⟨k + 2, by omega, by omega, (by repeat' (first | exact trivial | refine ⟨rfl, ?_⟩ | refine ⟨congrArg some ?_, ?_⟩)), (by repeat (first | with_reducible exact Take.nil | with_reducible apply Take.c | with_reducible apply Take.drop))⟩
            | trace_state
      · obtain rfl : i = R.length := by omega
        repeat' (first | apply w_seq | apply w_region | apply o_nil | (apply o_g tyOk; exact rfl; exact rfl) | (apply w_dF; exact rfl; (focus (first | omega))) | apply thenS_normal | apply thenS_exit | apply blockS_exit | apply w_ret | apply w_exit | ((with_reducible apply Sd.mk); (first | exact True.intro)))
        all_goals first
          | contradiction
          | (exfalso; omega)
          | (apply s_fin; (exact (show ResS _ _ _ _ [_] from ⟨rfl, trivial⟩)); (focus (exact rfl)); (focus (repeat (first | with_reducible exact Take.nil | with_reducible apply Take.c | with_reducible apply Take.drop))))
          | trace_state
    · rw [decide_eq_false hd] at hV
      obtain ⟨d1, d2, d3⟩ := d
      have hV : ∀ h, Has h (recs enF l) 7 l.length (.slice ad l.length fl) → SRun Tryz.prog 13 [.agg ⟨[I d1, I d2, I d3, .slice ad l.length fl]⟩] h fun r q => r = B false ∧ q = h := hV
      show SRun _ _ [.agg ⟨[I d1, I d2, I d3, .slice ad l.length fl]⟩] h _
      refine w_body1 Tryz.func8 rfl rfl ?_
      repeat' ((fail_if_success (show SWp _ _ (Code.seq (Code.region 5 _ _) _) _ _ _)); (fail_if_success (show SWp _ _ (Code.region 5 _ _) _ _ _)); first | apply w_seq | apply w_region | apply o_nil | (apply o_g tyOk; exact rfl; exact rfl) | (apply o_notB; exact rfl; exact rfl) | (apply o_load tyOk; (iterate 3 exact rfl); (focus (exact pk))) | (apply o_loads tyOk; (iterate 3 exact rfl); (focus (exact pk))) | (apply o_box (tt := tyT); iterate 5 exact rfl) | (apply o_call; exact rfl; exact rfl; (focus (first | exact rfl)); exact rfl; (focus (exact ⟨_, awakeD_any _, by repeat (first | with_reducible exact Take.nil)⟩)); rintro _ _ ⟨rfl, rfl⟩) | (apply o_call; exact rfl; exact rfl; (focus (first | exact rfl)); exact rfl; (focus (exact ⟨_, hV _ (hv.re (.drop .nil)), by repeat (first | with_reducible exact Take.nil)⟩)); rintro _ _ ⟨rfl, rfl⟩) | (apply o_want; exact rfl; exact rfl) | (apply o_gF; (iterate 3 exact rfl); (focus (first | omega))) | (apply w_true; exact rfl) | (apply w_false; exact rfl) | apply thenS_normal | apply thenS_ret | apply w_skip | apply w_ret | ((with_reducible apply Sd.mk); (first | exact True.intro)) | ((with_reducible apply Ln.mk); (first | rfl)) | ((with_reducible apply Ce.mk); (first | rfl)) | ((with_reducible apply Su.mk); (first | exact subAt_all)) | exact True.intro | intro A | exact rfl)
      all_goals first
        | contradiction
        | (exfalso; omega)
        | (apply s_fin; (exact (show ResS _ _ _ _ [_] from ⟨rfl, trivial⟩)); (focus (exact rfl)); (focus (repeat (first | with_reducible exact Take.nil | with_reducible apply Take.c | with_reducible apply Take.drop))))
        | trace_state
  · obtain ⟨d1, d2, d3⟩ := d
    show SRun _ _ [.agg ⟨[I d1, I d2, I d3, .slice ad l.length fl]⟩] h _
    refine w_body1 Tryz.func8 rfl rfl ?_
    repeat' ((fail_if_success (show SWp _ _ (Code.seq (Code.region 5 _ _) _) _ _ _)); (fail_if_success (show SWp _ _ (Code.region 5 _ _) _ _ _)); first | apply w_seq | apply w_region | apply o_nil | (apply o_g tyOk; exact rfl; exact rfl) | (apply o_notB; exact rfl; exact rfl) | (apply o_load tyOk; (iterate 3 exact rfl); (focus (exact pk))) | (apply o_box (tt := tyT); iterate 5 exact rfl) | (apply o_call; exact rfl; exact rfl; (focus (first | exact rfl)); exact rfl; (focus (exact ⟨_, awakeD_any _, by repeat (first | with_reducible exact Take.nil)⟩)); rintro _ _ ⟨rfl, rfl⟩) | (apply o_skip; iterate 4 exact rfl) | (apply o_sT; (iterate 3 exact rfl); (focus (first | omega)); exact rfl) | (apply w_true; exact rfl) | (apply w_false; exact rfl) | apply thenS_normal | apply thenS_ret | apply w_skip | apply w_ret | ((with_reducible apply Sd.mk); (first | exact True.intro)) | ((with_reducible apply Ln.mk); (first | rfl)) | ((with_reducible apply Ce.mk); (first | rfl)) | exact True.intro | intro A | exact rfl)
    all_goals first
      | contradiction
      | (exfalso; omega)
      | (apply s_fin; (exact (show ResS _ _ _ _ [_] from ⟨rfl, trivial⟩)); (focus (exact rfl)); (focus (repeat (first | with_reducible exact Take.nil | with_reducible apply Take.c | with_reducible apply Take.drop))))
      | trace_state
end Go.Proofs.YtncnmfdmbfbfjaaGreat
end
