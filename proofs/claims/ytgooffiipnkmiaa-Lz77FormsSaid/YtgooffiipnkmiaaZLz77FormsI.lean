/- Part 9 of the proof of the law Lz77Forms: texts merged. No condition. -/
import Derived.Test.YtgooffiipnkmiaaZLz77FormsH
section
set_option linter.unusedVariables false
set_option linter.unusedSimpArgs false
set_option maxRecDepth 4000
namespace Go.Proofs.Ytgooffiipnkmiaa
open Go.Gh Go.RowKit

def dfr (v : Int) : Nat → Enc → Bool
  | 0, _ => false
  | k + 1, e => fresh e 1024 (v / 2 ^ k % 2) || dfr v k (ebit e 1024 (v / 2 ^ k % 2))
def tfr (v : Int) : Nat → List Int → Enc → Nat → Bool
  | 0, _, _, _ => false
  | k + 1, t, e, j => fresh e t[j]! (v / 2 ^ k % 2) || tfr v k (t.set j (adp t[j]! (v / 2 ^ k % 2))) (ebit e t[j]! (v / 2 ^ k % 2)) (2 * j + (v / 2 ^ k % 2).toNat)
theorem ROut.comp {h q1 q2 : SH} {o o1 o2 : List UInt8} {v v1 v2 : Value} {f1 f2 : Bool} (r1 : ROut h o v f1 o1 v1 q1) (r2 : ROut q1 o1 v1 f2 o2 v2 q2) : ∃ q3, ROut h o v (f1 || f2) o2 v2 q3 ∧ Take q2 q3 := by
  cases r2 with
  | same => exact ⟨q1, by rw [Bool.or_false]; exact r1, .nil⟩
  | new o A => exact ⟨_, by rw [Bool.or_true]; exact .new o2 A, .cons .head r1.take⟩
theorem rDirect_any (x v : Int) (e : Enc) (w : Value) (h : SH) (hv : RO h e.out w) (hok : EncOk 900000 e) (hx : 1 ≤ x ∧ x ≤ 62) :
    SRun Try.prog 125 [reV w e.low e.size, I x, I v] h fun r q => ∃ w', r = reV w' (edir e x v).low (edir e x v).size ∧ ROut h e.out w (dfr v x.toNat e) (edir e x v).out w' q := by
  obtain ⟨m, rfl⟩ := Int.eq_ofNat_of_zero_le (show 0 ≤ x by omega)
  rw [show edir e m v = ebits v m e by unfold edir; rw [if_neg (by omega), Int.toNat_natCast], Int.toNat_natCast]
  obtain ⟨E, hE⟩ : ∃ E, ebits v m e = E := ⟨_, rfl⟩
  obtain ⟨F, hF⟩ : ∃ F, dfr v m e = F := ⟨_, rfl⟩
  rw [hE, hF]
  obtain ⟨o0, ho0⟩ : ∃ o0, o0 = e.out := ⟨_, rfl⟩
  rw [← ho0] at hv ⊢
  refine w_body3 Try.func125 rfl rfl ?_
  repeat' (first | apply w_seq | apply w_region | apply o_nil | (apply o_g tyOk; exact rfl; exact rfl) | (apply o_ar tyOk; exact rfl; exact rfl) | (apply o_alloc tyOk; iterate 5 exact rfl) | (apply o_box (tt := tyT); iterate 5 exact rfl) | (apply o_want; exact rfl; exact rfl) | (apply w_dF; exact rfl; (focus (first | exact ‹_› | with_reducible exact rfl | omega))) | apply thenS_normal | apply w_skip | apply w_block | ((with_reducible apply Sd.mk); (first | exact True.intro | omega | (constructor <;> first | omega | (unfold maxLen; omega)) | (unfold maxLen; omega))) | ((with_reducible apply Wr.mk); (first | exact IntWalk.i64_in _ (by omega) | exact IntWalk.u8_in _ (by omega) | exact IntWalk.u32_in _ (by omega) | exact IntWalk.u64_in _ (by omega) | exact IntKind.wrap_u8 _ | exact IntKind.wrap_u32 _ | rfl)) | intro A)
  all_goals first | (exfalso; omega) | skip
  rename_i A0
  refine w_loop (S := Nat × Enc × Value × Bool × SH × Nat) (fun x => [(2, I v), (3, gptr A0 0 3), (6, gptr A 0 3), (7, I ((x.1 : Int) - 1))]) (fun x => (A, ⟨reC (.slice none 0 0) 0 0, false⟩) :: (A0, ⟨reC x.2.2.1 x.2.1.low x.2.1.size, false⟩) :: x.2.2.2.2.1)
    (fun x => x.1 ≤ m ∧ EncOk x.2.2.2.2.2 x.2.1 ∧ x.2.2.2.2.2 + 2 * x.1 ≤ 999000 ∧ ROut h o0 w x.2.2.2.1 x.2.1.out x.2.2.1 x.2.2.2.2.1 ∧ ebits v x.1 x.2.1 = E ∧ (x.2.2.2.1 || dfr v x.1 x.2.1) = F) (fun x => x.1)
    (m, e, w, false, h, 900000) ⟨Nat.le_refl _, hok, by show 900000 + 2 * m ≤ 999000; omega, by rw [ho0]; exact .same, hE, hF⟩ (by repeat' (first | exact trivial | refine ⟨rfl, ?_⟩ | refine ⟨congrArg some ?_, ?_⟩)) (by repeat (first | with_reducible exact Take.nil | with_reducible apply Take.c | ((with_reducible apply Take.cE); (first | exact rfl | (apply blkE; (focus (first | exact rfl | exact recs_snocE rfl | exact map_snocE rfl | exact congrArg (fun v => [v]) (gslE rfl rfl (by first | rfl | exact ‹_› | omega | (simp ; first | done | omega)) (by first | rfl | exact ‹_› | omega | (simp ; first | done | omega)) rfl)))))) | with_reducible apply Take.drop)) ?_
  rintro ⟨k, e, w1, fr, q, n⟩ ⟨hk, hok, hn, hro, he, hf⟩
  dsimp only at hk hok hn hro he hf ⊢
  have hro1 := hro.ro hv
  cases k with
  | zero =>
    have he : e = E := he
    have hf : (fr || false) = F := hf
    rw [Bool.or_false] at hf
    subst he hf
    rcases id hro1 with ⟨e0, rfl⟩ | ⟨A1, p2, rfl, hp2⟩
    all_goals
      repeat' (first | apply w_seq | apply w_region | apply o_nil | (apply o_g tyOk; exact rfl; exact rfl) | (apply o_loads tyOk; (iterate 3 exact rfl); (focus (exact pk))) | (apply o_stores tyOk; (iterate 4 exact rfl); (focus (exact ⟨rfl⟩)); (focus (exact up))) | (apply w_false; exact rfl) | apply thenS_normal | apply thenS_exit | apply blockS_exit | apply w_ret | apply w_exit | ((with_reducible apply Sd.mk); (first | exact True.intro | omega | (constructor <;> first | omega | (unfold maxLen; omega)) | (unfold maxLen; omega))) | ((with_reducible apply Ln.mk); (first | rfl | exact ‹_› | omega | (simp ; first | done | omega))) | ((with_reducible apply Pu.mk); (first | exact putAt_all rfl | exact putAt_recZ (fun _ => rfl) (by omega) | exact putAt_rec (fun _ => rfl) (by omega))) | ((with_reducible apply Su.mk); (first | exact subAt_all | exact subAt_recZ (fun _ => rfl) (by omega) | exact subAt_rec (fun _ => rfl) (by omega))) | exact True.intro | exact rfl)
      all_goals first
        | (exfalso; omega)
        | (apply s_fin; (exact (show ResS _ _ _ _ [_] from (res_cell tyOk rfl rfl rfl (by exact pk) (by first | rfl | exact ‹_› | omega | (simp ; first | done | omega)) (by first | rfl | exact ‹_› | omega | (simp ; first | done | omega)) trivial))); (focus (exact ⟨_, rfl, hro⟩)); (focus (repeat (first | with_reducible exact Take.nil | with_reducible apply Take.c | ((with_reducible apply Take.cE); (first | exact rfl | (apply blkE; (focus (first | exact rfl | exact recs_snocE rfl | exact map_snocE rfl | exact congrArg (fun v => [v]) (gslE rfl rfl (by first | rfl | exact ‹_› | omega | (simp ; first | done | omega)) (by first | rfl | exact ‹_› | omega | (simp ; first | done | omega)) rfl)))))) | with_reducible apply Take.drop))))
        | trace_state
  | succ k =>
    rw [show ((k + 1 : Nat) : Int) - 1 = (k : Int) by omega]
    have he : ebits v k (ebit e 1024 (v / 2 ^ k % 2)) = E := he
    have hf : (fr || (fresh e 1024 (v / 2 ^ k % 2) || dfr v k (ebit e 1024 (v / 2 ^ k % 2)))) = F := hf
    have hok2 := ebit_ok hok 1024 (v / 2 ^ k % 2)
    cases hfr : fresh e 1024 (v / 2 ^ k % 2) with
    | false =>
      rw [hfr, Bool.false_or] at hf
      obtain ⟨hout, hB⟩ := rBit_old e 1024 (v / 2 ^ k % 2) w1 ((A, ⟨reC (.slice none 0 0) 0 0, false⟩) :: (A0, ⟨reC w1 e.low e.size, false⟩) :: q) (hro1.re (.drop (.drop .nil))) (hok.mono (by omega)) hfr
      rcases id hro1 with ⟨e0, rfl⟩ | ⟨A1, p2, rfl, hp2⟩
      all_goals
        repeat' (first | apply w_seq | apply w_region | apply o_nil | (apply w_draw; (focus (kernel_rfl)); (focus (kernel_rfl))) | (apply o_g tyOk; exact rfl; exact rfl) | (apply o_ar tyOk; exact rfl; exact rfl) | (apply o_ex; exact rfl; exact rfl) | (apply o_loads tyOk; (iterate 3 exact rfl); (focus (exact pk))) | (apply o_stores tyOk; (iterate 4 exact rfl); (focus (exact ⟨rfl⟩)); (focus (exact up))) | (apply o_callE0; (iterate 4 exact rfl); (focus (exact ⟨hB, by repeat (first | with_reducible exact Take.nil | with_reducible apply Take.c | with_reducible apply Take.drop)⟩)); (focus (first | exact List.Perm.refl _ | (simp; done) | exact List.Perm.swap _ _ _)); (focus ((intro ρ D hρ hD; refine ⟨?_, ?_⟩; (focus (repeat (first | exact VR.const rfl | (apply VR.ptr'; (focus (first | exact e1 | exact e2 | exact e3 | ((apply rho_pick hρ); (exact pk)))); (focus (first | exact d1 | exact d2 | exact d3 | ((apply dom_pick hD); (exact pk))))) | (apply VR.slc'; (focus (first | exact e1 | exact e2 | exact e3 | ((apply rho_pick hρ); (exact pk)))); (focus (first | exact d1 | exact d2 | exact d3 | ((apply dom_pick hD); (exact pk))))) | exact VR.sdead | apply VRs.tuple | apply VRs.agg | exact VRs.nil | ((apply VRs.const); (focus (first | exact bytesV_const _ | exact map_const (fun _ => rfl) | exact recs_const (fun _ v hv => by simp only [List.mem_cons, List.not_mem_nil, or_false] at hv; rcases hv with rfl | rfl | rfl | rfl | rfl <;> rfl)))) | apply VRs.cons))); (focus (repeat (first | exact SHR.nil | ((apply SHR.same); (focus (intro x hx; (repeat (first | exact hx | apply List.mem_cons_of_mem)); done))) | ((apply SHR.keep); (focus ((repeat (first | with_reducible exact List.mem_cons_self | apply List.mem_cons_of_mem)); done))) | (apply SHR.cons; (focus (first | exact e1 | exact e2 | exact e3 | ((apply rho_pick hρ); (exact pk)))); (focus (repeat (first | exact VR.const rfl | (apply VR.ptr'; (focus (first | exact e1 | exact e2 | exact e3 | ((apply rho_pick hρ); (exact pk)))); (focus (first | exact d1 | exact d2 | exact d3 | ((apply dom_pick hD); (exact pk))))) | (apply VR.slc'; (focus (first | exact e1 | exact e2 | exact e3 | ((apply rho_pick hρ); (exact pk)))); (focus (first | exact d1 | exact d2 | exact d3 | ((apply dom_pick hD); (exact pk))))) | exact VR.sdead | apply VRs.tuple | apply VRs.agg | exact VRs.nil | ((apply VRs.const); (focus (first | exact bytesV_const _ | exact map_const (fun _ => rfl) | exact recs_const (fun _ v hv => by simp only [List.mem_cons, List.not_mem_nil, or_false] at hv; rcases hv with rfl | rfl | rfl | rfl | rfl <;> rfl)))) | apply VRs.cons))))))))))) | (apply w_true; exact rfl) | apply thenS_normal | apply blockS_normal | apply w_skip | apply w_block | ((with_reducible apply Sd.mk); (first | exact True.intro | omega | (constructor <;> first | omega | (unfold maxLen; omega)) | (unfold maxLen; omega))) | ((with_reducible apply Ln.mk); (first | rfl | exact ‹_› | omega | (simp ; first | done | omega))) | ((with_reducible apply Wr.mk); (first | exact w_and1 _ | exact IntWalk.i64_in _ (by omega) | exact IntWalk.u8_in _ (by omega) | exact IntWalk.u32_in _ (by omega) | exact IntWalk.u64_in _ (by omega) | exact IntKind.wrap_u8 _ | exact IntKind.wrap_u32 _ | rfl)) | ((with_reducible apply Ex.mk); (first | exact Int.tmod_eq_emod_of_nonneg (by omega) | exact ex_shrk (by omega) | rfl)) | ((with_reducible apply Pu.mk); (first | exact putAt_all rfl | exact putAt_recZ (fun _ => rfl) (by omega) | exact putAt_rec (fun _ => rfl) (by omega))) | ((with_reducible apply Su.mk); (first | exact subAt_all | exact subAt_recZ (fun _ => rfl) (by omega) | exact subAt_rec (fun _ => rfl) (by omega))) | exact True.intro | exact Or.inl rfl | apply And.intro | exact rfl)
        all_goals first
          | (exfalso; omega)
          | exact ⟨(k, ebit e 1024 (v / 2 ^ k % 2), _, fr, q, n + 2), ⟨by show k ≤ m; omega, hok2, by show n + 2 + 2 * k ≤ 999000; omega, by rw [hout]; exact hro, he, hf⟩, Nat.lt_succ_self _, (by repeat' (first | exact trivial | refine ⟨rfl, ?_⟩ | refine ⟨congrArg some ?_, ?_⟩)), (by repeat (first | with_reducible exact Take.nil | with_reducible apply Take.c | ((with_reducible apply Take.cE); (first | exact rfl | (apply blkE; (focus (first | exact rfl | exact recs_snocE rfl | exact map_snocE rfl | exact congrArg (fun v => [v]) (gslE rfl rfl (by first | rfl | exact ‹_› | omega | (simp ; first | done | omega)) (by first | rfl | exact ‹_› | omega | (simp ; first | done | omega)) rfl)))))) | with_reducible apply Take.drop))⟩
          | trace_state
    | true =>
      rw [hfr, Bool.true_or, Bool.or_true] at hf
      have hB := rBit_new e 1024 (v / 2 ^ k % 2) w1 ((A, ⟨reC (.slice none 0 0) 0 0, false⟩) :: (A0, ⟨reC w1 e.low e.size, false⟩) :: q) (hro1.re (.drop (.drop .nil))) (hok.mono (by omega)) hfr
      repeat' (first | apply w_seq | apply w_region | apply o_nil | (apply w_draw; (focus (kernel_rfl)); (focus (kernel_rfl))) | (apply o_g tyOk; exact rfl; exact rfl) | (apply o_ar tyOk; exact rfl; exact rfl) | (apply o_ex; exact rfl; exact rfl) | (apply o_loads tyOk; (iterate 3 exact rfl); (focus (exact pk))) | (apply o_stores tyOk; (iterate 4 exact rfl); (focus (exact ⟨rfl⟩)); (focus (exact up))) | (apply o_callE1; (iterate 4 exact rfl); (focus (exact ⟨hB, by repeat (first | with_reducible exact Take.nil | with_reducible apply Take.c | with_reducible apply Take.drop)⟩)); (focus ((intro _; (first | exact List.Perm.refl _ | (simp; done) | exact List.Perm.swap _ _ _)))); (focus ((intro A1 A2 ρ D e1 d1 hρ hD; refine ⟨?_, ?_⟩; (focus (repeat (first | exact VR.const rfl | (apply VR.ptr'; (focus (first | exact e1 | exact e2 | exact e3 | ((apply rho_pick hρ); (exact pk)))); (focus (first | exact d1 | exact d2 | exact d3 | ((apply dom_pick hD); (exact pk))))) | (apply VR.slc'; (focus (first | exact e1 | exact e2 | exact e3 | ((apply rho_pick hρ); (exact pk)))); (focus (first | exact d1 | exact d2 | exact d3 | ((apply dom_pick hD); (exact pk))))) | exact VR.sdead | apply VRs.tuple | apply VRs.agg | exact VRs.nil | ((apply VRs.const); (focus (first | exact bytesV_const _ | exact map_const (fun _ => rfl) | exact recs_const (fun _ v hv => by simp only [List.mem_cons, List.not_mem_nil, or_false] at hv; rcases hv with rfl | rfl | rfl | rfl | rfl <;> rfl)))) | apply VRs.cons))); (focus (repeat (first | exact SHR.nil | ((apply SHR.same); (focus (intro x hx; (repeat (first | exact hx | apply List.mem_cons_of_mem)); done))) | ((apply SHR.keep); (focus ((repeat (first | with_reducible exact List.mem_cons_self | apply List.mem_cons_of_mem)); done))) | (apply SHR.cons; (focus (first | exact e1 | exact e2 | exact e3 | ((apply rho_pick hρ); (exact pk)))); (focus (repeat (first | exact VR.const rfl | (apply VR.ptr'; (focus (first | exact e1 | exact e2 | exact e3 | ((apply rho_pick hρ); (exact pk)))); (focus (first | exact d1 | exact d2 | exact d3 | ((apply dom_pick hD); (exact pk))))) | (apply VR.slc'; (focus (first | exact e1 | exact e2 | exact e3 | ((apply rho_pick hρ); (exact pk)))); (focus (first | exact d1 | exact d2 | exact d3 | ((apply dom_pick hD); (exact pk))))) | exact VR.sdead | apply VRs.tuple | apply VRs.agg | exact VRs.nil | ((apply VRs.const); (focus (first | exact bytesV_const _ | exact map_const (fun _ => rfl) | exact recs_const (fun _ v hv => by simp only [List.mem_cons, List.not_mem_nil, or_false] at hv; rcases hv with rfl | rfl | rfl | rfl | rfl <;> rfl)))) | apply VRs.cons))))))))))) | (apply w_true; exact rfl) | apply thenS_normal | apply blockS_normal | apply w_skip | apply w_block | ((with_reducible apply Sd.mk); (first | exact True.intro | omega | (constructor <;> first | omega | (unfold maxLen; omega)) | (unfold maxLen; omega))) | ((with_reducible apply Ln.mk); (first | rfl | exact ‹_› | omega | (simp ; first | done | omega))) | ((with_reducible apply Wr.mk); (first | exact w_and1 _ | exact IntWalk.i64_in _ (by omega) | exact IntWalk.u8_in _ (by omega) | exact IntWalk.u32_in _ (by omega) | exact IntWalk.u64_in _ (by omega) | exact IntKind.wrap_u8 _ | exact IntKind.wrap_u32 _ | rfl)) | ((with_reducible apply Ex.mk); (first | exact Int.tmod_eq_emod_of_nonneg (by omega) | exact ex_shrk (by omega) | rfl)) | ((with_reducible apply Pu.mk); (first | exact putAt_all rfl | exact putAt_recZ (fun _ => rfl) (by omega) | exact putAt_rec (fun _ => rfl) (by omega))) | ((with_reducible apply Su.mk); (first | exact subAt_all | exact subAt_recZ (fun _ => rfl) (by omega) | exact subAt_rec (fun _ => rfl) (by omega))) | exact True.intro | exact Or.inl rfl | apply And.intro | intro A | exact rfl)
      all_goals first
        | (exfalso; omega)
        | exact ⟨(k, ebit e 1024 (v / 2 ^ k % 2), _, true, _, n + 2), ⟨by show k ≤ m; omega, hok2, by show n + 2 + 2 * k ≤ 999000; omega, .new _ _, he, by rw [Bool.true_or]; exact hf⟩, Nat.lt_succ_self _, (by repeat' (first | exact trivial | refine ⟨rfl, ?_⟩ | refine ⟨congrArg some ?_, ?_⟩)), .cons (.tail .head) (.cons (.tail .head) (.cons .head hro.take))⟩
        | trace_state
/-- A tree of the reference writes. -/
theorem rTEnc_any (bits : Nat) (t : List Int) (v : Int) (e : Enc) (w : Value) (A0 : Nat) (h h1 : SH) (hp : Pick h A0 ⟨nodes t, false⟩ h1) (hv : RO h e.out w) (ht : t.length = 2 ^ bits) (hbits : 1 ≤ bits ∧ bits ≤ 8) (hok : EncOk 900000 e) :
    SRun Try.prog 107 [reV w e.low e.size, gsl A0 0 t.length t.length 1, I v] h fun r q =>
      ∃ B w' qo, r = .tuple ⟨[reV w' (tenc v bits t e 1).2.low (tenc v bits t e 1).2.size, gsl B 0 t.length t.length 1]⟩ ∧ ROut h e.out w (tfr v bits t e 1) (tenc v bits t e 1).2.out w' qo ∧ q = (B, ⟨nodes (tenc v bits t e 1).1, false⟩) :: qo := by
  obtain ⟨K, hK⟩ : ∃ K, K = 2 ^ bits := ⟨_, rfl⟩
  have hK8 : K ≤ 256 := by rw [hK]; exact Nat.pow_le_pow_right (n := 2) (by decide) hbits.2
  obtain ⟨R, hR⟩ : ∃ R, tenc v bits t e 1 = R := ⟨_, rfl⟩
  obtain ⟨F, hF⟩ : ∃ F, tfr v bits t e 1 = F := ⟨_, rfl⟩
  rw [hR, hF]
  obtain ⟨o0, ho0⟩ : ∃ o0, o0 = e.out := ⟨_, rfl⟩
  rw [← ho0] at hv ⊢
  rw [← hK] at ht
  have ht0 := ht
  have hhalf : IntKind.i64.wrap ((t.length : Int).tdiv 2) = hpw bits := by
    rw [Int.tdiv_eq_ediv_of_nonneg (by omega), ht, hK]
    have : ((2 ^ bits : Nat) : Int) = hpw (bits + 1) := rfl
    rw [this, hpw_half]
    have := hpw_le (k := bits) (Nat.le_refl _) hbits.2
    exact IntWalk.i64_in _ (by omega)
  refine w_body3 Try.func107 rfl rfl ?_
  repeat' (first | apply w_seq | apply w_region | apply o_nil | (apply o_g tyOk; exact rfl; exact rfl) | (apply o_ar tyOk; exact rfl; exact rfl) | (apply o_alloc tyOk; iterate 5 exact rfl) | (apply o_box (tt := tyT); iterate 5 exact rfl) | apply thenS_normal | apply w_block | ((with_reducible apply Sd.mk); (first | exact True.intro | omega | (constructor <;> first | omega | (unfold maxLen; omega)) | (unfold maxLen; omega))) | ((with_reducible apply Wr.mk); (first | exact hhalf | exact IntWalk.i64_in _ (by omega) | exact IntWalk.u8_in _ (by omega) | exact IntWalk.u32_in _ (by omega) | exact IntWalk.u64_in _ (by omega) | exact IntKind.wrap_u8 _ | exact IntKind.wrap_u32 _ | rfl)) | intro A)
  rename_i E0
  refine w_loop (S := Nat × Nat × List Int × Enc × Nat × Value × Bool × SH × SH × Nat) (fun x => [(1, gsl x.2.2.2.2.1 0 x.2.2.1.length x.2.2.1.length 1), (2, I v), (3, gptr E0 0 3), (6, gptr A 0 3), (8, I x.2.1), (9, I (hpw x.1))])
    (fun x => (A, ⟨reC (.slice none 0 0) 0 0, false⟩) :: (E0, ⟨reC x.2.2.2.2.2.1 x.2.2.2.1.low x.2.2.2.1.size, false⟩) :: x.2.2.2.2.2.2.2.1)
    (fun x => x.1 ≤ bits ∧ (K ≤ 2 ^ x.1 * x.2.1 ∧ 2 ^ x.1 * (x.2.1 + 1) ≤ 2 * K) ∧ x.2.2.1.length = K ∧ EncOk x.2.2.2.2.2.2.2.2.2 x.2.2.2.1 ∧ x.2.2.2.2.2.2.2.2.2 + 2 * x.1 ≤ 900100 ∧ ROut h o0 w x.2.2.2.2.2.2.1 x.2.2.2.1.out x.2.2.2.2.2.1 x.2.2.2.2.2.2.2.2.1 ∧
      (∃ h2, Pick x.2.2.2.2.2.2.2.1 x.2.2.2.2.1 ⟨nodes x.2.2.1, false⟩ h2) ∧ (x.1 < bits → x.2.2.2.2.2.2.2.1 = (x.2.2.2.2.1, ⟨nodes x.2.2.1, false⟩) :: x.2.2.2.2.2.2.2.2.1) ∧ (x.1 = bits → x.2.2.2.2.2.2.2.1 = x.2.2.2.2.2.2.2.2.1) ∧
      tenc v x.1 x.2.2.1 x.2.2.2.1 x.2.1 = R ∧ (x.2.2.2.2.2.2.1 || tfr v x.1 x.2.2.1 x.2.2.2.1 x.2.1) = F) (fun x => x.1)
    (bits, 1, t, e, A0, w, false, h, h, 900000) ⟨Nat.le_refl _, ⟨by show K ≤ 2 ^ bits * 1; omega, by show 2 ^ bits * 2 ≤ 2 * K; omega⟩, ht, hok, by show 900000 + 2 * bits ≤ 900100; omega, by rw [ho0]; exact .same, ⟨_, hp⟩, fun g => absurd g (Nat.lt_irrefl _), fun _ => rfl, hR, hF⟩ (by repeat' (first | exact trivial | refine ⟨rfl, ?_⟩ | refine ⟨congrArg some ?_, ?_⟩)) (by repeat (first | with_reducible exact Take.nil | with_reducible apply Take.c | ((with_reducible apply Take.cE); (first | exact rfl | (apply blkE; (focus (first | exact rfl | exact recs_snocE rfl | exact map_snocE rfl | exact congrArg (fun v => [v]) (gslE rfl rfl (by first | rfl | exact ‹_› | omega | (simp ; first | done | omega)) (by first | rfl | exact ‹_› | omega | (simp ; first | done | omega)) rfl)))))) | with_reducible apply Take.drop)) ?_
  rintro ⟨k, j, t, e, B, w1, fr, q, qo, n⟩ ⟨hk, ⟨hj1, hj2⟩, ht, hok, hn, hro, ⟨h2, hp2⟩, hq1, hq2, he, hf⟩
  dsimp only at hk hj1 hj2 ht hok hn hro hp2 hq1 hq2 he hf ⊢
  have hlb : (nodes t).length = t.length := by simp
  have hroq := hro.ro hv
  have tqo : Take q qo := by
    by_cases g : k = bits
    · rw [hq2 g]; exact .nil
    · rw [hq1 (by omega)]; exact .drop .nil
  have hro1 := hroq.re tqo
  cases k with
  | zero =>
    have he : (t, e) = R := he
    have hf : (fr || false) = F := hf
    rw [Bool.or_false] at hf
    rw [← he, ← hf]
    rw [hq1 (by omega)] at hro1 ⊢
    rcases id hro1 with ⟨e0, rfl⟩ | ⟨A1, p2, rfl, hp3⟩
    all_goals
      repeat' (first | apply w_seq | apply w_region | apply o_nil | (apply o_g tyOk; exact rfl; exact rfl) | (apply o_loads tyOk; (iterate 3 exact rfl); (focus (exact pk))) | (apply o_stores tyOk; (iterate 4 exact rfl); (focus (exact ⟨rfl⟩)); (focus (exact up))) | (apply w_false; exact rfl) | apply thenS_normal | apply thenS_exit | apply blockS_exit | apply w_ret | apply w_exit | ((with_reducible apply Sd.mk); (first | exact True.intro | omega | (constructor <;> first | omega | (unfold maxLen; omega)) | (unfold maxLen; omega))) | ((with_reducible apply Ln.mk); (first | rfl | exact ‹_› | omega | (simp ; first | done | omega))) | ((with_reducible apply Pu.mk); (first | exact putAt_all rfl | exact putAt_recZ (fun _ => rfl) (by omega) | exact putAt_rec (fun _ => rfl) (by omega))) | ((with_reducible apply Su.mk); (first | exact subAt_all | exact subAt_recZ (fun _ => rfl) (by omega) | exact subAt_rec (fun _ => rfl) (by omega))) | exact True.intro | exact rfl)
      all_goals first
        | (exfalso; omega)
        | (apply s_fin; (exact (show ResS _ _ _ _ [_, _] from (res_cell tyOk rfl rfl rfl (by exact pk) (by first | rfl | exact ‹_› | omega | (simp ; first | done | omega)) (by first | rfl | exact ‹_› | omega | (simp ; first | done | omega)) ⟨rfl, trivial⟩))); (focus (exact ⟨B, _, qo, by show Value.tuple _ = Value.tuple _; rw [ht, ht0], hro, rfl⟩)); (focus (repeat (first | with_reducible exact Take.nil | with_reducible apply Take.c | ((with_reducible apply Take.cE); (first | exact rfl | (apply blkE; (focus (first | exact rfl | exact recs_snocE rfl | exact map_snocE rfl | exact congrArg (fun v => [v]) (gslE rfl rfl (by first | rfl | exact ‹_› | omega | (simp ; first | done | omega)) (by first | rfl | exact ‹_› | omega | (simp ; first | done | omega)) rfl)))))) | with_reducible apply Take.drop))))
        | trace_state
  | succ k =>
    obtain ⟨s1, s2, s3⟩ := way_step (b := (v / 2 ^ k % 2).toNat) hj1 hj2 (by omega)
    have hcl : (nodes t)[0 + ((j : Int)).toNat * 1]? = some (I t[j]!) := cell_mapZ (by omega)
    have hand := and_hpw v (k := k) (by omega)
    have hh := hpw_half k
    have hle := hpw_le hk hbits.2
    have hpos : 1 ≤ hpw (k + 1) := Nat.one_le_two_pow
    have hb01 := bit01 v k
    have he : tenc v k (t.set j (adp t[j]! (v / 2 ^ k % 2))) (ebit e t[j]! (v / 2 ^ k % 2)) (2 * j + (v / 2 ^ k % 2).toNat) = R := he
    have hf : (fr || (fresh e t[j]! (v / 2 ^ k % 2) || tfr v k (t.set j (adp t[j]! (v / 2 ^ k % 2))) (ebit e t[j]! (v / 2 ^ k % 2)) (2 * j + (v / 2 ^ k % 2).toNat))) = F := hf
    have hok2 := ebit_ok hok t[j]! (v / 2 ^ k % 2)
    have hfo := fun hfr => rBit_old e t[j]! (v / 2 ^ k % 2) w1 ((A, ⟨reC (.slice none 0 0) 0 0, false⟩) :: (E0, ⟨reC w1 e.low e.size, false⟩) :: q) (hro1.re (.drop (.drop .nil))) (hok.mono (by omega)) hfr
    have hfn := fun hfr => rBit_new e t[j]! (v / 2 ^ k % 2) w1 ((A, ⟨reC (.slice none 0 0) 0 0, false⟩) :: (E0, ⟨reC w1 e.low e.size, false⟩) :: q) (hro1.re (.drop (.drop .nil))) (hok.mono (by omega)) hfr
    generalize hbit : v / 2 ^ k % 2 = b at *
    generalize hpw (k + 1) = W at *
    have hq : IntKind.i64.wrap ((W : Int).tdiv 2) = ((hpw k : Nat) : Int) := by rw [Int.tdiv_eq_ediv_of_nonneg (by omega), hh]; exact IntWalk.i64_in _ (by omega)
    repeat' ((fail_if_success (show SWp _ _ (Code.cond (Operand.tmp 21) _ _) _ _ _)); first | apply w_seq | apply w_region | apply o_nil | (apply o_g tyOk; exact rfl; exact rfl) | (apply o_ar tyOk; exact rfl; exact rfl) | (apply w_dT; exact rfl; (focus (first | exact ‹_› | with_reducible exact rfl | omega))) | apply thenS_normal | apply w_skip | apply w_block | ((with_reducible apply Sd.mk); (first | exact True.intro | omega | (constructor <;> first | omega | (unfold maxLen; omega)) | (unfold maxLen; omega))) | ((with_reducible apply Wr.mk); (first | exact hand | exact IntWalk.i64_in _ (by omega) | exact IntWalk.u8_in _ (by omega) | exact IntWalk.u32_in _ (by omega) | exact IntWalk.u64_in _ (by omega) | exact IntKind.wrap_u8 _ | exact IntKind.wrap_u32 _ | rfl)))
    refine w_meet (S := Unit) (fun _ => [(1, gsl B 0 t.length t.length 1), (2, I v), (3, gptr E0 0 3), (6, gptr A 0 3), (8, I j), (9, I W), (10, I b)]) (fun _ => (A, ⟨reC (.slice none 0 0) 0 0, false⟩) :: (E0, ⟨reC w1 e.low e.size, false⟩) :: q) (fun _ => True) ?_ ?_
    · rcases hb01 with rfl | rfl
      · repeat' (first | (apply w_dF; exact rfl; (focus (first | exact ‹_› | with_reducible exact rfl | omega))) | apply thenS_normal | apply w_skip)
        all_goals first
          | (exfalso; omega)
          | exact ⟨(), trivial, (by repeat' (first | exact trivial | refine ⟨rfl, ?_⟩ | refine ⟨congrArg some ?_, ?_⟩)), (by repeat (first | with_reducible exact Take.nil | with_reducible apply Take.c | ((with_reducible apply Take.cE); (first | exact rfl | (apply blkE; (focus (first | exact rfl | exact recs_snocE rfl | exact map_snocE rfl | exact congrArg (fun v => [v]) (gslE rfl rfl (by first | rfl | exact ‹_› | omega | (simp ; first | done | omega)) (by first | rfl | exact ‹_› | omega | (simp ; first | done | omega)) rfl)))))) | with_reducible apply Take.drop))⟩
          | trace_state
      · repeat' (first | apply w_region | apply o_nil | (apply o_g tyOk; exact rfl; exact rfl) | (apply w_dT; exact rfl; (focus (first | exact ‹_› | with_reducible exact rfl | omega))) | apply thenS_normal | ((with_reducible apply Sd.mk); (first | exact True.intro | omega | (constructor <;> first | omega | (unfold maxLen; omega)) | (unfold maxLen; omega))))
        all_goals first
          | (exfalso; omega)
          | exact ⟨(), trivial, (by repeat' (first | exact trivial | refine ⟨rfl, ?_⟩ | refine ⟨congrArg some ?_, ?_⟩)), (by repeat (first | with_reducible exact Take.nil | with_reducible apply Take.c | ((with_reducible apply Take.cE); (first | exact rfl | (apply blkE; (focus (first | exact rfl | exact recs_snocE rfl | exact map_snocE rfl | exact congrArg (fun v => [v]) (gslE rfl rfl (by first | rfl | exact ‹_› | omega | (simp ; first | done | omega)) (by first | rfl | exact ‹_› | omega | (simp ; first | done | omega)) rfl)))))) | with_reducible apply Take.drop))⟩
          | trace_state
    · rintro - -
      have hS := rset_any B t j (adp t[j]! b)
      cases hfr : fresh e t[j]! b with
      | false =>
        rw [hfr, Bool.false_or] at hf
        obtain ⟨hout, hB⟩ := hfo hfr
        rcases id hro1 with ⟨e0, rfl⟩ | ⟨A1, p2, rfl, hp3⟩
        all_goals
          repeat' (first | apply w_seq | apply w_region | apply o_nil | (apply w_draw; (focus (kernel_rfl)); (focus (kernel_rfl))) | (apply o_g tyOk; exact rfl; exact rfl) | (apply o_ar tyOk; exact rfl; exact rfl) | (apply o_load tyOk; (iterate 3 exact rfl); (focus (exact pk))) | (apply o_loads tyOk; (iterate 3 exact rfl); (focus (exact pk))) | (apply o_stores tyOk; (iterate 4 exact rfl); (focus (exact ⟨rfl⟩)); (focus (exact up))) | (apply o_callE0; (iterate 4 exact rfl); (focus (exact ⟨hB, by repeat (first | with_reducible exact Take.nil | with_reducible apply Take.c | with_reducible apply Take.drop)⟩)); (focus (first | exact List.Perm.refl _ | (simp; done) | exact List.Perm.swap _ _ _)); (focus ((intro ρ D hρ hD; refine ⟨?_, ?_⟩; (focus (repeat (first | exact VR.const rfl | (apply VR.ptr'; (focus (first | exact e1 | exact e2 | exact e3 | ((apply rho_pick hρ); (exact pk)))); (focus (first | exact d1 | exact d2 | exact d3 | ((apply dom_pick hD); (exact pk))))) | (apply VR.slc'; (focus (first | exact e1 | exact e2 | exact e3 | ((apply rho_pick hρ); (exact pk)))); (focus (first | exact d1 | exact d2 | exact d3 | ((apply dom_pick hD); (exact pk))))) | exact VR.sdead | apply VRs.tuple | apply VRs.agg | exact VRs.nil | ((apply VRs.const); (focus (first | exact bytesV_const _ | exact map_const (fun _ => rfl) | exact recs_const (fun _ v hv => by simp only [List.mem_cons, List.not_mem_nil, or_false] at hv; rcases hv with rfl | rfl | rfl | rfl | rfl <;> rfl)))) | apply VRs.cons))); (focus (repeat (first | exact SHR.nil | ((apply SHR.same); (focus (intro x hx; (repeat (first | exact hx | apply List.mem_cons_of_mem)); done))) | ((apply SHR.keep); (focus ((repeat (first | with_reducible exact List.mem_cons_self | apply List.mem_cons_of_mem)); done))) | (apply SHR.cons; (focus (first | exact e1 | exact e2 | exact e3 | ((apply rho_pick hρ); (exact pk)))); (focus (repeat (first | exact VR.const rfl | (apply VR.ptr'; (focus (first | exact e1 | exact e2 | exact e3 | ((apply rho_pick hρ); (exact pk)))); (focus (first | exact d1 | exact d2 | exact d3 | ((apply dom_pick hD); (exact pk))))) | (apply VR.slc'; (focus (first | exact e1 | exact e2 | exact e3 | ((apply rho_pick hρ); (exact pk)))); (focus (first | exact d1 | exact d2 | exact d3 | ((apply dom_pick hD); (exact pk))))) | exact VR.sdead | apply VRs.tuple | apply VRs.agg | exact VRs.nil | ((apply VRs.const); (focus (first | exact bytesV_const _ | exact map_const (fun _ => rfl) | exact recs_const (fun _ v hv => by simp only [List.mem_cons, List.not_mem_nil, or_false] at hv; rcases hv with rfl | rfl | rfl | rfl | rfl <;> rfl)))) | apply VRs.cons))))))))))) | (apply o_call; exact rfl; exact rfl; (focus (first | exact rfl | assumption)); exact rfl; (focus (exact ⟨_, rAdapt_any _ _ _, by repeat (first | with_reducible exact Take.nil | with_reducible apply Take.c | with_reducible apply Take.drop)⟩)); rintro _ _ ⟨rfl, rfl⟩) | (apply o_call; exact rfl; exact rfl; (focus (first | exact rfl | assumption)); exact rfl; (focus (exact ⟨_, hS _ _ (.tail (.tail hp2)) (by omega) (by omega), by repeat (first | with_reducible exact Take.nil | with_reducible apply Take.c | with_reducible apply Take.drop)⟩)); rintro _ _ ⟨B2, rfl, rfl⟩) | apply thenS_normal | apply blockS_normal | ((with_reducible apply Sd.mk); (first | exact True.intro | omega | (constructor <;> first | omega | (unfold maxLen; omega)) | (unfold maxLen; omega))) | ((with_reducible apply Ln.mk); (first | rfl | exact ‹_› | omega | (simp [hlb]; first | done | omega))) | ((with_reducible apply Wr.mk); (first | exact hq | exact IntWalk.i64_in _ (by omega) | exact IntWalk.u8_in _ (by omega) | exact IntWalk.u32_in _ (by omega) | exact IntWalk.u64_in _ (by omega) | exact IntKind.wrap_u8 _ | exact IntKind.wrap_u32 _ | rfl)) | ((with_reducible apply Ce.mk); (first | rfl | exact ‹_› | exact hcl | exact cell_recZ (fun _ => rfl) (by omega) (by decide) rfl | exact cell_rec (fun _ => rfl) (by omega) (by decide) rfl | exact cell_bytes (by omega) | exact cell_mapZ (by omega) | exact cell_map (by omega))) | ((with_reducible apply Pu.mk); (first | exact putAt_all rfl | exact putAt_recZ (fun _ => rfl) (by omega) | exact putAt_rec (fun _ => rfl) (by omega))) | ((with_reducible apply Su.mk); (first | exact subAt_all | exact subAt_recZ (fun _ => rfl) (by omega) | exact subAt_rec (fun _ => rfl) (by omega))) | exact True.intro | exact Or.inl rfl | apply And.intro | exact rfl)
          all_goals first
            | (exfalso; omega)
            | exact ⟨(k, 2 * j + b.toNat, t.set j (adp t[j]! b), ebit e t[j]! b, B2, _, fr, (B2, ⟨nodes (t.set j (adp t[j]! b)), false⟩) :: qo, qo, n + 2), ⟨by show k ≤ bits; omega, ⟨s1, s2⟩, by rw [List.length_set]; exact ht, hok2, by show n + 2 + 2 * k ≤ 900100; omega, by rw [hout]; exact hro, ⟨_, .head⟩, fun _ => rfl, fun g => by dsimp only at g; omega, he, hf⟩, Nat.lt_succ_self _, ⟨congrArg some (gslE rfl rfl (by simp) (by simp) rfl), rfl, rfl, rfl, congrArg some (congrArg (Value.int .i64) (by show 2 * (j : Int) + b = ((2 * j + b.toNat : Nat) : Int); omega)), rfl, trivial⟩, .cons (.tail .head) (.cons (.tail .head) (.cons .head tqo))⟩
            | trace_state
      | true =>
        rw [hfr, Bool.true_or, Bool.or_true] at hf
        have hB := hfn hfr
        repeat' (first | apply w_seq | apply w_region | apply o_nil | (apply w_draw; (focus (kernel_rfl)); (focus (kernel_rfl))) | (apply o_g tyOk; exact rfl; exact rfl) | (apply o_ar tyOk; exact rfl; exact rfl) | (apply o_load tyOk; (iterate 3 exact rfl); (focus (exact pk))) | (apply o_loads tyOk; (iterate 3 exact rfl); (focus (exact pk))) | (apply o_stores tyOk; (iterate 4 exact rfl); (focus (exact ⟨rfl⟩)); (focus (exact up))) | (apply o_callE1; (iterate 4 exact rfl); (focus (exact ⟨hB, by repeat (first | with_reducible exact Take.nil | with_reducible apply Take.c | with_reducible apply Take.drop)⟩)); (focus ((intro _; (first | exact List.Perm.refl _ | (simp; done) | exact List.Perm.swap _ _ _)))); (focus ((intro A1 A2 ρ D e1 d1 hρ hD; refine ⟨?_, ?_⟩; (focus (repeat (first | exact VR.const rfl | (apply VR.ptr'; (focus (first | exact e1 | exact e2 | exact e3 | ((apply rho_pick hρ); (exact pk)))); (focus (first | exact d1 | exact d2 | exact d3 | ((apply dom_pick hD); (exact pk))))) | (apply VR.slc'; (focus (first | exact e1 | exact e2 | exact e3 | ((apply rho_pick hρ); (exact pk)))); (focus (first | exact d1 | exact d2 | exact d3 | ((apply dom_pick hD); (exact pk))))) | exact VR.sdead | apply VRs.tuple | apply VRs.agg | exact VRs.nil | ((apply VRs.const); (focus (first | exact bytesV_const _ | exact map_const (fun _ => rfl) | exact recs_const (fun _ v hv => by simp only [List.mem_cons, List.not_mem_nil, or_false] at hv; rcases hv with rfl | rfl | rfl | rfl | rfl <;> rfl)))) | apply VRs.cons))); (focus (repeat (first | exact SHR.nil | ((apply SHR.same); (focus (intro x hx; (repeat (first | exact hx | apply List.mem_cons_of_mem)); done))) | ((apply SHR.keep); (focus ((repeat (first | with_reducible exact List.mem_cons_self | apply List.mem_cons_of_mem)); done))) | (apply SHR.cons; (focus (first | exact e1 | exact e2 | exact e3 | ((apply rho_pick hρ); (exact pk)))); (focus (repeat (first | exact VR.const rfl | (apply VR.ptr'; (focus (first | exact e1 | exact e2 | exact e3 | ((apply rho_pick hρ); (exact pk)))); (focus (first | exact d1 | exact d2 | exact d3 | ((apply dom_pick hD); (exact pk))))) | (apply VR.slc'; (focus (first | exact e1 | exact e2 | exact e3 | ((apply rho_pick hρ); (exact pk)))); (focus (first | exact d1 | exact d2 | exact d3 | ((apply dom_pick hD); (exact pk))))) | exact VR.sdead | apply VRs.tuple | apply VRs.agg | exact VRs.nil | ((apply VRs.const); (focus (first | exact bytesV_const _ | exact map_const (fun _ => rfl) | exact recs_const (fun _ v hv => by simp only [List.mem_cons, List.not_mem_nil, or_false] at hv; rcases hv with rfl | rfl | rfl | rfl | rfl <;> rfl)))) | apply VRs.cons))))))))))) | (apply o_call; exact rfl; exact rfl; (focus (first | exact rfl | assumption)); exact rfl; (focus (exact ⟨_, rAdapt_any _ _ _, by repeat (first | with_reducible exact Take.nil | with_reducible apply Take.c | with_reducible apply Take.drop)⟩)); rintro _ _ ⟨rfl, rfl⟩) | (apply o_call; exact rfl; exact rfl; (focus (first | exact rfl | assumption)); exact rfl; (focus (exact ⟨_, hS _ _ (.tail (.tail (.tail hp2))) (by omega) (by omega), by repeat (first | with_reducible exact Take.nil | with_reducible apply Take.c | with_reducible apply Take.drop)⟩)); rintro _ _ ⟨B2, rfl, rfl⟩) | apply thenS_normal | apply blockS_normal | ((with_reducible apply Sd.mk); (first | exact True.intro | omega | (constructor <;> first | omega | (unfold maxLen; omega)) | (unfold maxLen; omega))) | ((with_reducible apply Ln.mk); (first | rfl | exact ‹_› | omega | (simp [hlb]; first | done | omega))) | ((with_reducible apply Wr.mk); (first | exact hq | exact IntWalk.i64_in _ (by omega) | exact IntWalk.u8_in _ (by omega) | exact IntWalk.u32_in _ (by omega) | exact IntWalk.u64_in _ (by omega) | exact IntKind.wrap_u8 _ | exact IntKind.wrap_u32 _ | rfl)) | ((with_reducible apply Ce.mk); (first | rfl | exact ‹_› | exact hcl | exact cell_recZ (fun _ => rfl) (by omega) (by decide) rfl | exact cell_rec (fun _ => rfl) (by omega) (by decide) rfl | exact cell_bytes (by omega) | exact cell_mapZ (by omega) | exact cell_map (by omega))) | ((with_reducible apply Pu.mk); (first | exact putAt_all rfl | exact putAt_recZ (fun _ => rfl) (by omega) | exact putAt_rec (fun _ => rfl) (by omega))) | ((with_reducible apply Su.mk); (first | exact subAt_all | exact subAt_recZ (fun _ => rfl) (by omega) | exact subAt_rec (fun _ => rfl) (by omega))) | exact True.intro | exact Or.inl rfl | apply And.intro | intro A | exact rfl)
        all_goals first
          | (exfalso; omega)
          | exact ⟨(k, 2 * j + b.toNat, t.set j (adp t[j]! b), ebit e t[j]! b, B2, _, true, (B2, ⟨nodes (t.set j (adp t[j]! b)), false⟩) :: (A, ⟨bytesV (ebit e t[j]! b).out, false⟩) :: h, _, n + 2), ⟨by show k ≤ bits; omega, ⟨s1, s2⟩, by rw [List.length_set]; exact ht, hok2, by show n + 2 + 2 * k ≤ 900100; omega, .new _ A, ⟨_, .head⟩, fun _ => rfl, fun g => by dsimp only at g; omega, he, by rw [Bool.true_or]; exact hf⟩, Nat.lt_succ_self _, ⟨congrArg some (gslE rfl rfl (by simp) (by simp) rfl), rfl, rfl, rfl, congrArg some (congrArg (Value.int .i64) (by show 2 * (j : Int) + b = ((2 * j + b.toNat : Nat) : Int); omega)), rfl, trivial⟩, .cons (.tail (.tail .head)) (.cons (.tail (.tail .head)) (.cons .head (.cons .head (tqo.trans hro.take))))⟩
          | trace_state
end Go.Proofs.Ytgooffiipnkmiaa
end
section
set_option linter.unusedVariables false
set_option linter.unusedSimpArgs false
set_option maxRecDepth 4000
namespace Go.Gh
open Go.RowKit

theorem VRs.set {ρ : Nat → Nat} {D : Nat → Prop} {l m : List Value} {u v : Value} (h : VRs ρ D l m) (k : VR ρ D u v) : ∀ {i : Nat}, VRs ρ D (l.set i u) (m.set i v) := by
  induction h with
  | nil => intro i; exact .nil
  | cons h0 hk ih =>
    intro i
    cases i with
    | zero => exact .cons k hk
    | succ i => exact .cons h0 ih
theorem VRs.old {ρ : Nat → Nat} {D : Nat → Prop} {p : SH} (hρ : ∀ y ∈ p, ρ y.1 = y.1) (hD : ∀ y ∈ p, D y.1) : ∀ {l : List Value}, (∀ v ∈ l, ∃ B o n len fl b p1, v = gsl B o n len fl ∧ Pick p B b p1) → VRs ρ D l l
  | [], _ => .nil
  | v :: l, h => by
    obtain ⟨B, o, n, len, fl, b, p1, rfl, hp⟩ := h v List.mem_cons_self
    exact .cons (VR.slc' (rho_pick hρ hp) (dom_pick hD hp)) (VRs.old hρ hD fun v hv => h v (List.mem_cons_of_mem _ hv))
section
variable {P : Program} {sz : Nat} {ops : Array Oper} {Q : SPost} {rest : List Oper} {a : AF} {h : SH} {t : Nat} {ty : TypeId} {pos : String} {aft : Array Edge}
/-- A call that makes three new blocks. -/
theorem o_callE3 {x : Operand} {xs : List Operand} {ts : Array TypeId} {f : FuncId} {first captured : Array Value} {args : List Value} {v : Nat → Nat → Nat → Value} {g : Nat → Nat → Nat → SH} {i0 : Nat} {last : SPast} {cl : SCl} {p : SH}
    (hx : ev a x = some (.func (.func f) first captured)) (hxs : evs a xs = some args) (hf : enters P f = true) (hN : Nat.blt t sz = true) (hr : SRun P f (first.toList ++ args ++ captured.toList) p (fun r q => ∃ A B C, r = v A B C ∧ q = g A B C) ∧ Take h p)
    (hkeys : ∀ A B C, ((g A B C).map (·.1)).Perm (A :: B :: C :: p.map (·.1))) (hpar : ∀ (A A' B B' C C' : Nat) (ρ : Nat → Nat) (D : Nat → Prop), ρ A = A' → ρ B = B' → ρ C = C' → D A → D B → D C → (∀ y ∈ p, ρ y.1 = y.1) → (∀ y ∈ p, D y.1) → VR ρ D (v A B C) (v A' B' C') ∧ SHR ρ D p (g A B C) (g A' B' C'))
    (hok : ∀ A B C, (Mode.draw i0 last cl).efOk ops (g A B C)) (kk : ∀ A B C, GO ((Mode.draw i0 last cl).ef h) P sz ops Q rest ((t, v A B C) :: a) (g A B C)) :
    GO (.draw i0 last cl) P sz ops Q (⟨some t, .call { callee := .value x, args := xs.toArray, argTypes := ts }, ty, pos, aft, none⟩ :: rest) a h := by
  have three : ∀ {ns : List Nat}, ns.length = 3 → ∃ A B C, ns = [A, B, C] := fun {ns} h => by
    match ns, h with
    | [A, B, C], _ => exact ⟨A, B, C, rfl⟩
  refine o_callK (k := 3) (V := fun ns => v ns.head! (ns.getD 1 0) (ns.getD 2 0)) (G := fun ns => g ns.head! (ns.getD 1 0) (ns.getD 2 0)) hx hxs hf hN hr.1 hr.2 (fun r q ⟨A, B, C, h1, h2⟩ => ⟨[A, B, C], rfl, h1, h2 ▸ .nil⟩) (fun ns h => ?_) (fun ns ms ρ D h1 h2 h3 h4 h5 h6 => ?_) (fun ms h => ?_) (fun ms h => ?_)
  · obtain ⟨A, B, C, rfl⟩ := three h; exact hkeys A B C
  · obtain ⟨A, B, C, rfl⟩ := three h1; obtain ⟨A2, B2, C2, rfl⟩ := three h2
    simp only [List.map_cons, List.map_nil, List.cons.injEq, and_true] at h3
    exact hpar A2 A B2 B C2 C ρ D h3.1 h3.2.1 h3.2.2 (h5 A2 (by simp)) (h5 B2 (by simp)) (h5 C2 (by simp)) h4 h6
  · obtain ⟨A, B, C, rfl⟩ := three h; exact hok A B C
  · obtain ⟨A, B, C, rfl⟩ := three h; exact kk A B C
end
end Go.Gh
end
section
set_option linter.unusedVariables false
set_option linter.unusedSimpArgs false
set_option maxRecDepth 4000
namespace Go.Proofs.Ytgooffiipnkmiaa
open Go.Gh Go.RowKit

theorem ncut_in (v : Int) : 0 ≤ ncut v ∧ ncut v ≤ 4611686018427387903 := by unfold ncut; split <;> omega
end Go.Proofs.Ytgooffiipnkmiaa
end
section
set_option linter.unusedVariables false
set_option linter.unusedSimpArgs false
set_option maxRecDepth 4000
namespace Go.Proofs.Ytgooffiipnkmiaa
open Go.Gh Go.RowKit

theorem rlength_any (n : Nat) (h : SH) (hn : n ≤ 9223372036854775807) : SRun Try.prog 124 [I n] h fun r q => r = I (blen n) ∧ q = h := by
  obtain ⟨R, hR⟩ : ∃ R, blen n = R := ⟨_, rfl⟩
  have hR63 : R ≤ 63 := by rw [← hR]; exact blen_le (by have : (2 : Nat) ^ 63 = 9223372036854775808 := rfl; omega)
  rw [hR]
  refine w_body1 Try.func124 rfl rfl ?_
  repeat' (first | apply w_seq | apply w_region | apply o_nil | (apply o_g tyOk; exact rfl; exact rfl) | apply thenS_normal | apply w_block | ((with_reducible apply Sd.mk); (first | exact True.intro | omega | (constructor <;> first | omega | (unfold maxLen; omega)) | (unfold maxLen; omega))))
  refine w_loop (S := Nat × Nat) (fun x => [(0, I x.1), (3, I x.2)]) (fun _ => h) (fun x => x.1 ≤ 9223372036854775807 ∧ x.2 + blen x.1 = R) (fun x => x.1) (n, 0) ⟨hn, by rw [Nat.zero_add]; exact hR⟩ (by repeat' (first | exact trivial | refine ⟨rfl, ?_⟩ | refine ⟨congrArg some ?_, ?_⟩)) (by repeat (first | with_reducible exact Take.nil | with_reducible apply Take.c | ((with_reducible apply Take.cE); (first | exact rfl | (apply blkE; (focus (first | exact rfl | exact recs_snocE rfl | exact map_snocE rfl | exact congrArg (fun v => [v]) (gslE rfl rfl (by first | rfl | exact ‹_› | omega | (simp ; first | done | omega)) (by first | rfl | exact ‹_› | omega | (simp ; first | done | omega)) rfl)))))) | with_reducible apply Take.drop)) ?_
  rintro ⟨m, k⟩ ⟨hm, he⟩
  dsimp only at hm he ⊢
  by_cases h0 : m = 0
  · subst h0
    rw [blen_zero, Nat.add_zero] at he
    subst he
    repeat' (first | apply w_seq | apply w_region | apply o_nil | (apply o_g tyOk; exact rfl; exact rfl) | (apply w_false; exact rfl) | apply thenS_normal | apply thenS_exit | apply blockS_exit | apply w_ret | apply w_exit | ((with_reducible apply Sd.mk); (first | exact True.intro | omega | (constructor <;> first | omega | (unfold maxLen; omega)) | (unfold maxLen; omega))))
    all_goals first
      | (exfalso; omega)
      | (apply s_fin; (exact (show ResS _ _ _ _ [_] from ⟨rfl, trivial⟩)); (focus (exact ⟨rfl, rfl⟩)); (focus (repeat (first | with_reducible exact Take.nil | with_reducible apply Take.c | ((with_reducible apply Take.cE); (first | exact rfl | (apply blkE; (focus (first | exact rfl | exact recs_snocE rfl | exact map_snocE rfl | exact congrArg (fun v => [v]) (gslE rfl rfl (by first | rfl | exact ‹_› | omega | (simp ; first | done | omega)) (by first | rfl | exact ‹_› | omega | (simp ; first | done | omega)) rfl)))))) | with_reducible apply Take.drop))))
      | trace_state
  · rw [blen_half h0] at he
    have hq : IntKind.i64.wrap ((m : Int).tdiv 2) = ((m / 2 : Nat) : Int) := by
      rw [Int.tdiv_eq_ediv_of_nonneg (by omega)]
      have : (m : Int) / 2 = ((m / 2 : Nat) : Int) := by omega
      rw [this]; exact IntWalk.i64_in _ (by omega)
    repeat' (first | apply w_seq | apply w_region | apply o_nil | (apply o_g tyOk; exact rfl; exact rfl) | (apply o_ar tyOk; exact rfl; exact rfl) | (apply w_dT; exact rfl; (focus (first | exact ‹_› | with_reducible exact rfl | omega))) | apply thenS_normal | apply blockS_normal | apply w_skip | apply w_block | ((with_reducible apply Sd.mk); (first | exact True.intro | omega | (constructor <;> first | omega | (unfold maxLen; omega)) | (unfold maxLen; omega))) | ((with_reducible apply Wr.mk); (first | exact hq | exact IntWalk.i64_in _ (by omega) | exact IntWalk.u8_in _ (by omega) | exact IntWalk.u32_in _ (by omega) | exact IntWalk.u64_in _ (by omega) | exact IntKind.wrap_u8 _ | exact IntKind.wrap_u32 _ | rfl)))
    all_goals first
      | (exfalso; omega)
      | exact ⟨(m / 2, k + 1), ⟨by show m / 2 ≤ _; omega, by show k + 1 + blen (m / 2) = R; omega⟩, by show m / 2 < m; omega, (by repeat' (first | exact trivial | refine ⟨rfl, ?_⟩ | refine ⟨congrArg some ?_, ?_⟩)), (by repeat (first | with_reducible exact Take.nil | with_reducible apply Take.c | ((with_reducible apply Take.cE); (first | exact rfl | (apply blkE; (focus (first | exact rfl | exact recs_snocE rfl | exact map_snocE rfl | exact congrArg (fun v => [v]) (gslE rfl rfl (by first | rfl | exact ‹_› | omega | (simp ; first | done | omega)) (by first | rfl | exact ‹_› | omega | (simp ; first | done | omega)) rfl)))))) | with_reducible apply Take.drop))⟩
      | trace_state
/-- Whether the encoder makes new bytes for a number. -/
def nfr (t : List Int) (e : Enc) (v : Int) : Bool :=
  tfr (blen (ncut v).toNat) 6 t e 1 || (if 2 ≤ blen (ncut v).toNat then dfr (ncut v) (blen (ncut v).toNat - 1) (tenc (blen (ncut v).toNat) 6 t e 1).2 else false)
theorem rEncNum_any (t : List Int) (v : Int) (e : Enc) (w : Value) (A0 : Nat) (h h1 : SH) (hp : Pick h A0 ⟨nodes t, false⟩ h1) (hv : RO h e.out w) (ht : t.length = 64) (hok : EncOk 800000 e) :
    SRun Try.prog 109 [reV w e.low e.size, gsl A0 0 64 64 1, I v] h fun r q =>
      ∃ B w' qo, r = .tuple ⟨[reV w' (nenc t e v).2.low (nenc t e v).2.size, gsl B 0 64 64 1]⟩ ∧ ROut h e.out w (nfr t e v) (nenc t e v).2.out w' qo ∧ q = (B, ⟨nodes (nenc t e v).1, false⟩) :: qo := by
  have hcut := ncut_in v
  obtain ⟨x, hx⟩ := Int.eq_ofNat_of_zero_le hcut.1
  have hl : blen x ≤ 62 := blen_le (by have : (2 : Nat) ^ 62 = 4611686018427387904 := rfl; omega)
  have hL := fun h => rlength_any x h (by omega)
  have hT := rTEnc_any 6 t (blen x : Int) e w A0
  have hok2 : EncOk 900000 (tenc (blen x : Int) 6 t e 1).2 := (tenc_ok (v := (blen x : Int)) (k := 6) (t := t) (j := 1) hok).1.mono (by omega)
  rw [ht] at hT
  unfold nenc nfr
  rw [hx, Int.toNat_natCast]
  by_cases hz : v < 0 ∨ 4611686018427387903 < v
  · have hx0 : x = 0 := by
      have : ncut v = 0 := if_pos hz
      omega
    subst hx0
    rw [show blen 0 = 0 from rfl] at *
    rw [if_neg (show ¬ 2 ≤ 0 by decide), if_neg (show ¬ 2 ≤ 0 by decide), Bool.or_false]
    generalize tenc ((0 : Nat) : Int) 6 t e 1 = T at *
    generalize tfr ((0 : Nat) : Int) 6 t e 1 = F at *
    obtain ⟨t2, o2, lo2, sz2⟩ := T
    obtain ⟨o1, lo1, sz1⟩ := e
    dsimp only at *
    rcases id hv with ⟨e0, rfl⟩ | ⟨A1, p2, rfl, hp2⟩
    all_goals
      rcases hz with hz | hz
      all_goals
        refine w_body3 Try.func109 rfl rfl ?_
        repeat' (first | apply w_seq | apply w_region | apply o_nil | (apply o_g tyOk; exact rfl; exact rfl) | (apply o_loads tyOk; (iterate 3 exact rfl); (focus (exact pk))) | (apply o_alloc tyOk; iterate 5 exact rfl) | (apply o_box (tt := tyT); iterate 5 exact rfl) | (apply o_call; exact rfl; exact rfl; (focus (first | exact rfl | assumption)); exact rfl; (focus (exact ⟨_, hL _, by repeat (first | with_reducible exact Take.nil | with_reducible apply Take.c | with_reducible apply Take.drop)⟩)); rintro _ _ ⟨rfl, rfl⟩) | (apply o_call; exact rfl; exact rfl; (focus (first | exact rfl | assumption)); exact rfl; (focus (exact ⟨_, hT _ _ (.tail (.tail hp)) (hv.re (.drop (.drop .nil))) rfl (by decide) (hok.mono (by omega)), by repeat (first | with_reducible exact Take.nil | with_reducible apply Take.c | with_reducible apply Take.drop)⟩)); rintro _ _ ⟨B, w1, qo, rfl, ro, rfl⟩) | (apply o_want; exact rfl; exact rfl) | (apply o_skip; iterate 4 exact rfl) | (apply o_gF; (iterate 3 exact rfl); (focus (first | exact ‹_› | with_reducible exact rfl | omega))) | (apply o_sT; (iterate 3 exact rfl); (focus (first | exact ‹_› | with_reducible exact rfl | omega)); exact rfl) | (apply w_true; exact rfl) | (apply w_dT; exact rfl; (focus (first | exact ‹_› | with_reducible exact rfl | omega))) | apply thenS_normal | ((with_reducible apply Sd.mk); (first | exact True.intro | omega | (constructor <;> first | omega | (unfold maxLen; omega)) | (unfold maxLen; omega))) | ((with_reducible apply Ln.mk); (first | rfl | exact ‹_› | omega | (simp ; first | done | omega))) | ((with_reducible apply Su.mk); (first | exact subAt_all | exact subAt_recZ (fun _ => rfl) (by omega) | exact subAt_rec (fun _ => rfl) (by omega))) | exact True.intro | intro A | exact rfl)
        all_goals first | (exfalso; omega) | skip
        cases ro
        all_goals
          repeat' (first | apply w_seq | apply w_region | apply o_nil | (apply o_g tyOk; exact rfl; exact rfl) | (apply o_loads tyOk; (iterate 3 exact rfl); (focus (exact pk))) | (apply o_stores tyOk; (iterate 4 exact rfl); (focus (exact ⟨rfl⟩)); (focus (exact up))) | (apply w_false; exact rfl) | apply thenS_normal | apply w_skip | apply w_ret | ((with_reducible apply Sd.mk); (first | exact True.intro | omega | (constructor <;> first | omega | (unfold maxLen; omega)) | (unfold maxLen; omega))) | ((with_reducible apply Ln.mk); (first | rfl | exact ‹_› | omega | (simp ; first | done | omega))) | ((with_reducible apply Pu.mk); (first | exact putAt_all rfl | exact putAt_recZ (fun _ => rfl) (by omega) | exact putAt_rec (fun _ => rfl) (by omega))) | ((with_reducible apply Su.mk); (first | exact subAt_all | exact subAt_recZ (fun _ => rfl) (by omega) | exact subAt_rec (fun _ => rfl) (by omega))) | exact True.intro | exact rfl)
          all_goals first
            | (exfalso; omega)
            | (apply s_fin; (exact (show ResS _ _ _ _ [_, _] from (res_cell tyOk rfl rfl rfl (by exact pk) (by first | rfl | exact ‹_› | omega | (simp ; first | done | omega)) (by first | rfl | exact ‹_› | omega | (simp ; first | done | omega)) ⟨rfl, trivial⟩))); (focus (first | exact ⟨B, _, _, rfl, .same, rfl⟩ | exact ⟨B, _, _, rfl, .new _ _, rfl⟩)); (focus (repeat (first | with_reducible exact Take.nil | with_reducible apply Take.c | ((with_reducible apply Take.cE); (first | exact rfl | (apply blkE; (focus (first | exact rfl | exact recs_snocE rfl | exact map_snocE rfl | exact congrArg (fun v => [v]) (gslE rfl rfl (by first | rfl | exact ‹_› | omega | (simp ; first | done | omega)) (by first | rfl | exact ‹_› | omega | (simp ; first | done | omega)) rfl)))))) | with_reducible apply Take.drop))))
            | trace_state
  · have hxv : v = x := by
      have : ncut v = v := if_neg hz
      omega
    subst hxv
    clear hx hcut
    generalize blen x = b at *
    generalize tenc (b : Int) 6 t e 1 = T at *
    generalize tfr (b : Int) 6 t e 1 = F at *
    obtain ⟨t2, o2, lo2, sz2⟩ := T
    obtain ⟨o1, lo1, sz1⟩ := e
    dsimp only at *
    by_cases hb2 : 2 ≤ b
    · rw [if_pos hb2, if_pos hb2]
      have hD := fun w h hr => rDirect_any ((b : Int) - 1) (x : Int) ⟨o2, lo2, sz2⟩ w h hr hok2 (by omega)
      rw [show ((b : Int) - 1).toNat = b - 1 by omega] at hD
      generalize edir ⟨o2, lo2, sz2⟩ ((b : Int) - 1) (x : Int) = E at *
      generalize dfr (x : Int) (b - 1) ⟨o2, lo2, sz2⟩ = G at *
      obtain ⟨o3, lo3, sz3⟩ := E
      dsimp only at *
      rcases id hv with ⟨e0, rfl⟩ | ⟨A1, p2, rfl, hp2⟩
      all_goals
        refine w_body3 Try.func109 rfl rfl ?_
        repeat' (first | apply w_seq | apply w_region | apply o_nil | (apply o_g tyOk; exact rfl; exact rfl) | (apply o_loads tyOk; (iterate 3 exact rfl); (focus (exact pk))) | (apply o_alloc tyOk; iterate 5 exact rfl) | (apply o_box (tt := tyT); iterate 5 exact rfl) | (apply o_call; exact rfl; exact rfl; (focus (first | exact rfl | assumption)); exact rfl; (focus (exact ⟨_, hL _, by repeat (first | with_reducible exact Take.nil | with_reducible apply Take.c | with_reducible apply Take.drop)⟩)); rintro _ _ ⟨rfl, rfl⟩) | (apply o_call; exact rfl; exact rfl; (focus (first | exact rfl | assumption)); exact rfl; (focus (exact ⟨_, hT _ _ (.tail (.tail hp)) (hv.re (.drop (.drop .nil))) rfl (by decide) (hok.mono (by omega)), by repeat (first | with_reducible exact Take.nil | with_reducible apply Take.c | with_reducible apply Take.drop)⟩)); rintro _ _ ⟨B, w1, qo, rfl, ro, rfl⟩) | (apply o_want; exact rfl; exact rfl) | (apply w_dF; exact rfl; (focus (first | exact ‹_› | with_reducible exact rfl | omega))) | apply thenS_normal | apply w_skip | ((with_reducible apply Sd.mk); (first | exact True.intro | omega | (constructor <;> first | omega | (unfold maxLen; omega)) | (unfold maxLen; omega))) | ((with_reducible apply Ln.mk); (first | rfl | exact ‹_› | omega | (simp ; first | done | omega))) | ((with_reducible apply Su.mk); (first | exact subAt_all | exact subAt_recZ (fun _ => rfl) (by omega) | exact subAt_rec (fun _ => rfl) (by omega))) | exact True.intro | intro A | exact rfl)
        all_goals first | (exfalso; omega) | skip
        cases ro with
        | same =>
          repeat' (first | apply w_seq | apply w_region | apply o_nil | (apply o_g tyOk; exact rfl; exact rfl) | (apply o_ar tyOk; exact rfl; exact rfl) | (apply o_loads tyOk; (iterate 3 exact rfl); (focus (exact pk))) | (apply o_stores tyOk; (iterate 4 exact rfl); (focus (exact ⟨rfl⟩)); (focus (exact up))) | (apply o_call; exact rfl; exact rfl; (focus (first | exact rfl | assumption)); exact rfl; (focus (exact ⟨_, hD _ _ (hv.re (.drop (.drop (.drop (.drop .nil))))), by repeat (first | with_reducible exact Take.nil | with_reducible apply Take.c | with_reducible apply Take.drop)⟩)); rintro _ _ ⟨w2, rfl, rd⟩) | (apply w_dT; exact rfl; (focus (first | exact ‹_› | with_reducible exact rfl | omega))) | apply thenS_normal | ((with_reducible apply Sd.mk); (first | exact True.intro | omega | (constructor <;> first | omega | (unfold maxLen; omega)) | (unfold maxLen; omega))) | ((with_reducible apply Ln.mk); (first | rfl | exact ‹_› | omega | (simp ; first | done | omega))) | ((with_reducible apply Wr.mk); (first | exact IntWalk.i64_in _ (by omega) | exact IntWalk.u8_in _ (by omega) | exact IntWalk.u32_in _ (by omega) | exact IntWalk.u64_in _ (by omega) | exact IntKind.wrap_u8 _ | exact IntKind.wrap_u32 _ | rfl)) | ((with_reducible apply Pu.mk); (first | exact putAt_all rfl | exact putAt_recZ (fun _ => rfl) (by omega) | exact putAt_rec (fun _ => rfl) (by omega))) | ((with_reducible apply Su.mk); (first | exact subAt_all | exact subAt_recZ (fun _ => rfl) (by omega) | exact subAt_rec (fun _ => rfl) (by omega))) | exact True.intro | exact rfl)
          all_goals first | (exfalso; omega) | skip
          cases rd
          all_goals
            repeat' (first | apply w_seq | apply w_region | apply o_nil | (apply o_g tyOk; exact rfl; exact rfl) | (apply o_loads tyOk; (iterate 3 exact rfl); (focus (exact pk))) | (apply o_stores tyOk; (iterate 4 exact rfl); (focus (exact ⟨rfl⟩)); (focus (exact up))) | apply thenS_normal | apply w_ret | ((with_reducible apply Sd.mk); (first | exact True.intro | omega | (constructor <;> first | omega | (unfold maxLen; omega)) | (unfold maxLen; omega))) | ((with_reducible apply Ln.mk); (first | rfl | exact ‹_› | omega | (simp ; first | done | omega))) | ((with_reducible apply Pu.mk); (first | exact putAt_all rfl | exact putAt_recZ (fun _ => rfl) (by omega) | exact putAt_rec (fun _ => rfl) (by omega))) | ((with_reducible apply Su.mk); (first | exact subAt_all | exact subAt_recZ (fun _ => rfl) (by omega) | exact subAt_rec (fun _ => rfl) (by omega))) | exact True.intro | exact rfl)
            all_goals first
              | (exfalso; omega)
              | (apply s_fin; (exact (show ResS _ _ _ _ [_, _] from (res_cell tyOk rfl rfl rfl (by exact pk) (by first | rfl | exact ‹_› | omega | (simp ; first | done | omega)) (by first | rfl | exact ‹_› | omega | (simp ; first | done | omega)) ⟨rfl, trivial⟩))); (focus (first | exact ⟨B, _, _, rfl, .same, rfl⟩ | exact ⟨B, _, _, rfl, .new _ _, rfl⟩)); (focus (repeat (first | with_reducible exact Take.nil | with_reducible apply Take.c | ((with_reducible apply Take.cE); (first | exact rfl | (apply blkE; (focus (first | exact rfl | exact recs_snocE rfl | exact map_snocE rfl | exact congrArg (fun v => [v]) (gslE rfl rfl (by first | rfl | exact ‹_› | omega | (simp ; first | done | omega)) (by first | rfl | exact ‹_› | omega | (simp ; first | done | omega)) rfl)))))) | with_reducible apply Take.drop))))
              | trace_state
        | new o O =>
          repeat' (first | apply w_seq | apply w_region | apply o_nil | (apply o_g tyOk; exact rfl; exact rfl) | (apply o_ar tyOk; exact rfl; exact rfl) | (apply o_loads tyOk; (iterate 3 exact rfl); (focus (exact pk))) | (apply o_stores tyOk; (iterate 4 exact rfl); (focus (exact ⟨rfl⟩)); (focus (exact up))) | (apply o_call; exact rfl; exact rfl; (focus (first | exact rfl | assumption)); exact rfl; (focus (exact ⟨_, hD _ _ (.inr ⟨_, _, rfl, .tail (.tail .head)⟩), by repeat (first | with_reducible exact Take.nil | with_reducible apply Take.c | with_reducible apply Take.drop)⟩)); rintro _ _ ⟨w2, rfl, rd⟩) | (apply w_dT; exact rfl; (focus (first | exact ‹_› | with_reducible exact rfl | omega))) | apply thenS_normal | ((with_reducible apply Sd.mk); (first | exact True.intro | omega | (constructor <;> first | omega | (unfold maxLen; omega)) | (unfold maxLen; omega))) | ((with_reducible apply Ln.mk); (first | rfl | exact ‹_› | omega | (simp ; first | done | omega))) | ((with_reducible apply Wr.mk); (first | exact IntWalk.i64_in _ (by omega) | exact IntWalk.u8_in _ (by omega) | exact IntWalk.u32_in _ (by omega) | exact IntWalk.u64_in _ (by omega) | exact IntKind.wrap_u8 _ | exact IntKind.wrap_u32 _ | rfl)) | ((with_reducible apply Pu.mk); (first | exact putAt_all rfl | exact putAt_recZ (fun _ => rfl) (by omega) | exact putAt_rec (fun _ => rfl) (by omega))) | ((with_reducible apply Su.mk); (first | exact subAt_all | exact subAt_recZ (fun _ => rfl) (by omega) | exact subAt_rec (fun _ => rfl) (by omega))) | exact True.intro | exact rfl)
          all_goals first | (exfalso; omega) | skip
          cases rd
          all_goals
            repeat' (first | apply w_seq | apply w_region | apply o_nil | (apply o_g tyOk; exact rfl; exact rfl) | (apply o_loads tyOk; (iterate 3 exact rfl); (focus (exact pk))) | (apply o_stores tyOk; (iterate 4 exact rfl); (focus (exact ⟨rfl⟩)); (focus (exact up))) | apply thenS_normal | apply w_ret | ((with_reducible apply Sd.mk); (first | exact True.intro | omega | (constructor <;> first | omega | (unfold maxLen; omega)) | (unfold maxLen; omega))) | ((with_reducible apply Ln.mk); (first | rfl | exact ‹_› | omega | (simp ; first | done | omega))) | ((with_reducible apply Pu.mk); (first | exact putAt_all rfl | exact putAt_recZ (fun _ => rfl) (by omega) | exact putAt_rec (fun _ => rfl) (by omega))) | ((with_reducible apply Su.mk); (first | exact subAt_all | exact subAt_recZ (fun _ => rfl) (by omega) | exact subAt_rec (fun _ => rfl) (by omega))) | exact True.intro | exact rfl)
            all_goals first
              | (exfalso; omega)
              | (apply s_fin; (exact (show ResS _ _ _ _ [_, _] from (res_cell tyOk rfl rfl rfl (by exact pk) (by first | rfl | exact ‹_› | omega | (simp ; first | done | omega)) (by first | rfl | exact ‹_› | omega | (simp ; first | done | omega)) ⟨rfl, trivial⟩))); (focus (first | exact ⟨B, _, _, rfl, .same, rfl⟩ | exact ⟨B, _, _, rfl, .new _ _, rfl⟩)); (focus (repeat (first | with_reducible exact Take.nil | with_reducible apply Take.c | ((with_reducible apply Take.cE); (first | exact rfl | (apply blkE; (focus (first | exact rfl | exact recs_snocE rfl | exact map_snocE rfl | exact congrArg (fun v => [v]) (gslE rfl rfl (by first | rfl | exact ‹_› | omega | (simp ; first | done | omega)) (by first | rfl | exact ‹_› | omega | (simp ; first | done | omega)) rfl)))))) | with_reducible apply Take.drop))))
              | trace_state
    · rw [if_neg hb2, if_neg hb2, Bool.or_false]
      rcases id hv with ⟨e0, rfl⟩ | ⟨A1, p2, rfl, hp2⟩
      all_goals
        refine w_body3 Try.func109 rfl rfl ?_
        repeat' (first | apply w_seq | apply w_region | apply o_nil | (apply o_g tyOk; exact rfl; exact rfl) | (apply o_loads tyOk; (iterate 3 exact rfl); (focus (exact pk))) | (apply o_alloc tyOk; iterate 5 exact rfl) | (apply o_box (tt := tyT); iterate 5 exact rfl) | (apply o_call; exact rfl; exact rfl; (focus (first | exact rfl | assumption)); exact rfl; (focus (exact ⟨_, hL _, by repeat (first | with_reducible exact Take.nil | with_reducible apply Take.c | with_reducible apply Take.drop)⟩)); rintro _ _ ⟨rfl, rfl⟩) | (apply o_call; exact rfl; exact rfl; (focus (first | exact rfl | assumption)); exact rfl; (focus (exact ⟨_, hT _ _ (.tail (.tail hp)) (hv.re (.drop (.drop .nil))) rfl (by decide) (hok.mono (by omega)), by repeat (first | with_reducible exact Take.nil | with_reducible apply Take.c | with_reducible apply Take.drop)⟩)); rintro _ _ ⟨B, w1, qo, rfl, ro, rfl⟩) | (apply o_want; exact rfl; exact rfl) | (apply w_dF; exact rfl; (focus (first | exact ‹_› | with_reducible exact rfl | omega))) | apply thenS_normal | apply w_skip | ((with_reducible apply Sd.mk); (first | exact True.intro | omega | (constructor <;> first | omega | (unfold maxLen; omega)) | (unfold maxLen; omega))) | ((with_reducible apply Ln.mk); (first | rfl | exact ‹_› | omega | (simp ; first | done | omega))) | ((with_reducible apply Su.mk); (first | exact subAt_all | exact subAt_recZ (fun _ => rfl) (by omega) | exact subAt_rec (fun _ => rfl) (by omega))) | exact True.intro | intro A | exact rfl)
        all_goals first | (exfalso; omega) | skip
        cases ro
        all_goals
          repeat' (first | apply w_seq | apply w_region | apply o_nil | (apply o_g tyOk; exact rfl; exact rfl) | (apply o_loads tyOk; (iterate 3 exact rfl); (focus (exact pk))) | (apply o_stores tyOk; (iterate 4 exact rfl); (focus (exact ⟨rfl⟩)); (focus (exact up))) | (apply w_dF; exact rfl; (focus (first | exact ‹_› | with_reducible exact rfl | omega))) | apply thenS_normal | apply w_skip | apply w_ret | ((with_reducible apply Sd.mk); (first | exact True.intro | omega | (constructor <;> first | omega | (unfold maxLen; omega)) | (unfold maxLen; omega))) | ((with_reducible apply Ln.mk); (first | rfl | exact ‹_› | omega | (simp ; first | done | omega))) | ((with_reducible apply Pu.mk); (first | exact putAt_all rfl | exact putAt_recZ (fun _ => rfl) (by omega) | exact putAt_rec (fun _ => rfl) (by omega))) | ((with_reducible apply Su.mk); (first | exact subAt_all | exact subAt_recZ (fun _ => rfl) (by omega) | exact subAt_rec (fun _ => rfl) (by omega))) | exact True.intro | exact rfl)
          all_goals first
            | (exfalso; omega)
            | (apply s_fin; (exact (show ResS _ _ _ _ [_, _] from (res_cell tyOk rfl rfl rfl (by exact pk) (by first | rfl | exact ‹_› | omega | (simp ; first | done | omega)) (by first | rfl | exact ‹_› | omega | (simp ; first | done | omega)) ⟨rfl, trivial⟩))); (focus (first | exact ⟨B, _, _, rfl, .same, rfl⟩ | exact ⟨B, _, _, rfl, .new _ _, rfl⟩)); (focus (repeat (first | with_reducible exact Take.nil | with_reducible apply Take.c | ((with_reducible apply Take.cE); (first | exact rfl | (apply blkE; (focus (first | exact rfl | exact recs_snocE rfl | exact map_snocE rfl | exact congrArg (fun v => [v]) (gslE rfl rfl (by first | rfl | exact ‹_› | omega | (simp ; first | done | omega)) (by first | rfl | exact ‹_› | omega | (simp ; first | done | omega)) rfl)))))) | with_reducible apply Take.drop))))
            | trace_state
end Go.Proofs.Ytgooffiipnkmiaa
end
section
set_option linter.unusedVariables false
set_option linter.unusedSimpArgs false
set_option maxRecDepth 4000
namespace Go.Proofs.Ytgooffiipnkmiaa
open Go.Gh Go.RowKit

abbrev tsl (B : Nat) : Value := gsl B 0 256 256 1
/-- The first trees of a model lie in the heap. -/
def BTs (h : SH) (P : List Int) (n : Nat) (ts : List Value) : Prop := ts.length = n ∧ ∀ k, k < n → ∃ B h2, ts[k]? = some (tsl B) ∧ Pick h B ⟨nodes (bsel P k), false⟩ h2
theorem BTs.re {h h' : SH} {P : List Int} {n : Nat} {ts : List Value} (b : BTs h P n ts) (t : Take h' h) : BTs h' P n ts :=
  ⟨b.1, fun k hk => by
    obtain ⟨B, h2, e, p⟩ := b.2 k hk
    obtain ⟨h3, g, _⟩ := t.pick p
    exact ⟨B, h3, e, g⟩⟩
theorem BTs.old {h : SH} {P : List Int} {n : Nat} {ts : List Value} (b : BTs h P n ts) : ∀ v ∈ ts, ∃ B o n len fl b p1, v = gsl B o n len fl ∧ Pick h B b p1 := fun v hv => by
  obtain ⟨i, hi, rfl⟩ := List.mem_iff_getElem.1 hv
  obtain ⟨B, h2, e, p⟩ := b.2 i (by rw [← b.1]; exact hi)
  rw [List.getElem?_eq_getElem hi] at e
  exact ⟨B, 0, 256, 256, 1, _, _, Option.some.inj e, p⟩
theorem BTs.set {h : SH} {P t : List Int} {ts : List Value} {k B : Nat} {h2 : SH} (b : BTs h P 8 ts) (hk : k < 8) (hP : P.length = 2048) (ht : t.length = 256) (p : Pick h B ⟨nodes t, false⟩ h2) : BTs h (bput P k t) 8 (ts.set k (tsl B)) := by
  refine ⟨by rw [List.length_set]; exact b.1, fun j hj => ?_⟩
  have h1 : ∀ i, i < 8 → bsel (bput P k t) i = if i = k then t else bsel P i := fun i hi => by
    unfold bsel bput
    have hl : (P.take (k * 256)).length = k * 256 := by rw [List.length_take]; omega
    by_cases e : i = k
    · subst e
      rw [if_pos rfl, List.append_assoc, List.drop_append_of_le_length (by omega), List.drop_of_length_le (by omega), List.nil_append, List.take_append_of_le_length (by omega), List.take_of_length_le (by omega)]
    · rw [if_neg e]
      refine List.ext_getElem? fun m => ?_
      by_cases hm : m < 256
      · rw [List.getElem?_take_of_lt hm, List.getElem?_take_of_lt hm, List.getElem?_drop, List.getElem?_drop]
        by_cases hik : i < k
        · rw [List.append_assoc, List.getElem?_append_left (by rw [hl]; omega), List.getElem?_take_of_lt (by omega)]
        · rw [List.getElem?_append_right (by rw [List.length_append, hl]; omega), List.getElem?_drop, List.length_append, hl, ht]
          congr 1; omega
      · rw [List.getElem?_take_eq_none (by omega), List.getElem?_take_eq_none (by omega)]
  rw [h1 j hj]
  by_cases e : j = k
  · subst e
    rw [if_pos rfl, List.getElem?_set_self (by rw [b.1]; exact hk)]
    exact ⟨B, h2, rfl, p⟩
  · rw [if_neg e, List.getElem?_set_ne (fun g => e g.symm)]
    exact b.2 j hj
theorem bsel_nd0 : ∀ k : Nat, k < 8 → bsel (List.replicate 2048 1024) k = List.replicate 256 1024 := fun k hk => by
  unfold bsel
  rw [List.drop_replicate, List.take_replicate, Nat.min_eq_left (by omega)]
abbrev mbV (C : Nat) (c : Int) : Value := .agg ⟨[gsl C 0 8 8 1, Y c]⟩
theorem BTs.snoc {h : SH} {P : List Int} {n A : Nat} {ts : List Value} (b : BTs h P n ts) {blk : Blk} (e : blk = ⟨nodes (bsel P n), false⟩) : BTs ((A, blk) :: h) P (n + 1) (ts ++ [tsl A]) := by
  subst e
  refine ⟨by rw [List.length_append, b.1]; rfl, fun k hk => ?_⟩
  by_cases e : k = n
  · subst e
    rw [List.getElem?_append_right (by rw [b.1]; exact Nat.le_refl _), b.1, Nat.sub_self]
    exact ⟨A, _, rfl, .head⟩
  · rw [List.getElem?_append_left (by rw [b.1]; omega)]
    exact (b.re (.drop .nil)).2 k (by omega)
def mbw : Option Nat → Nat → Value
  | none, _ => .slice none 0 0
  | some C, n => gsl C 0 n n 1
def mbq : Option Nat → List Value → SH → SH
  | none, _, q => q
  | some C, ts, q => (C, ⟨ts, false⟩) :: q
theorem rNewBytes_any (h : SH) : SRun Try.prog 106 [] h fun r q => ∃ C ts h2, r = mbV C 0 ∧ Pick q C ⟨ts, false⟩ h2 ∧ BTs q (List.replicate 2048 1024) 8 ts ∧ Take q h := by
  have hT : ∀ h, SRun Try.prog 105 [I 8] h fun r q => ∃ A, r = tsl A ∧ q = (A, ⟨nodes (List.replicate 256 1024), false⟩) :: h := fun h => rNewTree_any 8 h (by decide)
  have hb0 := bsel_nd0
  generalize (List.replicate 2048 1024 : List Int) = X at *
  refine w_body0 Try.func106 rfl rfl ?_
  repeat' (first | apply w_seq | apply w_region | apply o_nil | (apply o_g tyOk; exact rfl; exact rfl) | (apply o_stores tyOk; (iterate 4 exact rfl); (focus (exact ⟨rfl⟩)); (focus (exact up))) | (apply o_alloc tyOk; iterate 5 exact rfl) | (apply o_build tyOk; exact rfl; exact rfl; (focus (first | with_reducible exact pl128)); exact rfl; (focus (repeat (first | exact BuildR.nil | (apply BuildR.one; exact rfl; exact rfl; (first | (focus ((repeat (first | exact SetAt.zero | apply SetAt.succ)); done)) | exact setAt_bytes (by omega) (by omega) | exact setAt_mapZ (by omega) | exact setAt_map (by omega))) | (apply BuildR.agg; exact rfl; exact rfl; (first | exact putAt_all rfl | exact putAt_recZ (fun _ => rfl) (by omega) | exact putAt_rec (fun _ => rfl) (by omega)))))); exact rfl) | apply thenS_normal | apply w_block | ((with_reducible apply Sd.mk); (first | exact True.intro | omega | (constructor <;> first | omega | (unfold maxLen; omega)) | (unfold maxLen; omega))) | ((with_reducible apply Ln.mk); (first | rfl | exact ‹_› | omega | (simp ; first | done | omega))) | ((with_reducible apply Pu.mk); (first | exact putAt_all rfl | exact putAt_recZ (fun _ => rfl) (by omega) | exact putAt_rec (fun _ => rfl) (by omega))) | exact True.intro | intro A)
  rename_i A0
  refine w_loop (S := List Value × Option Nat × SH) (fun x => [(0, gptr A0 0 2), (1, gptr A 0 2), (2, I x.1.length)]) (fun x => (A, ⟨[mbw x.2.1 x.1.length, Y 0], false⟩) :: (A0, ⟨[.slice none 0 0, Y 0], false⟩) :: mbq x.2.1 x.1 x.2.2)
    (fun x => x.1.length ≤ 8 ∧ BTs x.2.2 X x.1.length x.1 ∧ (x.2.1 = none ↔ x.1 = []) ∧ Take x.2.2 h) (fun x => 8 - x.1.length)
    ([], none, h) ⟨Nat.zero_le _, ⟨rfl, fun k hk => absurd hk (Nat.not_lt_zero _)⟩, Iff.intro (fun _ => rfl) (fun _ => rfl), .nil⟩ (by repeat' (first | exact trivial | refine ⟨rfl, ?_⟩ | refine ⟨congrArg some ?_, ?_⟩)) (show Take _ ((A, ⟨[.slice none 0 0, Y 0], false⟩) :: (A0, ⟨[.slice none 0 0, Y 0], false⟩) :: h) from (by repeat (first | with_reducible exact Take.nil | with_reducible apply Take.c | ((with_reducible apply Take.cE); (first | exact rfl | (apply blkE; (focus (first | exact rfl | exact recs_snocE rfl | exact map_snocE rfl | exact congrArg (fun v => [v]) (gslE rfl rfl (by first | rfl | exact ‹_› | omega | (simp ; first | done | omega)) (by first | rfl | exact ‹_› | omega | (simp ; first | done | omega)) rfl)))))) | with_reducible apply Take.drop))) ?_
  rintro ⟨ts, o, q⟩ ⟨hl, hb, hw, tq⟩
  dsimp only at hl hb hw tq ⊢
  by_cases h8 : ts.length < 8
  · cases o with
    | none =>
      obtain rfl := hw.1 rfl
      show SWp _ _ _ _ _ ((A, ⟨[.slice none 0 0, Y 0], false⟩) :: (A0, ⟨[.slice none 0 0, Y 0], false⟩) :: q)
      repeat' (first | apply w_seq | apply w_region | apply o_nil | (apply w_draw; (focus (kernel_rfl)); (focus (kernel_rfl))) | (apply o_g tyOk; exact rfl; exact rfl) | (apply o_ar tyOk; exact rfl; exact rfl) | (apply o_load tyOk; (iterate 3 exact rfl); (focus (exact pk))) | (apply o_store tyOk; (iterate 4 exact rfl); (focus (exact up))) | (apply o_buildSlice tyOk; (iterate 5 exact rfl); (focus (decide)); exact rfl; (focus (decide)); (focus (repeat (first | exact CatR.nil | exact CatR.last rfl | (apply CatR.one; exact rfl; exact rfl) | (apply CatR.agg; exact rfl)))); exact rfl) | (apply o_append_nil tyOk; (iterate 5 exact rfl); (focus (exact ⟨by decide⟩)); (focus (exact pk))) | (apply o_callE1; (iterate 4 exact rfl); (focus (exact ⟨hT _, by repeat (first | with_reducible exact Take.nil | with_reducible apply Take.c | with_reducible apply Take.drop)⟩)); (focus ((intro _; (first | exact List.Perm.refl _ | (simp; done) | exact List.Perm.swap _ _ _)))); (focus ((intro A1 A2 ρ D e1 d1 hρ hD; refine ⟨?_, ?_⟩; (focus (repeat (first | exact VR.const rfl | (apply VR.ptr'; (focus (first | exact e1 | exact e2 | exact e3 | ((apply rho_pick hρ); (exact pk)))); (focus (first | exact d1 | exact d2 | exact d3 | ((apply dom_pick hD); (exact pk))))) | (apply VR.slc'; (focus (first | exact e1 | exact e2 | exact e3 | ((apply rho_pick hρ); (exact pk)))); (focus (first | exact d1 | exact d2 | exact d3 | ((apply dom_pick hD); (exact pk))))) | exact VR.sdead | apply VRs.tuple | apply VRs.agg | exact VRs.nil | ((apply VRs.const); (focus (first | exact bytesV_const _ | exact map_const (fun _ => rfl) | exact recs_const (fun _ v hv => by simp only [List.mem_cons, List.not_mem_nil, or_false] at hv; rcases hv with rfl | rfl | rfl | rfl | rfl <;> rfl)))) | apply VRs.cons))); (focus (repeat (first | exact SHR.nil | ((apply SHR.same); (focus (intro x hx; (repeat (first | exact hx | apply List.mem_cons_of_mem)); done))) | ((apply SHR.keep); (focus ((repeat (first | with_reducible exact List.mem_cons_self | apply List.mem_cons_of_mem)); done))) | (apply SHR.cons; (focus (first | exact e1 | exact e2 | exact e3 | ((apply rho_pick hρ); (exact pk)))); (focus (repeat (first | exact VR.const rfl | (apply VR.ptr'; (focus (first | exact e1 | exact e2 | exact e3 | ((apply rho_pick hρ); (exact pk)))); (focus (first | exact d1 | exact d2 | exact d3 | ((apply dom_pick hD); (exact pk))))) | (apply VR.slc'; (focus (first | exact e1 | exact e2 | exact e3 | ((apply rho_pick hρ); (exact pk)))); (focus (first | exact d1 | exact d2 | exact d3 | ((apply dom_pick hD); (exact pk))))) | exact VR.sdead | apply VRs.tuple | apply VRs.agg | exact VRs.nil | ((apply VRs.const); (focus (first | exact bytesV_const _ | exact map_const (fun _ => rfl) | exact recs_const (fun _ v hv => by simp only [List.mem_cons, List.not_mem_nil, or_false] at hv; rcases hv with rfl | rfl | rfl | rfl | rfl <;> rfl)))) | apply VRs.cons))))))))))) | (apply w_true; exact rfl) | apply thenS_normal | apply blockS_normal | apply w_skip | apply w_block | ((with_reducible apply Sd.mk); (first | exact True.intro | omega | (constructor <;> first | omega | (unfold maxLen; omega)) | (unfold maxLen; omega))) | ((with_reducible apply Ln.mk); (first | rfl | exact ‹_› | omega | (simp ; first | done | omega))) | ((with_reducible apply Wr.mk); (first | exact IntWalk.i64_in _ (by omega) | exact IntWalk.u8_in _ (by omega) | exact IntWalk.u32_in _ (by omega) | exact IntWalk.u64_in _ (by omega) | exact IntKind.wrap_u8 _ | exact IntKind.wrap_u32 _ | rfl)) | ((with_reducible apply Ce.mk); (first | rfl | exact ‹_› | exact cell_recZ (fun _ => rfl) (by omega) (by decide) rfl | exact cell_rec (fun _ => rfl) (by omega) (by decide) rfl | exact cell_bytes (by omega) | exact cell_mapZ (by omega) | exact cell_map (by omega))) | ((with_reducible apply Se.mk); (first | (focus ((repeat (first | exact SetAt.zero | apply SetAt.succ)); done)) | exact setAt_bytes (by omega) (by omega) | exact setAt_mapZ (by omega) | exact setAt_map (by omega))) | ((with_reducible apply Su.mk); (first | exact subAt_all | exact subAt_recZ (fun _ => rfl) (by omega) | exact subAt_rec (fun _ => rfl) (by omega))) | exact True.intro | refine Rc.mk ⟨_, _, pk, ?_⟩ | exact Or.inl rfl | apply And.intro | apply Or.inr | intro A | exact rfl)
      rename_i A1 A3
      all_goals first
        | exact ⟨([tsl A1], some A, (A1, ⟨nodes (List.replicate 256 1024), false⟩) :: q), ⟨by show 1 ≤ 8; decide, hb.snoc (by rw [hb0 _ h8]), by simp, .drop tq⟩, by show 8 - 1 < 8 - 0; decide, ⟨rfl, rfl, rfl, trivial⟩, .cons (.tail (.tail (.tail .head))) (.cons (.tail (.tail (.tail .head))) (.cons .head (.cons (.tail .head) (.drop .nil))))⟩
        | trace_state
    | some C =>
      show SWp _ _ _ _ _ ((A, ⟨[gsl C 0 ts.length ts.length 1, Y 0], false⟩) :: (A0, ⟨[.slice none 0 0, Y 0], false⟩) :: (C, ⟨ts, false⟩) :: q)
      repeat' (first | apply w_seq | apply w_region | apply o_nil | (apply w_draw; (focus (kernel_rfl)); (focus (kernel_rfl))) | (apply o_g tyOk; exact rfl; exact rfl) | (apply o_ar tyOk; exact rfl; exact rfl) | (apply o_load tyOk; (iterate 3 exact rfl); (focus (exact pk))) | (apply o_store tyOk; (iterate 4 exact rfl); (focus (exact up))) | (apply o_buildSlice tyOk; (iterate 5 exact rfl); (focus (decide)); exact rfl; (focus (decide)); (focus (repeat (first | exact CatR.nil | exact CatR.last rfl | (apply CatR.one; exact rfl; exact rfl) | (apply CatR.agg; exact rfl)))); exact rfl) | (apply o_append tyOk; (iterate 5 exact rfl); (focus (exact ⟨by decide⟩)); (focus (exact up)); (focus (exact pk))) | (apply o_callE1; (iterate 4 exact rfl); (focus (exact ⟨hT _, by repeat (first | with_reducible exact Take.nil | with_reducible apply Take.c | with_reducible apply Take.drop)⟩)); (focus ((intro _; (first | exact List.Perm.refl _ | (simp; done) | exact List.Perm.swap _ _ _)))); (focus ((intro A1 A2 ρ D e1 d1 hρ hD; refine ⟨?_, ?_⟩; (focus (repeat (first | exact VR.const rfl | (apply VR.ptr'; (focus (first | exact e1 | exact e2 | exact e3 | ((apply rho_pick hρ); (exact pk)))); (focus (first | exact d1 | exact d2 | exact d3 | ((apply dom_pick hD); (exact pk))))) | (apply VR.slc'; (focus (first | exact e1 | exact e2 | exact e3 | ((apply rho_pick hρ); (exact pk)))); (focus (first | exact d1 | exact d2 | exact d3 | ((apply dom_pick hD); (exact pk))))) | exact VR.sdead | apply VRs.tuple | apply VRs.agg | exact VRs.nil | ((apply VRs.const); (focus (first | exact bytesV_const _ | exact map_const (fun _ => rfl) | exact recs_const (fun _ v hv => by simp only [List.mem_cons, List.not_mem_nil, or_false] at hv; rcases hv with rfl | rfl | rfl | rfl | rfl <;> rfl)))) | apply VRs.cons))); (focus (repeat (first | exact SHR.nil | ((apply SHR.same); (focus (intro x hx; (repeat (first | exact hx | apply List.mem_cons_of_mem)); done))) | ((apply SHR.keep); (focus ((repeat (first | with_reducible exact List.mem_cons_self | apply List.mem_cons_of_mem)); done))) | (apply SHR.cons; (focus (first | exact e1 | exact e2 | exact e3 | ((apply rho_pick hρ); (exact pk)))); (focus (repeat (first | exact VR.const rfl | (apply VR.ptr'; (focus (first | exact e1 | exact e2 | exact e3 | ((apply rho_pick hρ); (exact pk)))); (focus (first | exact d1 | exact d2 | exact d3 | ((apply dom_pick hD); (exact pk))))) | (apply VR.slc'; (focus (first | exact e1 | exact e2 | exact e3 | ((apply rho_pick hρ); (exact pk)))); (focus (first | exact d1 | exact d2 | exact d3 | ((apply dom_pick hD); (exact pk))))) | exact VR.sdead | apply VRs.tuple | apply VRs.agg | exact VRs.nil | ((apply VRs.const); (focus (first | exact bytesV_const _ | exact map_const (fun _ => rfl) | exact recs_const (fun _ v hv => by simp only [List.mem_cons, List.not_mem_nil, or_false] at hv; rcases hv with rfl | rfl | rfl | rfl | rfl <;> rfl)))) | apply VRs.cons))))))))))) | (apply w_dT; exact rfl; (focus (first | exact ‹_› | with_reducible exact rfl | omega))) | apply thenS_normal | apply blockS_normal | apply w_skip | apply w_block | ((with_reducible apply Sd.mk); (first | exact True.intro | omega | (constructor <;> first | omega | (unfold maxLen; omega)) | (unfold maxLen; omega))) | ((with_reducible apply Ln.mk); (first | rfl | exact ‹_› | omega | (simp ; first | done | omega))) | ((with_reducible apply Wr.mk); (first | exact IntWalk.i64_in _ (by omega) | exact IntWalk.u8_in _ (by omega) | exact IntWalk.u32_in _ (by omega) | exact IntWalk.u64_in _ (by omega) | exact IntKind.wrap_u8 _ | exact IntKind.wrap_u32 _ | rfl)) | ((with_reducible apply Ce.mk); (first | rfl | exact ‹_› | exact cell_recZ (fun _ => rfl) (by omega) (by decide) rfl | exact cell_rec (fun _ => rfl) (by omega) (by decide) rfl | exact cell_bytes (by omega) | exact cell_mapZ (by omega) | exact cell_map (by omega))) | ((with_reducible apply Se.mk); (first | (focus ((repeat (first | exact SetAt.zero | apply SetAt.succ)); done)) | exact setAt_bytes (by omega) (by omega) | exact setAt_mapZ (by omega) | exact setAt_map (by omega))) | ((with_reducible apply Su.mk); (first | exact subAt_all | exact subAt_recZ (fun _ => rfl) (by omega) | exact subAt_rec (fun _ => rfl) (by omega))) | exact True.intro | refine Rc.mk ⟨_, _, pk, ?_⟩ | exact Or.inl rfl | apply And.intro | apply Or.inr | intro A | exact rfl)
      rename_i A1
      all_goals first
        | exact ⟨(ts ++ [tsl A1], some C, (A1, ⟨nodes (List.replicate 256 1024), false⟩) :: q), ⟨by rw [List.length_append, List.length_singleton]; omega, by rw [List.length_append, List.length_singleton]; exact hb.snoc (by rw [hb0 _ h8]), by simp, .drop tq⟩, by rw [List.length_append, List.length_singleton]; omega,
            ⟨rfl, rfl, congrArg some (congrArg (Value.int .i64) (by simp)), trivial⟩, .consE (.tail (.tail .head)) (blkE (by simp [mbw])) (.cons (.tail (.tail .head)) (.cons (.tail (.tail .head)) (.cons (.tail .head) (.drop .nil))))⟩
        | trace_state
  · obtain ⟨C, rfl⟩ : ∃ C, o = some C := by
      cases o with
      | none => obtain rfl := hw.1 rfl; exact absurd (show ([] : List Value).length < 8 by decide) h8
      | some C => exact ⟨C, rfl⟩
    have h8' : ts.length = 8 := by omega
    show SWp _ _ _ _ _ ((A, ⟨[gsl C 0 ts.length ts.length 1, Y 0], false⟩) :: (A0, ⟨[.slice none 0 0, Y 0], false⟩) :: (C, ⟨ts, false⟩) :: q)
    rw [h8'] at hb ⊢
    repeat' (first | apply w_seq | apply w_region | apply o_nil | (apply o_g tyOk; exact rfl; exact rfl) | (apply o_loads tyOk; (iterate 3 exact rfl); (focus (exact pk))) | (apply o_stores tyOk; (iterate 4 exact rfl); (focus (exact ⟨rfl⟩)); (focus (exact up))) | (apply w_false; exact rfl) | apply thenS_normal | apply thenS_exit | apply blockS_exit | apply w_ret | apply w_exit | ((with_reducible apply Sd.mk); (first | exact True.intro | omega | (constructor <;> first | omega | (unfold maxLen; omega)) | (unfold maxLen; omega))) | ((with_reducible apply Ln.mk); (first | rfl | exact ‹_› | omega | (simp ; first | done | omega))) | ((with_reducible apply Pu.mk); (first | exact putAt_all rfl | exact putAt_recZ (fun _ => rfl) (by omega) | exact putAt_rec (fun _ => rfl) (by omega))) | ((with_reducible apply Su.mk); (first | exact subAt_all | exact subAt_recZ (fun _ => rfl) (by omega) | exact subAt_rec (fun _ => rfl) (by omega))) | exact True.intro | exact rfl)
    all_goals first
      | (exfalso; omega)
      | (apply s_fin; (exact (show ResS _ _ _ _ [_] from (res_cell tyOk rfl rfl rfl (by exact pk) (by first | rfl | exact ‹_› | omega | (simp ; first | done | omega)) (by first | rfl | exact ‹_› | omega | (simp ; first | done | omega)) trivial))); (focus (exact ⟨C, ts, _, rfl, .head, hb.re (.drop .nil), .drop tq⟩)); (focus (repeat (first | with_reducible exact Take.nil | with_reducible apply Take.c | ((with_reducible apply Take.cE); (first | exact rfl | (apply blkE; (focus (first | exact rfl | exact recs_snocE rfl | exact map_snocE rfl | exact congrArg (fun v => [v]) (gslE rfl rfl (by first | rfl | exact ‹_› | omega | (simp ; first | done | omega)) (by first | rfl | exact ‹_› | omega | (simp ; first | done | omega)) rfl)))))) | with_reducible apply Take.drop))))
      | trace_state
end Go.Proofs.Ytgooffiipnkmiaa
end
section
set_option linter.unusedVariables false
set_option linter.unusedSimpArgs false
set_option maxRecDepth 4000
namespace Go.Proofs.Ytgooffiipnkmiaa
open Go.Gh Go.RowKit

theorem quo32 {c : Int} (h : 0 ≤ c ∧ c ≤ 255) : IntKind.u8.wrap (c.tdiv 32) = c / 32 := by
  rw [Int.tdiv_eq_ediv_of_nonneg h.1]
  exact IntWalk.u8_in _ (by omega)
theorem old_one {h : SH} {ts : List Value} (g : ∀ v ∈ ts, ∃ B o n len fl b p1, v = gsl B o n len fl ∧ Pick h B b p1) : ts.all one = true := by
  rw [List.all_eq_true]
  intro v hv
  obtain ⟨B, o, n, len, fl, b, p1, rfl, _⟩ := g v hv
  rfl
theorem rwith_any (C B : Nat) (c c' : Int) (ts : List Value) (h h2 : SH) (hp : Pick h C ⟨ts, false⟩ h2) (hl : ts.length = 8) (ho : ts.all one = true) (hc0 : 0 ≤ c ∧ c ≤ 255) :
    SRun Try.prog 117 [mbV C c, tsl B, Y c'] h fun r q => ∃ C', r = mbV C' c' ∧ q = (C', ⟨ts.set (c / 32).toNat (tsl B), false⟩) :: h := by
  have hq := quo32 hc0
  have hset : SetAt ts (0 + (c / 32).toNat * 1) (tsl B) (ts.set (c / 32).toNat (tsl B)) := by rw [Nat.zero_add, Nat.mul_one]; exact SetAt.any (by omega)
  refine w_body3 Try.func117 rfl rfl ?_
  repeat' (first | apply w_seq | apply w_region | apply o_nil | (apply o_g tyOk; exact rfl; exact rfl) | (apply o_ar tyOk; exact rfl; exact rfl) | (apply o_load tyOk; (iterate 3 exact rfl); (focus (exact pk))) | (apply o_store tyOk; (iterate 4 exact rfl); (focus (exact up))) | (apply o_stores tyOk; (iterate 4 exact rfl); (focus (exact ⟨rfl⟩)); (focus (exact up))) | (apply o_alloc tyOk; iterate 5 exact rfl) | (apply o_box (tt := tyT); iterate 5 exact rfl) | (apply o_build tyOk; exact rfl; exact rfl; (focus (first | with_reducible exact pl18 | with_reducible exact pl19 | with_reducible exact pl128)); exact rfl; (focus (repeat (first | exact BuildR.nil | (apply BuildR.one; exact rfl; exact rfl; (first | (focus ((repeat (first | exact SetAt.zero | apply SetAt.succ)); done)) | exact hset | exact setAt_bytes (by omega) (by omega) | exact setAt_mapZ (by omega) | exact setAt_map (by omega))) | (apply BuildR.agg; exact rfl; exact rfl; (first | exact putAt_all rfl | exact putAt_recZ (fun _ => rfl) (by omega) | exact putAt_rec (fun _ => rfl) (by omega)))))); exact rfl) | (apply o_buildSlice tyOk; (iterate 5 exact rfl); (focus (decide)); exact rfl; (focus (decide)); (focus (repeat (first | exact CatR.nil | exact CatR.last rfl | (apply CatR.one; exact rfl; exact rfl) | (apply CatR.agg; exact rfl)))); exact rfl) | (apply o_append tyOk; (iterate 5 exact rfl); (focus (exact ⟨by decide⟩)); (focus (exact up)); (focus (exact pk))) | apply thenS_normal | apply w_ret | ((with_reducible apply Sd.mk); (first | exact True.intro | omega | (constructor <;> first | omega | (unfold maxLen; omega)) | (unfold maxLen; omega))) | ((with_reducible apply Ln.mk); (first | rfl | exact ‹_› | omega | (simp [hl]; first | done | omega))) | ((with_reducible apply Wr.mk); (first | exact hq | exact IntWalk.i64_in _ (by omega) | exact IntWalk.u8_in _ (by omega) | exact IntWalk.u32_in _ (by omega) | exact IntWalk.u64_in _ (by omega) | exact IntKind.wrap_u8 _ | exact IntKind.wrap_u32 _ | rfl)) | ((with_reducible apply Ce.mk); (first | rfl | exact ‹_› | exact cell_recZ (fun _ => rfl) (by omega) (by decide) rfl | exact cell_rec (fun _ => rfl) (by omega) (by decide) rfl | exact cell_bytes (by omega) | exact cell_mapZ (by omega) | exact cell_map (by omega))) | ((with_reducible apply Se.mk); (first | (focus ((repeat (first | exact SetAt.zero | apply SetAt.succ)); done)) | exact hset | exact setAt_bytes (by omega) (by omega) | exact setAt_mapZ (by omega) | exact setAt_map (by omega))) | ((with_reducible apply Pu.mk); (first | exact putAt_all rfl | exact putAt_recZ (fun _ => rfl) (by omega) | exact putAt_rec (fun _ => rfl) (by omega))) | ((with_reducible apply Su.mk); (first | exact subAt_all | exact subAt_recZ (fun _ => rfl) (by omega) | exact subAt_rec (fun _ => rfl) (by omega))) | exact True.intro | intro A | exact rfl)
  all_goals first
    | exact ho
    | (exfalso; omega)
    | (apply s_fin; (exact (show ResS _ _ _ _ [_] from (res_cell tyOk rfl rfl rfl (by exact pk) (by first | rfl | exact ‹_› | omega | (simp ; first | done | omega)) (by first | rfl | exact ‹_› | omega | (simp ; first | done | omega)) trivial))); (focus (exact ⟨A, rfl, rfl⟩)); (focus (repeat (first | with_reducible exact Take.nil | with_reducible apply Take.c | ((with_reducible apply Take.cE); (first | exact rfl | (apply blkE; (focus (first | exact rfl | exact recs_snocE rfl | exact map_snocE rfl | exact congrArg (fun v => [v]) (gslE rfl rfl (by first | rfl | exact ‹_› | omega | (simp ; first | done | omega)) (by first | rfl | exact ‹_› | omega | (simp ; first | done | omega)) rfl)))))) | with_reducible apply Take.drop))))
    | trace_state
theorem fresh_out {e : Enc} {z b : Int} (hf : fresh e z b = false) : (ebit e z b).out = e.out := by
  unfold fresh carries at hf
  simp only [Bool.or_eq_false_iff, decide_eq_false_iff_not] at hf
  unfold ebit
  rw [norm_end hf.2]
  unfold estep
  split
  · rfl
  · rw [if_neg (fun k => hf.1 ⟨‹_›, k⟩)]
theorem tfr_out {v : Int} : ∀ (k : Nat) {t : List Int} {e : Enc} {j : Nat}, tfr v k t e j = false → (tenc v k t e j).2.out = e.out
  | 0, _, _, _, _ => rfl
  | k + 1, t, e, j, h => by
    have h : (fresh e t[j]! (v / 2 ^ k % 2) || tfr v k (t.set j (adp t[j]! (v / 2 ^ k % 2))) (ebit e t[j]! (v / 2 ^ k % 2)) (2 * j + (v / 2 ^ k % 2).toNat)) = false := h
    rw [Bool.or_eq_false_iff] at h
    exact (tfr_out k h.2).trans (fresh_out h.1)
/-- The reference's model of bytes writes a byte: no new bytes of the encoder, or new ones. -/
theorem rEncByte_old (P : List Int) (c v : Int) (e : Enc) (w : Value) (C : Nat) (ts : List Value) (h h1 : SH) (hp : Pick h C ⟨ts, false⟩ h1) (hb : BTs h P 8 ts) (hv : RO h e.out w) (hP : P.length = 2048) (hc0 : 0 ≤ c ∧ c ≤ 255) (hv0 : 0 ≤ v ∧ v ≤ 255) (hok : EncOk 900000 e)
    (hfr : tfr v 8 (bsel P (c / 32).toNat) e 1 = false) :
    (benc P c e v).2.out = e.out ∧ SRun Try.prog 108 [reV w e.low e.size, mbV C c, Y v] h fun r q =>
      ∃ B C', r = .tuple ⟨[reV w (benc P c e v).2.low (benc P c e v).2.size, mbV C' v]⟩ ∧ q = (C', ⟨ts.set (c / 32).toNat (tsl B), false⟩) :: (B, ⟨nodes (tenc v 8 (bsel P (c / 32).toNat) e 1).1, false⟩) :: h := by
  have hk : (c / 32).toNat < 8 := by omega
  obtain ⟨B0, h3, hts, hp3⟩ := hb.2 _ hk
  have hq := quo32 hc0
  have hlen := bsel_len hP hk
  have hT := rTEnc_any 8 (bsel P (c / 32).toNat) v e w B0
  have ho : (benc P c e v).2 = (tenc v 8 (bsel P (c / 32).toNat) e 1).2 := rfl
  rw [ho]
  have hout := tfr_out 8 hfr
  rw [hfr, hlen] at hT
  generalize tenc v 8 (bsel P (c / 32).toNat) e 1 = T at *
  obtain ⟨t2, e2⟩ := T
  dsimp only at *
  refine ⟨hout, ?_⟩
  have hE1 : ∀ h h1, Pick h B0 ⟨nodes (bsel P (c / 32).toNat), false⟩ h1 → RO h e.out w → SRun Try.prog 107 [reV w e.low e.size, tsl B0, I v] h fun r q => ∃ B, r = .tuple ⟨[reV w e2.low e2.size, tsl B]⟩ ∧ q = (B, ⟨nodes t2, false⟩) :: h :=
    fun h h1 hp hr => (hT h h1 hp hr rfl (by decide) hok).mono fun r q ⟨B, w', qo, g1, g2, g3⟩ => by
      generalize e2.out = o2 at g2
      cases g2
      exact ⟨B, g1, g3⟩
  have hcl : ts[0 + (c / 32).toNat * 1]? = some (tsl B0) := by rw [Nat.zero_add, Nat.mul_one]; exact hts
  have hW := fun B h h2 hp => rwith_any C B c v ts h h2 hp hb.1 (old_one hb.old) hc0
  rcases id hv with ⟨e0, rfl⟩ | ⟨A1, p2, rfl, hp4⟩
  all_goals
    refine w_body3 Try.func108 rfl rfl ?_
    repeat' (first | apply w_seq | apply w_region | apply o_nil | (apply w_draw; (focus (kernel_rfl)); (focus (kernel_rfl))) | (apply o_g tyOk; exact rfl; exact rfl) | (apply o_ar tyOk; exact rfl; exact rfl) | (apply o_load tyOk; (iterate 3 exact rfl); (focus (exact pk))) | (apply o_loads tyOk; (iterate 3 exact rfl); (focus (exact pk))) | (apply o_stores tyOk; (iterate 4 exact rfl); (focus (exact ⟨rfl⟩)); (focus (exact up))) | (apply o_alloc tyOk; iterate 5 exact rfl) | (apply o_box (tt := tyT); iterate 5 exact rfl) | (apply o_callE1; (iterate 4 exact rfl); (focus (exact ⟨hE1 _ _ (.tail (.tail (.tail (.tail hp3)))) (hv.re (.drop (.drop (.drop (.drop .nil))))), by repeat (first | with_reducible exact Take.nil | with_reducible apply Take.c | with_reducible apply Take.drop)⟩)); (focus ((intro _; (first | exact List.Perm.refl _ | (simp; done) | exact List.Perm.swap _ _ _)))); (focus ((intro A1 A2 ρ D e1 d1 hρ hD; refine ⟨?_, ?_⟩; (focus (repeat (first | exact VR.const rfl | exact VRs.set (VRs.old hρ hD (hb.re (.drop (.drop (.drop (.drop (.drop (.drop .nil))))))).old) (VR.slc' (rho_pick hρ (.tail .head)) (dom_pick hD (.tail .head))) | (apply VR.ptr'; (focus (first | exact e1 | exact e2 | exact e3 | ((apply rho_pick hρ); (exact pk)))); (focus (first | exact d1 | exact d2 | exact d3 | ((apply dom_pick hD); (exact pk))))) | (apply VR.slc'; (focus (first | exact e1 | exact e2 | exact e3 | ((apply rho_pick hρ); (exact pk)))); (focus (first | exact d1 | exact d2 | exact d3 | ((apply dom_pick hD); (exact pk))))) | exact VR.sdead | apply VRs.tuple | apply VRs.agg | exact VRs.nil | ((apply VRs.const); (focus (first | exact bytesV_const _ | exact map_const (fun _ => rfl) | exact recs_const (fun _ v hv => by simp only [List.mem_cons, List.not_mem_nil, or_false] at hv; rcases hv with rfl | rfl | rfl | rfl | rfl <;> rfl)))) | apply VRs.cons))); (focus (repeat (first | exact SHR.nil | ((apply SHR.same); (focus (intro x hx; (repeat (first | exact hx | apply List.mem_cons_of_mem)); done))) | ((apply SHR.keep); (focus ((repeat (first | with_reducible exact List.mem_cons_self | apply List.mem_cons_of_mem)); done))) | (apply SHR.cons; (focus (first | exact e1 | exact e2 | exact e3 | ((apply rho_pick hρ); (exact pk)))); (focus (repeat (first | exact VR.const rfl | exact VRs.set (VRs.old hρ hD (hb.re (.drop (.drop (.drop (.drop (.drop (.drop .nil))))))).old) (VR.slc' (rho_pick hρ (.tail .head)) (dom_pick hD (.tail .head))) | (apply VR.ptr'; (focus (first | exact e1 | exact e2 | exact e3 | ((apply rho_pick hρ); (exact pk)))); (focus (first | exact d1 | exact d2 | exact d3 | ((apply dom_pick hD); (exact pk))))) | (apply VR.slc'; (focus (first | exact e1 | exact e2 | exact e3 | ((apply rho_pick hρ); (exact pk)))); (focus (first | exact d1 | exact d2 | exact d3 | ((apply dom_pick hD); (exact pk))))) | exact VR.sdead | apply VRs.tuple | apply VRs.agg | exact VRs.nil | ((apply VRs.const); (focus (first | exact bytesV_const _ | exact map_const (fun _ => rfl) | exact recs_const (fun _ v hv => by simp only [List.mem_cons, List.not_mem_nil, or_false] at hv; rcases hv with rfl | rfl | rfl | rfl | rfl <;> rfl)))) | apply VRs.cons))))))))))) | (apply o_callE1; (iterate 4 exact rfl); (focus (exact ⟨hW _ _ _ (.tail (.tail (.tail (.tail (.tail (.tail hp)))))), by repeat (first | with_reducible exact Take.nil | with_reducible apply Take.c | with_reducible apply Take.drop)⟩)); (focus ((intro _; (first | exact List.Perm.refl _ | (simp; done) | exact List.Perm.swap _ _ _)))); (focus ((intro A1 A2 ρ D e1 d1 hρ hD; refine ⟨?_, ?_⟩; (focus (repeat (first | exact VR.const rfl | exact VRs.set (VRs.old hρ hD (hb.re (.drop (.drop (.drop (.drop (.drop (.drop .nil))))))).old) (VR.slc' (rho_pick hρ (.tail .head)) (dom_pick hD (.tail .head))) | (apply VR.ptr'; (focus (first | exact e1 | exact e2 | exact e3 | ((apply rho_pick hρ); (exact pk)))); (focus (first | exact d1 | exact d2 | exact d3 | ((apply dom_pick hD); (exact pk))))) | (apply VR.slc'; (focus (first | exact e1 | exact e2 | exact e3 | ((apply rho_pick hρ); (exact pk)))); (focus (first | exact d1 | exact d2 | exact d3 | ((apply dom_pick hD); (exact pk))))) | exact VR.sdead | apply VRs.tuple | apply VRs.agg | exact VRs.nil | ((apply VRs.const); (focus (first | exact bytesV_const _ | exact map_const (fun _ => rfl) | exact recs_const (fun _ v hv => by simp only [List.mem_cons, List.not_mem_nil, or_false] at hv; rcases hv with rfl | rfl | rfl | rfl | rfl <;> rfl)))) | apply VRs.cons))); (focus (repeat (first | exact SHR.nil | ((apply SHR.same); (focus (intro x hx; (repeat (first | exact hx | apply List.mem_cons_of_mem)); done))) | ((apply SHR.keep); (focus ((repeat (first | with_reducible exact List.mem_cons_self | apply List.mem_cons_of_mem)); done))) | (apply SHR.cons; (focus (first | exact e1 | exact e2 | exact e3 | ((apply rho_pick hρ); (exact pk)))); (focus (repeat (first | exact VR.const rfl | exact VRs.set (VRs.old hρ hD (hb.re (.drop (.drop (.drop (.drop (.drop (.drop .nil))))))).old) (VR.slc' (rho_pick hρ (.tail .head)) (dom_pick hD (.tail .head))) | (apply VR.ptr'; (focus (first | exact e1 | exact e2 | exact e3 | ((apply rho_pick hρ); (exact pk)))); (focus (first | exact d1 | exact d2 | exact d3 | ((apply dom_pick hD); (exact pk))))) | (apply VR.slc'; (focus (first | exact e1 | exact e2 | exact e3 | ((apply rho_pick hρ); (exact pk)))); (focus (first | exact d1 | exact d2 | exact d3 | ((apply dom_pick hD); (exact pk))))) | exact VR.sdead | apply VRs.tuple | apply VRs.agg | exact VRs.nil | ((apply VRs.const); (focus (first | exact bytesV_const _ | exact map_const (fun _ => rfl) | exact recs_const (fun _ v hv => by simp only [List.mem_cons, List.not_mem_nil, or_false] at hv; rcases hv with rfl | rfl | rfl | rfl | rfl <;> rfl)))) | apply VRs.cons))))))))))) | apply thenS_normal | apply w_ret | ((with_reducible apply Sd.mk); (first | exact True.intro | omega | (constructor <;> first | omega | (unfold maxLen; omega)) | (unfold maxLen; omega))) | ((with_reducible apply Ln.mk); (first | rfl | exact ‹_› | omega | (simp [hb.1]; first | done | omega))) | ((with_reducible apply Wr.mk); (first | exact hq | exact IntWalk.i64_in _ (by omega) | exact IntWalk.u8_in _ (by omega) | exact IntWalk.u32_in _ (by omega) | exact IntWalk.u64_in _ (by omega) | exact IntKind.wrap_u8 _ | exact IntKind.wrap_u32 _ | rfl)) | ((with_reducible apply Ce.mk); (first | rfl | exact ‹_› | exact hcl | exact cell_recZ (fun _ => rfl) (by omega) (by decide) rfl | exact cell_rec (fun _ => rfl) (by omega) (by decide) rfl | exact cell_bytes (by omega) | exact cell_mapZ (by omega) | exact cell_map (by omega))) | ((with_reducible apply Pu.mk); (first | exact putAt_all rfl | exact putAt_recZ (fun _ => rfl) (by omega) | exact putAt_rec (fun _ => rfl) (by omega))) | ((with_reducible apply Su.mk); (first | exact subAt_all | exact subAt_recZ (fun _ => rfl) (by omega) | exact subAt_rec (fun _ => rfl) (by omega))) | exact True.intro | refine Rc.mk ⟨_, _, pk, ?_⟩ | exact Or.inl rfl | apply And.intro | apply Or.inr | intro A | exact rfl)
    rename_i E0 D0 R0 R1 B A2
    all_goals first
      | (apply s_fin; (exact (show ResS _ _ _ _ [_, _] from (res_cell tyOk rfl rfl rfl (by exact pk) (by first | rfl | exact ‹_› | omega | (simp [hb.1]; first | done | omega)) (by first | rfl | exact ‹_› | omega | (simp [hb.1]; first | done | omega)) (res_cell tyOk rfl rfl rfl (by exact pk) (by first | rfl | exact ‹_› | omega | (simp [hb.1]; first | done | omega)) (by first | rfl | exact ‹_› | omega | (simp [hb.1]; first | done | omega)) trivial)))); (focus (exact ⟨B, A, rfl, rfl⟩)); (focus (repeat (first | with_reducible exact Take.nil | with_reducible apply Take.c | ((with_reducible apply Take.cE); (first | exact rfl | (apply blkE; (focus (first | exact rfl | exact recs_snocE rfl | exact map_snocE rfl | exact congrArg (fun v => [v]) (gslE rfl rfl (by first | rfl | exact ‹_› | omega | (simp [hb.1]; first | done | omega)) (by first | rfl | exact ‹_› | omega | (simp [hb.1]; first | done | omega)) rfl)))))) | with_reducible apply Take.drop))))
      | trace_state
theorem rEncByte_new (P : List Int) (c v : Int) (e : Enc) (w : Value) (C : Nat) (ts : List Value) (h h1 : SH) (hp : Pick h C ⟨ts, false⟩ h1) (hb : BTs h P 8 ts) (hv : RO h e.out w) (hP : P.length = 2048) (hc0 : 0 ≤ c ∧ c ≤ 255) (hv0 : 0 ≤ v ∧ v ≤ 255) (hok : EncOk 900000 e)
    (hfr : tfr v 8 (bsel P (c / 32).toNat) e 1 = true) :
    SRun Try.prog 108 [reV w e.low e.size, mbV C c, Y v] h fun r q =>
      ∃ O B C', r = .tuple ⟨[reV (gsl O 0 (benc P c e v).2.out.length (benc P c e v).2.out.length 1) (benc P c e v).2.low (benc P c e v).2.size, mbV C' v]⟩ ∧
        q = (O, ⟨bytesV (benc P c e v).2.out, false⟩) :: (B, ⟨nodes (tenc v 8 (bsel P (c / 32).toNat) e 1).1, false⟩) :: (C', ⟨ts.set (c / 32).toNat (tsl B), false⟩) :: h := by
  have hk : (c / 32).toNat < 8 := by omega
  obtain ⟨B0, h3, hts, hp3⟩ := hb.2 _ hk
  have hq := quo32 hc0
  have hlen := bsel_len hP hk
  have hT := rTEnc_any 8 (bsel P (c / 32).toNat) v e w B0
  have ho : (benc P c e v).2 = (tenc v 8 (bsel P (c / 32).toNat) e 1).2 := rfl
  rw [ho]
  rw [hfr, hlen] at hT
  generalize tenc v 8 (bsel P (c / 32).toNat) e 1 = T at *
  obtain ⟨t2, e2⟩ := T
  dsimp only at *
  have hE2 : ∀ h h1, Pick h B0 ⟨nodes (bsel P (c / 32).toNat), false⟩ h1 → RO h e.out w → SRun Try.prog 107 [reV w e.low e.size, tsl B0, I v] h fun r q => ∃ B O, r = .tuple ⟨[reV (gsl O 0 e2.out.length e2.out.length 1) e2.low e2.size, tsl B]⟩ ∧ q = (B, ⟨nodes t2, false⟩) :: (O, ⟨bytesV e2.out, false⟩) :: h :=
    fun h h1 hp hr => (hT h h1 hp hr rfl (by decide) hok).mono fun r q ⟨B, w', qo, g1, g2, g3⟩ => by
      cases g2 with
      | new o O => exact ⟨B, O, g1, g3⟩
  have hcl : ts[0 + (c / 32).toNat * 1]? = some (tsl B0) := by rw [Nat.zero_add, Nat.mul_one]; exact hts
  have hW := fun B h h2 hp => rwith_any C B c v ts h h2 hp hb.1 (old_one hb.old) hc0
  rcases id hv with ⟨e0, rfl⟩ | ⟨A1, p2, rfl, hp4⟩
  all_goals
    refine w_body3 Try.func108 rfl rfl ?_
    repeat' (first | apply w_seq | apply w_region | apply o_nil | (apply w_draw; (focus (kernel_rfl)); (focus (kernel_rfl))) | (apply o_g tyOk; exact rfl; exact rfl) | (apply o_ar tyOk; exact rfl; exact rfl) | (apply o_load tyOk; (iterate 3 exact rfl); (focus (exact pk))) | (apply o_loads tyOk; (iterate 3 exact rfl); (focus (exact pk))) | (apply o_stores tyOk; (iterate 4 exact rfl); (focus (exact ⟨rfl⟩)); (focus (exact up))) | (apply o_alloc tyOk; iterate 5 exact rfl) | (apply o_box (tt := tyT); iterate 5 exact rfl) | (apply o_callE2; (iterate 4 exact rfl); (focus (exact ⟨hE2 _ _ (.tail (.tail (.tail (.tail hp3)))) (hv.re (.drop (.drop (.drop (.drop .nil))))), by repeat (first | with_reducible exact Take.nil | with_reducible apply Take.c | with_reducible apply Take.drop)⟩)); (focus ((intro _ _; (first | exact List.Perm.refl _ | (simp; done) | exact List.Perm.swap _ _ _)))); (focus ((intro A1 A2 B1 B2 ρ D e1 e2 d1 d2 hρ hD; refine ⟨?_, ?_⟩; (focus (repeat (first | exact VR.const rfl | exact VRs.set (VRs.old hρ hD (hb.re (.drop (.drop (.drop (.drop (.drop (.drop (.drop .nil)))))))).old) (VR.slc' (rho_pick hρ (.tail .head)) (dom_pick hD (.tail .head))) | (apply VR.ptr'; (focus (first | exact e1 | exact e2 | exact e3 | ((apply rho_pick hρ); (exact pk)))); (focus (first | exact d1 | exact d2 | exact d3 | ((apply dom_pick hD); (exact pk))))) | (apply VR.slc'; (focus (first | exact e1 | exact e2 | exact e3 | ((apply rho_pick hρ); (exact pk)))); (focus (first | exact d1 | exact d2 | exact d3 | ((apply dom_pick hD); (exact pk))))) | exact VR.sdead | apply VRs.tuple | apply VRs.agg | exact VRs.nil | ((apply VRs.const); (focus (first | exact bytesV_const _ | exact map_const (fun _ => rfl) | exact recs_const (fun _ v hv => by simp only [List.mem_cons, List.not_mem_nil, or_false] at hv; rcases hv with rfl | rfl | rfl | rfl | rfl <;> rfl)))) | apply VRs.cons))); (focus (repeat (first | exact SHR.nil | ((apply SHR.same); (focus (intro x hx; (repeat (first | exact hx | apply List.mem_cons_of_mem)); done))) | ((apply SHR.keep); (focus ((repeat (first | with_reducible exact List.mem_cons_self | apply List.mem_cons_of_mem)); done))) | (apply SHR.cons; (focus (first | exact e1 | exact e2 | exact e3 | ((apply rho_pick hρ); (exact pk)))); (focus (repeat (first | exact VR.const rfl | exact VRs.set (VRs.old hρ hD (hb.re (.drop (.drop (.drop (.drop (.drop (.drop (.drop .nil)))))))).old) (VR.slc' (rho_pick hρ (.tail .head)) (dom_pick hD (.tail .head))) | (apply VR.ptr'; (focus (first | exact e1 | exact e2 | exact e3 | ((apply rho_pick hρ); (exact pk)))); (focus (first | exact d1 | exact d2 | exact d3 | ((apply dom_pick hD); (exact pk))))) | (apply VR.slc'; (focus (first | exact e1 | exact e2 | exact e3 | ((apply rho_pick hρ); (exact pk)))); (focus (first | exact d1 | exact d2 | exact d3 | ((apply dom_pick hD); (exact pk))))) | exact VR.sdead | apply VRs.tuple | apply VRs.agg | exact VRs.nil | ((apply VRs.const); (focus (first | exact bytesV_const _ | exact map_const (fun _ => rfl) | exact recs_const (fun _ v hv => by simp only [List.mem_cons, List.not_mem_nil, or_false] at hv; rcases hv with rfl | rfl | rfl | rfl | rfl <;> rfl)))) | apply VRs.cons))))))))))) | (apply o_callE1; (iterate 4 exact rfl); (focus (exact ⟨hW _ _ _ (.tail (.tail (.tail (.tail (.tail (.tail (.tail hp))))))), by repeat (first | with_reducible exact Take.nil | with_reducible apply Take.c | with_reducible apply Take.drop)⟩)); (focus ((intro _; (first | exact List.Perm.refl _ | (simp; done) | exact List.Perm.swap _ _ _)))); (focus ((intro A1 A2 ρ D e1 d1 hρ hD; refine ⟨?_, ?_⟩; (focus (repeat (first | exact VR.const rfl | exact VRs.set (VRs.old hρ hD (hb.re (.drop (.drop (.drop (.drop (.drop (.drop (.drop .nil)))))))).old) (VR.slc' (rho_pick hρ (.tail .head)) (dom_pick hD (.tail .head))) | (apply VR.ptr'; (focus (first | exact e1 | exact e2 | exact e3 | ((apply rho_pick hρ); (exact pk)))); (focus (first | exact d1 | exact d2 | exact d3 | ((apply dom_pick hD); (exact pk))))) | (apply VR.slc'; (focus (first | exact e1 | exact e2 | exact e3 | ((apply rho_pick hρ); (exact pk)))); (focus (first | exact d1 | exact d2 | exact d3 | ((apply dom_pick hD); (exact pk))))) | exact VR.sdead | apply VRs.tuple | apply VRs.agg | exact VRs.nil | ((apply VRs.const); (focus (first | exact bytesV_const _ | exact map_const (fun _ => rfl) | exact recs_const (fun _ v hv => by simp only [List.mem_cons, List.not_mem_nil, or_false] at hv; rcases hv with rfl | rfl | rfl | rfl | rfl <;> rfl)))) | apply VRs.cons))); (focus (repeat (first | exact SHR.nil | ((apply SHR.same); (focus (intro x hx; (repeat (first | exact hx | apply List.mem_cons_of_mem)); done))) | ((apply SHR.keep); (focus ((repeat (first | with_reducible exact List.mem_cons_self | apply List.mem_cons_of_mem)); done))) | (apply SHR.cons; (focus (first | exact e1 | exact e2 | exact e3 | ((apply rho_pick hρ); (exact pk)))); (focus (repeat (first | exact VR.const rfl | exact VRs.set (VRs.old hρ hD (hb.re (.drop (.drop (.drop (.drop (.drop (.drop (.drop .nil)))))))).old) (VR.slc' (rho_pick hρ (.tail .head)) (dom_pick hD (.tail .head))) | (apply VR.ptr'; (focus (first | exact e1 | exact e2 | exact e3 | ((apply rho_pick hρ); (exact pk)))); (focus (first | exact d1 | exact d2 | exact d3 | ((apply dom_pick hD); (exact pk))))) | (apply VR.slc'; (focus (first | exact e1 | exact e2 | exact e3 | ((apply rho_pick hρ); (exact pk)))); (focus (first | exact d1 | exact d2 | exact d3 | ((apply dom_pick hD); (exact pk))))) | exact VR.sdead | apply VRs.tuple | apply VRs.agg | exact VRs.nil | ((apply VRs.const); (focus (first | exact bytesV_const _ | exact map_const (fun _ => rfl) | exact recs_const (fun _ v hv => by simp only [List.mem_cons, List.not_mem_nil, or_false] at hv; rcases hv with rfl | rfl | rfl | rfl | rfl <;> rfl)))) | apply VRs.cons))))))))))) | apply thenS_normal | apply w_ret | ((with_reducible apply Sd.mk); (first | exact True.intro | omega | (constructor <;> first | omega | (unfold maxLen; omega)) | (unfold maxLen; omega))) | ((with_reducible apply Ln.mk); (first | rfl | exact ‹_› | omega | (simp [hb.1]; first | done | omega))) | ((with_reducible apply Wr.mk); (first | exact hq | exact IntWalk.i64_in _ (by omega) | exact IntWalk.u8_in _ (by omega) | exact IntWalk.u32_in _ (by omega) | exact IntWalk.u64_in _ (by omega) | exact IntKind.wrap_u8 _ | exact IntKind.wrap_u32 _ | rfl)) | ((with_reducible apply Ce.mk); (first | rfl | exact ‹_› | exact hcl | exact cell_recZ (fun _ => rfl) (by omega) (by decide) rfl | exact cell_rec (fun _ => rfl) (by omega) (by decide) rfl | exact cell_bytes (by omega) | exact cell_mapZ (by omega) | exact cell_map (by omega))) | ((with_reducible apply Pu.mk); (first | exact putAt_all rfl | exact putAt_recZ (fun _ => rfl) (by omega) | exact putAt_rec (fun _ => rfl) (by omega))) | ((with_reducible apply Su.mk); (first | exact subAt_all | exact subAt_recZ (fun _ => rfl) (by omega) | exact subAt_rec (fun _ => rfl) (by omega))) | exact True.intro | refine Rc.mk ⟨_, _, pk, ?_⟩ | exact Or.inl rfl | apply And.intro | apply Or.inr | intro A | exact rfl)
    rename_i E0 D0 R0 R1 B O A2
    all_goals first
      | (apply s_fin; (exact (show ResS _ _ _ _ [_, _] from (res_cell tyOk rfl rfl rfl (by exact pk) (by first | rfl | exact ‹_› | omega | (simp ; first | done | omega)) (by first | rfl | exact ‹_› | omega | (simp ; first | done | omega)) (res_cell tyOk rfl rfl rfl (by exact pk) (by first | rfl | exact ‹_› | omega | (simp ; first | done | omega)) (by first | rfl | exact ‹_› | omega | (simp ; first | done | omega)) trivial)))); (focus (exact ⟨O, B, A, rfl, rfl⟩)); (focus (repeat (first | with_reducible exact Take.nil | with_reducible apply Take.c | ((with_reducible apply Take.cE); (first | exact rfl | (apply blkE; (focus (first | exact rfl | exact recs_snocE rfl | exact map_snocE rfl | exact congrArg (fun v => [v]) (gslE rfl rfl (by first | rfl | exact ‹_› | omega | (simp ; first | done | omega)) (by first | rfl | exact ‹_› | omega | (simp ; first | done | omega)) rfl)))))) | with_reducible apply Take.drop))))
      | trace_state
end Go.Proofs.Ytgooffiipnkmiaa
end
section
set_option linter.unusedVariables false
set_option linter.unusedSimpArgs false
set_option maxRecDepth 4000
namespace Go.Proofs.Ytgooffiipnkmiaa
open Go.Gh Go.RowKit

theorem rFrom_any (k : Nat) (h : SH) (hk : k ≤ 8) : SRun Try.prog 80 [I k] h fun r q => r = I (vbnd k) ∧ q = h := by
  refine w_body1 Try.func80 rfl rfl ?_
  repeat' (first | apply w_seq | apply w_region | apply o_nil | (apply o_g tyOk; exact rfl; exact rfl) | apply thenS_normal | apply w_block | ((with_reducible apply Sd.mk); (first | exact True.intro | omega | (constructor <;> first | omega | (unfold maxLen; omega)) | (unfold maxLen; omega))))
  refine w_loop (S := Nat) (fun i => [(0, I k), (3, I (vbnd i)), (4, I ((i : Int) + 1))]) (fun _ => h) (fun i => i ≤ k) (fun i => k - i) 0 (Nat.zero_le _) (by repeat' (first | exact trivial | refine ⟨rfl, ?_⟩ | refine ⟨congrArg some ?_, ?_⟩)) (by repeat (first | with_reducible exact Take.nil | with_reducible apply Take.c | ((with_reducible apply Take.cE); (first | exact rfl | (apply blkE; (focus (first | exact rfl | exact recs_snocE rfl | exact map_snocE rfl | exact congrArg (fun v => [v]) (gslE rfl rfl (by first | rfl | exact ‹_› | omega | (simp ; first | done | omega)) (by first | rfl | exact ‹_› | omega | (simp ; first | done | omega)) rfl)))))) | with_reducible apply Take.drop)) ?_
  intro i hi
  by_cases hik : i < k
  · have hsh := shl7 (i := i + 1) (by omega)
    have e : 7 * (((i + 1 : Nat)) : Int) = 7 * ((i : Int) + 1) := by omega
    rw [e] at hsh
    have hb := vbnd_in i (by omega)
    have hb2 := vbnd_in (i + 1) (by omega)
    have hst : vbnd (i + 1) = vbnd i + 2 ^ (7 * (i + 1)) := rfl
    rw [hst] at hb2
    generalize (2 : Int) ^ (7 * (i + 1)) = w at *
    repeat' (first | apply w_seq | apply w_region | apply o_nil | (apply o_g tyOk; exact rfl; exact rfl) | (apply o_ar tyOk; exact rfl; exact rfl) | (apply w_dT; exact rfl; (focus (first | exact ‹_› | with_reducible exact rfl | omega))) | apply thenS_normal | apply blockS_normal | apply w_skip | apply w_block | ((with_reducible apply Sd.mk); (first | exact True.intro | omega | (constructor <;> first | omega | (unfold maxLen; omega)) | (unfold maxLen; omega))) | ((with_reducible apply Wr.mk); (first | exact hsh | exact IntWalk.i64_in _ (by omega) | exact IntWalk.u8_in _ (by omega) | exact IntWalk.u32_in _ (by omega) | exact IntWalk.u64_in _ (by omega) | exact IntKind.wrap_u8 _ | exact IntKind.wrap_u32 _ | rfl)))
    all_goals first
      | (exfalso; omega)
      | exact ⟨i + 1, hik, by show k - (i + 1) < k - i; omega, ⟨rfl, congrArg some (congrArg (Value.int .i64) hst.symm), rfl, trivial⟩, (by repeat (first | with_reducible exact Take.nil | with_reducible apply Take.c | ((with_reducible apply Take.cE); (first | exact rfl | (apply blkE; (focus (first | exact rfl | exact recs_snocE rfl | exact map_snocE rfl | exact congrArg (fun v => [v]) (gslE rfl rfl (by first | rfl | exact ‹_› | omega | (simp ; first | done | omega)) (by first | rfl | exact ‹_› | omega | (simp ; first | done | omega)) rfl)))))) | with_reducible apply Take.drop))⟩
      | trace_state
  · obtain rfl : i = k := by omega
    repeat' (first | apply w_seq | apply w_region | apply o_nil | (apply o_g tyOk; exact rfl; exact rfl) | (apply w_dF; exact rfl; (focus (first | exact ‹_› | with_reducible exact rfl | omega))) | apply thenS_normal | apply thenS_exit | apply blockS_exit | apply w_ret | apply w_exit | ((with_reducible apply Sd.mk); (first | exact True.intro | omega | (constructor <;> first | omega | (unfold maxLen; omega)) | (unfold maxLen; omega))))
    all_goals first
      | (exfalso; omega)
      | (apply s_fin; (exact (show ResS _ _ _ _ [_] from ⟨rfl, trivial⟩)); (focus (exact ⟨rfl, rfl⟩)); (focus (repeat (first | with_reducible exact Take.nil | with_reducible apply Take.c | ((with_reducible apply Take.cE); (first | exact rfl | (apply blkE; (focus (first | exact rfl | exact recs_snocE rfl | exact map_snocE rfl | exact congrArg (fun v => [v]) (gslE rfl rfl (by first | rfl | exact ‹_› | omega | (simp ; first | done | omega)) (by first | rfl | exact ‹_› | omega | (simp ; first | done | omega)) rfl)))))) | with_reducible apply Take.drop))))
      | trace_state
theorem rSize_any (n : Int) (h : SH) (hn : 0 ≤ n) : SRun Try.prog 104 [I n] h fun r q => r = I ((vk n : Int) + 1) ∧ q = h := by
  obtain ⟨K, hK⟩ : ∃ K, vk n = K := ⟨_, rfl⟩
  rw [hK]
  refine w_body1 Try.func104 rfl rfl ?_
  repeat' (first | apply w_seq | apply w_region | apply o_nil | (apply o_g tyOk; exact rfl; exact rfl) | (apply w_dF; exact rfl; (focus (first | exact ‹_› | with_reducible exact rfl | omega))) | apply thenS_normal | apply w_skip | apply w_block | ((with_reducible apply Sd.mk); (first | exact True.intro | omega | (constructor <;> first | omega | (unfold maxLen; omega)) | (unfold maxLen; omega))))
  all_goals first | (exfalso; omega) | skip
  refine w_loop (S := Nat) (fun k => [(0, I n), (3, I k)]) (fun _ => h) (fun k => k ≤ 8 ∧ vks n (8 - k) k = K) (fun k => 8 - k) 0 ⟨Nat.zero_le _, hK⟩ (by repeat' (first | exact trivial | refine ⟨rfl, ?_⟩ | refine ⟨congrArg some ?_, ?_⟩)) (by repeat (first | with_reducible exact Take.nil | with_reducible apply Take.c | ((with_reducible apply Take.cE); (first | exact rfl | (apply blkE; (focus (first | exact rfl | exact recs_snocE rfl | exact map_snocE rfl | exact congrArg (fun v => [v]) (gslE rfl rfl (by first | rfl | exact ‹_› | omega | (simp ; first | done | omega)) (by first | rfl | exact ‹_› | omega | (simp ; first | done | omega)) rfl)))))) | with_reducible apply Take.drop)) ?_
  intro k ⟨hk, he⟩
  by_cases h8 : k < 8
  · have hst : vks n (8 - k) k = if vbnd (k + 1) ≤ n then vks n (8 - (k + 1)) (k + 1) else k := by rw [show 8 - k = (8 - (k + 1)) + 1 by omega]; rfl
    have hB : ∀ h, SRun Try.prog 80 [I ((k : Int) + 1)] h fun r q => r = I (vbnd (k + 1)) ∧ q = h := fun h => rFrom_any (k + 1) h (by omega)
    rw [hst] at he
    generalize vbnd (k + 1) = w at *
    repeat' (first | apply w_seq | apply w_region | apply o_nil | (apply o_g tyOk; exact rfl; exact rfl) | (apply o_ar tyOk; exact rfl; exact rfl) | (apply o_call; exact rfl; exact rfl; (focus (first | exact rfl | assumption)); exact rfl; (focus (exact ⟨_, hB _, by repeat (first | with_reducible exact Take.nil | with_reducible apply Take.c | with_reducible apply Take.drop)⟩)); rintro _ _ ⟨rfl, rfl⟩) | (apply o_want; exact rfl; exact rfl) | (apply o_gT; (iterate 3 exact rfl); (focus (first | exact ‹_› | with_reducible exact rfl | omega))) | (apply w_if; exact rfl; all_goals intro hc) | apply thenS_normal | apply thenS_exit | apply blockS_normal | apply blockS_exit | apply w_skip | apply w_ret | apply w_exit | apply w_block | ((with_reducible apply Sd.mk); (first | exact True.intro | omega | (constructor <;> first | omega | (unfold maxLen; omega)) | (unfold maxLen; omega))) | ((with_reducible apply Wr.mk); (first | exact IntWalk.i64_in _ (by omega) | exact IntWalk.u8_in _ (by omega) | exact IntWalk.u32_in _ (by omega) | exact IntWalk.u64_in _ (by omega) | exact IntKind.wrap_u8 _ | exact IntKind.wrap_u32 _ | rfl)))
    all_goals first
      | (exfalso; omega)
      | (rw [if_pos (by omega)] at he; exact ⟨k + 1, ⟨h8, he⟩, by show 8 - (k + 1) < 8 - k; omega, (by repeat' (first | exact trivial | refine ⟨rfl, ?_⟩ | refine ⟨congrArg some ?_, ?_⟩)), (by repeat (first | with_reducible exact Take.nil | with_reducible apply Take.c | ((with_reducible apply Take.cE); (first | exact rfl | (apply blkE; (focus (first | exact rfl | exact recs_snocE rfl | exact map_snocE rfl | exact congrArg (fun v => [v]) (gslE rfl rfl (by first | rfl | exact ‹_› | omega | (simp ; first | done | omega)) (by first | rfl | exact ‹_› | omega | (simp ; first | done | omega)) rfl)))))) | with_reducible apply Take.drop))⟩)
      | (rw [if_neg (by omega)] at he; rw [← he]; (apply s_fin; (exact (show ResS _ _ _ _ [_] from ⟨rfl, trivial⟩)); (focus (exact ⟨rfl, rfl⟩)); (focus (repeat (first | with_reducible exact Take.nil | with_reducible apply Take.c | ((with_reducible apply Take.cE); (first | exact rfl | (apply blkE; (focus (first | exact rfl | exact recs_snocE rfl | exact map_snocE rfl | exact congrArg (fun v => [v]) (gslE rfl rfl (by first | rfl | exact ‹_› | omega | (simp ; first | done | omega)) (by first | rfl | exact ‹_› | omega | (simp ; first | done | omega)) rfl)))))) | with_reducible apply Take.drop)))))
      | trace_state
  · obtain rfl : k = 8 := by omega
    have he : 8 = K := he
    repeat' (first | apply w_seq | apply w_region | apply o_nil | (apply o_g tyOk; exact rfl; exact rfl) | (apply o_ar tyOk; exact rfl; exact rfl) | (apply o_skip; iterate 4 exact rfl) | (apply w_false; exact rfl) | apply thenS_normal | apply thenS_exit | apply blockS_exit | apply w_ret | apply w_exit | ((with_reducible apply Sd.mk); (first | exact True.intro | omega | (constructor <;> first | omega | (unfold maxLen; omega)) | (unfold maxLen; omega))) | ((with_reducible apply Wr.mk); (first | exact IntWalk.i64_in _ (by omega) | exact IntWalk.u8_in _ (by omega) | exact IntWalk.u32_in _ (by omega) | exact IntWalk.u64_in _ (by omega) | exact IntKind.wrap_u8 _ | exact IntKind.wrap_u32 _ | rfl)))
    all_goals first
      | (exfalso; omega)
      | (rw [← he]; (apply s_fin; (exact (show ResS _ _ _ _ [_] from ⟨rfl, trivial⟩)); (focus (exact ⟨rfl, rfl⟩)); (focus (repeat (first | with_reducible exact Take.nil | with_reducible apply Take.c | ((with_reducible apply Take.cE); (first | exact rfl | (apply blkE; (focus (first | exact rfl | exact recs_snocE rfl | exact map_snocE rfl | exact congrArg (fun v => [v]) (gslE rfl rfl (by first | rfl | exact ‹_› | omega | (simp ; first | done | omega)) (by first | rfl | exact ‹_› | omega | (simp ; first | done | omega)) rfl)))))) | with_reducible apply Take.drop)))))
      | trace_state
/-- The head of a number. -/
theorem vhd_fin : ∀ k : Nat, k < 9 → ∀ m : Nat, m < 128 → (k < 8 → m < 2 ^ (7 - k)) → (k = 8 → m = 0) → vhd k (m : Int) = 256 - 2 ^ (8 - k) + (m : Int) ∧ 256 - 2 ^ (8 - k) + (m : Int) < 256 := by decide +kernel
theorem vbe_div : ∀ (k : Nat) (m : Int) (T : List UInt8), (vbe k m T).2 = m / 256 ^ k
  | 0, m, T => by show m = m / 256 ^ 0; rw [Int.pow_zero, Int.ediv_one]
  | k + 1, m, T => by
    show (vbe k (m / 256) (b8 (m % 256) :: T)).2 = _
    rw [vbe_div k, Int.pow_succ, Int.mul_comm, Int.ediv_ediv_of_nonneg (by decide)]
theorem vks_lt {n : Int} (f k : Nat) : vks n f k < k + f → n < vbnd (vks n f k + 1) := by
  induction f generalizing k with
  | zero => intro h; exact absurd h (Nat.lt_irrefl _)
  | succ f ih =>
    intro h
    by_cases g : vbnd (k + 1) ≤ n
    · rw [show vks n (f + 1) k = vks n f (k + 1) from if_pos g] at h ⊢
      exact ih (k + 1) (by omega)
    · rw [show vks n (f + 1) k = k from if_neg g]
      omega
theorem vbnd_step : ∀ k : Nat, k < 8 → vbnd (k + 1) = vbnd k + 2 ^ (7 - k) * 256 ^ k := by decide
theorem vhd_num {n : Int} (h0 : 0 ≤ n) (h : n ≤ 9223372036854775807) : vhd (vk n) (vbe (vk n) (n - vbnd (vk n)) []).2 = 256 - 2 ^ (8 - vk n) + (vbe (vk n) (n - vbnd (vk n)) []).2 ∧
    0 ≤ (vbe (vk n) (n - vbnd (vk n)) []).2 ∧ 256 - 2 ^ (8 - vk n) + (vbe (vk n) (n - vbnd (vk n)) []).2 < 256 ∧ (vbe (vk n) (n - vbnd (vk n)) []).2 < 128 := by
  obtain ⟨hk1, hk2⟩ := vk_ok h0
  have hlt : vk n < 8 → n < vbnd (vk n + 1) := fun g => vks_lt (n := n) 8 0 (by show vk n < 0 + 8; omega)
  rw [vbe_div]
  generalize hK : vk n = K at *
  have hm0 : 0 ≤ (n - vbnd K) / 256 ^ K := Int.ediv_nonneg (by omega) (Int.le_of_lt (Int.pow_pos (by decide)))
  have hmk : K < 8 → (n - vbnd K) / 256 ^ K < 2 ^ (7 - K) := fun g => by
    have := hlt g
    rw [vbnd_step K g] at this
    exact Int.ediv_lt_of_lt_mul (Int.pow_pos (by decide)) (by omega)
  have hm8 : K = 8 → (n - vbnd K) / 256 ^ K = 0 := fun g => by
    subst g
    exact Int.ediv_eq_zero_of_lt (by omega) (by have := (vbnd_in 8 (by decide)).1; have : (256 : Int) ^ 8 = 18446744073709551616 := rfl; omega)
  obtain ⟨m, hm⟩ := Int.eq_ofNat_of_zero_le hm0
  rw [hm] at hmk hm8 ⊢
  have hmk' : K < 8 → m < 2 ^ (7 - K) := fun g => by have := hmk g; have e : ((2 : Int) ^ (7 - K)) = ((2 ^ (7 - K) : Nat) : Int) := by simp
                                                     omega
  have hm128 : m < 128 := by
    by_cases g : K < 8
    · have := hmk' g
      have h2 : 2 ^ (7 - K) ≤ 2 ^ 7 := Nat.pow_le_pow_right (by decide) (by omega)
      have h3 : (2 ^ 7 : Nat) = 128 := rfl
      omega
    · have := hm8 (by omega); omega
  obtain ⟨g1, g2⟩ := vhd_fin K (by omega) m hm128 hmk' (fun g => by have := hm8 g; omega)
  exact ⟨g1, by omega, g2, by omega⟩
theorem w_rem256 {m : Int} (h : 0 ≤ m ∧ m ≤ 9223372036854775807) : IntKind.u8.wrap (m % 256) = m % 256 := IntWalk.u8_in _ (by omega)
theorem subAt1 {c : Int} (hc : 0 ≤ c ∧ c < 256) : SubAt [Y c] 0 (bytesV [b8 c]) := by
  rw [show bytesV [b8 c] = [Y c] by show [byteV (b8 c)] = _; unfold byteV; rw [b8_val hc]]
  exact subAt_all
theorem shl8K {k : Nat} (hk : k ≤ 8) : IntKind.i64.wrap (1 * 2 ^ (min (8 - (k : Int)).toNat IntKind.i64.bits)) = 2 ^ (8 - k) ∧ (1 : Int) ≤ 2 ^ (8 - k) ∧ (2 : Int) ^ (8 - k) ≤ 256 := by
  have : k = 0 ∨ k = 1 ∨ k = 2 ∨ k = 3 ∨ k = 4 ∨ k = 5 ∨ k = 6 ∨ k = 7 ∨ k = 8 := by omega
  rcases this with rfl | rfl | rfl | rfl | rfl | rfl | rfl | rfl | rfl <;> decide
theorem rNumber4_any (n : Int) (h : SH) (h0 : 0 ≤ n) (hn : n ≤ 9223372036854775807) : SRun Try.prog 68 [I n] h fun r q => r = S (vnum n) ∧ q = h := by
  obtain ⟨f1, f2, f3, f4⟩ := vhd_num h0 hn
  rw [show vnum n = b8 (vhd (vk n) (vbe (vk n) (n - vbnd (vk n)) []).2) :: (vbe (vk n) (n - vbnd (vk n)) []).1 from if_neg (by omega)]
  rw [f1]
  obtain ⟨hk1, hk2⟩ := vk_ok (n := n) (by omega)
  have hS := fun h => rSize_any n h (by omega)
  have hB := fun h => rFrom_any (vk n) h hk2
  have hbd := vbnd_in (vk n) hk2
  generalize vk n = K at *
  generalize vbnd K = w at *
  obtain ⟨R, hR⟩ : ∃ R, vbe K (n - w) [] = R := ⟨_, rfl⟩
  rw [hR] at f1 f2 f3 f4 ⊢
  have hK1 : IntKind.i64.wrap ((K : Int) + 1 - 1) = K := by rw [Int.add_sub_cancel]; exact IntWalk.i64_in _ (by omega)
  obtain ⟨hsh, hsh1, hsh2⟩ := shl8K hk2
  refine w_body1 Try.func68 rfl rfl ?_
  repeat' (first | apply w_seq | apply w_region | apply o_nil | (apply o_g tyOk; exact rfl; exact rfl) | (apply o_ar tyOk; exact rfl; exact rfl) | (apply o_call; exact rfl; exact rfl; (focus (first | exact rfl | assumption)); exact rfl; (focus (exact ⟨_, hS _, by repeat (first | with_reducible exact Take.nil | with_reducible apply Take.c | with_reducible apply Take.drop)⟩)); rintro _ _ ⟨rfl, rfl⟩) | (apply o_call; exact rfl; exact rfl; (focus (first | exact rfl | assumption)); exact rfl; (focus (exact ⟨_, hB _, by repeat (first | with_reducible exact Take.nil | with_reducible apply Take.c | with_reducible apply Take.drop)⟩)); rintro _ _ ⟨rfl, rfl⟩) | (apply w_dF; exact rfl; (focus (first | exact ‹_› | with_reducible exact rfl | omega))) | apply thenS_normal | apply w_skip | apply w_block | ((with_reducible apply Sd.mk); (first | exact True.intro | omega | (constructor <;> first | omega | (unfold maxLen; omega)) | (unfold maxLen; omega))) | ((with_reducible apply Wr.mk); (first | exact hK1 | exact IntWalk.i64_in _ (by omega) | exact IntWalk.u8_in _ (by omega) | exact IntWalk.u32_in _ (by omega) | exact IntWalk.u64_in _ (by omega) | exact IntKind.wrap_u8 _ | exact IntKind.wrap_u32 _ | rfl)))
  all_goals first | (exfalso; omega) | skip
  rename_i q0
  refine w_loop (S := Nat × Int × List UInt8) (fun x => [(0, I x.2.1), (3, I K), (4, S x.2.2), (5, I x.1)]) (fun _ => q0)
    (fun x => x.1 ≤ K ∧ x.2.2.length = x.1 ∧ (0 ≤ x.2.1 ∧ x.2.1 ≤ 9223372036854775807) ∧ vbe (K - x.1) x.2.1 x.2.2 = R) (fun x => K - x.1) (0, n - w, []) ⟨Nat.zero_le _, rfl, by dsimp only; omega, hR⟩ (by repeat' (first | exact trivial | refine ⟨rfl, ?_⟩ | refine ⟨congrArg some ?_, ?_⟩)) (by repeat (first | with_reducible exact Take.nil | with_reducible apply Take.c | ((with_reducible apply Take.cE); (first | exact rfl | (apply blkE; (focus (first | exact rfl | exact recs_snocE rfl | exact map_snocE rfl | exact congrArg (fun v => [v]) (gslE rfl rfl (by first | rfl | exact ‹_› | omega | (simp ; first | done | omega)) (by first | rfl | exact ‹_› | omega | (simp ; first | done | omega)) rfl)))))) | with_reducible apply Take.drop)) ?_
  rintro ⟨i, m, T⟩ ⟨hi, hT, hm, he⟩
  dsimp only at hi hT hm he ⊢
  by_cases hiK : i < K
  · rw [show K - i = (K - (i + 1)) + 1 by omega] at he
    have hsb := subAt1 (c := m % 256) (by omega)
    have hw := w_rem256 hm
    repeat' (first | apply w_seq | apply w_region | apply o_nil | (apply o_g tyOk; exact rfl; exact rfl) | (apply o_ar tyOk; exact rfl; exact rfl) | (apply o_ex; exact rfl; exact rfl) | (apply o_buildSlice tyOk; (iterate 5 exact rfl); (focus (decide)); exact rfl; (focus (decide)); (focus (repeat (first | exact CatR.nil | exact CatR.last rfl | (apply CatR.one; exact rfl; exact rfl) | (apply CatR.agg; exact rfl)))); exact rfl) | (apply o_toString tyOk; (iterate 6 exact rfl); (focus (exact pk))) | (apply w_dT; exact rfl; (focus (first | exact ‹_› | with_reducible exact rfl | omega))) | apply thenS_normal | apply blockS_normal | apply w_skip | apply w_block | ((with_reducible apply Sd.mk); (first | exact True.intro | omega | (constructor <;> first | omega | (unfold maxLen; omega)) | (unfold maxLen; omega) | (simp only [List.length_singleton]; omega))) | ((with_reducible apply Ln.mk); (first | rfl | exact ‹_› | omega | (simp ; first | done | omega))) | ((with_reducible apply Wr.mk); (first | exact hw | exact w_quoI (by omega) (by omega) | exact IntWalk.i64_in _ (by omega) | exact IntWalk.u8_in _ (by omega) | exact IntWalk.u32_in _ (by omega) | exact IntWalk.u64_in _ (by omega) | exact IntKind.wrap_u8 _ | exact IntKind.wrap_u32 _ | rfl)) | ((with_reducible apply Ex.mk); (first | exact Int.tmod_eq_emod_of_nonneg (by omega) | rfl)) | ((with_reducible apply Su.mk); (first | exact hsb | exact subAt_all | exact subAt_recZ (fun _ => rfl) (by omega) | exact subAt_rec (fun _ => rfl) (by omega))) | exact True.intro | intro A | exact rfl)
    all_goals first
      | (exfalso; omega)
      | exact ⟨(i + 1, m / 256, b8 (m % 256) :: T), ⟨hiK, by simp [hT], by dsimp only; omega, he⟩, by show K - (i + 1) < K - i; omega, (by repeat' (first | exact trivial | refine ⟨rfl, ?_⟩ | refine ⟨congrArg some ?_, ?_⟩)), (by repeat (first | with_reducible exact Take.nil | with_reducible apply Take.c | ((with_reducible apply Take.cE); (first | exact rfl | (apply blkE; (focus (first | exact rfl | exact recs_snocE rfl | exact map_snocE rfl | exact congrArg (fun v => [v]) (gslE rfl rfl (by first | rfl | exact ‹_› | omega | (simp ; first | done | omega)) (by first | rfl | exact ‹_› | omega | (simp ; first | done | omega)) rfl)))))) | with_reducible apply Take.drop))⟩
      | trace_state
  · obtain rfl : i = K := by omega
    rw [Nat.sub_self] at he
    have he : (T, m) = R := he
    rw [← he] at f2 f3 f4 ⊢
    dsimp only at f2 f3 f4 ⊢
    have hw : IntKind.u8.wrap (256 - 2 ^ (8 - i) + m) = 256 - 2 ^ (8 - i) + m := IntWalk.u8_in _ (by omega)
    have hsb := subAt1 (c := 256 - 2 ^ (8 - i) + m) (by omega)
    generalize (2 : Int) ^ (8 - i) = W at *
    repeat' (first | apply w_seq | apply w_region | apply o_nil | (apply o_g tyOk; exact rfl; exact rfl) | (apply o_ar tyOk; exact rfl; exact rfl) | (apply o_buildSlice tyOk; (iterate 5 exact rfl); (focus (decide)); exact rfl; (focus (decide)); (focus (repeat (first | exact CatR.nil | exact CatR.last rfl | (apply CatR.one; exact rfl; exact rfl) | (apply CatR.agg; exact rfl)))); exact rfl) | (apply o_toString tyOk; (iterate 6 exact rfl); (focus (exact pk))) | (apply w_dF; exact rfl; (focus (first | exact ‹_› | with_reducible exact rfl | omega))) | apply thenS_normal | apply thenS_exit | apply blockS_exit | apply w_ret | apply w_exit | ((with_reducible apply Sd.mk); (first | exact True.intro | omega | (constructor <;> first | omega | (unfold maxLen; omega)) | (unfold maxLen; omega) | (simp only [List.length_singleton]; omega))) | ((with_reducible apply Ln.mk); (first | rfl | exact ‹_› | omega | (simp ; first | done | omega))) | ((with_reducible apply Wr.mk); (first | exact hw | exact hsh | exact IntWalk.i64_in _ (by omega) | exact IntWalk.u8_in _ (by omega) | exact IntWalk.u32_in _ (by omega) | exact IntWalk.u64_in _ (by omega) | exact IntKind.wrap_u8 _ | exact IntKind.wrap_u32 _ | rfl)) | ((with_reducible apply Su.mk); (first | exact hsb | exact subAt_all | exact subAt_recZ (fun _ => rfl) (by omega) | exact subAt_rec (fun _ => rfl) (by omega))) | exact True.intro | intro A | exact rfl)
    all_goals first
      | (exfalso; omega)
      | (apply s_fin; (exact (show ResS _ _ _ _ [_] from ⟨rfl, trivial⟩)); (focus (exact ⟨rfl, rfl⟩)); (focus (repeat (first | with_reducible exact Take.nil | with_reducible apply Take.c | ((with_reducible apply Take.cE); (first | exact rfl | (apply blkE; (focus (first | exact rfl | exact recs_snocE rfl | exact map_snocE rfl | exact congrArg (fun v => [v]) (gslE rfl rfl (by first | rfl | exact ‹_› | omega | (simp ; first | done | omega)) (by first | rfl | exact ‹_› | omega | (simp ; first | done | omega)) rfl)))))) | with_reducible apply Take.drop))))
      | trace_state
end Go.Proofs.Ytgooffiipnkmiaa
end
section
set_option linter.unusedVariables false
set_option linter.unusedSimpArgs false
set_option maxRecDepth 4000
namespace Go.Proofs.Ytgooffiipnkmiaa
open Go.Gh Go.RowKit

theorem nfr_out {t : List Int} {e : Enc} {v : Int} (h : nfr t e v = false) : (nenc t e v).2.out = e.out := by
  unfold nfr at h
  rw [Bool.or_eq_false_iff] at h
  have h1 := tfr_out 6 h.1
  unfold nenc
  dsimp only
  split
  · rename_i hb
    rw [if_pos hb] at h
    have h2 : ∀ (k : Nat) (e : Enc), dfr (ncut v) k e = false → (ebits (ncut v) k e).out = e.out := by
      intro k
      induction k with
      | zero => intro e _; rfl
      | succ k ih =>
        intro e g
        have g : (fresh e 1024 (ncut v / 2 ^ k % 2) || dfr (ncut v) k (ebit e 1024 (ncut v / 2 ^ k % 2))) = false := g
        rw [Bool.or_eq_false_iff] at g
        exact (ih _ g.2).trans (fresh_out g.1)
    rw [← h1]
    unfold edir
    split
    · rfl
    · have := h2 (blen (ncut v).toNat - 1) _ h.2
      rw [show ((blen (ncut v).toNat : Int) - 1).toNat = blen (ncut v).toNat - 1 by omega]
      exact this
  · exact h1
end Go.Proofs.Ytgooffiipnkmiaa
end
section
set_option linter.unusedVariables false
set_option linter.unusedSimpArgs false
set_option maxRecDepth 4000
namespace Go.Proofs.Ytgooffiipnkmiaa
open Go.Gh Go.RowKit

instance (a b : St) : Decidable (kb a b) := by unfold kb; infer_instance
theorem rbetter_any (x y : St) (h : SH) : SRun Try.prog 63 [.agg ⟨stC x⟩, .agg ⟨stC y⟩] h fun r q => r = B (decide (kb x y)) ∧ q = h := by
  obtain ⟨a, b, n, d, z⟩ := x
  obtain ⟨a', b', n', d', z'⟩ := y
  refine w_body2 Try.func63 rfl rfl ?_
  repeat' (first | apply w_seq | apply w_region | apply o_nil | (apply o_g tyOk; exact rfl; exact rfl) | (apply o_load tyOk; (iterate 3 exact rfl); (focus (exact pk))) | (apply o_box (tt := tyT); iterate 5 exact rfl) | (apply w_ifN; exact rfl; all_goals intro hc) | apply thenS_normal | apply thenS_ret | apply w_skip | apply w_ret | ((with_reducible apply Sd.mk); (first | exact True.intro | omega | (constructor <;> first | omega | (unfold maxLen; omega)) | (unfold maxLen; omega))) | ((with_reducible apply Ln.mk); (first | rfl | exact ‹_› | omega | (simp ; first | done | omega))) | ((with_reducible apply Ce.mk); (first | rfl | exact ‹_› | exact cell_recZ (fun _ => rfl) (by omega) (by decide) rfl | exact cell_rec (fun _ => rfl) (by omega) (by decide) rfl | exact cell_bytes (by omega) | exact cell_mapZ (by omega) | exact cell_map (by omega))) | exact True.intro | intro A | exact rfl)
  all_goals (apply s_fin; (exact (show ResS _ _ _ _ [_] from ⟨rfl, trivial⟩)); (focus (refine ⟨?_, rfl⟩; show B _ = B _; congr 1; rw [decide_eq_decide]; unfold kb; dsimp only at *; omega)); (focus (repeat (first | with_reducible exact Take.nil | with_reducible apply Take.c | ((with_reducible apply Take.cE); (first | exact rfl | (apply blkE; (focus (first | exact rfl | exact recs_snocE rfl | exact map_snocE rfl | exact congrArg (fun v => [v]) (gslE rfl rfl (by first | rfl | exact ‹_› | omega | (simp ; first | done | omega)) (by first | rfl | exact ‹_› | omega | (simp ; first | done | omega)) rfl)))))) | with_reducible apply Take.drop))))
end Go.Proofs.Ytgooffiipnkmiaa
end
section
set_option linter.unusedVariables false
set_option linter.unusedSimpArgs false
set_option maxRecDepth 4000
namespace Go.Proofs.Ytgooffiipnkmiaa
open Go.Gh Go.RowKit

/-- The copies at a place, all distances up to D and all lengths. -/
def rtries (l : List UInt8) (i : Nat) : Nat → List Pc
  | 0 => []
  | D + 1 => rtries l i D ++ trN ((D : Int) + 1) 1 (atd l i ((D : Int) + 1) 273).toNat
def rstp (c : Cst) (T : List St) (i : Nat) (b : St) (t : Pc) : St := if kb (nxt c T i t) b then nxt c T i t else b
def rbest (c : Cst) (l : List UInt8) (w : Int) (T : List St) (i : Nat) : St := (rtries l i (min w (i : Int)).toNat).foldl (rstp c T i) (nxt c T i (litP l i))
theorem fold_min {c : Cst} {T : List St} {i : Nat} : ∀ (ts : List Pc) (b : St), (ts.foldl (rstp c T i) b = b ∨ ∃ t ∈ ts, ts.foldl (rstp c T i) b = nxt c T i t) ∧ ¬ kb b (ts.foldl (rstp c T i) b) ∧ ∀ t ∈ ts, ¬ kb (nxt c T i t) (ts.foldl (rstp c T i) b)
  | [], b => ⟨.inl rfl, by show ¬ kb b b; unfold kb; omega, fun t ht => by cases ht⟩
  | t :: r, b => by
    obtain ⟨h1, h2, h3⟩ := fold_min (c := c) (T := T) (i := i) r (rstp c T i b t)
    rw [List.foldl_cons]
    have hb : ¬ kb b (rstp c T i b t) ∧ ¬ kb (nxt c T i t) (rstp c T i b t) := by
      unfold rstp
      split
      · rename_i h
        refine ⟨?_, by unfold kb; omega⟩
        unfold kb at *; omega
      · rename_i h
        exact ⟨by unfold kb; omega, h⟩
    refine ⟨?_, kb_trans h2 hb.1, fun u hu => ?_⟩
    · rcases h1 with h1 | ⟨u, hu, h1⟩
      · rw [h1]
        unfold rstp
        split
        · exact .inr ⟨t, List.mem_cons_self, rfl⟩
        · exact .inl rfl
      · exact .inr ⟨u, List.mem_cons_of_mem _ hu, h1⟩
    · rcases List.mem_cons.1 hu with rfl | hu
      · exact kb_trans h2 hb.2
      · exact h3 u hu
theorem rtries_mem {l : List UInt8} {i : Nat} {t : Pc} : ∀ {D : Nat}, t ∈ rtries l i D → ∃ d n : Nat, 1 ≤ d ∧ d ≤ D ∧ 2 ≤ n ∧ (n : Int) ≤ atd l i d 273 ∧ t = ((n : Int), (d : Int), 0)
  | 0, h => by cases h
  | D + 1, h => by
    rcases List.mem_append.1 h with h | h
    · obtain ⟨d, n, h1, h2, h3⟩ := rtries_mem h
      exact ⟨d, n, h1, by omega, h3⟩
    · have g := trN_in h
      obtain ⟨a, b, y⟩ := t
      dsimp only at g
      refine ⟨D + 1, a.toNat, by omega, Nat.le_refl _, by omega, ?_, ?_⟩
      · rw [show ((D + 1 : Nat) : Int) = (D : Int) + 1 by omega]; omega
      · rw [show ((a.toNat : Nat) : Int) = a by omega, g.2.2.1, g.2.2.2]; rfl
theorem rtries_has {l : List UInt8} {i d n : Nat} : ∀ {D : Nat}, 1 ≤ d → d ≤ D → 2 ≤ n → (n : Int) ≤ atd l i d 273 → ((n : Int), (d : Int), (0 : Int)) ∈ rtries l i D
  | 0, h1, h2, _, _ => by omega
  | D + 1, h1, h2, h3, h4 => by
    unfold rtries
    by_cases e : d = D + 1
    · subst e
      rw [show ((D + 1 : Nat) : Int) = (D : Int) + 1 by omega] at h4 ⊢
      exact List.mem_append_right _ (trN_mem (by omega) (by omega))
    · exact List.mem_append_left _ (rtries_has h1 (by omega) h3 h4)
section
variable {c : Cst} {l : List UInt8} {w : Int} (hc : vC c) (hw : 1 ≤ w ∧ w ≤ 4096) (hn : l.length ≤ 4096)
theorem rtries_occ {i : Nat} {t : Pc} (hw : 1 ≤ w ∧ w ≤ 4096) (hi : i < l.length) (h : t ∈ rtries l i (min w (i : Int)).toNat) : occ l w i t := by
  obtain ⟨d, n, h1, h2, h3, h4, rfl⟩ := rtries_mem h
  have hd : d ≤ i := by omega
  have hat := atd_eq l i d 273 h1 hd (by omega) (by omega)
  have h5 := lcp_le l (min (273 : Int) ((l.length : Int) - i)).toNat (i - d) i
  have hle : n ≤ 273 := by split at hat <;> omega
  exact .inr ⟨n, d, rfl, h3, hle, h1, by omega, hd, (atd_ge l i d n h1 hd (by omega) h3 hle).1 h4⟩
include hc hw hn
theorem rrow_eq {j : Nat} (hj : j < l.length) : (parT c l w j).set (l.length - (j + 1)) (rbest c l w (parT c l w j) (l.length - (j + 1))) = parT c l w (j + 1) := by
  obtain ⟨i, hi⟩ : ∃ i, i = l.length - (j + 1) := ⟨_, rfl⟩
  obtain ⟨T, hT⟩ : ∃ T, T = parT c l w j := ⟨_, rfl⟩
  have hil : i < l.length := by omega
  have hTl : T.length = l.length + 1 := by rw [hT]; exact (parT_last (l := l) (w := w) hc (by omega)).1
  have hrow : parT c l w (j + 1) = rowT c l w i T := by rw [hi, hT]; rfl
  rw [hrow, ← hi, ← hT]
  have hm := row_min hc hw hn hil hTl
  have same : ∀ u : Pc, 1 ≤ u.1 → nxt c (rowT c l w i T) i u = nxt c T i u := fun u hu => by
    unfold nxt rowT
    rw [runT_else (by omega) (by show i < T.length; omega)]
  have hb : rbest c l w T i = (rowT c l w i T)[i]! := by
    obtain ⟨f1, f2, f3⟩ := fold_min (c := c) (T := T) (i := i) (rtries l i (min w (i : Int)).toNat) (nxt c T i (litP l i))
    have g1 : ∃ t, occ l w i t ∧ rbest c l w T i = nxt c T i t := by
      rcases f1 with f1 | ⟨t, ht, f1⟩
      · exact ⟨litP l i, .inl ⟨hil, rfl⟩, f1⟩
      · exact ⟨t, rtries_occ hw hil ht, f1⟩
    have g2 : ∀ t, occ l w i t → ¬ kb (nxt c T i t) (rbest c l w T i) := fun t ht => by
      rcases ht with ⟨_, rfl⟩ | ⟨n, d, rfl, h1, h2, h3, h4, h5, h6, h7⟩
      · exact f2
      · exact f3 _ (rtries_has h3 (by omega) h1 ((atd_ge l i d n h3 h5 (by omega) h1 h2).2 ⟨h6, h7⟩))
    obtain ⟨t, ht, e⟩ := g1
    obtain ⟨m1, m2, m3⟩ := hm
    have h1 := g2 _ m1
    have h2 := m3 t ht
    have o1 := (ht.fits hw.2).2.2
    have o2 := (m1.fits hw.2).2.2
    rw [same _ o1] at h2
    rw [same _ o2] at m2
    rw [e] at h1 ⊢
    generalize hX : (rowT c l w i T)[i]! = X at m1 m2 h1 h2 o2 ⊢
    have e1 : (nxt c T i t).2.2 = t := rfl
    have e2 : (nxt c T i X.2.2).2.2 = X.2.2 := rfl
    have e3 : t = X.2.2 := by
      refine occ_same ht m1 ?_ ?_
      · rw [m2] at h2; unfold kb at h1 h2; rw [e1, e2] at h1 h2; omega
      · rw [m2] at h2; unfold kb at h1 h2; rw [e1, e2] at h1 h2; omega
    rw [e3, ← m2]
  rw [hb]
  refine List.ext_getElem? fun k => ?_
  have hrl : (rowT c l w i T).length = T.length := by
    have : ∀ (ts : List Pc) (s : Bool × List St), (runT c i ts s).2.length = s.2.length := fun ts => by
      induction ts with
      | nil => intro s; rfl
      | cons t r ih => intro s; show (runT c i r (tryS c i s t)).2.length = _; rw [ih, tryS_len]
    exact this _ _
  rw [List.getElem?_set]
  by_cases e : i = k
  · subst e
    rw [if_pos rfl, if_pos (by omega), getElem!_pos _ i (by omega), List.getElem?_eq_getElem (by omega)]
  · rw [if_neg e]
    have h1 : (rowT c l w i T)[k]! = T[k]! := by unfold rowT; rw [runT_else (by omega) (by show i < T.length; omega)]
    by_cases hk : k < T.length
    · rw [getElem!_pos _ k (by omega), getElem!_pos _ k hk] at h1
      rw [List.getElem?_eq_getElem hk, List.getElem?_eq_getElem (by omega), h1]
    · rw [List.getElem?_eq_none (by omega), List.getElem?_eq_none (by omega)]
end
end Go.Proofs.Ytgooffiipnkmiaa
end
