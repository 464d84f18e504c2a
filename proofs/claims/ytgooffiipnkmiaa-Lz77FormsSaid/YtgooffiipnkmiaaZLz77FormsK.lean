/- Part 11 of the proof of the law Lz77Forms: texts merged. No condition. -/
import Derived.Test.YtgooffiipnkmiaaZLz77FormsJ
section
set_option linter.unusedVariables false
set_option linter.unusedSimpArgs false
set_option maxRecDepth 4000
namespace Go.Proofs.Ytgooffiipnkmiaa
open Go.Gh Go.RowKit

theorem RM.lit {q : SH} {x : Ms} {a : RAd} {ts : List Value} (b : RM q x a ts) (hx : MsOk x) {n : Nat} {e : Enc} (hok : EncOk n e) (l y : Int) (B1 B2 C : Nat) :
    RM ((C, ⟨ts.set (x.c / 32).toNat (tsl B2), false⟩) :: (B2, ⟨nodes (tenc y 8 (bsel x.P (x.c / 32).toNat) (tenc 0 1 x.K e 1).2 1).1, false⟩) :: (B1, ⟨nodes (tenc 0 1 x.K e 1).1, false⟩) :: q)
      (wst (x, e) (l, 0, y)).1 ⟨B1, a.l, a.d, C⟩ (ts.set (x.c / 32).toNat (tsl B2)) := by
  have hk : (x.c / 32).toNat < 8 := by have := hx.c; omega
  have ok1 := tenc_ok (v := 0) (k := 1) (t := x.K) (j := 1) hok
  have ht : (tenc y 8 (bsel x.P (x.c / 32).toNat) (tenc 0 1 x.K e 1).2 1).1.length = 256 := by rw [(tenc_ok ok1.1).2, bsel_len hx.P hk]
  have b2 := b.re (h' := (C, ⟨ts.set (x.c / 32).toNat (tsl B2), false⟩) :: (B2, ⟨nodes (tenc y 8 (bsel x.P (x.c / 32).toNat) (tenc 0 1 x.K e 1).2 1).1, false⟩) :: (B1, ⟨nodes (tenc 0 1 x.K e 1).1, false⟩) :: q) (.drop (.drop (.drop .nil)))
  unfold wst
  rw [if_pos rfl]
  exact ⟨⟨_, .tail (.tail .head)⟩, b2.L, b2.D, ⟨_, .head⟩, BTs.set b2.B hk hx.P ht (.tail .head)⟩
theorem RM.cpy {q : SH} {x : Ms} {a : RAd} {ts : List Value} (b : RM q x a ts) (e : Enc) {l d y : Int} (hd : d ≠ 0) (B1 B2 B3 : Nat) :
    RM ((B3, ⟨nodes (wst (x, e) (l, d, y)).1.D, false⟩) :: (B2, ⟨nodes (wst (x, e) (l, d, y)).1.L, false⟩) :: (B1, ⟨nodes (wst (x, e) (l, d, y)).1.K, false⟩) :: q) (wst (x, e) (l, d, y)).1 ⟨B1, B2, B3, a.C⟩ ts := by
  have b2 := b.re (h' := (B3, ⟨nodes (wst (x, e) (l, d, y)).1.D, false⟩) :: (B2, ⟨nodes (wst (x, e) (l, d, y)).1.L, false⟩) :: (B1, ⟨nodes (wst (x, e) (l, d, y)).1.K, false⟩) :: q) (.drop (.drop (.drop .nil)))
  have hC := b2.C
  have hB := b2.B
  clear b2
  unfold wst at hC hB ⊢
  rw [if_neg hd] at hC hB ⊢
  exact ⟨⟨_, .tail (.tail .head)⟩, ⟨_, .tail .head⟩, ⟨_, .head⟩, hC, hB⟩
theorem wst_cl {x : Ms} {e : Enc} {l y : Int} : (wst (x, e) (l, 0, y)).1.c = y := by unfold wst; rw [if_pos rfl]
theorem wst_cc {x : Ms} {e : Enc} {l d y : Int} (hd : d ≠ 0) : (wst (x, e) (l, d, y)).1.c = x.c := by unfold wst; rw [if_neg hd]
section
variable (x : Ms) (e : Enc) (l d y : Int) (w : Value) (a : RAd) (ts : List Value) (h : SH) (hR : RM h x a ts) (hv : RO h e.out w) (hx : MsOk x) (hok : EncOk 799000 e)
include hR hv hx hok
theorem rWriteL_old (hy : 0 ≤ y ∧ y ≤ 255) (hf : wfl (x, e) y = false) : SRun Try.prog 71 [reV w e.low e.size, rmV a x.c, .agg ⟨[I l, I 0, Y y]⟩] h fun r q =>
      ∃ C' B2 B1, r = .tuple ⟨[reV w (wst (x, e) (l, 0, y)).2.low (wst (x, e) (l, 0, y)).2.size, rmV ⟨B1, a.l, a.d, C'⟩ y]⟩ ∧
        q = (C', ⟨ts.set (x.c / 32).toNat (tsl B2), false⟩) :: (B2, ⟨nodes (tenc y 8 (bsel x.P (x.c / 32).toNat) (tenc 0 1 x.K e 1).2 1).1, false⟩) :: (B1, ⟨nodes (tenc 0 1 x.K e 1).1, false⟩) :: h := by
  refine (rWriteL_any x e l y w a ts h hR hv hx hok hy).mono ?_
  rintro r q ⟨B1, B2, C, w', qo, rfl, ro, rfl⟩
  rw [hf] at ro
  generalize (wst (x, e) (l, 0, y)).2.out = o2 at ro
  cases ro
  exact ⟨C, B2, B1, rfl, rfl⟩
theorem rWriteL_new (hy : 0 ≤ y ∧ y ≤ 255) (hf : wfl (x, e) y = true) : SRun Try.prog 71 [reV w e.low e.size, rmV a x.c, .agg ⟨[I l, I 0, Y y]⟩] h fun r q =>
      ∃ C' B2 B1 O, r = .tuple ⟨[reV (gsl O 0 (wst (x, e) (l, 0, y)).2.out.length (wst (x, e) (l, 0, y)).2.out.length 1) (wst (x, e) (l, 0, y)).2.low (wst (x, e) (l, 0, y)).2.size, rmV ⟨B1, a.l, a.d, C'⟩ y]⟩ ∧
        q = (C', ⟨ts.set (x.c / 32).toNat (tsl B2), false⟩) :: (B2, ⟨nodes (tenc y 8 (bsel x.P (x.c / 32).toNat) (tenc 0 1 x.K e 1).2 1).1, false⟩) :: (B1, ⟨nodes (tenc 0 1 x.K e 1).1, false⟩) :: (O, ⟨bytesV (wst (x, e) (l, 0, y)).2.out, false⟩) :: h := by
  refine (rWriteL_any x e l y w a ts h hR hv hx hok hy).mono ?_
  rintro r q ⟨B1, B2, C, w', qo, rfl, ro, rfl⟩
  rw [hf] at ro
  cases ro with
  | new o O => exact ⟨C, B2, B1, O, rfl, rfl⟩
theorem rWriteC_old (hl : 2 ≤ l ∧ l ≤ 5000) (hd : 1 ≤ d ∧ d ≤ 5000) (hf : wfc (x, e) l d = false) : SRun Try.prog 71 [reV w e.low e.size, rmV a x.c, .agg ⟨[I l, I d, Y y]⟩] h fun r q =>
      ∃ B3 B2 B1, r = .tuple ⟨[reV w (wst (x, e) (l, d, y)).2.low (wst (x, e) (l, d, y)).2.size, rmV ⟨B1, B2, B3, a.C⟩ (wst (x, e) (l, d, y)).1.c]⟩ ∧
        q = (B3, ⟨nodes (wst (x, e) (l, d, y)).1.D, false⟩) :: (B2, ⟨nodes (wst (x, e) (l, d, y)).1.L, false⟩) :: (B1, ⟨nodes (wst (x, e) (l, d, y)).1.K, false⟩) :: h := by
  refine (rWriteC_any x e l d y w a ts h hR hv hx hok hl hd).mono ?_
  rintro r q ⟨B1, B2, C, w', qo, rfl, ro, rfl⟩
  rw [hf] at ro
  rw [wst_cc (show d ≠ 0 by omega)]
  generalize (wst (x, e) (l, d, y)).2.out = o2 at ro
  cases ro
  exact ⟨C, B2, B1, rfl, rfl⟩
theorem rWriteC_new (hl : 2 ≤ l ∧ l ≤ 5000) (hd : 1 ≤ d ∧ d ≤ 5000) (hf : wfc (x, e) l d = true) : SRun Try.prog 71 [reV w e.low e.size, rmV a x.c, .agg ⟨[I l, I d, Y y]⟩] h fun r q =>
      ∃ B3 B2 B1 O, r = .tuple ⟨[reV (gsl O 0 (wst (x, e) (l, d, y)).2.out.length (wst (x, e) (l, d, y)).2.out.length 1) (wst (x, e) (l, d, y)).2.low (wst (x, e) (l, d, y)).2.size, rmV ⟨B1, B2, B3, a.C⟩ (wst (x, e) (l, d, y)).1.c]⟩ ∧
        q = (B3, ⟨nodes (wst (x, e) (l, d, y)).1.D, false⟩) :: (B2, ⟨nodes (wst (x, e) (l, d, y)).1.L, false⟩) :: (B1, ⟨nodes (wst (x, e) (l, d, y)).1.K, false⟩) :: (O, ⟨bytesV (wst (x, e) (l, d, y)).2.out, false⟩) :: h := by
  refine (rWriteC_any x e l d y w a ts h hR hv hx hok hl hd).mono ?_
  rintro r q ⟨B1, B2, C, w', qo, rfl, ro, rfl⟩
  rw [hf] at ro
  rw [wst_cc (show d ≠ 0 by omega)]
  cases ro with
  | new o O => exact ⟨C, B2, B1, O, rfl, rfl⟩
end
abbrev ZBS : Type := Nat × Ms × Enc × RAd × List Value × Value × SH
theorem rzBytes_any (n : Nat) (ps : List Pc) (v : Value) (h : SH) (hv : Has h (recs pcC ps) 3 ps.length v) (hps : ∀ t ∈ ps, vPb t) (hs : psum ps ≤ 4096) (hl : ps.length ≤ 4096) (hn : n ≤ 4096) :
    SRun Try.prog 32 [I n, v] h fun r q => r = S (if n = 0 then vnum 0 else wrt n ps) ∧ q = h := by
  have hN := fun n h h0 hn => rNumber4_any n h h0 hn
  obtain ⟨ad, fl, rfl, hh⟩ := hv
  by_cases h0 : n = 0
  · subst h0
    rw [if_pos rfl]
    refine w_body2 Try.func32 rfl rfl ?_
    repeat' (first | apply w_seq | apply w_region | apply o_nil | (apply o_g tyOk; exact rfl; exact rfl) | (apply o_call; exact rfl; exact rfl; (focus (first | exact rfl | assumption)); exact rfl; (focus (exact ⟨_, hN 0 _ (by decide) (by decide), by repeat (first | with_reducible exact Take.nil | with_reducible apply Take.c | with_reducible apply Take.drop)⟩)); rintro _ _ ⟨rfl, rfl⟩) | (apply w_true; exact rfl) | apply thenS_normal | apply thenS_ret | apply w_ret | ((with_reducible apply Sd.mk); (first | exact True.intro | omega | (constructor <;> first | omega | (unfold maxLen; omega)) | (unfold maxLen; omega))))
    all_goals first
      | contradiction
      | (exfalso; omega)
      | (apply s_fin; (exact (show ResS _ _ _ _ [_] from ⟨rfl, trivial⟩)); (focus (exact ⟨rfl, rfl⟩)); (focus (repeat (first | with_reducible exact Take.nil | with_reducible apply Take.c | ((with_reducible apply Take.cE); (first | exact rfl | (apply blkE; (focus (first | exact rfl | exact recs_snocE rfl | exact map_snocE rfl | exact congrArg (fun v => [v]) (gslE rfl rfl (by first | rfl | exact ‹_› | omega | (simp ; first | done | omega)) (by first | rfl | exact ‹_› | omega | (simp ; first | done | omega)) rfl)))))) | with_reducible apply Take.drop))))
      | trace_state
  rw [if_neg h0]
  have hM : ∀ h, SRun Try.prog 70 [] h fun r q => ∃ a ts, r = rmV a 0 ∧ RM q ms0 a ts ∧ Take q h := rNewModels_any
  have hwr : wrt n ps = vnum n ++ fin (wrun ps zs0).2 := rfl
  rw [hwr]
  have hok := wrunT_ok hps
  have hz : wrun (ps.take 0) zs0 = (ms0, encZ) := rfl
  have hz2 : wrun (ps.take ps.length) zs0 = wrun ps zs0 := by rw [List.take_length]
  have hz3 : ∀ i, i < ps.length → wrun (ps.take (i + 1)) zs0 = wst (wrun (ps.take i) zs0) ps[i]! := fun i hi => by rw [ztake_bang hi, wrun_snoc]
  have hez : encZ = ⟨[], 0, 4294967295⟩ := rfl
  have hmc : ms0.c = 0 := rfl
  generalize wrun ps zs0 = Z at *
  generalize ms0 = x0 at *
  generalize zs0 = z0 at *
  refine w_body2 Try.func32 rfl rfl ?_
  repeat' (first | apply w_seq | apply w_region | apply o_nil | (apply o_g tyOk; exact rfl; exact rfl) | (apply o_stores tyOk; (iterate 4 exact rfl); (focus (exact ⟨rfl⟩)); (focus (exact up))) | (apply o_alloc tyOk; iterate 5 exact rfl) | (apply o_call; exact rfl; exact rfl; (focus (first | exact rfl | assumption)); exact rfl; (focus (exact ⟨_, hN _ _ (Int.natCast_nonneg _) (by omega), by repeat (first | with_reducible exact Take.nil | with_reducible apply Take.c | with_reducible apply Take.drop)⟩)); rintro _ _ ⟨rfl, rfl⟩) | (apply o_call; exact rfl; exact rfl; (focus (first | exact rfl | assumption)); exact rfl; (focus (exact ⟨_, rNewEncoder_any _, by repeat (first | with_reducible exact Take.nil | with_reducible apply Take.c | with_reducible apply Take.drop)⟩)); rintro _ _ ⟨rfl, rfl⟩) | (apply o_call; exact rfl; exact rfl; (focus (first | exact rfl | assumption)); exact rfl; (focus (exact ⟨_, hM _, by repeat (first | with_reducible exact Take.nil | with_reducible apply Take.c | with_reducible apply Take.drop)⟩)); rintro _ _ ⟨a0, ts0, rfl, rm0, tH⟩) | (apply w_dF; exact rfl; (focus (first | exact ‹_› | with_reducible exact rfl | omega))) | apply thenS_normal | apply w_skip | apply w_block | ((with_reducible apply Sd.mk); (first | exact True.intro | omega | (constructor <;> first | omega | (unfold maxLen; omega)) | (unfold maxLen; omega))) | ((with_reducible apply Ln.mk); (first | rfl | exact ‹_› | omega | (simp ; first | done | omega))) | ((with_reducible apply Pu.mk); (first | exact putAt_all rfl | exact putAt_recZ (fun _ => rfl) (by omega) | exact putAt_rec (fun _ => rfl) (by omega))) | exact True.intro | intro A)
  all_goals first | contradiction | (exfalso; omega) | skip
  rename_i q00 q01 E0
  obtain ⟨M0, rfl⟩ : ∃ m, m = A := ⟨_, rfl⟩
  refine w_loop (S := ZBS) (fun s => [(1, .slice ad ps.length fl), (5, S (vnum n)), (6, gptr E0 0 3), (7, gptr M0 0 5), (8, I s.1)])
    (fun s => (M0, ⟨rmC s.2.2.2.1 s.2.1.c, false⟩) :: (E0, ⟨reC s.2.2.2.2.2.1 s.2.2.1.low s.2.2.1.size, false⟩) :: s.2.2.2.2.2.2)
    (fun s => s.1 ≤ ps.length ∧ wrun (ps.take s.1) z0 = (s.2.1, s.2.2.1) ∧ RM s.2.2.2.2.2.2 s.2.1 s.2.2.2.1 s.2.2.2.2.1 ∧ RO s.2.2.2.2.2.2 s.2.2.1.out s.2.2.2.2.2.1 ∧ Take s.2.2.2.2.2.2 q00) (fun s => ps.length - s.1)
    (0, x0, encZ, a0, ts0, .slice none 0 0, q01) ⟨Nat.zero_le _, hz, rm0, .inl ⟨rfl, rfl⟩, tH⟩ (by repeat' (first | exact trivial | refine ⟨rfl, ?_⟩ | refine ⟨congrArg some ?_, ?_⟩)) (by rw [hmc]; exact (by repeat (first | with_reducible exact Take.nil | with_reducible apply Take.c | ((with_reducible apply Take.cE); (first | exact rfl | (apply blkE; (focus (first | exact rfl | exact recs_snocE rfl | exact map_snocE rfl | exact congrArg (fun v => [v]) (gslE rfl rfl (by first | rfl | exact ‹_› | omega | (simp ; first | done | omega)) (by first | rfl | exact ‹_› | omega | (simp ; first | done | omega)) rfl)))))) | with_reducible apply Take.drop))) ?_
  rintro ⟨i, x, e, a, ts, w, q⟩ ⟨hi, he, rm, hro, tq⟩
  dsimp only at hi he rm hro tq ⊢
  have hok1 := hok i
  rw [he] at hok1
  obtain ⟨hx, hoe⟩ := hok1
  dsimp only at hx hoe
  have hoe := hoe.mono (show 137 * psum ps ≤ 799000 by omega)
  by_cases hil : i < ps.length
  · obtain ⟨A', ro, h1, rfl, hp⟩ := hh (by omega)
    obtain ⟨pA, hpA, -⟩ := tq.pick hp
    have hstep := hz3 i hil
    rw [he] at hstep
    obtain ⟨hvt, hyt⟩ := hps _ (bang_mem hil)
    have hc0 := hx.c
    generalize ht : ps[i]! = t at *
    obtain ⟨l, d, y⟩ := t
    dsimp only at hvt hyt
    have rm2 := rm.re (h' := (M0, ⟨rmC a x.c, false⟩) :: (E0, ⟨reC w e.low e.size, false⟩) :: q) (.drop (.drop .nil))
    have hro2 := hro.re (h' := (M0, ⟨rmC a x.c, false⟩) :: (E0, ⟨reC w e.low e.size, false⟩) :: q) (.drop (.drop .nil))
    obtain ⟨⟨pK1, pK2⟩, ⟨pL1, pL2⟩, ⟨pD1, pD2⟩, ⟨pC1, pC2⟩, hB⟩ := id rm
    rcases hvt with ⟨rfl, rfl⟩ | ⟨g1, g2, g3, g4, g5⟩
    · have harg : Value.agg ⟨[I 1, I 0, Y y]⟩ = pcV ps[i]! := (congrArg pcV ht).symm
      have hR1 := fun B1 B2 C => rm.lit hx hoe 1 y B1 B2 C
      have hR2 := fun O B1 B2 C => RM.lit (q := (O, ⟨bytesV (wst (x, e) (1, 0, y)).2.out, false⟩) :: q) (rm.re (.drop .nil)) hx hoe 1 y B1 B2 C
      have hc1 := wst_cl (x := x) (e := e) (l := 1) (y := y)
      cases hfr : wfl (x, e) y with
      | false =>
        have hW := rWriteL_old x e 1 y w a ts ((M0, ⟨rmC a x.c, false⟩) :: (E0, ⟨reC w e.low e.size, false⟩) :: q) rm2 hro2 hx hoe hyt hfr
        have hout := wfl_out (l := 1) hfr
        generalize tenc y 8 (bsel x.P (x.c / 32).toNat) (tenc 0 1 x.K e 1).2 1 = T2 at *
        generalize tenc 0 1 x.K e 1 = T1 at *
        generalize wst (x, e) (1, 0, y) = W at *
        obtain ⟨x', e'⟩ := W
        dsimp only at *
        subst hc1
        rw [harg] at hW
        rcases id hro with ⟨e0, rfl⟩ | ⟨A1, p2, rfl, hp4⟩
        all_goals
          repeat' (first | apply w_seq | apply w_region | apply o_nil | (apply w_draw; (focus (kernel_rfl)); (focus (kernel_rfl))) | (apply o_g tyOk; exact rfl; exact rfl) | (apply o_ar tyOk; exact rfl; exact rfl) | (apply o_loads tyOk; (iterate 3 exact rfl); (focus (exact pk))) | (apply o_stores tyOk; (iterate 4 exact rfl); (focus (exact ⟨rfl⟩)); (focus (exact up))) | (apply o_callE3; (iterate 4 exact rfl); (focus (exact ⟨hW, by repeat (first | with_reducible exact Take.nil | with_reducible apply Take.c | with_reducible apply Take.drop)⟩)); (focus ((intro _ _ _; (first | exact List.Perm.refl _ | (simp; done) | exact List.Perm.swap _ _ _)))); (focus ((intro A1 A2 B1 B2 C1 C2 ρ D e1 e2 e3 d1 d2 d3 hρ hD; refine ⟨?_, ?_⟩; (focus (repeat (first | exact VR.const rfl | exact VRs.set (VRs.old hρ hD (hB.re (.drop (.drop .nil))).old) (VR.slc' e2 d2) | (apply VR.ptr'; (focus (first | exact e1 | exact e2 | exact e3 | ((apply rho_pick hρ); (exact pk)))); (focus (first | exact d1 | exact d2 | exact d3 | ((apply dom_pick hD); (exact pk))))) | (apply VR.slc'; (focus (first | exact e1 | exact e2 | exact e3 | ((apply rho_pick hρ); (exact pk)))); (focus (first | exact d1 | exact d2 | exact d3 | ((apply dom_pick hD); (exact pk))))) | exact VR.sdead | apply VRs.tuple | apply VRs.agg | exact VRs.nil | ((apply VRs.const); (focus (first | exact bytesV_const _ | exact map_const (fun _ => rfl) | exact recs_const (fun _ v hv => by simp only [List.mem_cons, List.not_mem_nil, or_false] at hv; rcases hv with rfl | rfl | rfl | rfl | rfl <;> rfl)))) | apply VRs.cons))); (focus (repeat (first | exact SHR.nil | ((apply SHR.same); (focus (intro x hx; (repeat (first | exact hx | apply List.mem_cons_of_mem)); done))) | ((apply SHR.keep); (focus ((repeat (first | with_reducible exact List.mem_cons_self | apply List.mem_cons_of_mem)); done))) | (apply SHR.cons; (focus (first | exact e1 | exact e2 | exact e3 | ((apply rho_pick hρ); (exact pk)))); (focus (repeat (first | exact VR.const rfl | exact VRs.set (VRs.old hρ hD (hB.re (.drop (.drop .nil))).old) (VR.slc' e2 d2) | (apply VR.ptr'; (focus (first | exact e1 | exact e2 | exact e3 | ((apply rho_pick hρ); (exact pk)))); (focus (first | exact d1 | exact d2 | exact d3 | ((apply dom_pick hD); (exact pk))))) | (apply VR.slc'; (focus (first | exact e1 | exact e2 | exact e3 | ((apply rho_pick hρ); (exact pk)))); (focus (first | exact d1 | exact d2 | exact d3 | ((apply dom_pick hD); (exact pk))))) | exact VR.sdead | apply VRs.tuple | apply VRs.agg | exact VRs.nil | ((apply VRs.const); (focus (first | exact bytesV_const _ | exact map_const (fun _ => rfl) | exact recs_const (fun _ v hv => by simp only [List.mem_cons, List.not_mem_nil, or_false] at hv; rcases hv with rfl | rfl | rfl | rfl | rfl <;> rfl)))) | apply VRs.cons))))))))))) | (apply w_dT; exact rfl; (focus (first | exact ‹_› | with_reducible exact rfl | omega))) | apply thenS_normal | apply blockS_normal | apply w_skip | apply w_block | ((with_reducible apply Sd.mk); (first | exact True.intro | omega | (constructor <;> first | omega | (unfold maxLen; omega)) | (unfold maxLen; omega))) | ((with_reducible apply Ln.mk); (first | rfl | exact ‹_› | omega | (simp ; first | done | omega))) | ((with_reducible apply Wr.mk); (first | exact IntWalk.i64_in _ (by omega) | exact IntWalk.u8_in _ (by omega) | exact IntWalk.u32_in _ (by omega) | exact IntWalk.u64_in _ (by omega) | exact IntKind.wrap_u8 _ | exact IntKind.wrap_u32 _ | rfl)) | ((with_reducible apply Pu.mk); (first | exact putAt_all rfl | exact putAt_recZ (fun _ => rfl) (by omega) | exact putAt_rec (fun _ => rfl) (by omega))) | ((with_reducible apply Su.mk); (first | exact subAt_all | exact subAt_recZ (fun _ => rfl) (by omega) | exact subAt_rec (fun _ => rfl) (by omega))) | exact True.intro | exact Or.inl rfl | apply And.intro | intro A | exact rfl)
          rename_i C B2
          all_goals first
            | (exfalso; omega)
            | exact ⟨(i + 1, x', e', ⟨A, a.l, a.d, C⟩, ts.set (x.c / 32).toNat (tsl B2), _, (C, ⟨ts.set (x.c / 32).toNat (tsl B2), false⟩) :: (B2, ⟨nodes T2.1, false⟩) :: (A, ⟨nodes T1.1, false⟩) :: q),
                ⟨hil, hstep, hR1 A B2 C, by rw [hout]; exact hro.re (.drop (.drop (.drop .nil))), .drop (.drop (.drop tq))⟩, by show ps.length - (i + 1) < ps.length - i; omega, (by repeat' (first | exact trivial | refine ⟨rfl, ?_⟩ | refine ⟨congrArg some ?_, ?_⟩)), .cons (.tail (.tail (.tail .head))) (.cons (.tail (.tail (.tail .head))) .nil)⟩
            | trace_state
      | true =>
        have hW := rWriteL_new x e 1 y w a ts ((M0, ⟨rmC a x.c, false⟩) :: (E0, ⟨reC w e.low e.size, false⟩) :: q) rm2 hro2 hx hoe hyt hfr
        generalize tenc y 8 (bsel x.P (x.c / 32).toNat) (tenc 0 1 x.K e 1).2 1 = T2 at *
        generalize tenc 0 1 x.K e 1 = T1 at *
        generalize wst (x, e) (1, 0, y) = W at *
        obtain ⟨x', e'⟩ := W
        dsimp only at *
        subst hc1
        rw [harg] at hW
        repeat' (first | apply w_seq | apply w_region | apply o_nil | (apply w_draw; (focus (kernel_rfl)); (focus (kernel_rfl))) | (apply o_g tyOk; exact rfl; exact rfl) | (apply o_ar tyOk; exact rfl; exact rfl) | (apply o_loads tyOk; (iterate 3 exact rfl); (focus (exact pk))) | (apply o_stores tyOk; (iterate 4 exact rfl); (focus (exact ⟨rfl⟩)); (focus (exact up))) | (apply o_callE4; (iterate 4 exact rfl); (focus (exact ⟨hW, by repeat (first | with_reducible exact Take.nil | with_reducible apply Take.c | with_reducible apply Take.drop)⟩)); (focus ((intro _ _ _ _; (first | exact List.Perm.refl _ | (simp; done) | exact List.Perm.swap _ _ _)))); (focus ((intro A1 A2 B1 B2 C1 C2 D1 D2 ρ D e1 e2 e3 e4 d1 d2 d3 d4 hρ hD; refine ⟨?_, ?_⟩; (focus (repeat (first | exact VR.const rfl | exact VRs.set (VRs.old hρ hD (hB.re (.drop (.drop .nil))).old) (VR.slc' e2 d2) | (apply VR.ptr'; (focus (first | exact e1 | exact e2 | exact e3 | exact e4 | ((apply rho_pick hρ); (exact pk)))); (focus (first | exact d1 | exact d2 | exact d3 | exact d4 | ((apply dom_pick hD); (exact pk))))) | (apply VR.slc'; (focus (first | exact e1 | exact e2 | exact e3 | exact e4 | ((apply rho_pick hρ); (exact pk)))); (focus (first | exact d1 | exact d2 | exact d3 | exact d4 | ((apply dom_pick hD); (exact pk))))) | exact VR.sdead | apply VRs.tuple | apply VRs.agg | exact VRs.nil | ((apply VRs.const); (focus (first | exact bytesV_const _ | exact map_const (fun _ => rfl) | exact recs_const (fun _ v hv => by simp only [List.mem_cons, List.not_mem_nil, or_false] at hv; rcases hv with rfl | rfl | rfl | rfl | rfl <;> rfl)))) | apply VRs.cons))); (focus (repeat (first | exact SHR.nil | ((apply SHR.same); (focus (intro x hx; (repeat (first | exact hx | apply List.mem_cons_of_mem)); done))) | ((apply SHR.keep); (focus ((repeat (first | with_reducible exact List.mem_cons_self | apply List.mem_cons_of_mem)); done))) | (apply SHR.cons; (focus (first | exact e1 | exact e2 | exact e3 | exact e4 | ((apply rho_pick hρ); (exact pk)))); (focus (repeat (first | exact VR.const rfl | exact VRs.set (VRs.old hρ hD (hB.re (.drop (.drop .nil))).old) (VR.slc' e2 d2) | (apply VR.ptr'; (focus (first | exact e1 | exact e2 | exact e3 | exact e4 | ((apply rho_pick hρ); (exact pk)))); (focus (first | exact d1 | exact d2 | exact d3 | exact d4 | ((apply dom_pick hD); (exact pk))))) | (apply VR.slc'; (focus (first | exact e1 | exact e2 | exact e3 | exact e4 | ((apply rho_pick hρ); (exact pk)))); (focus (first | exact d1 | exact d2 | exact d3 | exact d4 | ((apply dom_pick hD); (exact pk))))) | exact VR.sdead | apply VRs.tuple | apply VRs.agg | exact VRs.nil | ((apply VRs.const); (focus (first | exact bytesV_const _ | exact map_const (fun _ => rfl) | exact recs_const (fun _ v hv => by simp only [List.mem_cons, List.not_mem_nil, or_false] at hv; rcases hv with rfl | rfl | rfl | rfl | rfl <;> rfl)))) | apply VRs.cons))))))))))) | (apply w_dT; exact rfl; (focus (first | exact ‹_› | with_reducible exact rfl | omega))) | apply thenS_normal | apply blockS_normal | apply w_skip | apply w_block | ((with_reducible apply Sd.mk); (first | exact True.intro | omega | (constructor <;> first | omega | (unfold maxLen; omega)) | (unfold maxLen; omega))) | ((with_reducible apply Ln.mk); (first | rfl | exact ‹_› | omega | (simp ; first | done | omega))) | ((with_reducible apply Wr.mk); (first | exact IntWalk.i64_in _ (by omega) | exact IntWalk.u8_in _ (by omega) | exact IntWalk.u32_in _ (by omega) | exact IntWalk.u64_in _ (by omega) | exact IntKind.wrap_u8 _ | exact IntKind.wrap_u32 _ | rfl)) | ((with_reducible apply Pu.mk); (first | exact putAt_all rfl | exact putAt_recZ (fun _ => rfl) (by omega) | exact putAt_rec (fun _ => rfl) (by omega))) | ((with_reducible apply Su.mk); (first | exact subAt_all | exact subAt_recZ (fun _ => rfl) (by omega) | exact subAt_rec (fun _ => rfl) (by omega))) | exact True.intro | exact Or.inl rfl | apply And.intro | intro A | exact rfl)
        rename_i C B2 B1
        all_goals first
          | (exfalso; omega)
          | exact ⟨(i + 1, x', e', ⟨B1, a.l, a.d, C⟩, ts.set (x.c / 32).toNat (tsl B2), _, (C, ⟨ts.set (x.c / 32).toNat (tsl B2), false⟩) :: (B2, ⟨nodes T2.1, false⟩) :: (B1, ⟨nodes T1.1, false⟩) :: (A, ⟨bytesV e'.out, false⟩) :: q),
              ⟨hil, hstep, hR2 A B1 B2 C, .inr ⟨A, _, rfl, .tail (.tail (.tail .head))⟩, .drop (.drop (.drop (.drop tq)))⟩, by show ps.length - (i + 1) < ps.length - i; omega, (by repeat' (first | exact trivial | refine ⟨rfl, ?_⟩ | refine ⟨congrArg some ?_, ?_⟩)), .cons (.tail (.tail (.tail (.tail .head)))) (.cons (.tail (.tail (.tail (.tail .head)))) .nil)⟩
          | trace_state
    · dsimp only at g1 g2 g3 g4
      have hd0 : d ≠ 0 := by omega
      have harg : Value.agg ⟨[I l, I d, Y y]⟩ = pcV ps[i]! := (congrArg pcV ht).symm
      have hR1 := fun B1 B2 B3 => RM.cpy (l := l) (y := y) rm e hd0 B1 B2 B3
      have hR2 := fun O B1 B2 B3 => RM.cpy (l := l) (y := y) (q := (O, ⟨bytesV (wst (x, e) (l, d, y)).2.out, false⟩) :: q) (rm.re (.drop .nil)) e hd0 B1 B2 B3
      cases hfr : wfc (x, e) l d with
      | false =>
        have hW := rWriteC_old x e l d y w a ts ((M0, ⟨rmC a x.c, false⟩) :: (E0, ⟨reC w e.low e.size, false⟩) :: q) rm2 hro2 hx hoe (by omega) (by omega) hfr
        have hout := wfc_out (y := y) hd0 hfr
        generalize wst (x, e) (l, d, y) = W at *
        obtain ⟨x', e'⟩ := W
        dsimp only at *
        rw [harg] at hW
        rcases id hro with ⟨e0, rfl⟩ | ⟨A1, p2, rfl, hp4⟩
        all_goals
          repeat' (first | apply w_seq | apply w_region | apply o_nil | (apply w_draw; (focus (kernel_rfl)); (focus (kernel_rfl))) | (apply o_g tyOk; exact rfl; exact rfl) | (apply o_ar tyOk; exact rfl; exact rfl) | (apply o_loads tyOk; (iterate 3 exact rfl); (focus (exact pk))) | (apply o_stores tyOk; (iterate 4 exact rfl); (focus (exact ⟨rfl⟩)); (focus (exact up))) | (apply o_callE3; (iterate 4 exact rfl); (focus (exact ⟨hW, by repeat (first | with_reducible exact Take.nil | with_reducible apply Take.c | with_reducible apply Take.drop)⟩)); (focus ((intro _ _ _; (first | exact List.Perm.refl _ | (simp; done) | exact List.Perm.swap _ _ _)))); (focus ((intro A1 A2 B1 B2 C1 C2 ρ D e1 e2 e3 d1 d2 d3 hρ hD; refine ⟨?_, ?_⟩; (focus (repeat (first | exact VR.const rfl | (apply VR.ptr'; (focus (first | exact e1 | exact e2 | exact e3 | ((apply rho_pick hρ); (exact pk)))); (focus (first | exact d1 | exact d2 | exact d3 | ((apply dom_pick hD); (exact pk))))) | (apply VR.slc'; (focus (first | exact e1 | exact e2 | exact e3 | ((apply rho_pick hρ); (exact pk)))); (focus (first | exact d1 | exact d2 | exact d3 | ((apply dom_pick hD); (exact pk))))) | exact VR.sdead | apply VRs.tuple | apply VRs.agg | exact VRs.nil | ((apply VRs.const); (focus (first | exact bytesV_const _ | exact map_const (fun _ => rfl) | exact recs_const (fun _ v hv => by simp only [List.mem_cons, List.not_mem_nil, or_false] at hv; rcases hv with rfl | rfl | rfl | rfl | rfl <;> rfl)))) | apply VRs.cons))); (focus (repeat (first | exact SHR.nil | ((apply SHR.same); (focus (intro x hx; (repeat (first | exact hx | apply List.mem_cons_of_mem)); done))) | ((apply SHR.keep); (focus ((repeat (first | with_reducible exact List.mem_cons_self | apply List.mem_cons_of_mem)); done))) | (apply SHR.cons; (focus (first | exact e1 | exact e2 | exact e3 | ((apply rho_pick hρ); (exact pk)))); (focus (repeat (first | exact VR.const rfl | (apply VR.ptr'; (focus (first | exact e1 | exact e2 | exact e3 | ((apply rho_pick hρ); (exact pk)))); (focus (first | exact d1 | exact d2 | exact d3 | ((apply dom_pick hD); (exact pk))))) | (apply VR.slc'; (focus (first | exact e1 | exact e2 | exact e3 | ((apply rho_pick hρ); (exact pk)))); (focus (first | exact d1 | exact d2 | exact d3 | ((apply dom_pick hD); (exact pk))))) | exact VR.sdead | apply VRs.tuple | apply VRs.agg | exact VRs.nil | ((apply VRs.const); (focus (first | exact bytesV_const _ | exact map_const (fun _ => rfl) | exact recs_const (fun _ v hv => by simp only [List.mem_cons, List.not_mem_nil, or_false] at hv; rcases hv with rfl | rfl | rfl | rfl | rfl <;> rfl)))) | apply VRs.cons))))))))))) | (apply w_dT; exact rfl; (focus (first | exact ‹_› | with_reducible exact rfl | omega))) | apply thenS_normal | apply blockS_normal | apply w_skip | apply w_block | ((with_reducible apply Sd.mk); (first | exact True.intro | omega | (constructor <;> first | omega | (unfold maxLen; omega)) | (unfold maxLen; omega))) | ((with_reducible apply Ln.mk); (first | rfl | exact ‹_› | omega | (simp ; first | done | omega))) | ((with_reducible apply Wr.mk); (first | exact IntWalk.i64_in _ (by omega) | exact IntWalk.u8_in _ (by omega) | exact IntWalk.u32_in _ (by omega) | exact IntWalk.u64_in _ (by omega) | exact IntKind.wrap_u8 _ | exact IntKind.wrap_u32 _ | rfl)) | ((with_reducible apply Pu.mk); (first | exact putAt_all rfl | exact putAt_recZ (fun _ => rfl) (by omega) | exact putAt_rec (fun _ => rfl) (by omega))) | ((with_reducible apply Su.mk); (first | exact subAt_all | exact subAt_recZ (fun _ => rfl) (by omega) | exact subAt_rec (fun _ => rfl) (by omega))) | exact True.intro | exact Or.inl rfl | apply And.intro | intro A | exact rfl)
          rename_i C B2
          all_goals first
            | (exfalso; omega)
            | exact ⟨(i + 1, x', e', ⟨A, B2, C, a.C⟩, ts, _, (C, ⟨nodes x'.D, false⟩) :: (B2, ⟨nodes x'.L, false⟩) :: (A, ⟨nodes x'.K, false⟩) :: q),
                ⟨hil, hstep, hR1 A B2 C, by rw [hout]; exact hro.re (.drop (.drop (.drop .nil))), .drop (.drop (.drop tq))⟩, by show ps.length - (i + 1) < ps.length - i; omega, (by repeat' (first | exact trivial | refine ⟨rfl, ?_⟩ | refine ⟨congrArg some ?_, ?_⟩)), .cons (.tail (.tail (.tail .head))) (.cons (.tail (.tail (.tail .head))) .nil)⟩
            | trace_state
      | true =>
        have hW := rWriteC_new x e l d y w a ts ((M0, ⟨rmC a x.c, false⟩) :: (E0, ⟨reC w e.low e.size, false⟩) :: q) rm2 hro2 hx hoe (by omega) (by omega) hfr
        generalize wst (x, e) (l, d, y) = W at *
        obtain ⟨x', e'⟩ := W
        dsimp only at *
        rw [harg] at hW
        repeat' (first | apply w_seq | apply w_region | apply o_nil | (apply w_draw; (focus (kernel_rfl)); (focus (kernel_rfl))) | (apply o_g tyOk; exact rfl; exact rfl) | (apply o_ar tyOk; exact rfl; exact rfl) | (apply o_loads tyOk; (iterate 3 exact rfl); (focus (exact pk))) | (apply o_stores tyOk; (iterate 4 exact rfl); (focus (exact ⟨rfl⟩)); (focus (exact up))) | (apply o_callE4; (iterate 4 exact rfl); (focus (exact ⟨hW, by repeat (first | with_reducible exact Take.nil | with_reducible apply Take.c | with_reducible apply Take.drop)⟩)); (focus ((intro _ _ _ _; (first | exact List.Perm.refl _ | (simp; done) | exact List.Perm.swap _ _ _)))); (focus ((intro A1 A2 B1 B2 C1 C2 D1 D2 ρ D e1 e2 e3 e4 d1 d2 d3 d4 hρ hD; refine ⟨?_, ?_⟩; (focus (repeat (first | exact VR.const rfl | (apply VR.ptr'; (focus (first | exact e1 | exact e2 | exact e3 | exact e4 | ((apply rho_pick hρ); (exact pk)))); (focus (first | exact d1 | exact d2 | exact d3 | exact d4 | ((apply dom_pick hD); (exact pk))))) | (apply VR.slc'; (focus (first | exact e1 | exact e2 | exact e3 | exact e4 | ((apply rho_pick hρ); (exact pk)))); (focus (first | exact d1 | exact d2 | exact d3 | exact d4 | ((apply dom_pick hD); (exact pk))))) | exact VR.sdead | apply VRs.tuple | apply VRs.agg | exact VRs.nil | ((apply VRs.const); (focus (first | exact bytesV_const _ | exact map_const (fun _ => rfl) | exact recs_const (fun _ v hv => by simp only [List.mem_cons, List.not_mem_nil, or_false] at hv; rcases hv with rfl | rfl | rfl | rfl | rfl <;> rfl)))) | apply VRs.cons))); (focus (repeat (first | exact SHR.nil | ((apply SHR.same); (focus (intro x hx; (repeat (first | exact hx | apply List.mem_cons_of_mem)); done))) | ((apply SHR.keep); (focus ((repeat (first | with_reducible exact List.mem_cons_self | apply List.mem_cons_of_mem)); done))) | (apply SHR.cons; (focus (first | exact e1 | exact e2 | exact e3 | exact e4 | ((apply rho_pick hρ); (exact pk)))); (focus (repeat (first | exact VR.const rfl | (apply VR.ptr'; (focus (first | exact e1 | exact e2 | exact e3 | exact e4 | ((apply rho_pick hρ); (exact pk)))); (focus (first | exact d1 | exact d2 | exact d3 | exact d4 | ((apply dom_pick hD); (exact pk))))) | (apply VR.slc'; (focus (first | exact e1 | exact e2 | exact e3 | exact e4 | ((apply rho_pick hρ); (exact pk)))); (focus (first | exact d1 | exact d2 | exact d3 | exact d4 | ((apply dom_pick hD); (exact pk))))) | exact VR.sdead | apply VRs.tuple | apply VRs.agg | exact VRs.nil | ((apply VRs.const); (focus (first | exact bytesV_const _ | exact map_const (fun _ => rfl) | exact recs_const (fun _ v hv => by simp only [List.mem_cons, List.not_mem_nil, or_false] at hv; rcases hv with rfl | rfl | rfl | rfl | rfl <;> rfl)))) | apply VRs.cons))))))))))) | (apply w_dT; exact rfl; (focus (first | exact ‹_› | with_reducible exact rfl | omega))) | apply thenS_normal | apply blockS_normal | apply w_skip | apply w_block | ((with_reducible apply Sd.mk); (first | exact True.intro | omega | (constructor <;> first | omega | (unfold maxLen; omega)) | (unfold maxLen; omega))) | ((with_reducible apply Ln.mk); (first | rfl | exact ‹_› | omega | (simp ; first | done | omega))) | ((with_reducible apply Wr.mk); (first | exact IntWalk.i64_in _ (by omega) | exact IntWalk.u8_in _ (by omega) | exact IntWalk.u32_in _ (by omega) | exact IntWalk.u64_in _ (by omega) | exact IntKind.wrap_u8 _ | exact IntKind.wrap_u32 _ | rfl)) | ((with_reducible apply Pu.mk); (first | exact putAt_all rfl | exact putAt_recZ (fun _ => rfl) (by omega) | exact putAt_rec (fun _ => rfl) (by omega))) | ((with_reducible apply Su.mk); (first | exact subAt_all | exact subAt_recZ (fun _ => rfl) (by omega) | exact subAt_rec (fun _ => rfl) (by omega))) | exact True.intro | exact Or.inl rfl | apply And.intro | intro A | exact rfl)
        rename_i C B2 B1
        all_goals first
          | (exfalso; omega)
          | exact ⟨(i + 1, x', e', ⟨B1, B2, C, a.C⟩, ts, _, (C, ⟨nodes x'.D, false⟩) :: (B2, ⟨nodes x'.L, false⟩) :: (B1, ⟨nodes x'.K, false⟩) :: (A, ⟨bytesV e'.out, false⟩) :: q),
              ⟨hil, hstep, hR2 A B1 B2 C, .inr ⟨A, _, rfl, .tail (.tail (.tail .head))⟩, .drop (.drop (.drop (.drop tq)))⟩, by show ps.length - (i + 1) < ps.length - i; omega, (by repeat' (first | exact trivial | refine ⟨rfl, ?_⟩ | refine ⟨congrArg some ?_, ?_⟩)), .cons (.tail (.tail (.tail (.tail .head)))) (.cons (.tail (.tail (.tail (.tail .head)))) .nil)⟩
          | trace_state
  · obtain rfl : i = ps.length := by omega
    rw [hz2] at he
    have hs1 := vnum_len (n := (n : Int)) (by omega)
    have hs2 := (vk_ok (n := (n : Int)) (by omega)).2
    have hs3 : (fin e).length = e.out.length + 4 := by simp [fin, tail4]
    have hs4 := hoe.out
    rw [he]
    rcases id hro with ⟨e0, rfl⟩ | ⟨A1, p2, rfl, hp4⟩
    all_goals
     repeat' (first | apply w_seq | apply w_region | apply o_nil | (apply o_g tyOk; exact rfl; exact rfl) | (apply o_loads tyOk; (iterate 3 exact rfl); (focus (exact pk))) | (apply o_call; exact rfl; exact rfl; (focus (first | exact rfl | assumption)); exact rfl; (focus (exact ⟨_, rFinish_any e _ ((M0, ⟨rmC a x.c, false⟩) :: (E0, ⟨reC _ e.low e.size, false⟩) :: q) (hro.re (.drop (.drop .nil))) (by omega) hoe.low, by repeat (first | with_reducible exact Take.nil | exact .drop (.drop tq) | with_reducible apply Take.c | with_reducible apply Take.drop)⟩)); rintro _ _ ⟨rfl, rfl⟩) | (apply w_dF; exact rfl; (focus (first | exact ‹_› | with_reducible exact rfl | omega))) | apply thenS_normal | apply thenS_exit | apply blockS_exit | apply w_ret | apply w_exit | ((with_reducible apply Sd.mk); (first | exact True.intro | omega | (constructor <;> first | omega | (unfold maxLen; omega)) | (unfold maxLen; omega))) | ((with_reducible apply Ln.mk); (first | rfl | exact ‹_› | omega | (simp ; first | done | omega))) | ((with_reducible apply Su.mk); (first | exact subAt_all | exact subAt_recZ (fun _ => rfl) (by omega) | exact subAt_rec (fun _ => rfl) (by omega))) | exact True.intro | exact rfl)
     all_goals first
      | (exfalso; omega)
      | (apply s_fin; (exact (show ResS _ _ _ _ [_] from ⟨rfl, trivial⟩)); (focus (exact ⟨rfl, rfl⟩)); (focus (repeat (first | with_reducible exact Take.nil | with_reducible apply Take.c | ((with_reducible apply Take.cE); (first | exact rfl | (apply blkE; (focus (first | exact rfl | exact recs_snocE rfl | exact map_snocE rfl | exact congrArg (fun v => [v]) (gslE rfl rfl (by first | rfl | exact ‹_› | omega | (simp ; first | done | omega)) (by first | rfl | exact ‹_› | omega | (simp ; first | done | omega)) rfl)))))) | with_reducible apply Take.drop))))
      | trace_state
     all_goals exact tq
end Go.Proofs.Ytgooffiipnkmiaa
end
section
set_option linter.unusedVariables false
set_option linter.unusedSimpArgs false
set_option maxRecDepth 4000
namespace Go.Proofs.Ytgooffiipnkmiaa
open Go.Gh Go.RowKit

theorem zx1 : lzE [] = ([0], 0) := by decide +kernel
theorem zx2 : pcs [97, 97, 97, 97] = [(1, 0, 97), (3, 1, 0)] := by decide +kernel
theorem zx3 : (lzE [97, 97, 97, 97]).2 = 0 ∧ lzD (lzE [97, 97, 97, 97]).1 4 = ([97, 97, 97, 97], 0) ∧ (lzE [97, 97, 97, 97]).1.length ≤ 1000000 := by decide +kernel
theorem awakeZ_any (h : SH) : SRun Try.prog 10 [] h fun r q => r = B true ∧ q = h := by
  have hE1 := fun h => Encode_any' [] h (by decide)
  rw [zx1] at hE1
  have hP := fun h => Pieces_any [97, 97, 97, 97] h (by decide)
  rw [zx2] at hP
  rw [if_neg (show ¬ 4096 < ([97, 97, 97, 97] : List UInt8).length by decide)] at hP
  have hE2 := fun h => Encode_any' [97, 97, 97, 97] h (by decide)
  obtain ⟨x1, x2, x3⟩ := zx3
  have hD := fun h => Decode_any' (lzE [97, 97, 97, 97]).1 4 h x3
  rw [x1] at hE2
  rw [x2] at hD
  clear x1 x2
  generalize (lzE [97, 97, 97, 97]).1 = z at *
  have hsub : SubAt (recs pcC [(1, 0, 97), (3, 1, 0)]) (0 + Int.toNat 1 * 3) [I 3, I 1, .int .u8 0] := fun i v h => by
    match i, h with
    | 0, h => exact h
    | 1, h => exact h
    | 2, h => exact h
    | i + 3, h => cases h
  have hP' : ∀ h, SRun Try.prog 11 [S [97, 97, 97, 97]] h fun r q => ∃ fl A ro h1, r = .tuple #[.slice (some ⟨A, 0, some 6⟩) 2 fl, I 0] ∧ Pick q A ⟨recs pcC [(1, 0, 97), (3, 1, 0)], ro⟩ h1 ∧ Take q h := fun h =>
    (hP h).mono fun r q ⟨v, g1, ⟨ad, fl, g2, g3⟩, g4⟩ => by
      obtain ⟨A, ro, h1, g5, g6⟩ := g3 (by decide)
      exact ⟨fl, A, ro, h1, by rw [g1, g2, g5]; rfl, g6, g4⟩
  refine w_body0 Try.func10 rfl rfl ?_
  repeat' (first | apply w_seq | apply w_region | apply o_nil | (apply o_g tyOk; exact rfl; exact rfl) | (apply o_loads tyOk; (iterate 3 exact rfl); (focus (exact pk))) | (apply o_eqs; (iterate 3 exact rfl); (focus (kernel_rfl)); exact rfl; exact rfl; (focus (kernel_rfl)); exact rfl) | (apply o_build tyOk; exact rfl; exact rfl; (focus (first | with_reducible exact pl18 | with_reducible exact pl38 | with_reducible exact pl97)); exact rfl; (focus (repeat (first | exact BuildR.nil | (apply BuildR.one; exact rfl; exact rfl; (first | (focus ((repeat (first | exact SetAt.zero | apply SetAt.succ)); done)) | exact setAt_bytes (by omega) (by omega) | exact setAt_mapZ (by omega) | exact setAt_map (by omega))) | (apply BuildR.agg; exact rfl; exact rfl; (first | exact putAt_all rfl | exact putAt_recZ (fun _ => rfl) (by omega) | exact putAt_rec (fun _ => rfl) (by omega)))))); exact rfl) | (apply o_call; exact rfl; exact rfl; (focus (first | exact rfl | assumption)); exact rfl; (focus (exact ⟨_, hE1 _, by repeat (first | with_reducible exact Take.nil | with_reducible apply Take.c | with_reducible apply Take.drop)⟩)); rintro _ _ ⟨rfl, rfl⟩) | (apply o_call; exact rfl; exact rfl; (focus (first | exact rfl | assumption)); exact rfl; (focus (exact ⟨_, hP' _, by repeat (first | with_reducible exact Take.nil | with_reducible apply Take.c | with_reducible apply Take.drop)⟩)); rintro _ _ ⟨fl, A, ro, h1, rfl, hp, ht⟩) | (apply o_call; exact rfl; exact rfl; (focus (first | exact rfl | assumption)); exact rfl; (focus (exact ⟨_, hE2 _, by repeat (first | with_reducible exact Take.nil | with_reducible apply Take.c | with_reducible apply Take.drop)⟩)); rintro _ _ ⟨rfl, rfl⟩) | (apply o_call; exact rfl; exact rfl; (focus (first | exact rfl | assumption)); exact rfl; (focus (exact ⟨_, hD _, by repeat (first | with_reducible exact Take.nil | with_reducible apply Take.c | with_reducible apply Take.drop)⟩)); rintro _ _ ⟨rfl, rfl⟩) | (apply o_want; exact rfl; exact rfl) | apply thenS_normal | apply w_ret | ((with_reducible apply Sd.mk); (first | exact True.intro | omega | (constructor <;> first | omega | (unfold maxLen; omega)) | (unfold maxLen; omega))) | ((with_reducible apply Ln.mk); (first | rfl | exact ‹_› | omega | (simp ; first | done | omega))) | ((with_reducible apply Su.mk); (first | exact hsub | exact subAt_all | exact subAt_recZ (fun _ => rfl) (by omega) | exact subAt_rec (fun _ => rfl) (by omega))) | exact True.intro | exact rfl)
  all_goals first
    | (apply s_fin; (exact (show ResS _ _ _ _ [_] from ⟨rfl, trivial⟩)); (focus (exact ⟨rfl, rfl⟩)); (focus (repeat (first | with_reducible exact Take.nil | exact ht | with_reducible apply Take.c | ((with_reducible apply Take.cE); (first | exact rfl | (apply blkE; (focus (first | exact rfl | exact recs_snocE rfl | exact map_snocE rfl | exact congrArg (fun v => [v]) (gslE rfl rfl (by first | rfl | exact ‹_› | omega | (simp ; first | done | omega)) (by first | rfl | exact ‹_› | omega | (simp ; first | done | omega)) rfl)))))) | with_reducible apply Take.drop))))
    | (apply s_fin; (exact (show ResS _ _ _ _ [_] from ⟨rfl, trivial⟩)); (focus (exact ⟨by show B _ = B true; congr 1, rfl⟩)); (focus (repeat (first | with_reducible exact Take.nil | exact ht | with_reducible apply Take.c | ((with_reducible apply Take.cE); (first | exact rfl | (apply blkE; (focus (first | exact rfl | exact recs_snocE rfl | exact map_snocE rfl | exact congrArg (fun v => [v]) (gslE rfl rfl (by first | rfl | exact ‹_› | omega | (simp ; first | done | omega)) (by first | rfl | exact ‹_› | omega | (simp ; first | done | omega)) rfl)))))) | with_reducible apply Take.drop))))
    | trace_state
end Go.Proofs.Ytgooffiipnkmiaa
end
section
set_option linter.unusedVariables false
set_option linter.unusedSimpArgs false
set_option maxRecDepth 4000
namespace Go.Proofs.Ytgooffiipnkmiaa
open Go.Gh Go.RowKit

theorem pcs_psum {l : List UInt8} (hl : l.length ≤ 4096) : psum (pcs l) = l.length := by have := cov_psum (by decide) (pcs_cov hl); omega
theorem psum_len {ps : List Pc} (h : ∀ t ∈ ps, vPb t) : ps.length ≤ psum ps := by
  induction ps with
  | nil => exact Nat.le_refl _
  | cons t r ih =>
    have h1 := ih (fun t ht => h t (by simp [ht]))
    have h2 := (h t (by simp)).1
    show r.length + 1 ≤ t.1.toNat + psum r
    rcases h2 with g | g <;> omega
theorem rzEncode_any (l : List UInt8) (h : SH) (hl : l.length ≤ 4611686018427387904) : SRun Try.prog 14 [S l] h fun r q => r = .tuple #[S (lzE l).1, I (lzE l).2] ∧ q = h := by
  have hP := fun h => rzPieces_any l h hl
  unfold lzE
  by_cases h4 : 4096 < l.length
  · rw [if_pos h4]
    rw [if_pos h4] at hP
    refine w_body1 Try.func14 rfl rfl ?_
    repeat' (first | apply w_seq | apply w_region | apply o_nil | (apply o_g tyOk; exact rfl; exact rfl) | (apply o_call; exact rfl; exact rfl; (focus (first | exact rfl | assumption)); exact rfl; (focus (exact ⟨_, hP _, by repeat (first | with_reducible exact Take.nil | with_reducible apply Take.c | with_reducible apply Take.drop)⟩)); rintro _ _ ⟨v, rfl, hv, ht⟩) | (apply w_true; exact rfl) | apply thenS_normal | apply thenS_ret | apply w_ret | ((with_reducible apply Sd.mk); (first | exact True.intro | omega | (constructor <;> first | omega | (unfold maxLen; omega)) | (unfold maxLen; omega))))
    all_goals first
      | contradiction
      | (apply s_fin; (exact (show ResS _ _ _ _ [_, _] from ⟨rfl, ⟨rfl, trivial⟩⟩)); (focus (exact ⟨rfl, rfl⟩)); (focus (repeat (first | with_reducible exact Take.nil | with_reducible apply Take.c | ((with_reducible apply Take.cE); (first | exact rfl | (apply blkE; (focus (first | exact rfl | exact recs_snocE rfl | exact map_snocE rfl | exact congrArg (fun v => [v]) (gslE rfl rfl (by first | rfl | exact ‹_› | omega | (simp ; first | done | omega)) (by first | rfl | exact ‹_› | omega | (simp ; first | done | omega)) rfl)))))) | with_reducible apply Take.drop))))
      | trace_state
    all_goals exact ht
  · rw [if_neg h4]
    rw [if_neg h4] at hP
    have hcov := pcs_cov (l := l) (by omega)
    have hvp := cov_vPb (by decide) hcov
    have hsum := pcs_psum (l := l) (by omega)
    have hlen := psum_len hvp
    have hB := fun v h hv => rzBytes_any l.length (pcs l) v h hv hvp (by omega) (by omega) (by omega)
    have hx : (if l = [] then vnum 0 else wrt l.length (pcs l)) = (if l.length = 0 then vnum 0 else wrt l.length (pcs l)) := by
      by_cases g : l = []
      · rw [if_pos g, if_pos (by rw [g]; rfl)]
      · rw [if_neg g, if_neg (fun k => g (List.length_eq_zero_iff.1 k))]
    rw [hx]
    clear hx
    generalize (if l.length = 0 then vnum 0 else wrt l.length (pcs l)) = R at *
    generalize pcs l = L at *
    refine w_body1 Try.func14 rfl rfl ?_
    repeat' (first | apply w_seq | apply w_region | apply o_nil | (apply o_g tyOk; exact rfl; exact rfl) | (apply o_call; exact rfl; exact rfl; (focus (first | exact rfl | assumption)); exact rfl; (focus (exact ⟨_, hP _, by repeat (first | with_reducible exact Take.nil | with_reducible apply Take.c | with_reducible apply Take.drop)⟩)); rintro _ _ ⟨v, rfl, hv, ht⟩) | (apply o_call; exact rfl; exact rfl; (focus (first | exact rfl | assumption)); exact rfl; (focus (exact ⟨_, hB _ _ hv, by repeat (first | with_reducible exact Take.nil | with_reducible apply Take.c | with_reducible apply Take.drop)⟩)); rintro _ _ ⟨rfl, rfl⟩) | (apply w_false; exact rfl) | apply thenS_normal | apply w_skip | apply w_ret | ((with_reducible apply Sd.mk); (first | exact True.intro | omega | (constructor <;> first | omega | (unfold maxLen; omega)) | (unfold maxLen; omega))))
    all_goals first
      | contradiction
      | (apply s_fin; (exact (show ResS _ _ _ _ [_, _] from ⟨rfl, ⟨rfl, trivial⟩⟩)); (focus (exact ⟨rfl, rfl⟩)); (focus (repeat (first | with_reducible exact Take.nil | with_reducible apply Take.c | ((with_reducible apply Take.cE); (first | exact rfl | (apply blkE; (focus (first | exact rfl | exact recs_snocE rfl | exact map_snocE rfl | exact congrArg (fun v => [v]) (gslE rfl rfl (by first | rfl | exact ‹_› | omega | (simp ; first | done | omega)) (by first | rfl | exact ‹_› | omega | (simp ; first | done | omega)) rfl)))))) | with_reducible apply Take.drop))))
      | trace_state
    all_goals exact ht
theorem FormsZ_any (l : List UInt8) (hl : l.length ≤ 9223372036854775807) : SRun Try.prog 3 [S l] [] fun r _ => r = B true := by
  by_cases hbig : 60 < l.length
  · refine w_body1 Try.func3 rfl rfl ?_
    repeat' (first | apply w_seq | apply w_region | apply o_nil | (apply o_g tyOk; exact rfl; exact rfl) | (apply o_notB; exact rfl; exact rfl) | (apply o_call; exact rfl; exact rfl; (focus (first | exact rfl | assumption)); exact rfl; (focus (exact ⟨_, awakeZ_any _, by repeat (first | with_reducible exact Take.nil | with_reducible apply Take.c | with_reducible apply Take.drop)⟩)); rintro _ _ ⟨rfl, rfl⟩) | (apply w_false; exact rfl) | (apply w_dT; exact rfl; (focus (first | exact ‹_› | with_reducible exact rfl | omega))) | apply thenS_normal | apply thenS_ret | apply w_skip | apply w_ret | ((with_reducible apply Sd.mk); (first | exact True.intro | omega | (constructor <;> first | omega | (unfold maxLen; omega)) | (unfold maxLen; omega))))
    all_goals first
      | contradiction
      | (exfalso; omega)
      | (apply s_fin; (exact (show ResS _ _ _ _ [_] from ⟨rfl, trivial⟩)); (focus (rfl)); (focus (repeat (first | with_reducible exact Take.nil | with_reducible apply Take.c | ((with_reducible apply Take.cE); (first | exact rfl | (apply blkE; (focus (first | exact rfl | exact recs_snocE rfl | exact map_snocE rfl | exact congrArg (fun v => [v]) (gslE rfl rfl (by first | rfl | exact ‹_› | omega | (simp ; first | done | omega)) (by first | rfl | exact ‹_› | omega | (simp ; first | done | omega)) rfl)))))) | with_reducible apply Take.drop))))
      | trace_state
  have hP := fun h => Pieces_any l h (by omega)
  have hR := fun h => rzPieces_any l h (by omega)
  have hE := fun h => Encode_any' l h (by omega)
  have hF := fun h => rzEncode_any l h (by omega)
  have hcov := pcs_cov (l := l) (by omega)
  have hsum := pcs_psum (l := l) (by omega)
  have hlen := psum_len (cov_vPb (by decide) hcov)
  rw [if_neg (show ¬ 4096 < l.length by omega)] at hP hR
  have hC := fun v w h hv hw => rPieces_any (pcs l) (pcs l) v w h hv hw (by omega) (by omega)
  rw [decide_eq_true rfl] at hC
  generalize lzE l = Z at *
  generalize pcs l = L at *
  refine w_body1 Try.func3 rfl rfl ?_
  repeat' (first | apply w_seq | apply w_region | apply o_nil | (apply o_g tyOk; exact rfl; exact rfl) | (apply o_notB; exact rfl; exact rfl) | (apply o_call; exact rfl; exact rfl; (focus (first | exact rfl | assumption)); exact rfl; (focus (exact ⟨_, awakeZ_any _, by repeat (first | with_reducible exact Take.nil | with_reducible apply Take.c | with_reducible apply Take.drop)⟩)); rintro _ _ ⟨rfl, rfl⟩) | (apply o_call; exact rfl; exact rfl; (focus (first | exact rfl | assumption)); exact rfl; (focus (exact ⟨_, hP _, by repeat (first | with_reducible exact Take.nil | with_reducible apply Take.c | with_reducible apply Take.drop)⟩)); rintro _ _ ⟨v, rfl, hv, ht⟩) | (apply o_call; exact rfl; exact rfl; (focus (first | exact rfl | assumption)); exact rfl; (focus (exact ⟨_, hR _, by repeat (first | with_reducible exact Take.nil | with_reducible apply Take.c | with_reducible apply Take.drop)⟩)); rintro _ _ ⟨w, rfl, hw, ht2⟩) | (apply o_call; exact rfl; exact rfl; (focus (first | exact rfl | assumption)); exact rfl; (focus (exact ⟨_, hE _, by repeat (first | with_reducible exact Take.nil | with_reducible apply Take.c | with_reducible apply Take.drop)⟩)); rintro _ _ ⟨rfl, rfl⟩) | (apply o_call; exact rfl; exact rfl; (focus (first | exact rfl | assumption)); exact rfl; (focus (exact ⟨_, hF _, by repeat (first | with_reducible exact Take.nil | with_reducible apply Take.c | with_reducible apply Take.drop)⟩)); rintro _ _ ⟨rfl, rfl⟩) | (apply o_call; exact rfl; exact rfl; (focus (first | exact rfl | assumption)); exact rfl; (focus (exact ⟨_, hC _ _ _ (hv.re ht2) hw, by repeat (first | with_reducible exact Take.nil | with_reducible apply Take.c | with_reducible apply Take.drop)⟩)); rintro _ _ ⟨rfl, rfl⟩) | (apply o_want; exact rfl; exact rfl) | (apply o_gT; (iterate 3 exact rfl); (focus (first | exact ‹_› | with_reducible exact rfl | omega))) | (apply w_false; exact rfl) | (apply w_dF; exact rfl; (focus (first | exact ‹_› | with_reducible exact rfl | omega))) | apply thenS_normal | apply w_skip | apply w_ret | ((with_reducible apply Sd.mk); (first | exact True.intro | omega | (constructor <;> first | omega | (unfold maxLen; omega)) | (unfold maxLen; omega))))
  all_goals first
    | contradiction
    | (exfalso; omega)
    | (apply s_fin; (exact (show ResS _ _ _ _ [_] from ⟨rfl, trivial⟩)); (focus (rfl)); (focus (repeat (first | with_reducible exact Take.nil | with_reducible apply Take.c | ((with_reducible apply Take.cE); (first | exact rfl | (apply blkE; (focus (first | exact rfl | exact recs_snocE rfl | exact map_snocE rfl | exact congrArg (fun v => [v]) (gslE rfl rfl (by first | rfl | exact ‹_› | omega | (simp ; first | done | omega)) (by first | rfl | exact ‹_› | omega | (simp ; first | done | omega)) rfl)))))) | with_reducible apply Take.drop))))
    | (apply s_fin; (exact (show ResS _ _ _ _ [_] from ⟨rfl, trivial⟩)); (focus (show B _ = B true; simp)); (focus (repeat (first | with_reducible exact Take.nil | with_reducible apply Take.c | ((with_reducible apply Take.cE); (first | exact rfl | (apply blkE; (focus (first | exact rfl | exact recs_snocE rfl | exact map_snocE rfl | exact congrArg (fun v => [v]) (gslE rfl rfl (by first | rfl | exact ‹_› | omega | (simp ; first | done | omega)) (by first | rfl | exact ‹_› | omega | (simp ; first | done | omega)) rfl)))))) | with_reducible apply Take.drop))))
    | trace_state
end Go.Proofs.Ytgooffiipnkmiaa
end
