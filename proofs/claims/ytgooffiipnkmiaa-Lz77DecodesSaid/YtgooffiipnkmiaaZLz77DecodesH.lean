/- Part 8 of the proof of the law Lz77Decodes: texts merged. No condition. -/
import Derived.Test.YtgooffiipnkmiaaZLz77DecodesG
section
set_option linter.unusedVariables false
set_option linter.unusedSimpArgs false
set_option maxRecDepth 4000
namespace Go.Proofs.Ytgooffiipnkmiaa
open Go.Gh Go.RowKit

/-- Bytes that are there to be read. -/
def RO (h : SH) (o : List UInt8) (v : Value) : Prop := (o = [] ∧ v = .slice none 0 0) ∨ ∃ A h1, v = gsl A 0 o.length o.length 1 ∧ Pick h A ⟨bytesV o, false⟩ h1
theorem RO.re {h h' : SH} {o : List UInt8} {v : Value} (r : RO h o v) (t : Take h' h) : RO h' o v := by
  rcases r with r | ⟨A, h1, e, p⟩
  · exact .inl r
  · obtain ⟨h2, g, _⟩ := t.pick p
    exact .inr ⟨A, h2, e, g⟩
/-- The bytes behind a step: the same ones, or ones in a block of their own. -/
inductive ROut (h : SH) (o0 : List UInt8) (v : Value) : Bool → List UInt8 → Value → SH → Prop
  | same : ROut h o0 v false o0 v h
  | new (o : List UInt8) (A : Nat) : ROut h o0 v true o (gsl A 0 o.length o.length 1) ((A, ⟨bytesV o, false⟩) :: h)
theorem ROut.ro {h q : SH} {o0 o : List UInt8} {v v' : Value} {fr : Bool} (r : ROut h o0 v fr o v' q) (k : RO h o0 v) : RO q o v' := by
  cases r with
  | same => exact k
  | new => exact .inr ⟨_, _, rfl, .head⟩
theorem ROut.take {h q : SH} {o0 o : List UInt8} {v v' : Value} {fr : Bool} (r : ROut h o0 v fr o v' q) : Take q h := by
  cases r with
  | same => exact .nil
  | new => exact .drop .nil

theorem carried_any (o : List UInt8) (v : Value) (h : SH) (hv : RO h o v) (ho : o.length ≤ 1000000) :
    SRun Try.prog 127 [v] h fun r q => ∃ A, r = gsl A 0 o.length o.length 1 ∧ q = (A, ⟨bytesV (carry o), false⟩) :: h := by
  rcases hv with ⟨rfl, rfl⟩ | ⟨A', h1, rfl, hp⟩
  · refine w_body1 Try.func127 rfl rfl ?_
    repeat' (first | apply w_seq | apply w_region | apply o_nil | (apply o_g tyOk; exact rfl; exact rfl) | (apply o_ar tyOk; exact rfl; exact rfl) | (apply o_buildSlice tyOk; (iterate 5 exact rfl); (focus (decide)); exact rfl; (focus (decide)); (focus (repeat (first | exact CatR.nil | exact CatR.last rfl | (apply CatR.one; exact rfl; exact rfl) | (apply CatR.agg; exact rfl)))); exact rfl) | (apply o_append_none tyOk; (iterate 4 exact rfl); (focus (exact pk))) | apply thenS_normal | apply w_block | ((with_reducible apply Sd.mk); (first | exact True.intro | omega | (constructor <;> first | omega | (unfold maxLen; omega)) | (unfold maxLen; omega))) | ((with_reducible apply Ln.mk); (first | rfl | exact ‹_› | omega | (simp ; first | done | omega))) | ((with_reducible apply Wr.mk); (first | exact w_quoI (by omega) (by omega) | exact w_and1 _ | exact IntWalk.i64_in _ (by omega) | exact IntWalk.u8_in _ (by omega) | exact IntWalk.u32_in _ (by omega) | exact IntWalk.u64_in _ (by omega) | exact IntKind.wrap_u8 _ | exact IntKind.wrap_u32 _ | rfl)) | exact True.intro | intro A | exact rfl)
    refine w_loop (S := Unit) (fun x => [(3, gsl A 0 0 0 1), (4, I (0 - 1))]) (fun x => (A, ⟨[], false⟩) :: h) (fun _ => True) (fun _ => 0) () trivial (by repeat' (first | exact trivial | refine ⟨rfl, ?_⟩ | refine ⟨congrArg some ?_, ?_⟩)) (by repeat (first | with_reducible exact Take.nil | with_reducible apply Take.c | with_reducible apply Take.drop)) ?_
    rintro - -
    repeat' (first | apply w_seq | apply w_region | apply o_nil | (apply o_g tyOk; exact rfl; exact rfl) | (apply w_false; exact rfl) | apply thenS_normal | apply thenS_exit | apply blockS_exit | apply w_ret | apply w_exit | ((with_reducible apply Sd.mk); (first | exact True.intro | omega | (constructor <;> first | omega | (unfold maxLen; omega)) | (unfold maxLen; omega))))
    (apply s_fin; (exact (show ResS _ _ _ _ [_] from ⟨rfl, trivial⟩)); (focus (exact ⟨A, rfl, rfl⟩)); (focus (repeat (first | with_reducible exact Take.nil | with_reducible apply Take.c | ((with_reducible apply Take.cE); (first | exact rfl | (apply blkE; (focus (first | exact rfl | exact recs_snocE rfl | exact map_snocE rfl | exact congrArg (fun v => [v]) (gslE rfl rfl (by first | rfl | exact ‹_› | omega | (simp ; first | done | omega)) (by first | rfl | exact ‹_› | omega | (simp ; first | done | omega)) rfl)))))) | with_reducible apply Take.drop))))
  · refine w_body1 Try.func127 rfl rfl ?_
    repeat' (first | apply w_seq | apply w_region | apply o_nil | (apply o_g tyOk; exact rfl; exact rfl) | (apply o_ar tyOk; exact rfl; exact rfl) | (apply o_buildSlice tyOk; (iterate 5 exact rfl); (focus (decide)); exact rfl; (focus (decide)); (focus (repeat (first | exact CatR.nil | exact CatR.last rfl | (apply CatR.one; exact rfl; exact rfl) | (apply CatR.agg; exact rfl)))); exact rfl) | (apply o_append tyOk; (iterate 5 exact rfl); (focus (exact ⟨by decide⟩)); (focus (exact up)); (focus (exact pk))) | apply thenS_normal | apply w_block | ((with_reducible apply Sd.mk); (first | exact True.intro | omega | (constructor <;> first | omega | (unfold maxLen; omega)) | (unfold maxLen; omega))) | ((with_reducible apply Ln.mk); (first | rfl | exact ‹_› | omega | (simp ; first | done | omega))) | ((with_reducible apply Wr.mk); (first | exact w_quoI (by omega) (by omega) | exact w_and1 _ | exact IntWalk.i64_in _ (by omega) | exact IntWalk.u8_in _ (by omega) | exact IntWalk.u32_in _ (by omega) | exact IntWalk.u64_in _ (by omega) | exact IntKind.wrap_u8 _ | exact IntKind.wrap_u32 _ | rfl)) | ((with_reducible apply Su.mk); (first | exact subAt_all | exact subAt_recZ (fun _ => rfl) (by omega) | exact subAt_rec (fun _ => rfl) (by omega))) | exact bytesV_all _ | exact True.intro | intro A | exact rfl)
    refine w_loop (S := Nat × List UInt8) (fun x => [(3, gsl A 0 o.length o.length 1), (4, I (x.1 - 1))]) (fun x => (A, ⟨bytesV x.2, false⟩) :: h)
      (fun x => x.1 ≤ o.length ∧ x.2.length = o.length ∧ carryAt x.2 x.1 = carry o) (fun x => x.1) (o.length, o) ⟨Nat.le_refl _, rfl, rfl⟩ ?_ (by repeat (first | with_reducible exact Take.nil | with_reducible apply Take.c | with_reducible apply Take.drop)) ?_
    · exact ⟨congrArg some (gslE rfl rfl (by simp) (by simp) rfl), by show some (Value.int .i64 (((0 + o.length : Nat) : Int) - 1)) = some (Value.int .i64 ((o.length : Int) - 1)); rw [Nat.zero_add], trivial⟩
    rintro ⟨k, l⟩ ⟨hk, hl, he⟩
    dsimp only at hk hl he ⊢
    rw [← hl]
    cases k with
    | zero =>
      repeat' (first | apply w_seq | apply w_region | apply o_nil | (apply o_g tyOk; exact rfl; exact rfl) | (apply w_false; exact rfl) | apply thenS_normal | apply thenS_exit | apply blockS_exit | apply w_ret | apply w_exit | ((with_reducible apply Sd.mk); (first | exact True.intro | omega | (constructor <;> first | omega | (unfold maxLen; omega)) | (unfold maxLen; omega))))
      (apply s_fin; (exact (show ResS _ _ _ _ [_] from ⟨rfl, trivial⟩)); (focus (rw [← show l = carry o from he]; exact ⟨A, rfl, rfl⟩)); (focus (repeat (first | with_reducible exact Take.nil | with_reducible apply Take.c | with_reducible apply Take.drop))))
    | succ k =>
      rw [show ((k + 1 : Nat) : Int) - 1 = k by omega]
      repeat' (first | apply w_seq | apply w_region | apply o_nil | (apply o_g tyOk; exact rfl; exact rfl) | (apply o_ar tyOk; exact rfl; exact rfl) | (apply o_load tyOk; (iterate 3 exact rfl); (focus (exact pk))) | (apply o_store tyOk; (iterate 4 exact rfl); (focus (exact up))) | (apply w_true; exact rfl) | (apply w_ifN; exact rfl; all_goals intro hc) | apply thenS_normal | apply thenS_ret | apply blockS_normal | apply blockS_ret | apply w_skip | apply w_ret | apply w_block | ((with_reducible apply Sd.mk); (first | exact True.intro | omega | (constructor <;> first | omega | (unfold maxLen; omega)) | (unfold maxLen; omega))) | ((with_reducible apply Ln.mk); (first | rfl | exact ‹_› | omega | (simp ; first | done | omega))) | ((with_reducible apply Wr.mk); (first | exact w_quoI (by omega) (by omega) | exact w_and1 _ | exact IntWalk.i64_in _ (by omega) | exact IntWalk.u8_in _ (by omega) | exact IntWalk.u32_in _ (by omega) | exact IntWalk.u64_in _ (by omega) | exact IntKind.wrap_u8 _ | exact IntKind.wrap_u32 _ | rfl)) | ((with_reducible apply Ce.mk); (first | rfl | exact ‹_› | exact cell_bytes_set (by omega) (by omega) | exact cell_recZ (fun _ => rfl) (by omega) (by decide) rfl | exact cell_rec (fun _ => rfl) (by omega) (by decide) rfl | exact cell_bytes (by omega) | exact cell_mapZ (by omega) | exact cell_map (by omega))) | ((with_reducible apply Se.mk); (first | (focus ((repeat (first | exact SetAt.zero | apply SetAt.succ)); done)) | exact setAt_bytes (by omega) (by omega) | exact setAt_mapZ (by omega) | exact setAt_map (by omega))) | exact True.intro | exact rfl)
      · (apply s_fin; (exact (show ResS _ _ _ _ [_] from ⟨rfl, trivial⟩)); (focus (rw [← he, carryAt, if_pos hc]; exact ⟨A, rfl, rfl⟩)); (focus (repeat (first | with_reducible exact Take.nil | with_reducible apply Take.c | with_reducible apply Take.drop))))
      · refine ⟨(k, l.set k (b8 ((bat l k + 1) % 256))), ⟨by show k ≤ _; omega, by simp [hl], ?_⟩, by show k < k + 1; omega, ?_, (by repeat (first | with_reducible exact Take.nil | with_reducible apply Take.c | with_reducible apply Take.drop))⟩
        · rw [← he, carryAt, if_neg (fun h => h hc)]
        · exact ⟨rfl, rfl, trivial⟩
abbrev reC (v : Value) (low size : Int) : List Value := [v, I low, I size]
abbrev reV (v : Value) (low size : Int) : Value := .agg ⟨reC v low size⟩
theorem rNewEncoder_any (h : SH) : SRun Try.prog 69 [] h fun r q => r = reV (.slice none 0 0) 0 4294967295 ∧ q = h := by
  refine w_body0 Try.func69 rfl rfl ?_
  repeat' (first | apply w_seq | apply w_region | apply o_nil | (apply o_stores tyOk; (iterate 4 exact rfl); (focus (exact ⟨rfl⟩)); (focus (exact up))) | (apply o_alloc tyOk; iterate 5 exact rfl) | (apply o_build tyOk; exact rfl; exact rfl; (focus (first | with_reducible exact pl123)); exact rfl; (focus (repeat (first | exact BuildR.nil | (apply BuildR.one; exact rfl; exact rfl; (first | (focus ((repeat (first | exact SetAt.zero | apply SetAt.succ)); done)) | exact setAt_bytes (by omega) (by omega) | exact setAt_mapZ (by omega) | exact setAt_map (by omega))) | (apply BuildR.agg; exact rfl; exact rfl; (first | exact putAt_all rfl | exact putAt_recZ (fun _ => rfl) (by omega) | exact putAt_rec (fun _ => rfl) (by omega)))))); exact rfl) | apply thenS_normal | apply w_ret | ((with_reducible apply Ln.mk); (first | rfl | exact ‹_› | omega | (simp ; first | done | omega))) | ((with_reducible apply Pu.mk); (first | exact putAt_all rfl | exact putAt_recZ (fun _ => rfl) (by omega) | exact putAt_rec (fun _ => rfl) (by omega))) | exact True.intro | intro A)
  (apply s_fin; (exact (show ResS _ _ _ _ [_] from (res_cell tyOk rfl rfl rfl (by exact pk) (by first | rfl | exact ‹_› | omega | (simp ; first | done | omega)) (by first | rfl | exact ‹_› | omega | (simp ; first | done | omega)) trivial))); (focus (exact ⟨rfl, rfl⟩)); (focus (repeat (first | with_reducible exact Take.nil | with_reducible apply Take.c | with_reducible apply Take.drop))))
/-- Whether a step hands back a new block. -/
def carries (e : Enc) (z b : Int) : Bool := decide (b ≠ 0 ∧ 4294967296 ≤ e.low + bound e.size z)
def fresh (e : Enc) (z b : Int) : Bool := carries e z b || decide ((estep e z b).size < 16777216)
theorem rBit_any (e : Enc) (z b : Int) (v : Value) (h : SH) (hv : RO h e.out v) (hok : EncOk 1000000 e) :
    SRun Try.prog 123 [reV v e.low e.size, I z, I b] h fun r q => ∃ v', r = reV v' (ebit e z b).low (ebit e z b).size ∧ ROut h e.out v (fresh e z b) (ebit e z b).out v' q := by
  have hd := size_dvd hok.size z
  unfold bound at hd
  have hz := clp_in z
  have h1 := hok.low; have h2 := hok.size; have h3 := hok.out
  unfold ebit
  have h4 := estep_ok hok z b
  have hf : fresh e z b = (carries e z b || decide ((estep e z b).size < 16777216)) := rfl
  generalize hs : estep e z b = s at h4 hf
  generalize fresh e z b = fr at hf
  generalize hcr : carries e z b = cr at hf
  have hcr2 : cr = true ↔ (b ≠ 0 ∧ 4294967296 ≤ e.low + e.size / 2048 * clp z) := by rw [← hcr]; unfold carries bound; simp
  refine w_body3 Try.func123 rfl rfl ?_
  repeat' ((fail_if_success (show SWp _ _ (Code.cond (Operand.tmp 15) _ _) _ _ _)); first | apply w_seq | apply w_region | apply o_nil | (apply w_draw; (focus (kernel_rfl)); (focus (kernel_rfl))) | (apply o_g tyOk; exact rfl; exact rfl) | (apply o_ar tyOk; exact rfl; exact rfl) | (apply o_load tyOk; (iterate 3 exact rfl); (focus (exact pk))) | (apply o_alloc tyOk; iterate 5 exact rfl) | (apply o_box (tt := tyT); iterate 5 exact rfl) | (apply o_callD; (iterate 4 exact rfl); (focus (exact ⟨_, limit_any _ _, by repeat (first | with_reducible exact Take.nil | with_reducible apply Take.c | with_reducible apply Take.drop)⟩)); (focus (exact fun _ _ h => h.1)); (focus ((repeat (first | exact Flat.c rfl | apply flat_tuple | apply flat_agg | exact FlatL.nil | apply FlatL.cons))))) | apply thenS_normal | ((with_reducible apply Sd.mk); (first | exact True.intro | omega | (constructor <;> first | omega | (unfold maxLen; omega)) | (unfold maxLen; omega))) | ((with_reducible apply Ln.mk); (first | rfl | exact ‹_› | omega | (simp ; first | done | omega))) | ((with_reducible apply Wr.mk); (first | exact w_quoI (by omega) (by omega) | exact w_and1 _ | exact IntWalk.i64_in _ (by omega) | exact IntWalk.u8_in _ (by omega) | exact IntWalk.u32_in _ (by omega) | exact IntWalk.u64_in _ (by omega) | exact IntKind.wrap_u8 _ | exact IntKind.wrap_u32 _ | rfl)) | ((with_reducible apply Ce.mk); (first | rfl | exact ‹_› | exact cell_recZ (fun _ => rfl) (by omega) (by decide) rfl | exact cell_rec (fun _ => rfl) (by omega) (by decide) rfl | exact cell_bytes (by omega) | exact cell_mapZ (by omega) | exact cell_map (by omega))) | exact True.intro | intro A | exact rfl)
  rename_i A0
  refine w_meet (S := Value × SH) (fun _ => [(3, gptr A0 0 3), (6, gptr A 0 3)]) (fun x => (A, ⟨reC (.slice none 0 0) 0 0, false⟩) :: (A0, ⟨reC x.1 s.low s.size, false⟩) :: x.2) (fun x => ROut h e.out v cr s.out x.1 x.2) ?_ ?_
  · unfold estep bound at hs
    repeat' (first | apply w_seq | apply w_region | apply o_nil | (apply w_draw; (focus (kernel_rfl)); (focus (kernel_rfl))) | (apply o_g tyOk; exact rfl; exact rfl) | (apply o_ar tyOk; exact rfl; exact rfl) | (apply o_load tyOk; (iterate 3 exact rfl); (focus (exact pk))) | (apply o_store tyOk; (iterate 4 exact rfl); (focus (exact up))) | (apply o_callE1; (iterate 4 exact rfl); (focus (exact ⟨carried_any e.out v _ (hv.re (.drop (.drop .nil))) h3, by repeat (first | with_reducible exact Take.nil | with_reducible apply Take.c | with_reducible apply Take.drop)⟩)); (focus ((intro _; (first | exact List.Perm.refl _ | (simp; done) | exact List.Perm.swap _ _ _)))); (focus ((intro A1 A2 ρ D e1 d1 hρ hD; refine ⟨?_, ?_⟩; (focus (repeat (first | exact VR.const rfl | (apply VR.ptr'; (focus (first | exact e1 | exact e2 | exact e3 | ((apply rho_pick hρ); (exact pk)))); (focus (first | exact d1 | exact d2 | exact d3 | ((apply dom_pick hD); (exact pk))))) | (apply VR.slc'; (focus (first | exact e1 | exact e2 | exact e3 | ((apply rho_pick hρ); (exact pk)))); (focus (first | exact d1 | exact d2 | exact d3 | ((apply dom_pick hD); (exact pk))))) | exact VR.sdead | apply VRs.tuple | apply VRs.agg | exact VRs.nil | ((apply VRs.const); (focus (first | exact bytesV_const _ | exact map_const (fun _ => rfl) | exact recs_const (fun _ v hv => by simp only [List.mem_cons, List.not_mem_nil, or_false] at hv; rcases hv with rfl | rfl | rfl | rfl | rfl <;> rfl)))) | apply VRs.cons))); (focus (repeat (first | exact SHR.nil | ((apply SHR.same); (focus (intro x hx; (repeat (first | exact hx | apply List.mem_cons_of_mem)); done))) | ((apply SHR.keep); (focus ((repeat (first | with_reducible exact List.mem_cons_self | apply List.mem_cons_of_mem)); done))) | (apply SHR.cons; (focus (first | exact e1 | exact e2 | exact e3 | ((apply rho_pick hρ); (exact pk)))); (focus (repeat (first | exact VR.const rfl | (apply VR.ptr'; (focus (first | exact e1 | exact e2 | exact e3 | ((apply rho_pick hρ); (exact pk)))); (focus (first | exact d1 | exact d2 | exact d3 | ((apply dom_pick hD); (exact pk))))) | (apply VR.slc'; (focus (first | exact e1 | exact e2 | exact e3 | ((apply rho_pick hρ); (exact pk)))); (focus (first | exact d1 | exact d2 | exact d3 | ((apply dom_pick hD); (exact pk))))) | exact VR.sdead | apply VRs.tuple | apply VRs.agg | exact VRs.nil | ((apply VRs.const); (focus (first | exact bytesV_const _ | exact map_const (fun _ => rfl) | exact recs_const (fun _ v hv => by simp only [List.mem_cons, List.not_mem_nil, or_false] at hv; rcases hv with rfl | rfl | rfl | rfl | rfl <;> rfl)))) | apply VRs.cons))))))))))) | (apply w_if; exact rfl; all_goals intro hc) | apply thenS_normal | apply w_skip | ((with_reducible apply Sd.mk); (first | exact True.intro | omega | (constructor <;> first | omega | (unfold maxLen; omega)) | (unfold maxLen; omega))) | ((with_reducible apply Ln.mk); (first | rfl | exact ‹_› | omega | (simp ; first | done | omega))) | ((with_reducible apply Wr.mk); (first | exact w_quoI (by omega) (by omega) | exact w_and1 _ | exact IntWalk.i64_in _ (by omega) | exact IntWalk.u8_in _ (by omega) | exact IntWalk.u32_in _ (by omega) | exact IntWalk.u64_in _ (by omega) | exact IntKind.wrap_u8 _ | exact IntKind.wrap_u32 _ | rfl)) | ((with_reducible apply Ce.mk); (first | rfl | exact ‹_› | exact cell_recZ (fun _ => rfl) (by omega) (by decide) rfl | exact cell_rec (fun _ => rfl) (by omega) (by decide) rfl | exact cell_bytes (by omega) | exact cell_mapZ (by omega) | exact cell_map (by omega))) | ((with_reducible apply Se.mk); (first | (focus ((repeat (first | exact SetAt.zero | apply SetAt.succ)); done)) | exact setAt_bytes (by omega) (by omega) | exact setAt_mapZ (by omega) | exact setAt_map (by omega))) | exact True.intro | refine Rc.mk ⟨_, _, pk, ?_⟩ | exact Or.inl rfl | apply And.intro | apply Or.inr | intro A | exact rfl)
    · rw [if_pos hc] at hs; subst hs
      obtain rfl : cr = false := by cases hcb : cr with
        | false => rfl
        | true => exact absurd hc (hcr2.1 hcb).1
      exact ⟨(v, h), .same, (by repeat' (first | exact trivial | refine ⟨rfl, ?_⟩ | refine ⟨congrArg some ?_, ?_⟩)), (by repeat (first | with_reducible exact Take.nil | with_reducible apply Take.c | with_reducible apply Take.drop))⟩
    · rw [if_neg ‹_›, if_pos hc] at hs; subst hs
      obtain rfl : cr = true := hcr2.2 ⟨‹_›, hc⟩
      exact ⟨(_, _), by have := ROut.new (h := h) (o0 := e.out) (v := v) (carry e.out) A; rw [carry_len] at this; exact this, (by repeat' (first | exact trivial | refine ⟨rfl, ?_⟩ | refine ⟨congrArg some ?_, ?_⟩)), (by repeat (first | with_reducible exact Take.nil | with_reducible apply Take.c | with_reducible apply Take.drop))⟩
    · rw [if_neg ‹_›, if_neg hc] at hs; subst hs
      obtain rfl : cr = false := by cases hcb : cr with
        | false => rfl
        | true => exact absurd (hcr2.1 hcb).2 hc
      exact ⟨(v, h), .same, (by repeat' (first | exact trivial | refine ⟨rfl, ?_⟩ | refine ⟨congrArg some ?_, ?_⟩)), (by repeat (first | with_reducible exact Take.nil | with_reducible apply Take.c | with_reducible apply Take.drop))⟩
  · rintro ⟨w, p⟩ hw
    dsimp only at hw ⊢
    repeat' (first | apply w_seq | apply w_block)
    refine w_loop (S := Nat × Enc × Bool × Value × SH) (fun x => [(3, gptr A0 0 3), (6, gptr A 0 3)]) (fun x => (A, ⟨reC (.slice none 0 0) 0 0, false⟩) :: (A0, ⟨reC x.2.2.2.1 x.2.1.low x.2.1.size, false⟩) :: x.2.2.2.2)
      (fun x => ROut h e.out v x.2.2.1 x.2.1.out x.2.2.2.1 x.2.2.2.2 ∧ norm x.1 x.2.1 = norm 2 s ∧ 16777216 ≤ x.2.1.size * 256 ^ x.1 ∧ 0 < x.2.1.size ∧ x.2.1.size ≤ 4294967295 ∧ (0 ≤ x.2.1.low ∧ x.2.1.low ≤ 4294967295) ∧ x.2.1.out.length + x.1 ≤ 1000002 ∧
        ((x.2.1 = s ∧ x.2.2.1 = cr) ∨ (s.size < 16777216 ∧ x.2.2.1 = true))) (fun x => x.1) (2, s, cr, w, p)
      ⟨hw, rfl, by show _ ≤ s.size * 256 ^ 2; omega, by show 0 < s.size; omega, by show s.size ≤ _; omega, h4.2.1, by show s.out.length + 2 ≤ _; omega, .inl ⟨rfl, rfl⟩⟩ (by repeat' (first | exact trivial | refine ⟨rfl, ?_⟩ | refine ⟨congrArg some ?_, ?_⟩)) (by repeat (first | with_reducible exact Take.nil | with_reducible apply Take.c | with_reducible apply Take.drop)) ?_
    rintro ⟨k, d, g, w, q⟩ ⟨hw, he, g1, g2, g3, g4, g5, g6⟩
    dsimp only at hw he g1 g2 g3 g4 g5 g6 ⊢
    have hro := hw.ro hv
    by_cases hlt : d.size < 16777216
    · obtain ⟨k', rfl, e1, e2⟩ := norm_go hlt g1
      have hss : s.size < 16777216 := by
        rcases g6 with ⟨rfl, _⟩ | ⟨h, _⟩
        · exact hlt
        · exact h
      have hlen : (eshift d).out.length = d.out.length + 1 := by show (d.out ++ [_]).length = _; simp
      have hby : bytesV d.out ++ [.int .u8 (d.low / 16777216)] = bytesV (eshift d).out := bytesV_snoc (by omega)
      rcases hro with ⟨e0, rfl⟩ | ⟨A1, p1, rfl, hp⟩
      · repeat' (first | apply w_seq | apply w_region | apply o_nil | (apply w_draw; (focus (kernel_rfl)); (focus (kernel_rfl))) | (apply o_g tyOk; exact rfl; exact rfl) | (apply o_ar tyOk; exact rfl; exact rfl) | (apply o_ex; exact rfl; exact rfl) | (apply o_load tyOk; (iterate 3 exact rfl); (focus (exact pk))) | (apply o_store tyOk; (iterate 4 exact rfl); (focus (exact up))) | (apply o_buildSlice tyOk; (iterate 5 exact rfl); (focus (decide)); exact rfl; (focus (decide)); (focus (repeat (first | exact CatR.nil | exact CatR.last rfl | (apply CatR.one; exact rfl; exact rfl) | (apply CatR.agg; exact rfl)))); exact rfl) | (apply o_append tyOk; (iterate 5 exact rfl); (focus (exact ⟨by decide⟩)); (focus (exact up)); (focus (exact pk))) | (apply o_append_none tyOk; (iterate 4 exact rfl); (focus (exact pk))) | (apply w_dT; exact rfl; (focus (first | exact ‹_› | with_reducible exact rfl | omega))) | apply thenS_normal | apply blockS_normal | apply w_skip | apply w_block | ((with_reducible apply Sd.mk); (first | exact True.intro | omega | (constructor <;> first | omega | (unfold maxLen; omega)) | (unfold maxLen; omega))) | ((with_reducible apply Ln.mk); (first | rfl | exact ‹_› | omega | (simp ; first | done | omega))) | ((with_reducible apply Wr.mk); (first | exact w_quoI (by omega) (by omega) | exact w_and1 _ | exact IntWalk.i64_in _ (by omega) | exact IntWalk.u8_in _ (by omega) | exact IntWalk.u32_in _ (by omega) | exact IntWalk.u64_in _ (by omega) | exact IntKind.wrap_u8 _ | exact IntKind.wrap_u32 _ | rfl)) | ((with_reducible apply Ex.mk); (first | exact Int.tmod_eq_emod_of_nonneg (by omega) | exact ex8i _ | exact ex16i _ | exact ex24i _ | exact ex_shrk (by omega) | rfl)) | ((with_reducible apply Ce.mk); (first | rfl | exact ‹_› | exact cell_recZ (fun _ => rfl) (by omega) (by decide) rfl | exact cell_rec (fun _ => rfl) (by omega) (by decide) rfl | exact cell_bytes (by omega) | exact cell_mapZ (by omega) | exact cell_map (by omega))) | ((with_reducible apply Se.mk); (first | (focus ((repeat (first | exact SetAt.zero | apply SetAt.succ)); done)) | exact setAt_bytes (by omega) (by omega) | exact setAt_mapZ (by omega) | exact setAt_map (by omega))) | ((with_reducible apply Su.mk); (first | exact subAt_all | exact subAt_recZ (fun _ => rfl) (by omega) | exact subAt_rec (fun _ => rfl) (by omega))) | exact True.intro | refine Rc.mk ⟨_, _, pk, ?_⟩ | exact Or.inl rfl | apply And.intro | apply Or.inr | intro A | exact rfl)
        rw [e0] at hby
        have e0L : d.out.length = 0 := by rw [e0]; rfl
        rename_i A2
        exact ⟨(k', eshift d, true, gsl A2 0 (eshift d).out.length (eshift d).out.length 1, (A2, ⟨bytesV (eshift d).out, false⟩) :: h), ⟨.new _ _, by rw [← e1]; exact he, e2, by show 0 < d.size * 256; omega, by show d.size * 256 ≤ _; omega,
          by show 0 ≤ d.low * 256 % 4294967296 ∧ d.low * 256 % 4294967296 ≤ _; omega, by show (eshift d).out.length + k' ≤ _; omega, .inr ⟨hss, rfl⟩⟩, by show k' < k' + 1; omega, (by repeat' (first | exact trivial | refine ⟨rfl, ?_⟩ | refine ⟨congrArg some ?_, ?_⟩)),
          .drop (.cons (.tail .head) (.consE (.tail .head) (blkE (congrArg (fun v => [v, I (d.low * 256 % 4294967296), I (d.size * 256)]) (gslE rfl rfl (by rw [hlen]; omega) (by rw [hlen]; omega) rfl))) (.consE .head (blkE hby) hw.take)))⟩
      · repeat' (first | apply w_seq | apply w_region | apply o_nil | (apply w_draw; (focus (kernel_rfl)); (focus (kernel_rfl))) | (apply o_g tyOk; exact rfl; exact rfl) | (apply o_ar tyOk; exact rfl; exact rfl) | (apply o_ex; exact rfl; exact rfl) | (apply o_load tyOk; (iterate 3 exact rfl); (focus (exact pk))) | (apply o_store tyOk; (iterate 4 exact rfl); (focus (exact up))) | (apply o_buildSlice tyOk; (iterate 5 exact rfl); (focus (decide)); exact rfl; (focus (decide)); (focus (repeat (first | exact CatR.nil | exact CatR.last rfl | (apply CatR.one; exact rfl; exact rfl) | (apply CatR.agg; exact rfl)))); exact rfl) | (apply o_append tyOk; (iterate 5 exact rfl); (focus (exact ⟨by decide⟩)); (focus (exact up)); (focus (exact pk))) | (apply w_dT; exact rfl; (focus (first | exact ‹_› | with_reducible exact rfl | omega))) | apply thenS_normal | apply blockS_normal | apply w_skip | apply w_block | ((with_reducible apply Sd.mk); (first | exact True.intro | omega | (constructor <;> first | omega | (unfold maxLen; omega)) | (unfold maxLen; omega))) | ((with_reducible apply Ln.mk); (first | rfl | exact ‹_› | omega | (simp ; first | done | omega))) | ((with_reducible apply Wr.mk); (first | exact w_quoI (by omega) (by omega) | exact w_and1 _ | exact IntWalk.i64_in _ (by omega) | exact IntWalk.u8_in _ (by omega) | exact IntWalk.u32_in _ (by omega) | exact IntWalk.u64_in _ (by omega) | exact IntKind.wrap_u8 _ | exact IntKind.wrap_u32 _ | rfl)) | ((with_reducible apply Ex.mk); (first | exact Int.tmod_eq_emod_of_nonneg (by omega) | exact ex8i _ | exact ex16i _ | exact ex24i _ | exact ex_shrk (by omega) | rfl)) | ((with_reducible apply Ce.mk); (first | rfl | exact ‹_› | exact cell_recZ (fun _ => rfl) (by omega) (by decide) rfl | exact cell_rec (fun _ => rfl) (by omega) (by decide) rfl | exact cell_bytes (by omega) | exact cell_mapZ (by omega) | exact cell_map (by omega))) | ((with_reducible apply Se.mk); (first | (focus ((repeat (first | exact SetAt.zero | apply SetAt.succ)); done)) | exact setAt_bytes (by omega) (by omega) | exact setAt_mapZ (by omega) | exact setAt_map (by omega))) | ((with_reducible apply Su.mk); (first | exact subAt_all | exact subAt_recZ (fun _ => rfl) (by omega) | exact subAt_rec (fun _ => rfl) (by omega))) | exact bytesV_all _ | exact True.intro | refine Rc.mk ⟨_, _, pk, ?_⟩ | exact Or.inl rfl | refine Or.inr (And.intro ?_ ?_) | apply And.intro | apply Or.inr | intro A | exact rfl)
        have e0L : d.out.length = d.out.length := rfl
        rename_i A2
        exact ⟨(k', eshift d, true, gsl A2 0 (eshift d).out.length (eshift d).out.length 1, (A2, ⟨bytesV (eshift d).out, false⟩) :: h), ⟨.new _ _, by rw [← e1]; exact he, e2, by show 0 < d.size * 256; omega, by show d.size * 256 ≤ _; omega,
          by show 0 ≤ d.low * 256 % 4294967296 ∧ d.low * 256 % 4294967296 ≤ _; omega, by show (eshift d).out.length + k' ≤ _; omega, .inr ⟨hss, rfl⟩⟩, by show k' < k' + 1; omega, (by repeat' (first | exact trivial | refine ⟨rfl, ?_⟩ | refine ⟨congrArg some ?_, ?_⟩)),
          .drop (.cons (.tail .head) (.consE (.tail .head) (blkE (congrArg (fun v => [v, I (d.low * 256 % 4294967296), I (d.size * 256)]) (gslE rfl rfl (by rw [hlen]; omega) (by rw [hlen]; omega) rfl))) (.consE .head (blkE hby) hw.take)))⟩
    · rw [norm_end hlt] at he
      have hfr : g = fr := by
        rcases g6 with ⟨q1, q2⟩ | ⟨q1, q2⟩
        · rw [hf, q2, ← q1, decide_eq_false hlt, Bool.or_false]
        · rw [hf, q2, decide_eq_true q1, Bool.or_true]
      subst hfr
      rcases hro with ⟨e0, rfl⟩ | ⟨A1, p1, rfl, hp⟩
      · repeat' (first | apply w_seq | apply w_region | apply o_nil | (apply o_g tyOk; exact rfl; exact rfl) | (apply o_load tyOk; (iterate 3 exact rfl); (focus (exact pk))) | (apply o_loads tyOk; (iterate 3 exact rfl); (focus (exact pk))) | (apply o_stores tyOk; (iterate 4 exact rfl); (focus (exact ⟨rfl⟩)); (focus (exact up))) | (apply w_dF; exact rfl; (focus (first | exact ‹_› | with_reducible exact rfl | omega))) | apply thenS_normal | apply thenS_exit | apply blockS_exit | apply w_ret | apply w_exit | ((with_reducible apply Sd.mk); (first | exact True.intro | omega | (constructor <;> first | omega | (unfold maxLen; omega)) | (unfold maxLen; omega))) | ((with_reducible apply Ln.mk); (first | rfl | exact ‹_› | omega | (simp ; first | done | omega))) | ((with_reducible apply Ce.mk); (first | rfl | exact ‹_› | exact cell_recZ (fun _ => rfl) (by omega) (by decide) rfl | exact cell_rec (fun _ => rfl) (by omega) (by decide) rfl | exact cell_bytes (by omega) | exact cell_mapZ (by omega) | exact cell_map (by omega))) | ((with_reducible apply Pu.mk); (first | exact putAt_all rfl | exact putAt_recZ (fun _ => rfl) (by omega) | exact putAt_rec (fun _ => rfl) (by omega))) | ((with_reducible apply Su.mk); (first | exact subAt_all | exact subAt_recZ (fun _ => rfl) (by omega) | exact subAt_rec (fun _ => rfl) (by omega))) | exact True.intro | exact rfl)
        (apply s_fin; (exact (show ResS _ _ _ _ [_] from (res_cell tyOk rfl rfl rfl (by exact pk) (by first | rfl | exact ‹_› | omega | (simp ; first | done | omega)) (by first | rfl | exact ‹_› | omega | (simp ; first | done | omega)) trivial))); (focus (rw [← he]; exact ⟨_, rfl, hw⟩)); (focus (repeat (first | with_reducible exact Take.nil | with_reducible apply Take.c | with_reducible apply Take.drop))))
      · repeat' (first | apply w_seq | apply w_region | apply o_nil | (apply o_g tyOk; exact rfl; exact rfl) | (apply o_load tyOk; (iterate 3 exact rfl); (focus (exact pk))) | (apply o_loads tyOk; (iterate 3 exact rfl); (focus (exact pk))) | (apply o_stores tyOk; (iterate 4 exact rfl); (focus (exact ⟨rfl⟩)); (focus (exact up))) | (apply w_dF; exact rfl; (focus (first | exact ‹_› | with_reducible exact rfl | omega))) | apply thenS_normal | apply thenS_exit | apply blockS_exit | apply w_ret | apply w_exit | ((with_reducible apply Sd.mk); (first | exact True.intro | omega | (constructor <;> first | omega | (unfold maxLen; omega)) | (unfold maxLen; omega))) | ((with_reducible apply Ln.mk); (first | rfl | exact ‹_› | omega | (simp ; first | done | omega))) | ((with_reducible apply Ce.mk); (first | rfl | exact ‹_› | exact cell_recZ (fun _ => rfl) (by omega) (by decide) rfl | exact cell_rec (fun _ => rfl) (by omega) (by decide) rfl | exact cell_bytes (by omega) | exact cell_mapZ (by omega) | exact cell_map (by omega))) | ((with_reducible apply Pu.mk); (first | exact putAt_all rfl | exact putAt_recZ (fun _ => rfl) (by omega) | exact putAt_rec (fun _ => rfl) (by omega))) | ((with_reducible apply Su.mk); (first | exact subAt_all | exact subAt_recZ (fun _ => rfl) (by omega) | exact subAt_rec (fun _ => rfl) (by omega))) | exact True.intro | exact rfl)
        (apply s_fin; (exact (show ResS _ _ _ _ [_] from (res_cell tyOk rfl rfl rfl (by exact pk) (by first | rfl | exact ‹_› | omega | (simp ; first | done | omega)) (by first | rfl | exact ‹_› | omega | (simp ; first | done | omega)) trivial))); (focus (rw [← he]; exact ⟨_, rfl, hw⟩)); (focus (repeat (first | with_reducible exact Take.nil | with_reducible apply Take.c | with_reducible apply Take.drop))))
/-- The same, in the shape that calls in regions of a drawn order take. -/
theorem rBit_old (e : Enc) (z b : Int) (v : Value) (h : SH) (hv : RO h e.out v) (hok : EncOk 1000000 e) (hf : fresh e z b = false) :
    (ebit e z b).out = e.out ∧ SRun Try.prog 123 [reV v e.low e.size, I z, I b] h fun r q => r = reV v (ebit e z b).low (ebit e z b).size ∧ q = h := by
  have ho : (ebit e z b).out = e.out := by
    unfold fresh carries at hf
    simp only [Bool.or_eq_false_iff, decide_eq_false_iff_not] at hf
    unfold ebit
    rw [norm_end hf.2]
    unfold estep
    split
    · rfl
    · rw [if_neg (fun k => hf.1 ⟨‹_›, k⟩)]
  refine ⟨ho, (rBit_any e z b v h hv hok).mono ?_⟩
  rintro r q ⟨v', rfl, hr⟩
  rw [hf] at hr
  generalize (ebit e z b).out = o2 at hr
  cases hr
  exact ⟨rfl, rfl⟩
theorem rBit_new (e : Enc) (z b : Int) (v : Value) (h : SH) (hv : RO h e.out v) (hok : EncOk 1000000 e) (hf : fresh e z b = true) :
    SRun Try.prog 123 [reV v e.low e.size, I z, I b] h fun r q => ∃ A, r = reV (gsl A 0 (ebit e z b).out.length (ebit e z b).out.length 1) (ebit e z b).low (ebit e z b).size ∧ q = (A, ⟨bytesV (ebit e z b).out, false⟩) :: h := by
  refine (rBit_any e z b v h hv hok).mono ?_
  rintro r q ⟨v', rfl, hr⟩
  rw [hf] at hr
  cases hr with
  | new o A => exact ⟨A, rfl, rfl⟩
end Go.Proofs.Ytgooffiipnkmiaa
end
section
set_option linter.unusedVariables false
set_option linter.unusedSimpArgs false
set_option maxRecDepth 4000
namespace Go.Proofs.Ytgooffiipnkmiaa
open Go.Gh Go.RowKit

theorem rFinish_any (e : Enc) (v : Value) (h : SH) (hv : RO h e.out v) (ho : e.out.length ≤ 1000000) (hl : 0 ≤ e.low ∧ e.low ≤ 4294967295) :
    SRun Try.prog 72 [reV v e.low e.size] h fun r q => r = S (fin e) ∧ q = h := by
  rcases hv with ⟨e0, rfl⟩ | ⟨A', h1, rfl, hp⟩
  · refine w_body1 Try.func72 rfl rfl ?_
    repeat' (first | apply w_seq | apply w_region | apply o_nil | (apply o_g tyOk; exact rfl; exact rfl) | (apply o_ar tyOk; exact rfl; exact rfl) | (apply o_ex; exact rfl; exact rfl) | (apply o_load tyOk; (iterate 3 exact rfl); (focus (exact pk))) | (apply o_box (tt := tyT); iterate 5 exact rfl) | (apply o_buildSlice tyOk; (iterate 5 exact rfl); (focus (decide)); exact rfl; (focus (decide)); (focus (repeat (first | exact CatR.nil | exact CatR.last rfl | (apply CatR.one; exact rfl; exact rfl) | (apply CatR.agg; exact rfl)))); exact rfl) | (apply o_toString tyOk; (iterate 6 exact rfl); (focus (exact pk))) | (apply o_toString_nil tyOk; iterate 7 exact rfl) | apply thenS_normal | apply w_ret | ((with_reducible apply Sd.mk); (first | exact True.intro | omega | (constructor <;> first | omega | (unfold maxLen; omega)) | (unfold maxLen; omega) | (simp only [tail4_len, List.length_nil]; omega))) | ((with_reducible apply Ln.mk); (first | rfl | exact ‹_› | omega | (simp [tail4_len]; first | done | omega))) | ((with_reducible apply Wr.mk); (first | exact w_quoI (by omega) (by omega) | exact w_and1 _ | exact IntWalk.i64_in _ (by omega) | exact IntWalk.u8_in _ (by omega) | exact IntWalk.u32_in _ (by omega) | exact IntWalk.u64_in _ (by omega) | exact IntKind.wrap_u8 _ | exact IntKind.wrap_u32 _ | rfl)) | ((with_reducible apply Ex.mk); (first | exact Int.tmod_eq_emod_of_nonneg (by omega) | exact ex8i _ | exact ex16i _ | exact ex24i _ | exact ex_shrk (by omega) | rfl)) | ((with_reducible apply Ce.mk); (first | rfl | exact ‹_› | exact cell_recZ (fun _ => rfl) (by omega) (by decide) rfl | exact cell_rec (fun _ => rfl) (by omega) (by decide) rfl | exact cell_bytes (by omega) | exact cell_mapZ (by omega) | exact cell_map (by omega))) | ((with_reducible apply Su.mk); (first | exact subAt_tail (by omega) | exact subAt_all | exact subAt_recZ (fun _ => rfl) (by omega) | exact subAt_rec (fun _ => rfl) (by omega))) | exact True.intro | intro A | exact rfl)
    (apply s_fin; (exact (show ResS _ _ _ _ [_] from ⟨rfl, trivial⟩)); (focus (exact ⟨by unfold fin; rw [e0]; rfl, rfl⟩)); (focus (repeat (first | with_reducible exact Take.nil | with_reducible apply Take.c | with_reducible apply Take.drop))))
  · refine w_body1 Try.func72 rfl rfl ?_
    repeat' (first | apply w_seq | apply w_region | apply o_nil | (apply o_g tyOk; exact rfl; exact rfl) | (apply o_ar tyOk; exact rfl; exact rfl) | (apply o_ex; exact rfl; exact rfl) | (apply o_load tyOk; (iterate 3 exact rfl); (focus (exact pk))) | (apply o_box (tt := tyT); iterate 5 exact rfl) | (apply o_buildSlice tyOk; (iterate 5 exact rfl); (focus (decide)); exact rfl; (focus (decide)); (focus (repeat (first | exact CatR.nil | exact CatR.last rfl | (apply CatR.one; exact rfl; exact rfl) | (apply CatR.agg; exact rfl)))); exact rfl) | (apply o_toString tyOk; (iterate 6 exact rfl); (focus (exact pk))) | apply thenS_normal | apply w_ret | ((with_reducible apply Sd.mk); (first | exact True.intro | omega | (constructor <;> first | omega | (unfold maxLen; omega)) | (unfold maxLen; omega) | (simp only [tail4_len, List.length_nil]; omega))) | ((with_reducible apply Ln.mk); (first | rfl | exact ‹_› | omega | (simp [tail4_len]; first | done | omega))) | ((with_reducible apply Wr.mk); (first | exact w_quoI (by omega) (by omega) | exact w_and1 _ | exact IntWalk.i64_in _ (by omega) | exact IntWalk.u8_in _ (by omega) | exact IntWalk.u32_in _ (by omega) | exact IntWalk.u64_in _ (by omega) | exact IntKind.wrap_u8 _ | exact IntKind.wrap_u32 _ | rfl)) | ((with_reducible apply Ex.mk); (first | exact Int.tmod_eq_emod_of_nonneg (by omega) | exact ex8i _ | exact ex16i _ | exact ex24i _ | exact ex_shrk (by omega) | rfl)) | ((with_reducible apply Ce.mk); (first | rfl | exact ‹_› | exact cell_recZ (fun _ => rfl) (by omega) (by decide) rfl | exact cell_rec (fun _ => rfl) (by omega) (by decide) rfl | exact cell_bytes (by omega) | exact cell_mapZ (by omega) | exact cell_map (by omega))) | ((with_reducible apply Su.mk); (first | exact subAt_tail (by omega) | exact subAt_all | exact subAt_recZ (fun _ => rfl) (by omega) | exact subAt_rec (fun _ => rfl) (by omega))) | exact True.intro | intro A | exact rfl)
    (apply s_fin; (exact (show ResS _ _ _ _ [_] from ⟨rfl, trivial⟩)); (focus (exact ⟨rfl, rfl⟩)); (focus (repeat (first | with_reducible exact Take.nil | with_reducible apply Take.c | with_reducible apply Take.drop))))
/-- What Decode hands back, read. -/
theorem IsD.has {h q : SH} {x : List Int × Int} {r : Value} (d : IsD h x r q) : ∃ v, r = .tuple #[v, Er x.2] ∧ Has q (x.1.map inF) 1 x.1.length v ∧ Take q h := by
  rcases d with ⟨h1, h2, rfl, rfl⟩ | ⟨h1, A, rfl, rfl⟩
  · exact ⟨_, rfl, ⟨none, 0, by rw [h2]; rfl, fun h => absurd (by rw [h2]; rfl) h⟩, .nil⟩
  · exact ⟨_, by rw [h1], ⟨_, _, rfl, fun _ => ⟨A, false, _, by rw [Nat.one_mul], .head⟩⟩, .drop .nil⟩
end Go.Proofs.Ytgooffiipnkmiaa
end
section
set_option linter.unusedVariables false
set_option linter.unusedSimpArgs false
set_option maxRecDepth 4000
namespace Go.Proofs.Ytgooffiipnkmiaa
open Go.Gh Go.RowKit

theorem fin_len (e : Enc) : (fin e).length = e.out.length + 4 := by unfold fin; rw [List.length_append]; rfl
theorem EncB.re {n : Nat} {h h' p : SH} {e : Enc} (hb : EncB n h e p) (t : Take h h') : ∃ p', EncB n h' e p' ∧ Take p p' := by
  cases hb with
  | nil => exact ⟨_, .nil _ _, .cons .head t⟩
  | some => exact ⟨_, .some _ _ _ _, .cons .head (.cons .head t)⟩
theorem EncB.push {n : Nat} {h p : SH} {e : Enc} (hb : EncB n h e p) (x : Nat × Blk) : ∃ p', EncB n (x :: h) e p' ∧ Take (x :: p) p' := by
  cases hb with
  | nil => exact ⟨_, .nil _ _, .cons (.tail .head) .nil⟩
  | some => exact ⟨_, .some _ _ _ _, .cons (.tail .head) (.cons (.tail .head) .nil)⟩
theorem EncR.re {n : Nat} {p p' : SH} {e : Enc} (hr : EncR n p' e) (t : Take p p') : EncR n p e := by
  cases hr with
  | nil _ _ _ hp => obtain ⟨p1, g, _⟩ := t.pick hp; exact .nil _ _ _ g
  | some _ _ _ _ _ _ hp ha => obtain ⟨p1, g, _⟩ := t.pick hp; obtain ⟨p2, g2, _⟩ := t.pick ha; exact .some _ _ _ _ _ _ g g2
/-- Two encoders, in any order, over other blocks. -/
def E2 (n m : Nat) (h : SH) (e e2 : Enc) (p : SH) : Prop := ∃ q1 p', EncB m h e2 q1 ∧ EncB n q1 e p' ∧ Take p p'
theorem E2.swap {n m : Nat} {h p : SH} {e e2 : Enc} (k : E2 n m h e e2 p) : E2 m n h e2 e p := by
  obtain ⟨q1, p', h1, h2, t⟩ := k
  obtain ⟨r1, r, g1, g2, t2⟩ := h1.swap h2
  exact ⟨r1, r, g1, g2, t.trans t2⟩
theorem E2.re {n m : Nat} {h h' p : SH} {e e2 : Enc} (k : E2 n m h e e2 p) (t : Take h h') : E2 n m h' e e2 p := by
  obtain ⟨q1, p', h1, h2, t1⟩ := k
  obtain ⟨r1, g1, t2⟩ := h1.re t
  obtain ⟨r, g2, t3⟩ := h2.re t2
  exact ⟨r1, r, g1, g2, t1.trans t3⟩
theorem E2.push {n m : Nat} {h p : SH} {e e2 : Enc} (k : E2 n m h e e2 p) (x : Nat × Blk) : E2 n m (x :: h) e e2 (x :: p) := by
  obtain ⟨q1, p', h1, h2, t1⟩ := k
  obtain ⟨r1, g1, t2⟩ := h1.push x
  obtain ⟨r, g2, t3⟩ := h2.push x
  obtain ⟨r', g3, t4⟩ := g2.re t2
  exact ⟨r1, r', g1, g3, (Take.trans (h1 := x :: p') (by obtain ⟨A, b⟩ := x; exact .cons .head t1) t3).trans t4⟩
theorem E2.pick {n m : Nat} {h p : SH} {e e2 : Enc} (k : E2 n m h e e2 p) {A : Nat} {b : Blk} {h1 : SH} (hp : Pick h A b h1) : ∃ p1, Pick p A b p1 := by
  obtain ⟨q1, p', g1, g2, t1⟩ := k
  obtain ⟨r1, hp1⟩ := g1.pick hp
  obtain ⟨r2, hp2⟩ := g2.pick hp1
  obtain ⟨r3, hp3, _⟩ := t1.pick hp2
  exact ⟨r3, hp3⟩
theorem E2.r {n m : Nat} {h p : SH} {e e2 : Enc} (k : E2 n m h e e2 p) : EncR n p e := by
  obtain ⟨q1, p', g1, g2, t1⟩ := k
  exact g2.r.re t1
theorem E2.take {n m : Nat} {h p : SH} {e e2 : Enc} (k : E2 n m h e e2 p) : Take p h := by
  obtain ⟨q1, p', g1, g2, t1⟩ := k
  exact t1.trans (g2.take.trans g1.take)
end Go.Proofs.Ytgooffiipnkmiaa
end
section
set_option linter.unusedVariables false
set_option linter.unusedSimpArgs false
set_option maxRecDepth 4000
namespace Go.Proofs.Ytgooffiipnkmiaa
open Go.Gh Go.RowKit

structure Sz (N : Nat) (s k : Nat) : Prop where
  hi : s * 16384 ^ N ≤ 4294967295 * 256 ^ k * 8193 ^ N
  lo : 4294967295 * 256 ^ k * 8191 ^ N ≤ s * 16384 ^ N
theorem Sz.shift {N s k : Nat} (h : Sz N s k) : Sz N (s * 256) (k + 1) := by
  have e1 : ∀ c, 4294967295 * 256 ^ (k + 1) * c ^ N = 256 * (4294967295 * 256 ^ k * c ^ N) := fun c => by
    rw [Nat.pow_succ, Nat.mul_comm (256 ^ k) 256, ← Nat.mul_assoc, Nat.mul_comm 4294967295 256, Nat.mul_assoc 256, Nat.mul_assoc 256]
  have e2 : s * 256 * 16384 ^ N = 256 * (s * 16384 ^ N) := by rw [Nat.mul_comm s 256, Nat.mul_assoc]
  refine ⟨?_, ?_⟩
  · rw [e1, e2]; exact Nat.mul_le_mul_left _ h.hi
  · rw [e1, e2]; exact Nat.mul_le_mul_left _ h.lo
theorem sz0 : Sz 0 4294967295 0 := ⟨by decide, by decide⟩
theorem pow_small {a b : Nat} (hab : a ≤ b) (h : b ^ 1000 < 2 * a ^ 1000) {N : Nat} (hN : N ≤ 1000) : b ^ N < 2 * a ^ N := by
  rcases Nat.lt_or_ge (b ^ N) (2 * a ^ N) with k | k
  · exact k
  · exfalso
    have h1 : a ^ (1000 - N) ≤ b ^ (1000 - N) := Nat.pow_le_pow_left hab _
    have h2 := Nat.mul_le_mul k h1
    rw [Nat.mul_assoc, ← Nat.pow_add, ← Nat.pow_add, show N + (1000 - N) = 1000 by omega] at h2
    omega
theorem Sz.len {N s k : Nat} (h : Sz N s k) (hN : N ≤ 1000) (h1 : 16777216 ≤ s) (h2 : s ≤ 4294967295) : N / 8 ≤ k + 1 ∧ k ≤ N / 8 := by
  have p1 : 8193 ^ N < 2 * 8192 ^ N := pow_small (by decide) (by decide +kernel) hN
  have p2 : 8192 ^ N < 2 * 8191 ^ N := pow_small (by decide) (by decide +kernel) hN
  have e : 16384 ^ N = 2 ^ N * 8192 ^ N := by rw [← Nat.mul_pow]
  have e256 : 256 ^ k = 2 ^ (8 * k) := by rw [Nat.pow_mul]
  have a1 := h.hi
  have a2 := h.lo
  rw [e, e256] at a1 a2
  have q : 0 < 8192 ^ N := Nat.pow_pos (by decide)
  have q' : 0 < 8191 ^ N := Nat.pow_pos (by decide)
  generalize 8192 ^ N = x at *
  generalize 8193 ^ N = y at *
  generalize 8191 ^ N = z at *
  have b1 : 2 ^ N < 2 ^ (8 * k + 9) := by
    have c1 : 16777216 * (2 ^ N * x) ≤ s * (2 ^ N * x) := Nat.mul_le_mul_right _ h1
    have c2 : 4294967295 * 2 ^ (8 * k) * y ≤ 4294967295 * 2 ^ (8 * k) * (2 * x) := Nat.mul_le_mul_left _ (by omega)
    rcases Nat.lt_or_ge (2 ^ N) (2 ^ (8 * k + 9)) with g | g
    · exact g
    · exfalso
      have c3 : 16777216 * (2 ^ (8 * k + 9) * x) ≤ 16777216 * (2 ^ N * x) := Nat.mul_le_mul_left _ (Nat.mul_le_mul_right _ g)
      have c4 : 2 ^ (8 * k + 9) * x = 512 * (2 ^ (8 * k) * x) := by rw [Nat.pow_add, Nat.mul_comm (2 ^ (8 * k)), Nat.mul_assoc]
      have c5 : 4294967295 * 2 ^ (8 * k) * (2 * x) = 8589934590 * (2 ^ (8 * k) * x) := by rw [Nat.mul_left_comm, ← Nat.mul_assoc, ← Nat.mul_assoc, ← Nat.mul_assoc]
      have c6 : 0 < 2 ^ (8 * k) * x := Nat.mul_pos (Nat.pow_pos (by decide)) q
      omega
  have b2 : 2 ^ (8 * k) < 2 ^ (N + 1) := by
    have c1 : s * (2 ^ N * x) ≤ 4294967295 * (2 ^ N * x) := Nat.mul_le_mul_right _ h2
    have c2 : 2 ^ N * x < 2 ^ N * (2 * z) := Nat.mul_lt_mul_of_pos_left p2 (Nat.pow_pos (by decide))
    have c3 : 4294967295 * 2 ^ (8 * k) * z = 4294967295 * (2 ^ (8 * k) * z) := Nat.mul_assoc _ _ _
    have c4 : 2 ^ N * (2 * z) = 2 ^ (N + 1) * z := by rw [Nat.pow_succ, Nat.mul_assoc]
    have c5 : 2 ^ (8 * k) * z < 2 ^ (N + 1) * z := by omega
    exact Nat.lt_of_mul_lt_mul_right c5
  have d1 := (Nat.pow_lt_pow_iff_right (by decide : 1 < 2)).1 b1
  have d2 := (Nat.pow_lt_pow_iff_right (by decide : 1 < 2)).1 b2
  omega

abbrev boF (b : Bool) : List Value := [B b]
theorem boW (b : Bool) : (boF b).length = 1 := rfl
@[simp] theorem len_bos (l : List Bool) : (recs boF l).length = l.length := by rw [recs_len boW]; omega
end Go.Proofs.Ytgooffiipnkmiaa
end
section
set_option linter.unusedVariables false
set_option linter.unusedSimpArgs false
set_option maxRecDepth 4000
namespace Go.Proofs.Ytgooffiipnkmiaa
open Go.Gh Go.RowKit

def val (l : List UInt8) : Nat := l.foldl (fun a c => a * 256 + c.toNat) 0
theorem foldl_val (l : List UInt8) : ∀ a : Nat, l.foldl (fun a c => a * 256 + c.toNat) a = a * 256 ^ l.length + val l := by
  induction l with
  | nil => intro a; simp [val]
  | cons c r ih =>
    intro a
    have h1 := ih (a * 256 + c.toNat)
    have h2 := ih (0 * 256 + c.toNat)
    simp only [List.foldl_cons, List.length_cons]
    rw [h1, show val (c :: r) = (0 * 256 + c.toNat) * 256 ^ r.length + val r from h2, Nat.pow_succ]
    rw [Nat.add_mul, Nat.zero_mul, Nat.zero_add, Nat.mul_assoc, Nat.mul_comm 256]
    omega
theorem val_app (l m : List UInt8) : val (l ++ m) = val l * 256 ^ m.length + val m := by
  show (l ++ m).foldl _ 0 = _
  rw [List.foldl_append, foldl_val m]; rfl
theorem val_one (c : UInt8) : val [c] = c.toNat := by simp [val]
theorem val_cons (c : UInt8) (l : List UInt8) : val (c :: l) = c.toNat * 256 ^ l.length + val l := by
  have := val_app [c] l
  rw [val_one] at this; exact this
theorem b8_nat {n : Int} (h : 0 ≤ n ∧ n < 256) : ((b8 n).toNat : Int) = n := b8_val h

/-- The lower end of an encoder's interval, in units of 256^-(4 + bytes). -/
def num' (e : Enc) : Int := (val e.out : Int) * 4294967296 + e.low
theorem fin_val {e : Enc} (h : 0 ≤ e.low ∧ e.low ≤ 4294967295) : (val (fin e) : Int) = num' e := by
  unfold fin num'
  rw [val_app]
  have h4 : val (tail4 e.low) = e.low.toNat := by
    unfold tail4
    rw [val_cons, val_cons, val_cons, val_one]
    have a1 := b8_nat (n := e.low / 16777216) (by omega)
    have a2 := b8_nat (n := e.low / 65536 % 256) (by omega)
    have a3 := b8_nat (n := e.low / 256 % 256) (by omega)
    have a4 := b8_nat (n := e.low % 256) (by omega)
    simp only [List.length_cons, List.length_nil]
    omega
  rw [h4, show (tail4 e.low).length = 4 from rfl]
  omega
end Go.Proofs.Ytgooffiipnkmiaa
end
section
set_option linter.unusedVariables false
set_option linter.unusedSimpArgs false
set_option maxRecDepth 4000
namespace Go.Proofs.Ytgooffiipnkmiaa
open Go.Gh Go.RowKit

theorem dbit_01 (d : Dec) (z : Int) : (dbit d z).2 = 0 ∨ (dbit d z).2 = 1 := by have := dbit_bit d z; omega
end Go.Proofs.Ytgooffiipnkmiaa
end
section
set_option linter.unusedVariables false
set_option linter.unusedSimpArgs false
set_option maxRecDepth 4000
namespace Go.Proofs.Ytgooffiipnkmiaa
open Go.Gh Go.RowKit

def ext (d : Dec) (c : UInt8) : Dec := ⟨d.rest ++ [c], d.code, d.size, d.missing, d.full⟩
end Go.Proofs.Ytgooffiipnkmiaa
end
section
set_option linter.unusedVariables false
set_option linter.unusedSimpArgs false
set_option maxRecDepth 4000
namespace Go.Proofs.Ytgooffiipnkmiaa
open Go.Gh Go.RowKit

/-- Steps that are put together. -/
def StI (base : SH) (l : List (Int × Int)) (v : Value) (p : SH) : Prop := (l = [] ∧ v = .slice none 0 0 ∧ p = base) ∨ ∃ A, v = gsl A 0 (2 * l.length) l.length 2 ∧ p = (A, ⟨recs stF l, false⟩) :: base
theorem StI.has {base p : SH} {l : List (Int × Int)} {v : Value} (s : StI base l v p) : Has p (recs stF l) 2 l.length v := by
  rcases s with ⟨rfl, rfl, rfl⟩ | ⟨A, rfl, rfl⟩
  · exact ⟨none, 0, rfl, fun h => absurd rfl h⟩
  · exact ⟨_, _, rfl, fun _ => ⟨A, false, _, rfl, .head⟩⟩
theorem StI.take {base p : SH} {l : List (Int × Int)} {v : Value} (s : StI base l v p) : Take p base := by
  rcases s with ⟨rfl, rfl, rfl⟩ | ⟨A, rfl, rfl⟩
  · exact .nil
  · exact .drop .nil
theorem StI.snoc {base : SH} {l : List (Int × Int)} {x : Int × Int} {A : Nat} : StI base (l ++ [x]) (gsl A 0 (2 * l.length + 1 * 2) (l.length + 1) 2) ((A, ⟨recs stF l ++ [I x.1, I x.2], false⟩) :: base) := by
  refine .inr ⟨A, gslE rfl rfl (by simp; omega) (by simp) rfl, ?_⟩
  rw [recs_snoc]
theorem StI.one {base : SH} {x : Int × Int} {A : Nat} : StI base ([] ++ [x]) (gsl A 0 (1 * 2) 1 2) ((A, ⟨[I x.1, I x.2], false⟩) :: base) := .inr ⟨A, rfl, rfl⟩
end Go.Proofs.Ytgooffiipnkmiaa
end
section
set_option linter.unusedVariables false
set_option linter.unusedSimpArgs false
set_option maxRecDepth 4000
namespace Go.Proofs.Ytgooffiipnkmiaa
open Go.Gh Go.RowKit

def pw (j : Nat) : Int := ((256 ^ j : Nat) : Int)
theorem pw_pos (j : Nat) : 0 < pw j := by
  have : 0 < 256 ^ j := Nat.pow_pos (by decide)
  unfold pw; omega
theorem pw_zero : pw 0 = 1 := rfl
theorem pw_add (i j : Nat) : pw (i + j) = pw i * pw j := by unfold pw; rw [Nat.pow_add, Int.natCast_mul]
/-- One interval within another. -/
def Within (e e' : Enc) : Prop := ∃ j, e'.out.length = e.out.length + j ∧ num' e * pw j ≤ num' e' ∧ num' e' + e'.size ≤ (num' e + e.size) * pw j
theorem Within.refl (e : Enc) : Within e e := ⟨0, rfl, by rw [pw_zero, Int.mul_one]; exact Int.le_refl _, by rw [pw_zero, Int.mul_one]; exact Int.le_refl _⟩
theorem Within.trans {e f g : Enc} (a : Within e f) (b : Within f g) : Within e g := by
  obtain ⟨i, a1, a2, a3⟩ := a
  obtain ⟨j, b1, b2, b3⟩ := b
  refine ⟨i + j, by omega, ?_, ?_⟩
  · rw [pw_add, ← Int.mul_assoc]
    exact Int.le_trans (Int.mul_le_mul_of_nonneg_right a2 (Int.le_of_lt (pw_pos j))) b2
  · rw [pw_add, ← Int.mul_assoc]
    exact Int.le_trans b3 (Int.mul_le_mul_of_nonneg_right a3 (Int.le_of_lt (pw_pos j)))
end Go.Proofs.Ytgooffiipnkmiaa
end
section
set_option linter.unusedVariables false
set_option linter.unusedSimpArgs false
set_option maxRecDepth 4000
namespace Go.Proofs.Ytgooffiipnkmiaa
open Go.Gh Go.RowKit

theorem four {D : List UInt8} (h : 4 ≤ D.length) : ∃ a b c d r, D = a :: b :: c :: d :: r := by
  match D, h with
  | a :: b :: c :: d :: r, _ => exact ⟨a, b, c, d, r, rfl⟩
end Go.Proofs.Ytgooffiipnkmiaa
end
section
set_option linter.unusedVariables false
set_option linter.unusedSimpArgs false
set_option maxRecDepth 4000
namespace Go.Proofs.Ytgooffiipnkmiaa
open Go.Gh Go.RowKit

/-- An end behind the encoder: the decoder's bytes are those of f. -/
structure Beh (D : List UInt8) (f : Enc) : Prop where
  len : D.length = f.out.length + 4
  val : (val D : Int) = num' f
  size : 0 < f.size
theorem Beh.fin {n : Nat} {f : Enc} (h : EncOk n f) : Beh (fin f) f := ⟨fin_len f, fin_val h.low, by have := h.size; omega⟩
theorem bit01 (v : Int) (k : Nat) : v / 2 ^ k % 2 = 0 ∨ v / 2 ^ k % 2 = 1 := by omega
end Go.Proofs.Ytgooffiipnkmiaa
end
section
set_option linter.unusedVariables false
set_option linter.unusedSimpArgs false
set_option maxRecDepth 4000
namespace Go.Proofs.Ytgooffiipnkmiaa
open Go.Gh Go.RowKit

theorem rNewTree_any (b : Nat) (h : SH) (hb : b ≤ 8) : SRun Try.prog 105 [I b] h fun r q =>
    ∃ A, r = gsl A 0 (2 ^ b) (2 ^ b) 1 ∧ q = (A, ⟨nodes (List.replicate (2 ^ b) 1024), false⟩) :: h := by
  obtain ⟨K, hK⟩ : ∃ K, K = 2 ^ b := ⟨_, rfl⟩
  have hK8 : K ≤ 256 := by rw [hK]; exact Nat.pow_le_pow_right (n := 2) (by decide) hb
  have hsh := shl_nat (m := 1) (b := b) (M := K) (by omega) hb (by omega)
  rw [← hK]
  refine w_body1 Try.func105 rfl rfl ?_
  repeat' (first | apply w_seq | apply w_region | apply o_nil | (apply o_g tyOk; exact rfl; exact rfl) | (apply o_buildSlice tyOk; (iterate 5 exact rfl); (focus (decide)); exact rfl; (focus (decide)); (focus (repeat (first | exact CatR.nil | exact CatR.last rfl | (apply CatR.one; exact rfl; exact rfl) | (apply CatR.agg; exact rfl)))); exact rfl) | apply thenS_normal | apply w_block | ((with_reducible apply Sd.mk); (first | exact True.intro | omega | (constructor <;> first | omega | (unfold maxLen; omega)) | (unfold maxLen; omega))) | intro A)
  refine w_loop (S := List Int) (fun x => [(0, I b), (3, gsl A 0 x.length x.length 1), (4, I x.length)]) (fun x => (A, ⟨nodes x, false⟩) :: h) (fun x => x.length ≤ K ∧ x = List.replicate x.length 1024) (fun x => K - x.length)
    [] ⟨Nat.zero_le _, rfl⟩ (by repeat' (first | exact trivial | refine ⟨rfl, ?_⟩ | refine ⟨congrArg some ?_, ?_⟩)) (by repeat (first | with_reducible exact Take.nil | with_reducible apply Take.c | with_reducible apply Take.drop)) ?_
  rintro x ⟨hx, he⟩
  have hlb : (nodes x).length = x.length := by simp
  by_cases hlt : x.length < K
  · repeat' (first | apply w_seq | apply w_region | apply o_nil | (apply o_g tyOk; exact rfl; exact rfl) | (apply o_ar tyOk; exact rfl; exact rfl) | (apply o_buildSlice tyOk; (iterate 5 exact rfl); (focus (decide)); exact rfl; (focus (decide)); (focus (repeat (first | exact CatR.nil | exact CatR.last rfl | (apply CatR.one; exact rfl; exact rfl) | (apply CatR.agg; exact rfl)))); exact rfl) | (apply o_append tyOk; (iterate 5 exact rfl); (focus (exact ⟨by decide⟩)); (focus (exact up)); (focus (exact pk))) | (apply w_dT; exact rfl; (focus (first | exact ‹_› | with_reducible exact rfl | omega))) | apply thenS_normal | apply blockS_normal | apply w_skip | apply w_block | ((with_reducible apply Sd.mk); (first | exact True.intro | omega | (constructor <;> first | omega | (unfold maxLen; omega)) | (unfold maxLen; omega))) | ((with_reducible apply Ln.mk); (first | rfl | exact ‹_› | omega | (simp [hlb]; first | done | omega))) | ((with_reducible apply Wr.mk); (first | (rw [Int.one_mul] at hsh; exact hsh) | exact hsh | exact IntWalk.i64_in _ (by omega) | exact IntWalk.u8_in _ (by omega) | exact IntWalk.u32_in _ (by omega) | exact IntWalk.u64_in _ (by omega) | exact IntKind.wrap_u8 _ | exact IntKind.wrap_u32 _ | rfl)) | ((with_reducible apply Su.mk); (first | exact subAt_all | exact subAt_recZ (fun _ => rfl) (by omega) | exact subAt_rec (fun _ => rfl) (by omega))) | exact True.intro | intro A | exact rfl)
    all_goals first
      | (exfalso; omega)
      | exact ⟨x ++ [1024], ⟨by rw [List.length_append, List.length_singleton]; omega, by rw [List.length_append, List.length_singleton, List.replicate_succ', ← he]⟩, by rw [List.length_append, List.length_singleton]; omega, ⟨rfl, congrArg some (gslE rfl rfl (by simp) (by simp) rfl), congrArg some (congrArg (Value.int .i64) (by simp)), trivial⟩, .consE (.tail .head) (blkE (by simp [nodes])) (.drop .nil)⟩
      | trace_state
  · repeat' (first | apply w_seq | apply w_region | apply o_nil | (apply o_g tyOk; exact rfl; exact rfl) | (apply o_ar tyOk; exact rfl; exact rfl) | (apply w_dF; exact rfl; (focus (first | exact ‹_› | with_reducible exact rfl | omega))) | apply thenS_normal | apply thenS_exit | apply blockS_exit | apply w_ret | apply w_exit | ((with_reducible apply Sd.mk); (first | exact True.intro | omega | (constructor <;> first | omega | (unfold maxLen; omega)) | (unfold maxLen; omega))) | ((with_reducible apply Wr.mk); (first | (rw [Int.one_mul] at hsh; exact hsh) | exact hsh | exact IntWalk.i64_in _ (by omega) | exact IntWalk.u8_in _ (by omega) | exact IntWalk.u32_in _ (by omega) | exact IntWalk.u64_in _ (by omega) | exact IntKind.wrap_u8 _ | exact IntKind.wrap_u32 _ | rfl)))
    all_goals first
      | (exfalso; omega)
      | (obtain rfl : x.length = K := by omega
         (apply s_fin; (exact (show ResS _ _ _ _ [_] from ⟨rfl, trivial⟩)); (focus (exact ⟨A, rfl, by rw [← he]⟩)); (focus (repeat (first | with_reducible exact Take.nil | with_reducible apply Take.c | with_reducible apply Take.drop)))))
      | trace_state
/-- A tree with a changed node. -/
theorem rset_any (A : Nat) (t : List Int) (m : Nat) (z : Int) (h h1 : SH) (hp : Pick h A ⟨nodes t, false⟩ h1) (hm : m < t.length) (hl : t.length ≤ 256) :
    SRun Try.prog 115 [gsl A 0 t.length t.length 1, I m, I z] h fun r q => ∃ B, r = gsl B 0 t.length t.length 1 ∧ q = (B, ⟨nodes (t.set m z), false⟩) :: h := by
  have hlb : (nodes t).length = t.length := by simp
  refine w_body3 Try.func115 rfl rfl ?_
  repeat' (first | apply w_seq | apply w_region | apply o_nil | (apply o_g tyOk; exact rfl; exact rfl) | (apply o_store tyOk; (iterate 4 exact rfl); (focus (exact up))) | (apply o_buildSlice tyOk; (iterate 5 exact rfl); (focus (decide)); exact rfl; (focus (decide)); (focus (repeat (first | exact CatR.nil | exact CatR.last rfl | (apply CatR.one; exact rfl; exact rfl) | (apply CatR.agg; exact rfl)))); exact rfl) | (apply o_append tyOk; (iterate 5 exact rfl); (focus (exact ⟨by decide⟩)); (focus (exact up)); (focus (exact pk))) | apply thenS_normal | apply w_ret | ((with_reducible apply Sd.mk); (first | exact True.intro | omega | (constructor <;> first | omega | (unfold maxLen; omega)) | (unfold maxLen; omega))) | ((with_reducible apply Ln.mk); (first | rfl | exact ‹_› | omega | (simp [hlb]; first | done | omega))) | ((with_reducible apply Se.mk); (first | (focus ((repeat (first | exact SetAt.zero | apply SetAt.succ)); done)) | exact setAt_bytes (by omega) (by omega) | exact setAt_mapZ (by omega) | exact setAt_map (by omega))) | ((with_reducible apply Su.mk); (first | exact subAt_all | exact subAt_recZ (fun _ => rfl) (by omega) | exact subAt_rec (fun _ => rfl) (by omega))) | exact all_map (fun _ => rfl) | exact True.intro | intro A | exact rfl)
  all_goals first
    | (exfalso; omega)
    | (apply s_fin; (exact (show ResS _ _ _ _ [_] from ⟨rfl, trivial⟩)); (focus (exact ⟨A, gslE rfl rfl (by simp) (by simp) rfl, rfl⟩)); (focus (repeat (first | with_reducible exact Take.nil | with_reducible apply Take.c | with_reducible apply Take.drop))))
    | trace_state
theorem nat_and_pow (n k : Nat) : n &&& 2 ^ k = (n.testBit k).toNat * 2 ^ k := by
  refine Nat.eq_of_testBit_eq fun i => ?_
  rw [Nat.testBit_and, Nat.testBit_two_pow]
  cases hb : n.testBit k with
  | false =>
    rw [show false.toNat * 2 ^ k = 0 from Nat.zero_mul _, Nat.zero_testBit]
    by_cases e : k = i
    · subst e; rw [hb]; rfl
    · rw [decide_eq_false e, Bool.and_false]
  | true =>
    rw [show true.toNat * 2 ^ k = 2 ^ k from Nat.one_mul _, Nat.testBit_two_pow]
    by_cases e : k = i
    · subst e; rw [hb]; rfl
    · rw [decide_eq_false e, Bool.and_false]
theorem and_pow (v : Int) {k : Nat} (hk : k < 63) : IntKind.i64.wrap ((BitVec.ofInt IntKind.i64.bits v &&& BitVec.ofInt IntKind.i64.bits (2 ^ k)).toNat : Int) = v / 2 ^ k % 2 * 2 ^ k := by
  have hp : (2 : Nat) ^ k < 2 ^ 63 := Nat.pow_lt_pow_right (by decide) hk
  have h63 : (2 : Nat) ^ 63 = 9223372036854775808 := rfl
  have e1 : BitVec.ofInt 64 ((2 : Int) ^ k) = BitVec.ofNat 64 (2 ^ k) := by
    rw [show ((2 : Int) ^ k) = ((2 ^ k : Nat) : Int) by simp, BitVec.ofInt_natCast]
  have e2 : ((BitVec.ofInt 64 v &&& BitVec.ofInt 64 (2 ^ k)).toNat) = ((BitVec.ofInt 64 v).toNat.testBit k).toNat * 2 ^ k := by
    rw [e1, BitVec.toNat_and, BitVec.toNat_ofNat, Nat.mod_eq_of_lt (by omega), nat_and_pow]
  have e3 : (((BitVec.ofInt 64 v).toNat.testBit k).toNat : Int) = v / 2 ^ k % 2 := by
    rw [Nat.testBit_eq_decide_div_mod_eq, BitVec.toNat_ofInt]
    have h1 : ((v % ((2 ^ 64 : Nat) : Int)).toNat : Int) = v % ((2 ^ 64 : Nat) : Int) := Int.toNat_of_nonneg (Int.emod_nonneg _ (by decide))
    have h2 : (((v % ((2 ^ 64 : Nat) : Int)).toNat / 2 ^ k % 2 : Nat) : Int) = v / 2 ^ k % 2 := by
      rw [Int.natCast_emod, Int.natCast_ediv, h1]
      have h3 : (2 ^ 64 : Nat) = 2 ^ k * (2 * 2 ^ (63 - k)) := by
        rw [← Nat.mul_assoc, ← Nat.pow_succ, ← Nat.pow_add]; congr 1; omega
      have h4 := Int.emod_add_mul_ediv v ((2 ^ 64 : Nat) : Int)
      generalize v / ((2 ^ 64 : Nat) : Int) = q at h4
      rw [h3] at h4 ⊢
      rw [Int.natCast_mul, Int.natCast_mul] at h4 ⊢
      generalize v % (((2 ^ k : Nat) : Int) * (((2 : Nat) : Int) * ((2 ^ (63 - k) : Nat) : Int))) = r at *
      have hpos : (0 : Int) < ((2 ^ k : Nat) : Int) := by have := Nat.two_pow_pos k; omega
      rw [show ((2 : Int) ^ k) = ((2 ^ k : Nat) : Int) by simp]
      generalize ((2 ^ k : Nat) : Int) = p at *
      generalize ((2 ^ (63 - k) : Nat) : Int) = w at *
      rw [← h4, Int.mul_assoc, Int.add_mul_ediv_left _ _ (by omega)]
      have : ((2 : Nat) : Int) * w * q = 2 * (w * q) := by rw [Int.mul_assoc]; rfl
      rw [this]
      have h2' : ((2 : Nat) : Int) = 2 := rfl
      rw [h2']
      omega
    rw [← h2]
    rcases (show (v % ((2 ^ 64 : Nat) : Int)).toNat / 2 ^ k % 2 = 0 ∨ (v % ((2 ^ 64 : Nat) : Int)).toNat / 2 ^ k % 2 = 1 by omega) with g | g <;> rw [g] <;> rfl
  show IntKind.i64.wrap _ = _
  have hb := bit01 v k
  rw [show IntKind.i64.bits = 64 from rfl, e2, Int.natCast_mul, e3]
  have hc : ((2 ^ k : Nat) : Int) = 2 ^ k := by simp
  rw [hc]
  refine IntWalk.i64_in _ ?_
  have : (0 : Int) < 2 ^ k := Int.pow_pos (by decide)
  rcases hb with hb | hb <;> rw [hb] <;> omega
end Go.Proofs.Ytgooffiipnkmiaa
end
section
set_option linter.unusedVariables false
set_option linter.unusedSimpArgs false
set_option maxRecDepth 4000
namespace Go.Proofs.Ytgooffiipnkmiaa
open Go.Gh Go.RowKit

theorem rReadDirect_any (d : Dec) (x : Int) (h : SH) (hok : DecOk d) (hx : 1 ≤ x ∧ x ≤ 62) : SRun Try.prog 118 [rdV d, I x] h fun r q => r = .tuple ⟨[rdV (ddir d x).1, I (ddir d x).2]⟩ ∧ q = h := by
  obtain ⟨m, rfl⟩ := Int.eq_ofNat_of_zero_le (show 0 ≤ x by omega)
  rw [show ddir d m = dbits m d 0 by unfold ddir; rw [if_neg (by omega), Int.toNat_natCast]]
  obtain ⟨R, hR⟩ : ∃ R, dbits m d 0 = R := ⟨_, rfl⟩
  rw [hR]
  refine w_body2 Try.func118 rfl rfl ?_
  repeat' (first | apply w_seq | apply w_region | apply o_nil | (apply o_g tyOk; exact rfl; exact rfl) | (apply o_alloc tyOk; iterate 5 exact rfl) | (apply o_box (tt := tyT); iterate 5 exact rfl) | apply thenS_normal | apply w_block | ((with_reducible apply Sd.mk); (first | exact True.intro | omega | (constructor <;> first | omega | (unfold maxLen; omega)) | (unfold maxLen; omega))) | intro A)
  rename_i A0
  refine w_loop (S := Nat × Dec × Int) (fun x => [(1, I m), (2, gptr A0 0 5), (4, gptr A 0 5), (6, I x.2.2), (7, I x.1)]) (fun x => (A, ⟨rdC ⟨[], 0, 0, false, false⟩, false⟩) :: (A0, ⟨rdC x.2.1, false⟩) :: h)
    (fun x => x.1 ≤ m ∧ DecOk x.2.1 ∧ (0 ≤ x.2.2 ∧ x.2.2 < 2 ^ x.1) ∧ dbits (m - x.1) x.2.1 x.2.2 = R) (fun x => m - x.1) (0, d, 0) ⟨Nat.zero_le _, hok, ⟨Int.le_refl 0, by show (0 : Int) < 2 ^ 0; decide⟩, hR⟩ (by repeat' (first | exact trivial | refine ⟨rfl, ?_⟩ | refine ⟨congrArg some ?_, ?_⟩)) (by repeat (first | with_reducible exact Take.nil | with_reducible apply Take.c | with_reducible apply Take.drop)) ?_
  rintro ⟨i, d, a⟩ ⟨hi, hok, ha, he⟩
  dsimp only at hi hok ha he ⊢
  by_cases him : i < m
  · have hb := dbit_01 d 1024
    have hp : (2 : Int) ^ (i + 1) ≤ 2 ^ 62 := by
      have : (2 : Nat) ^ (i + 1) ≤ 2 ^ 62 := Nat.pow_le_pow_right (by decide) (by omega)
      have e1 : ((2 : Int) ^ (i + 1)) = ((2 ^ (i + 1) : Nat) : Int) := by simp
      rw [e1]; have : (2 : Int) ^ 62 = ((2 ^ 62 : Nat) : Int) := by decide
      omega
    have hp2 : (2 : Int) ^ (i + 1) = 2 ^ i * 2 := Int.pow_succ _ _
    have h62 : (2 : Int) ^ 62 = 4611686018427387904 := by decide
    rw [show m - i = (m - (i + 1)) + 1 by omega] at he
    have he : dbits (m - (i + 1)) (dbit d 1024).1 (a * 2 + (dbit d 1024).2) = R := he
    have hok2 := dbit_ok hok 1024
    have hB := rRead_any d 1024
    generalize dbit d 1024 = X at *
    obtain ⟨d2, b⟩ := X
    dsimp only at *
    repeat' (first | apply w_seq | apply w_region | apply o_nil | (apply o_g tyOk; exact rfl; exact rfl) | (apply o_ar tyOk; exact rfl; exact rfl) | (apply o_loads tyOk; (iterate 3 exact rfl); (focus (exact pk))) | (apply o_stores tyOk; (iterate 4 exact rfl); (focus (exact ⟨rfl⟩)); (focus (exact up))) | (apply o_alloc tyOk; iterate 5 exact rfl) | (apply o_call; exact rfl; exact rfl; (focus (first | exact rfl | assumption)); exact rfl; (focus (exact ⟨_, hB _ hok, by repeat (first | with_reducible exact Take.nil | with_reducible apply Take.c | with_reducible apply Take.drop)⟩)); rintro _ _ ⟨rfl, rfl⟩) | (apply o_want; exact rfl; exact rfl) | (apply o_gT; (iterate 3 exact rfl); (focus (first | exact ‹_› | with_reducible exact rfl | omega))) | (apply w_dT; exact rfl; (focus (first | exact ‹_› | with_reducible exact rfl | omega))) | apply thenS_normal | apply blockS_normal | apply w_skip | apply w_block | ((with_reducible apply Sd.mk); (first | exact True.intro | omega | (constructor <;> first | omega | (unfold maxLen; omega)) | (unfold maxLen; omega))) | ((with_reducible apply Ln.mk); (first | rfl | exact ‹_› | omega | (simp ; first | done | omega))) | ((with_reducible apply Wr.mk); (first | exact IntWalk.i64_in _ (by omega) | exact IntWalk.u8_in _ (by omega) | exact IntWalk.u32_in _ (by omega) | exact IntWalk.u64_in _ (by omega) | exact IntKind.wrap_u8 _ | exact IntKind.wrap_u32 _ | rfl)) | ((with_reducible apply Pu.mk); (first | exact putAt_all rfl | exact putAt_recZ (fun _ => rfl) (by omega) | exact putAt_rec (fun _ => rfl) (by omega))) | ((with_reducible apply Su.mk); (first | exact subAt_all | exact subAt_recZ (fun _ => rfl) (by omega) | exact subAt_rec (fun _ => rfl) (by omega))) | exact True.intro | intro A | exact rfl)
    all_goals first
      | (exfalso; omega)
      | exact ⟨(i + 1, d2, a * 2 + b), ⟨him, hok2, by dsimp only; omega, he⟩, by show m - (i + 1) < m - i; omega, ⟨rfl, rfl, rfl, congrArg some (congrArg (Value.int .i64) (by show 2 * a + b = a * 2 + b; omega)), rfl, trivial⟩, (by repeat (first | with_reducible exact Take.nil | with_reducible apply Take.c | with_reducible apply Take.drop))⟩
      | trace_state
  · obtain rfl : i = m := by omega
    rw [Nat.sub_self] at he
    have he : (d, a) = R := he
    rw [← he]
    repeat' (first | apply w_seq | apply w_region | apply o_nil | (apply o_g tyOk; exact rfl; exact rfl) | (apply o_loads tyOk; (iterate 3 exact rfl); (focus (exact pk))) | (apply o_stores tyOk; (iterate 4 exact rfl); (focus (exact ⟨rfl⟩)); (focus (exact up))) | (apply o_skip; iterate 4 exact rfl) | (apply o_sF; (iterate 3 exact rfl); (focus (first | exact ‹_› | with_reducible exact rfl | omega)); exact rfl) | (apply w_false; exact rfl) | apply thenS_normal | apply thenS_exit | apply blockS_exit | apply w_ret | apply w_exit | ((with_reducible apply Sd.mk); (first | exact True.intro | omega | (constructor <;> first | omega | (unfold maxLen; omega)) | (unfold maxLen; omega))) | ((with_reducible apply Ln.mk); (first | rfl | exact ‹_› | omega | (simp ; first | done | omega))) | ((with_reducible apply Pu.mk); (first | exact putAt_all rfl | exact putAt_recZ (fun _ => rfl) (by omega) | exact putAt_rec (fun _ => rfl) (by omega))) | ((with_reducible apply Su.mk); (first | exact subAt_all | exact subAt_recZ (fun _ => rfl) (by omega) | exact subAt_rec (fun _ => rfl) (by omega))) | exact True.intro | exact rfl)
    all_goals first
      | (exfalso; omega)
      | (apply s_fin; (exact (show ResS _ _ _ _ [_, _] from (res_cell tyOk rfl rfl rfl (by exact pk) (by first | rfl | exact ‹_› | omega | (simp ; first | done | omega)) (by first | rfl | exact ‹_› | omega | (simp ; first | done | omega)) ⟨rfl, trivial⟩))); (focus (exact ⟨rfl, rfl⟩)); (focus (repeat (first | with_reducible exact Take.nil | with_reducible apply Take.c | with_reducible apply Take.drop))))
      | trace_state
/-- Half of a power of 2, as the program counts down. -/
def hpw : Nat → Nat
  | 0 => 0
  | k + 1 => 2 ^ k
theorem hpw_half (k : Nat) : ((hpw (k + 1) : Nat) : Int) / 2 = hpw k := by
  cases k with
  | zero => rfl
  | succ k => show ((2 ^ (k + 1) : Nat) : Int) / 2 = ((2 ^ k : Nat) : Int); rw [Nat.pow_succ]; omega
theorem hpw_le {k bits : Nat} (h : k ≤ bits) (hb : bits ≤ 8) : hpw k ≤ 128 := by
  cases k with
  | zero => exact Nat.zero_le _
  | succ k => exact Nat.pow_le_pow_right (n := 2) (j := 7) (by decide) (by omega)
theorem and_hpw (v : Int) {k : Nat} (hk : k < 63) : IntKind.i64.wrap ((BitVec.ofInt IntKind.i64.bits v &&& BitVec.ofInt IntKind.i64.bits ((hpw (k + 1) : Nat) : Int)).toNat : Int) = v / 2 ^ k % 2 * ((hpw (k + 1) : Nat) : Int) := by
  have hat : ((hpw (k + 1) : Nat) : Int) = 2 ^ k := by show ((2 ^ k : Nat) : Int) = _; simp
  rw [hat]
  exact and_pow v hk
theorem way_step {k j K b : Nat} (h1 : K ≤ 2 ^ (k + 1) * j) (h2 : 2 ^ (k + 1) * (j + 1) ≤ 2 * K) (hb : b ≤ 1) : K ≤ 2 ^ k * (2 * j + b) ∧ 2 ^ k * (2 * j + b + 1) ≤ 2 * K ∧ j < K := by
  rw [Nat.pow_succ, Nat.mul_assoc] at h1 h2
  have a1 := Nat.mul_le_mul_left (2 ^ k) (show 2 * j ≤ 2 * j + b by omega)
  have a2 := Nat.mul_le_mul_left (2 ^ k) (show 2 * j + b + 1 ≤ 2 * (j + 1) by omega)
  have a3 := Nat.mul_le_mul_right (2 * (j + 1)) (Nat.one_le_two_pow (n := k))
  exact ⟨Nat.le_trans h1 a1, Nat.le_trans a2 h2, by omega⟩
/-- A tree of the reference reads. -/
theorem rTDec_any (bits : Nat) (t : List Int) (d : Dec) (A0 : Nat) (h h1 : SH) (hp : Pick h A0 ⟨nodes t, false⟩ h1) (ht : t.length = 2 ^ bits) (hbits : 1 ≤ bits ∧ bits ≤ 8) (hok : DecOk d) :
    SRun Try.prog 81 [rdV d, gsl A0 0 t.length t.length 1] h fun r q =>
      ∃ B, r = .tuple ⟨[rdV (tdec bits t d 1).2.1, gsl B 0 t.length t.length 1, I (((tdec bits t d 1).2.2 : Int) - t.length)]⟩ ∧ q = (B, ⟨nodes (tdec bits t d 1).1, false⟩) :: h := by
  obtain ⟨K, hK⟩ : ∃ K, K = 2 ^ bits := ⟨_, rfl⟩
  have hK8 : K ≤ 256 := by rw [hK]; exact Nat.pow_le_pow_right (n := 2) (by decide) hbits.2
  obtain ⟨R, hR⟩ : ∃ R, tdec bits t d 1 = R := ⟨_, rfl⟩
  rw [hR]
  rw [← hK] at ht
  have ht0 := ht
  have hR2 : R.1.length = K := by rw [← hR, (tdec_ok hok).2.1, ht]
  refine w_body2 Try.func81 rfl rfl ?_
  repeat' (first | apply w_seq | apply w_region | apply o_nil | (apply o_g tyOk; exact rfl; exact rfl) | (apply o_alloc tyOk; iterate 5 exact rfl) | (apply o_box (tt := tyT); iterate 5 exact rfl) | apply thenS_normal | apply w_block | ((with_reducible apply Sd.mk); (first | exact True.intro | omega | (constructor <;> first | omega | (unfold maxLen; omega)) | (unfold maxLen; omega))) | intro A)
  rename_i D0
  refine w_loop (S := Nat × Nat × List Int × Dec × Nat × SH) (fun x => [(1, gsl x.2.2.2.2.1 0 x.2.2.1.length x.2.2.1.length 1), (2, gptr D0 0 5), (4, gptr A 0 5), (7, I x.2.1)]) (fun x => (A, ⟨rdC ⟨[], 0, 0, false, false⟩, false⟩) :: (D0, ⟨rdC x.2.2.2.1, false⟩) :: x.2.2.2.2.2)
    (fun x => x.1 ≤ bits ∧ (K ≤ 2 ^ x.1 * x.2.1 ∧ 2 ^ x.1 * (x.2.1 + 1) ≤ 2 * K) ∧ x.2.2.1.length = K ∧ DecOk x.2.2.2.1 ∧ (∃ h2, Pick x.2.2.2.2.2 x.2.2.2.2.1 ⟨nodes x.2.2.1, false⟩ h2) ∧ (x.1 < bits → x.2.2.2.2.2 = (x.2.2.2.2.1, ⟨nodes x.2.2.1, false⟩) :: h) ∧ (x.1 = bits → x.2.2.2.2.2 = h) ∧ tdec x.1 x.2.2.1 x.2.2.2.1 x.2.1 = R) (fun x => x.1)
    (bits, 1, t, d, A0, h) ⟨Nat.le_refl _, ⟨by show K ≤ 2 ^ bits * 1; omega, by show 2 ^ bits * 2 ≤ 2 * K; omega⟩, ht, hok, ⟨_, hp⟩, fun g => absurd g (Nat.lt_irrefl _), fun _ => rfl, hR⟩ (by repeat' (first | exact trivial | refine ⟨rfl, ?_⟩ | refine ⟨congrArg some ?_, ?_⟩)) (by repeat (first | with_reducible exact Take.nil | with_reducible apply Take.c | with_reducible apply Take.drop)) ?_
  rintro ⟨k, j, t, d, B, q⟩ ⟨hk, ⟨hj1, hj2⟩, ht, hok, ⟨h2, hp2⟩, hq1, hq2, he⟩
  dsimp only at hk hj1 hj2 ht hok hp2 hq1 hq2 he ⊢
  have hlb : (nodes t).length = t.length := by simp
  cases k with
  | zero =>
    have hj : K ≤ j := by rw [Nat.pow_zero, Nat.one_mul] at hj1; exact hj1
    have he : (t, d, j) = R := he
    rw [← he]
    rw [hq1 (by omega)]
    repeat' (first | apply w_seq | apply w_region | apply o_nil | (apply o_g tyOk; exact rfl; exact rfl) | (apply o_ar tyOk; exact rfl; exact rfl) | (apply o_loads tyOk; (iterate 3 exact rfl); (focus (exact pk))) | (apply o_stores tyOk; (iterate 4 exact rfl); (focus (exact ⟨rfl⟩)); (focus (exact up))) | (apply w_dF; exact rfl; (focus (first | exact ‹_› | with_reducible exact rfl | omega))) | apply thenS_normal | apply thenS_exit | apply blockS_exit | apply w_ret | apply w_exit | ((with_reducible apply Sd.mk); (first | exact True.intro | omega | (constructor <;> first | omega | (unfold maxLen; omega)) | (unfold maxLen; omega))) | ((with_reducible apply Ln.mk); (first | rfl | exact ‹_› | omega | (simp ; first | done | omega))) | ((with_reducible apply Wr.mk); (first | exact IntWalk.i64_in _ (by omega) | exact IntWalk.u8_in _ (by omega) | exact IntWalk.u32_in _ (by omega) | exact IntWalk.u64_in _ (by omega) | exact IntKind.wrap_u8 _ | exact IntKind.wrap_u32 _ | rfl)) | ((with_reducible apply Pu.mk); (first | exact putAt_all rfl | exact putAt_recZ (fun _ => rfl) (by omega) | exact putAt_rec (fun _ => rfl) (by omega))) | ((with_reducible apply Su.mk); (first | exact subAt_all | exact subAt_recZ (fun _ => rfl) (by omega) | exact subAt_rec (fun _ => rfl) (by omega))) | exact True.intro | exact rfl)
    all_goals first
      | (exfalso; omega)
      | (apply s_fin; (exact (show ResS _ _ _ _ [_, _, _] from (res_cell tyOk rfl rfl rfl (by exact pk) (by first | rfl | exact ‹_› | omega | (simp ; first | done | omega)) (by first | rfl | exact ‹_› | omega | (simp ; first | done | omega)) ⟨rfl, ⟨rfl, trivial⟩⟩))); (focus (exact ⟨B, by show Value.tuple _ = Value.tuple _; rw [ht, ht0], rfl⟩)); (focus (repeat (first | with_reducible exact Take.nil | with_reducible apply Take.c | with_reducible apply Take.drop))))
      | trace_state
  | succ k =>
    obtain ⟨s1, s2, s3⟩ := way_step (b := (dbit d t[j]!).2.toNat) hj1 hj2 (by have := dbit_01 d t[j]!; omega)
    have hcl : (nodes t)[0 + ((j : Int)).toNat * 1]? = some (I t[j]!) := cell_mapZ (by omega)
    have hb := dbit_01 d t[j]!
    have hok2 := dbit_ok hok t[j]!
    have hB := rRead_any d t[j]!
    have he : tdec k (t.set j (adp t[j]! (dbit d t[j]!).2)) (dbit d t[j]!).1 (2 * j + (dbit d t[j]!).2.toNat) = R := he
    have tq : Take q h := by
      by_cases g : k + 1 = bits
      · rw [hq2 g]; exact .nil
      · rw [hq1 (by omega)]; exact .drop .nil
    generalize dbit d t[j]! = X at *
    obtain ⟨d2, b⟩ := X
    dsimp only at *
    have hS := rset_any B t j (adp t[j]! b)
    have hA := Adapt_any
    repeat' (first | apply w_seq | apply w_region | apply o_nil | (apply w_draw; (focus (kernel_rfl)); (focus (kernel_rfl))) | (apply o_g tyOk; exact rfl; exact rfl) | (apply o_ar tyOk; exact rfl; exact rfl) | (apply o_load tyOk; (iterate 3 exact rfl); (focus (exact pk))) | (apply o_loads tyOk; (iterate 3 exact rfl); (focus (exact pk))) | (apply o_stores tyOk; (iterate 4 exact rfl); (focus (exact ⟨rfl⟩)); (focus (exact up))) | (apply o_alloc tyOk; iterate 5 exact rfl) | (apply o_callD; (iterate 4 exact rfl); (focus (exact ⟨_, hB _ hok, by repeat (first | with_reducible exact Take.nil | with_reducible apply Take.c | with_reducible apply Take.drop)⟩)); (focus (exact fun _ _ h => h.1)); (focus ((repeat (first | exact Flat.c rfl | apply flat_tuple | apply flat_agg | exact FlatL.nil | apply FlatL.cons))))) | (apply o_call; exact rfl; exact rfl; (focus (first | exact rfl | assumption)); exact rfl; (focus (exact ⟨_, rAdapt_any _ _ _, by repeat (first | with_reducible exact Take.nil | with_reducible apply Take.c | with_reducible apply Take.drop)⟩)); rintro _ _ ⟨rfl, rfl⟩) | (apply o_call; exact rfl; exact rfl; (focus (first | exact rfl | assumption)); exact rfl; (focus (exact ⟨_, hS _ _ (.tail (.tail (.tail hp2))) (by omega) (by omega), by repeat (first | with_reducible exact Take.nil | with_reducible apply Take.c | with_reducible apply Take.drop)⟩)); rintro _ _ ⟨B2, rfl, rfl⟩) | (apply w_dT; exact rfl; (focus (first | exact ‹_› | with_reducible exact rfl | omega))) | apply thenS_normal | apply blockS_normal | apply w_skip | apply w_block | ((with_reducible apply Sd.mk); (first | exact True.intro | omega | (constructor <;> first | omega | (unfold maxLen; omega)) | (unfold maxLen; omega))) | ((with_reducible apply Ln.mk); (first | rfl | exact ‹_› | omega | (simp [hlb]; first | done | omega))) | ((with_reducible apply Wr.mk); (first | exact IntWalk.i64_in _ (by omega) | exact IntWalk.u8_in _ (by omega) | exact IntWalk.u32_in _ (by omega) | exact IntWalk.u64_in _ (by omega) | exact IntKind.wrap_u8 _ | exact IntKind.wrap_u32 _ | rfl)) | ((with_reducible apply Ce.mk); (first | rfl | exact ‹_› | exact hcl | exact cell_recZ (fun _ => rfl) (by omega) (by decide) rfl | exact cell_rec (fun _ => rfl) (by omega) (by decide) rfl | exact cell_bytes (by omega) | exact cell_mapZ (by omega) | exact cell_map (by omega))) | ((with_reducible apply Pu.mk); (first | exact putAt_all rfl | exact putAt_recZ (fun _ => rfl) (by omega) | exact putAt_rec (fun _ => rfl) (by omega))) | ((with_reducible apply Su.mk); (first | exact subAt_all | exact subAt_recZ (fun _ => rfl) (by omega) | exact subAt_rec (fun _ => rfl) (by omega))) | exact True.intro | exact Or.inl rfl | apply And.intro | intro A | exact rfl)
    all_goals first
      | (exfalso; omega)
      | exact ⟨(k, 2 * j + b.toNat, t.set j (adp t[j]! b), d2, B2, (B2, ⟨nodes (t.set j (adp t[j]! b)), false⟩) :: h), ⟨by show k ≤ bits; omega, ⟨s1, s2⟩, by rw [List.length_set]; exact ht, hok2, ⟨_, .head⟩, fun _ => rfl, fun g => by dsimp only at g; omega, he⟩, Nat.lt_succ_self _,
          ⟨congrArg some (gslE rfl rfl (by simp) (by simp) rfl), rfl, rfl, congrArg some (congrArg (Value.int .i64) (by show 2 * (j : Int) + b = ((2 * j + b.toNat : Nat) : Int); omega)), trivial⟩, .cons (.tail (.tail .head)) (.cons (.tail (.tail .head)) (.cons .head (.drop tq)))⟩
      | trace_state
end Go.Proofs.Ytgooffiipnkmiaa
end
section
set_option linter.unusedVariables false
set_option linter.unusedSimpArgs false
set_option maxRecDepth 4000
namespace Go.Proofs.Ytgooffiipnkmiaa
open Go.Gh Go.RowKit

def dfr (v : Int) : Nat → Enc → Bool
  | 0, _ => false
  | k + 1, e => fresh e 1024 (v / 2 ^ k % 2) || dfr v k (ebit e 1024 (v / 2 ^ k % 2))
def tfr (v : Int) : Nat → List Int → Enc → Nat → Bool
  | 0, _, _, _ => false
  | k + 1, t, e, j => fresh e t[j]! (v / 2 ^ k % 2) || tfr v k (t.set j (adp t[j]! (v / 2 ^ k % 2))) (ebit e t[j]! (v / 2 ^ k % 2)) (2 * j + (v / 2 ^ k % 2).toNat)
theorem ROut.comp {h q1 q2 : SH} {o o1 o2 : List UInt8} {v v1 v2 : Value} {f1 f2 : Bool} (r1 : ROut h o v f1 o1 v1 q1) (r2 : ROut q1 o1 v1 f2 o2 v2 q2) : ∃ q3, ROut h o v (f1 || f2) o2 v2 q3 ∧ Take q2 q3 := by
  cases r2 with
  | same => exact ⟨q1, by rw [Bool.or_false]; exact r1, .nil⟩
  | new o A => exact ⟨_, by rw [Bool.or_true]; exact .new o2 A, .cons .head r1.take⟩
theorem rDirect_any (x v : Int) (e : Enc) (w : Value) (h : SH) (hv : RO h e.out w) (hok : EncOk 900000 e) (hx : 1 ≤ x ∧ x ≤ 62) :
    SRun Try.prog 125 [reV w e.low e.size, I x, I v] h fun r q => ∃ w', r = reV w' (edir e x v).low (edir e x v).size ∧ ROut h e.out w (dfr v x.toNat e) (edir e x v).out w' q := by
  obtain ⟨m, rfl⟩ := Int.eq_ofNat_of_zero_le (show 0 ≤ x by omega)
  rw [show edir e m v = ebits v m e by unfold edir; rw [if_neg (by omega), Int.toNat_natCast], Int.toNat_natCast]
  obtain ⟨E, hE⟩ : ∃ E, ebits v m e = E := ⟨_, rfl⟩
  obtain ⟨F, hF⟩ : ∃ F, dfr v m e = F := ⟨_, rfl⟩
  rw [hE, hF]
  obtain ⟨o0, ho0⟩ : ∃ o0, o0 = e.out := ⟨_, rfl⟩
  rw [← ho0] at hv ⊢
  refine w_body3 Try.func125 rfl rfl ?_
  repeat' (first | apply w_seq | apply w_region | apply o_nil | (apply o_g tyOk; exact rfl; exact rfl) | (apply o_ar tyOk; exact rfl; exact rfl) | (apply o_alloc tyOk; iterate 5 exact rfl) | (apply o_box (tt := tyT); iterate 5 exact rfl) | (apply o_want; exact rfl; exact rfl) | (apply w_dF; exact rfl; (focus (first | exact ‹_› | with_reducible exact rfl | omega))) | apply thenS_normal | apply w_skip | apply w_block | ((with_reducible apply Sd.mk); (first | exact True.intro | omega | (constructor <;> first | omega | (unfold maxLen; omega)) | (unfold maxLen; omega))) | ((with_reducible apply Wr.mk); (first | exact IntWalk.i64_in _ (by omega) | exact IntWalk.u8_in _ (by omega) | exact IntWalk.u32_in _ (by omega) | exact IntWalk.u64_in _ (by omega) | exact IntKind.wrap_u8 _ | exact IntKind.wrap_u32 _ | rfl)) | intro A)
  all_goals first | (exfalso; omega) | skip
  rename_i A0
  refine w_loop (S := Nat × Enc × Value × Bool × SH × Nat) (fun x => [(2, I v), (3, gptr A0 0 3), (6, gptr A 0 3), (7, I ((x.1 : Int) - 1))]) (fun x => (A, ⟨reC (.slice none 0 0) 0 0, false⟩) :: (A0, ⟨reC x.2.2.1 x.2.1.low x.2.1.size, false⟩) :: x.2.2.2.2.1)
    (fun x => x.1 ≤ m ∧ EncOk x.2.2.2.2.2 x.2.1 ∧ x.2.2.2.2.2 + 2 * x.1 ≤ 999000 ∧ ROut h o0 w x.2.2.2.1 x.2.1.out x.2.2.1 x.2.2.2.2.1 ∧ ebits v x.1 x.2.1 = E ∧ (x.2.2.2.1 || dfr v x.1 x.2.1) = F) (fun x => x.1)
    (m, e, w, false, h, 900000) ⟨Nat.le_refl _, hok, by show 900000 + 2 * m ≤ 999000; omega, by rw [ho0]; exact .same, hE, hF⟩ (by repeat' (first | exact trivial | refine ⟨rfl, ?_⟩ | refine ⟨congrArg some ?_, ?_⟩)) (by repeat (first | with_reducible exact Take.nil | with_reducible apply Take.c | with_reducible apply Take.drop)) ?_
  rintro ⟨k, e, w1, fr, q, n⟩ ⟨hk, hok, hn, hro, he, hf⟩
  dsimp only at hk hok hn hro he hf ⊢
  have hro1 := hro.ro hv
  cases k with
  | zero =>
    have he : e = E := he
    have hf : (fr || false) = F := hf
    rw [Bool.or_false] at hf
    subst he hf
    rcases id hro1 with ⟨e0, rfl⟩ | ⟨A1, p2, rfl, hp2⟩
    all_goals
      repeat' (first | apply w_seq | apply w_region | apply o_nil | (apply o_g tyOk; exact rfl; exact rfl) | (apply o_loads tyOk; (iterate 3 exact rfl); (focus (exact pk))) | (apply o_stores tyOk; (iterate 4 exact rfl); (focus (exact ⟨rfl⟩)); (focus (exact up))) | (apply w_false; exact rfl) | apply thenS_normal | apply thenS_exit | apply blockS_exit | apply w_ret | apply w_exit | ((with_reducible apply Sd.mk); (first | exact True.intro | omega | (constructor <;> first | omega | (unfold maxLen; omega)) | (unfold maxLen; omega))) | ((with_reducible apply Ln.mk); (first | rfl | exact ‹_› | omega | (simp ; first | done | omega))) | ((with_reducible apply Pu.mk); (first | exact putAt_all rfl | exact putAt_recZ (fun _ => rfl) (by omega) | exact putAt_rec (fun _ => rfl) (by omega))) | ((with_reducible apply Su.mk); (first | exact subAt_all | exact subAt_recZ (fun _ => rfl) (by omega) | exact subAt_rec (fun _ => rfl) (by omega))) | exact True.intro | exact rfl)
      all_goals first
        | (exfalso; omega)
        | (apply s_fin; (exact (show ResS _ _ _ _ [_] from (res_cell tyOk rfl rfl rfl (by exact pk) (by first | rfl | exact ‹_› | omega | (simp ; first | done | omega)) (by first | rfl | exact ‹_› | omega | (simp ; first | done | omega)) trivial))); (focus (exact ⟨_, rfl, hro⟩)); (focus (repeat (first | with_reducible exact Take.nil | with_reducible apply Take.c | with_reducible apply Take.drop))))
        | trace_state
  | succ k =>
    rw [show ((k + 1 : Nat) : Int) - 1 = (k : Int) by omega]
    have he : ebits v k (ebit e 1024 (v / 2 ^ k % 2)) = E := he
    have hf : (fr || (fresh e 1024 (v / 2 ^ k % 2) || dfr v k (ebit e 1024 (v / 2 ^ k % 2)))) = F := hf
    have hok2 := ebit_ok hok 1024 (v / 2 ^ k % 2)
    cases hfr : fresh e 1024 (v / 2 ^ k % 2) with
    | false =>
      rw [hfr, Bool.false_or] at hf
      obtain ⟨hout, hB⟩ := rBit_old e 1024 (v / 2 ^ k % 2) w1 ((A, ⟨reC (.slice none 0 0) 0 0, false⟩) :: (A0, ⟨reC w1 e.low e.size, false⟩) :: q) (hro1.re (.drop (.drop .nil))) (hok.mono (by omega)) hfr
      rcases id hro1 with ⟨e0, rfl⟩ | ⟨A1, p2, rfl, hp2⟩
      all_goals
        repeat' (first | apply w_seq | apply w_region | apply o_nil | (apply w_draw; (focus (kernel_rfl)); (focus (kernel_rfl))) | (apply o_g tyOk; exact rfl; exact rfl) | (apply o_ar tyOk; exact rfl; exact rfl) | (apply o_ex; exact rfl; exact rfl) | (apply o_loads tyOk; (iterate 3 exact rfl); (focus (exact pk))) | (apply o_stores tyOk; (iterate 4 exact rfl); (focus (exact ⟨rfl⟩)); (focus (exact up))) | (apply o_callE0; (iterate 4 exact rfl); (focus (exact ⟨hB, by repeat (first | with_reducible exact Take.nil | with_reducible apply Take.c | with_reducible apply Take.drop)⟩)); (focus (first | exact List.Perm.refl _ | (simp; done) | exact List.Perm.swap _ _ _)); (focus ((intro ρ D hρ hD; refine ⟨?_, ?_⟩; (focus (repeat (first | exact VR.const rfl | (apply VR.ptr'; (focus (first | exact e1 | exact e2 | exact e3 | ((apply rho_pick hρ); (exact pk)))); (focus (first | exact d1 | exact d2 | exact d3 | ((apply dom_pick hD); (exact pk))))) | (apply VR.slc'; (focus (first | exact e1 | exact e2 | exact e3 | ((apply rho_pick hρ); (exact pk)))); (focus (first | exact d1 | exact d2 | exact d3 | ((apply dom_pick hD); (exact pk))))) | exact VR.sdead | apply VRs.tuple | apply VRs.agg | exact VRs.nil | ((apply VRs.const); (focus (first | exact bytesV_const _ | exact map_const (fun _ => rfl) | exact recs_const (fun _ v hv => by simp only [List.mem_cons, List.not_mem_nil, or_false] at hv; rcases hv with rfl | rfl | rfl | rfl | rfl <;> rfl)))) | apply VRs.cons))); (focus (repeat (first | exact SHR.nil | ((apply SHR.same); (focus (intro x hx; (repeat (first | exact hx | apply List.mem_cons_of_mem)); done))) | ((apply SHR.keep); (focus ((repeat (first | with_reducible exact List.mem_cons_self | apply List.mem_cons_of_mem)); done))) | (apply SHR.cons; (focus (first | exact e1 | exact e2 | exact e3 | ((apply rho_pick hρ); (exact pk)))); (focus (repeat (first | exact VR.const rfl | (apply VR.ptr'; (focus (first | exact e1 | exact e2 | exact e3 | ((apply rho_pick hρ); (exact pk)))); (focus (first | exact d1 | exact d2 | exact d3 | ((apply dom_pick hD); (exact pk))))) | (apply VR.slc'; (focus (first | exact e1 | exact e2 | exact e3 | ((apply rho_pick hρ); (exact pk)))); (focus (first | exact d1 | exact d2 | exact d3 | ((apply dom_pick hD); (exact pk))))) | exact VR.sdead | apply VRs.tuple | apply VRs.agg | exact VRs.nil | ((apply VRs.const); (focus (first | exact bytesV_const _ | exact map_const (fun _ => rfl) | exact recs_const (fun _ v hv => by simp only [List.mem_cons, List.not_mem_nil, or_false] at hv; rcases hv with rfl | rfl | rfl | rfl | rfl <;> rfl)))) | apply VRs.cons))))))))))) | (apply w_true; exact rfl) | apply thenS_normal | apply blockS_normal | apply w_skip | apply w_block | ((with_reducible apply Sd.mk); (first | exact True.intro | omega | (constructor <;> first | omega | (unfold maxLen; omega)) | (unfold maxLen; omega))) | ((with_reducible apply Ln.mk); (first | rfl | exact ‹_› | omega | (simp ; first | done | omega))) | ((with_reducible apply Wr.mk); (first | exact w_and1 _ | exact IntWalk.i64_in _ (by omega) | exact IntWalk.u8_in _ (by omega) | exact IntWalk.u32_in _ (by omega) | exact IntWalk.u64_in _ (by omega) | exact IntKind.wrap_u8 _ | exact IntKind.wrap_u32 _ | rfl)) | ((with_reducible apply Ex.mk); (first | exact Int.tmod_eq_emod_of_nonneg (by omega) | exact ex_shrk (by omega) | rfl)) | ((with_reducible apply Pu.mk); (first | exact putAt_all rfl | exact putAt_recZ (fun _ => rfl) (by omega) | exact putAt_rec (fun _ => rfl) (by omega))) | ((with_reducible apply Su.mk); (first | exact subAt_all | exact subAt_recZ (fun _ => rfl) (by omega) | exact subAt_rec (fun _ => rfl) (by omega))) | exact True.intro | exact Or.inl rfl | apply And.intro | exact rfl)
        all_goals first
          | (exfalso; omega)
          | exact ⟨(k, ebit e 1024 (v / 2 ^ k % 2), _, fr, q, n + 2), ⟨by show k ≤ m; omega, hok2, by show n + 2 + 2 * k ≤ 999000; omega, by rw [hout]; exact hro, he, hf⟩, Nat.lt_succ_self _, (by repeat' (first | exact trivial | refine ⟨rfl, ?_⟩ | refine ⟨congrArg some ?_, ?_⟩)), (by repeat (first | with_reducible exact Take.nil | with_reducible apply Take.c | with_reducible apply Take.drop))⟩
          | trace_state
    | true =>
      rw [hfr, Bool.true_or, Bool.or_true] at hf
      have hB := rBit_new e 1024 (v / 2 ^ k % 2) w1 ((A, ⟨reC (.slice none 0 0) 0 0, false⟩) :: (A0, ⟨reC w1 e.low e.size, false⟩) :: q) (hro1.re (.drop (.drop .nil))) (hok.mono (by omega)) hfr
      repeat' (first | apply w_seq | apply w_region | apply o_nil | (apply w_draw; (focus (kernel_rfl)); (focus (kernel_rfl))) | (apply o_g tyOk; exact rfl; exact rfl) | (apply o_ar tyOk; exact rfl; exact rfl) | (apply o_ex; exact rfl; exact rfl) | (apply o_loads tyOk; (iterate 3 exact rfl); (focus (exact pk))) | (apply o_stores tyOk; (iterate 4 exact rfl); (focus (exact ⟨rfl⟩)); (focus (exact up))) | (apply o_callE1; (iterate 4 exact rfl); (focus (exact ⟨hB, by repeat (first | with_reducible exact Take.nil | with_reducible apply Take.c | with_reducible apply Take.drop)⟩)); (focus ((intro _; (first | exact List.Perm.refl _ | (simp; done) | exact List.Perm.swap _ _ _)))); (focus ((intro A1 A2 ρ D e1 d1 hρ hD; refine ⟨?_, ?_⟩; (focus (repeat (first | exact VR.const rfl | (apply VR.ptr'; (focus (first | exact e1 | exact e2 | exact e3 | ((apply rho_pick hρ); (exact pk)))); (focus (first | exact d1 | exact d2 | exact d3 | ((apply dom_pick hD); (exact pk))))) | (apply VR.slc'; (focus (first | exact e1 | exact e2 | exact e3 | ((apply rho_pick hρ); (exact pk)))); (focus (first | exact d1 | exact d2 | exact d3 | ((apply dom_pick hD); (exact pk))))) | exact VR.sdead | apply VRs.tuple | apply VRs.agg | exact VRs.nil | ((apply VRs.const); (focus (first | exact bytesV_const _ | exact map_const (fun _ => rfl) | exact recs_const (fun _ v hv => by simp only [List.mem_cons, List.not_mem_nil, or_false] at hv; rcases hv with rfl | rfl | rfl | rfl | rfl <;> rfl)))) | apply VRs.cons))); (focus (repeat (first | exact SHR.nil | ((apply SHR.same); (focus (intro x hx; (repeat (first | exact hx | apply List.mem_cons_of_mem)); done))) | ((apply SHR.keep); (focus ((repeat (first | with_reducible exact List.mem_cons_self | apply List.mem_cons_of_mem)); done))) | (apply SHR.cons; (focus (first | exact e1 | exact e2 | exact e3 | ((apply rho_pick hρ); (exact pk)))); (focus (repeat (first | exact VR.const rfl | (apply VR.ptr'; (focus (first | exact e1 | exact e2 | exact e3 | ((apply rho_pick hρ); (exact pk)))); (focus (first | exact d1 | exact d2 | exact d3 | ((apply dom_pick hD); (exact pk))))) | (apply VR.slc'; (focus (first | exact e1 | exact e2 | exact e3 | ((apply rho_pick hρ); (exact pk)))); (focus (first | exact d1 | exact d2 | exact d3 | ((apply dom_pick hD); (exact pk))))) | exact VR.sdead | apply VRs.tuple | apply VRs.agg | exact VRs.nil | ((apply VRs.const); (focus (first | exact bytesV_const _ | exact map_const (fun _ => rfl) | exact recs_const (fun _ v hv => by simp only [List.mem_cons, List.not_mem_nil, or_false] at hv; rcases hv with rfl | rfl | rfl | rfl | rfl <;> rfl)))) | apply VRs.cons))))))))))) | (apply w_true; exact rfl) | apply thenS_normal | apply blockS_normal | apply w_skip | apply w_block | ((with_reducible apply Sd.mk); (first | exact True.intro | omega | (constructor <;> first | omega | (unfold maxLen; omega)) | (unfold maxLen; omega))) | ((with_reducible apply Ln.mk); (first | rfl | exact ‹_› | omega | (simp ; first | done | omega))) | ((with_reducible apply Wr.mk); (first | exact w_and1 _ | exact IntWalk.i64_in _ (by omega) | exact IntWalk.u8_in _ (by omega) | exact IntWalk.u32_in _ (by omega) | exact IntWalk.u64_in _ (by omega) | exact IntKind.wrap_u8 _ | exact IntKind.wrap_u32 _ | rfl)) | ((with_reducible apply Ex.mk); (first | exact Int.tmod_eq_emod_of_nonneg (by omega) | exact ex_shrk (by omega) | rfl)) | ((with_reducible apply Pu.mk); (first | exact putAt_all rfl | exact putAt_recZ (fun _ => rfl) (by omega) | exact putAt_rec (fun _ => rfl) (by omega))) | ((with_reducible apply Su.mk); (first | exact subAt_all | exact subAt_recZ (fun _ => rfl) (by omega) | exact subAt_rec (fun _ => rfl) (by omega))) | exact True.intro | exact Or.inl rfl | apply And.intro | intro A | exact rfl)
      all_goals first
        | (exfalso; omega)
        | exact ⟨(k, ebit e 1024 (v / 2 ^ k % 2), _, true, _, n + 2), ⟨by show k ≤ m; omega, hok2, by show n + 2 + 2 * k ≤ 999000; omega, .new _ _, he, by rw [Bool.true_or]; exact hf⟩, Nat.lt_succ_self _, (by repeat' (first | exact trivial | refine ⟨rfl, ?_⟩ | refine ⟨congrArg some ?_, ?_⟩)), .cons (.tail .head) (.cons (.tail .head) (.cons .head hro.take))⟩
        | trace_state
/-- A tree of the reference writes. -/
theorem rTEnc_any (bits : Nat) (t : List Int) (v : Int) (e : Enc) (w : Value) (A0 : Nat) (h h1 : SH) (hp : Pick h A0 ⟨nodes t, false⟩ h1) (hv : RO h e.out w) (ht : t.length = 2 ^ bits) (hbits : 1 ≤ bits ∧ bits ≤ 8) (hok : EncOk 900000 e) :
    SRun Try.prog 107 [reV w e.low e.size, gsl A0 0 t.length t.length 1, I v] h fun r q =>
      ∃ B w' qo, r = .tuple ⟨[reV w' (tenc v bits t e 1).2.low (tenc v bits t e 1).2.size, gsl B 0 t.length t.length 1]⟩ ∧ ROut h e.out w (tfr v bits t e 1) (tenc v bits t e 1).2.out w' qo ∧ q = (B, ⟨nodes (tenc v bits t e 1).1, false⟩) :: qo := by
  obtain ⟨K, hK⟩ : ∃ K, K = 2 ^ bits := ⟨_, rfl⟩
  have hK8 : K ≤ 256 := by rw [hK]; exact Nat.pow_le_pow_right (n := 2) (by decide) hbits.2
  obtain ⟨R, hR⟩ : ∃ R, tenc v bits t e 1 = R := ⟨_, rfl⟩
  obtain ⟨F, hF⟩ : ∃ F, tfr v bits t e 1 = F := ⟨_, rfl⟩
  rw [hR, hF]
  obtain ⟨o0, ho0⟩ : ∃ o0, o0 = e.out := ⟨_, rfl⟩
  rw [← ho0] at hv ⊢
  rw [← hK] at ht
  have ht0 := ht
  have hhalf : IntKind.i64.wrap ((t.length : Int).tdiv 2) = hpw bits := by
    rw [Int.tdiv_eq_ediv_of_nonneg (by omega), ht, hK]
    have : ((2 ^ bits : Nat) : Int) = hpw (bits + 1) := rfl
    rw [this, hpw_half]
    have := hpw_le (k := bits) (Nat.le_refl _) hbits.2
    exact IntWalk.i64_in _ (by omega)
  refine w_body3 Try.func107 rfl rfl ?_
  repeat' (first | apply w_seq | apply w_region | apply o_nil | (apply o_g tyOk; exact rfl; exact rfl) | (apply o_ar tyOk; exact rfl; exact rfl) | (apply o_alloc tyOk; iterate 5 exact rfl) | (apply o_box (tt := tyT); iterate 5 exact rfl) | apply thenS_normal | apply w_block | ((with_reducible apply Sd.mk); (first | exact True.intro | omega | (constructor <;> first | omega | (unfold maxLen; omega)) | (unfold maxLen; omega))) | ((with_reducible apply Wr.mk); (first | exact hhalf | exact IntWalk.i64_in _ (by omega) | exact IntWalk.u8_in _ (by omega) | exact IntWalk.u32_in _ (by omega) | exact IntWalk.u64_in _ (by omega) | exact IntKind.wrap_u8 _ | exact IntKind.wrap_u32 _ | rfl)) | intro A)
  rename_i E0
  refine w_loop (S := Nat × Nat × List Int × Enc × Nat × Value × Bool × SH × SH × Nat) (fun x => [(1, gsl x.2.2.2.2.1 0 x.2.2.1.length x.2.2.1.length 1), (2, I v), (3, gptr E0 0 3), (6, gptr A 0 3), (8, I x.2.1), (9, I (hpw x.1))])
    (fun x => (A, ⟨reC (.slice none 0 0) 0 0, false⟩) :: (E0, ⟨reC x.2.2.2.2.2.1 x.2.2.2.1.low x.2.2.2.1.size, false⟩) :: x.2.2.2.2.2.2.2.1)
    (fun x => x.1 ≤ bits ∧ (K ≤ 2 ^ x.1 * x.2.1 ∧ 2 ^ x.1 * (x.2.1 + 1) ≤ 2 * K) ∧ x.2.2.1.length = K ∧ EncOk x.2.2.2.2.2.2.2.2.2 x.2.2.2.1 ∧ x.2.2.2.2.2.2.2.2.2 + 2 * x.1 ≤ 900100 ∧ ROut h o0 w x.2.2.2.2.2.2.1 x.2.2.2.1.out x.2.2.2.2.2.1 x.2.2.2.2.2.2.2.2.1 ∧
      (∃ h2, Pick x.2.2.2.2.2.2.2.1 x.2.2.2.2.1 ⟨nodes x.2.2.1, false⟩ h2) ∧ (x.1 < bits → x.2.2.2.2.2.2.2.1 = (x.2.2.2.2.1, ⟨nodes x.2.2.1, false⟩) :: x.2.2.2.2.2.2.2.2.1) ∧ (x.1 = bits → x.2.2.2.2.2.2.2.1 = x.2.2.2.2.2.2.2.2.1) ∧
      tenc v x.1 x.2.2.1 x.2.2.2.1 x.2.1 = R ∧ (x.2.2.2.2.2.2.1 || tfr v x.1 x.2.2.1 x.2.2.2.1 x.2.1) = F) (fun x => x.1)
    (bits, 1, t, e, A0, w, false, h, h, 900000) ⟨Nat.le_refl _, ⟨by show K ≤ 2 ^ bits * 1; omega, by show 2 ^ bits * 2 ≤ 2 * K; omega⟩, ht, hok, by show 900000 + 2 * bits ≤ 900100; omega, by rw [ho0]; exact .same, ⟨_, hp⟩, fun g => absurd g (Nat.lt_irrefl _), fun _ => rfl, hR, hF⟩ (by repeat' (first | exact trivial | refine ⟨rfl, ?_⟩ | refine ⟨congrArg some ?_, ?_⟩)) (by repeat (first | with_reducible exact Take.nil | with_reducible apply Take.c | with_reducible apply Take.drop)) ?_
  rintro ⟨k, j, t, e, B, w1, fr, q, qo, n⟩ ⟨hk, ⟨hj1, hj2⟩, ht, hok, hn, hro, ⟨h2, hp2⟩, hq1, hq2, he, hf⟩
  dsimp only at hk hj1 hj2 ht hok hn hro hp2 hq1 hq2 he hf ⊢
  have hlb : (nodes t).length = t.length := by simp
  have hroq := hro.ro hv
  have tqo : Take q qo := by
    by_cases g : k = bits
    · rw [hq2 g]; exact .nil
    · rw [hq1 (by omega)]; exact .drop .nil
  have hro1 := hroq.re tqo
  cases k with
  | zero =>
    have he : (t, e) = R := he
    have hf : (fr || false) = F := hf
    rw [Bool.or_false] at hf
    rw [← he, ← hf]
    rw [hq1 (by omega)] at hro1 ⊢
    rcases id hro1 with ⟨e0, rfl⟩ | ⟨A1, p2, rfl, hp3⟩
    all_goals
      repeat' (first | apply w_seq | apply w_region | apply o_nil | (apply o_g tyOk; exact rfl; exact rfl) | (apply o_loads tyOk; (iterate 3 exact rfl); (focus (exact pk))) | (apply o_stores tyOk; (iterate 4 exact rfl); (focus (exact ⟨rfl⟩)); (focus (exact up))) | (apply w_false; exact rfl) | apply thenS_normal | apply thenS_exit | apply blockS_exit | apply w_ret | apply w_exit | ((with_reducible apply Sd.mk); (first | exact True.intro | omega | (constructor <;> first | omega | (unfold maxLen; omega)) | (unfold maxLen; omega))) | ((with_reducible apply Ln.mk); (first | rfl | exact ‹_› | omega | (simp ; first | done | omega))) | ((with_reducible apply Pu.mk); (first | exact putAt_all rfl | exact putAt_recZ (fun _ => rfl) (by omega) | exact putAt_rec (fun _ => rfl) (by omega))) | ((with_reducible apply Su.mk); (first | exact subAt_all | exact subAt_recZ (fun _ => rfl) (by omega) | exact subAt_rec (fun _ => rfl) (by omega))) | exact True.intro | exact rfl)
      all_goals first
        | (exfalso; omega)
        | (apply s_fin; (exact (show ResS _ _ _ _ [_, _] from (res_cell tyOk rfl rfl rfl (by exact pk) (by first | rfl | exact ‹_› | omega | (simp ; first | done | omega)) (by first | rfl | exact ‹_› | omega | (simp ; first | done | omega)) ⟨rfl, trivial⟩))); (focus (exact ⟨B, _, qo, by show Value.tuple _ = Value.tuple _; rw [ht, ht0], hro, rfl⟩)); (focus (repeat (first | with_reducible exact Take.nil | with_reducible apply Take.c | with_reducible apply Take.drop))))
        | trace_state
  | succ k =>
    obtain ⟨s1, s2, s3⟩ := way_step (b := (v / 2 ^ k % 2).toNat) hj1 hj2 (by omega)
    have hcl : (nodes t)[0 + ((j : Int)).toNat * 1]? = some (I t[j]!) := cell_mapZ (by omega)
    have hand := and_hpw v (k := k) (by omega)
    have hh := hpw_half k
    have hle := hpw_le hk hbits.2
    have hpos : 1 ≤ hpw (k + 1) := Nat.one_le_two_pow
    have hb01 := bit01 v k
    have he : tenc v k (t.set j (adp t[j]! (v / 2 ^ k % 2))) (ebit e t[j]! (v / 2 ^ k % 2)) (2 * j + (v / 2 ^ k % 2).toNat) = R := he
    have hf : (fr || (fresh e t[j]! (v / 2 ^ k % 2) || tfr v k (t.set j (adp t[j]! (v / 2 ^ k % 2))) (ebit e t[j]! (v / 2 ^ k % 2)) (2 * j + (v / 2 ^ k % 2).toNat))) = F := hf
    have hok2 := ebit_ok hok t[j]! (v / 2 ^ k % 2)
    have hfo := fun hfr => rBit_old e t[j]! (v / 2 ^ k % 2) w1 ((A, ⟨reC (.slice none 0 0) 0 0, false⟩) :: (E0, ⟨reC w1 e.low e.size, false⟩) :: q) (hro1.re (.drop (.drop .nil))) (hok.mono (by omega)) hfr
    have hfn := fun hfr => rBit_new e t[j]! (v / 2 ^ k % 2) w1 ((A, ⟨reC (.slice none 0 0) 0 0, false⟩) :: (E0, ⟨reC w1 e.low e.size, false⟩) :: q) (hro1.re (.drop (.drop .nil))) (hok.mono (by omega)) hfr
    generalize hbit : v / 2 ^ k % 2 = b at *
    generalize hpw (k + 1) = W at *
    have hq : IntKind.i64.wrap ((W : Int).tdiv 2) = ((hpw k : Nat) : Int) := by rw [Int.tdiv_eq_ediv_of_nonneg (by omega), hh]; exact IntWalk.i64_in _ (by omega)
    repeat' ((fail_if_success (show SWp _ _ (Code.cond (Operand.tmp 21) _ _) _ _ _)); first | apply w_seq | apply w_region | apply o_nil | (apply o_g tyOk; exact rfl; exact rfl) | (apply o_ar tyOk; exact rfl; exact rfl) | (apply w_dT; exact rfl; (focus (first | exact ‹_› | with_reducible exact rfl | omega))) | apply thenS_normal | apply w_skip | apply w_block | ((with_reducible apply Sd.mk); (first | exact True.intro | omega | (constructor <;> first | omega | (unfold maxLen; omega)) | (unfold maxLen; omega))) | ((with_reducible apply Wr.mk); (first | exact hand | exact IntWalk.i64_in _ (by omega) | exact IntWalk.u8_in _ (by omega) | exact IntWalk.u32_in _ (by omega) | exact IntWalk.u64_in _ (by omega) | exact IntKind.wrap_u8 _ | exact IntKind.wrap_u32 _ | rfl)))
    refine w_meet (S := Unit) (fun _ => [(1, gsl B 0 t.length t.length 1), (2, I v), (3, gptr E0 0 3), (6, gptr A 0 3), (8, I j), (9, I W), (10, I b)]) (fun _ => (A, ⟨reC (.slice none 0 0) 0 0, false⟩) :: (E0, ⟨reC w1 e.low e.size, false⟩) :: q) (fun _ => True) ?_ ?_
    · rcases hb01 with rfl | rfl
      · repeat' (first | (apply w_dF; exact rfl; (focus (first | exact ‹_› | with_reducible exact rfl | omega))) | apply thenS_normal | apply w_skip)
        all_goals first
          | (exfalso; omega)
          | exact ⟨(), trivial, (by repeat' (first | exact trivial | refine ⟨rfl, ?_⟩ | refine ⟨congrArg some ?_, ?_⟩)), (by repeat (first | with_reducible exact Take.nil | with_reducible apply Take.c | with_reducible apply Take.drop))⟩
          | trace_state
      · repeat' (first | apply w_region | apply o_nil | (apply o_g tyOk; exact rfl; exact rfl) | (apply w_dT; exact rfl; (focus (first | exact ‹_› | with_reducible exact rfl | omega))) | apply thenS_normal | ((with_reducible apply Sd.mk); (first | exact True.intro | omega | (constructor <;> first | omega | (unfold maxLen; omega)) | (unfold maxLen; omega))))
        all_goals first
          | (exfalso; omega)
          | exact ⟨(), trivial, (by repeat' (first | exact trivial | refine ⟨rfl, ?_⟩ | refine ⟨congrArg some ?_, ?_⟩)), (by repeat (first | with_reducible exact Take.nil | with_reducible apply Take.c | with_reducible apply Take.drop))⟩
          | trace_state
    · rintro - -
      have hS := rset_any B t j (adp t[j]! b)
      cases hfr : fresh e t[j]! b with
      | false =>
        rw [hfr, Bool.false_or] at hf
        obtain ⟨hout, hB⟩ := hfo hfr
        rcases id hro1 with ⟨e0, rfl⟩ | ⟨A1, p2, rfl, hp3⟩
        all_goals
          repeat' (first | apply w_seq | apply w_region | apply o_nil | (apply w_draw; (focus (kernel_rfl)); (focus (kernel_rfl))) | (apply o_g tyOk; exact rfl; exact rfl) | (apply o_ar tyOk; exact rfl; exact rfl) | (apply o_load tyOk; (iterate 3 exact rfl); (focus (exact pk))) | (apply o_loads tyOk; (iterate 3 exact rfl); (focus (exact pk))) | (apply o_stores tyOk; (iterate 4 exact rfl); (focus (exact ⟨rfl⟩)); (focus (exact up))) | (apply o_callE0; (iterate 4 exact rfl); (focus (exact ⟨hB, by repeat (first | with_reducible exact Take.nil | with_reducible apply Take.c | with_reducible apply Take.drop)⟩)); (focus (first | exact List.Perm.refl _ | (simp; done) | exact List.Perm.swap _ _ _)); (focus ((intro ρ D hρ hD; refine ⟨?_, ?_⟩; (focus (repeat (first | exact VR.const rfl | (apply VR.ptr'; (focus (first | exact e1 | exact e2 | exact e3 | ((apply rho_pick hρ); (exact pk)))); (focus (first | exact d1 | exact d2 | exact d3 | ((apply dom_pick hD); (exact pk))))) | (apply VR.slc'; (focus (first | exact e1 | exact e2 | exact e3 | ((apply rho_pick hρ); (exact pk)))); (focus (first | exact d1 | exact d2 | exact d3 | ((apply dom_pick hD); (exact pk))))) | exact VR.sdead | apply VRs.tuple | apply VRs.agg | exact VRs.nil | ((apply VRs.const); (focus (first | exact bytesV_const _ | exact map_const (fun _ => rfl) | exact recs_const (fun _ v hv => by simp only [List.mem_cons, List.not_mem_nil, or_false] at hv; rcases hv with rfl | rfl | rfl | rfl | rfl <;> rfl)))) | apply VRs.cons))); (focus (repeat (first | exact SHR.nil | ((apply SHR.same); (focus (intro x hx; (repeat (first | exact hx | apply List.mem_cons_of_mem)); done))) | ((apply SHR.keep); (focus ((repeat (first | with_reducible exact List.mem_cons_self | apply List.mem_cons_of_mem)); done))) | (apply SHR.cons; (focus (first | exact e1 | exact e2 | exact e3 | ((apply rho_pick hρ); (exact pk)))); (focus (repeat (first | exact VR.const rfl | (apply VR.ptr'; (focus (first | exact e1 | exact e2 | exact e3 | ((apply rho_pick hρ); (exact pk)))); (focus (first | exact d1 | exact d2 | exact d3 | ((apply dom_pick hD); (exact pk))))) | (apply VR.slc'; (focus (first | exact e1 | exact e2 | exact e3 | ((apply rho_pick hρ); (exact pk)))); (focus (first | exact d1 | exact d2 | exact d3 | ((apply dom_pick hD); (exact pk))))) | exact VR.sdead | apply VRs.tuple | apply VRs.agg | exact VRs.nil | ((apply VRs.const); (focus (first | exact bytesV_const _ | exact map_const (fun _ => rfl) | exact recs_const (fun _ v hv => by simp only [List.mem_cons, List.not_mem_nil, or_false] at hv; rcases hv with rfl | rfl | rfl | rfl | rfl <;> rfl)))) | apply VRs.cons))))))))))) | (apply o_call; exact rfl; exact rfl; (focus (first | exact rfl | assumption)); exact rfl; (focus (exact ⟨_, rAdapt_any _ _ _, by repeat (first | with_reducible exact Take.nil | with_reducible apply Take.c | with_reducible apply Take.drop)⟩)); rintro _ _ ⟨rfl, rfl⟩) | (apply o_call; exact rfl; exact rfl; (focus (first | exact rfl | assumption)); exact rfl; (focus (exact ⟨_, hS _ _ (.tail (.tail hp2)) (by omega) (by omega), by repeat (first | with_reducible exact Take.nil | with_reducible apply Take.c | with_reducible apply Take.drop)⟩)); rintro _ _ ⟨B2, rfl, rfl⟩) | apply thenS_normal | apply blockS_normal | ((with_reducible apply Sd.mk); (first | exact True.intro | omega | (constructor <;> first | omega | (unfold maxLen; omega)) | (unfold maxLen; omega))) | ((with_reducible apply Ln.mk); (first | rfl | exact ‹_› | omega | (simp [hlb]; first | done | omega))) | ((with_reducible apply Wr.mk); (first | exact hq | exact IntWalk.i64_in _ (by omega) | exact IntWalk.u8_in _ (by omega) | exact IntWalk.u32_in _ (by omega) | exact IntWalk.u64_in _ (by omega) | exact IntKind.wrap_u8 _ | exact IntKind.wrap_u32 _ | rfl)) | ((with_reducible apply Ce.mk); (first | rfl | exact ‹_› | exact hcl | exact cell_recZ (fun _ => rfl) (by omega) (by decide) rfl | exact cell_rec (fun _ => rfl) (by omega) (by decide) rfl | exact cell_bytes (by omega) | exact cell_mapZ (by omega) | exact cell_map (by omega))) | ((with_reducible apply Pu.mk); (first | exact putAt_all rfl | exact putAt_recZ (fun _ => rfl) (by omega) | exact putAt_rec (fun _ => rfl) (by omega))) | ((with_reducible apply Su.mk); (first | exact subAt_all | exact subAt_recZ (fun _ => rfl) (by omega) | exact subAt_rec (fun _ => rfl) (by omega))) | exact True.intro | exact Or.inl rfl | apply And.intro | exact rfl)
          all_goals first
            | (exfalso; omega)
            | exact ⟨(k, 2 * j + b.toNat, t.set j (adp t[j]! b), ebit e t[j]! b, B2, _, fr, (B2, ⟨nodes (t.set j (adp t[j]! b)), false⟩) :: qo, qo, n + 2), ⟨by show k ≤ bits; omega, ⟨s1, s2⟩, by rw [List.length_set]; exact ht, hok2, by show n + 2 + 2 * k ≤ 900100; omega, by rw [hout]; exact hro, ⟨_, .head⟩, fun _ => rfl, fun g => by dsimp only at g; omega, he, hf⟩, Nat.lt_succ_self _, ⟨congrArg some (gslE rfl rfl (by simp) (by simp) rfl), rfl, rfl, rfl, congrArg some (congrArg (Value.int .i64) (by show 2 * (j : Int) + b = ((2 * j + b.toNat : Nat) : Int); omega)), rfl, trivial⟩, .cons (.tail .head) (.cons (.tail .head) (.cons .head tqo))⟩
            | trace_state
      | true =>
        rw [hfr, Bool.true_or, Bool.or_true] at hf
        have hB := hfn hfr
        repeat' (first | apply w_seq | apply w_region | apply o_nil | (apply w_draw; (focus (kernel_rfl)); (focus (kernel_rfl))) | (apply o_g tyOk; exact rfl; exact rfl) | (apply o_ar tyOk; exact rfl; exact rfl) | (apply o_load tyOk; (iterate 3 exact rfl); (focus (exact pk))) | (apply o_loads tyOk; (iterate 3 exact rfl); (focus (exact pk))) | (apply o_stores tyOk; (iterate 4 exact rfl); (focus (exact ⟨rfl⟩)); (focus (exact up))) | (apply o_callE1; (iterate 4 exact rfl); (focus (exact ⟨hB, by repeat (first | with_reducible exact Take.nil | with_reducible apply Take.c | with_reducible apply Take.drop)⟩)); (focus ((intro _; (first | exact List.Perm.refl _ | (simp; done) | exact List.Perm.swap _ _ _)))); (focus ((intro A1 A2 ρ D e1 d1 hρ hD; refine ⟨?_, ?_⟩; (focus (repeat (first | exact VR.const rfl | (apply VR.ptr'; (focus (first | exact e1 | exact e2 | exact e3 | ((apply rho_pick hρ); (exact pk)))); (focus (first | exact d1 | exact d2 | exact d3 | ((apply dom_pick hD); (exact pk))))) | (apply VR.slc'; (focus (first | exact e1 | exact e2 | exact e3 | ((apply rho_pick hρ); (exact pk)))); (focus (first | exact d1 | exact d2 | exact d3 | ((apply dom_pick hD); (exact pk))))) | exact VR.sdead | apply VRs.tuple | apply VRs.agg | exact VRs.nil | ((apply VRs.const); (focus (first | exact bytesV_const _ | exact map_const (fun _ => rfl) | exact recs_const (fun _ v hv => by simp only [List.mem_cons, List.not_mem_nil, or_false] at hv; rcases hv with rfl | rfl | rfl | rfl | rfl <;> rfl)))) | apply VRs.cons))); (focus (repeat (first | exact SHR.nil | ((apply SHR.same); (focus (intro x hx; (repeat (first | exact hx | apply List.mem_cons_of_mem)); done))) | ((apply SHR.keep); (focus ((repeat (first | with_reducible exact List.mem_cons_self | apply List.mem_cons_of_mem)); done))) | (apply SHR.cons; (focus (first | exact e1 | exact e2 | exact e3 | ((apply rho_pick hρ); (exact pk)))); (focus (repeat (first | exact VR.const rfl | (apply VR.ptr'; (focus (first | exact e1 | exact e2 | exact e3 | ((apply rho_pick hρ); (exact pk)))); (focus (first | exact d1 | exact d2 | exact d3 | ((apply dom_pick hD); (exact pk))))) | (apply VR.slc'; (focus (first | exact e1 | exact e2 | exact e3 | ((apply rho_pick hρ); (exact pk)))); (focus (first | exact d1 | exact d2 | exact d3 | ((apply dom_pick hD); (exact pk))))) | exact VR.sdead | apply VRs.tuple | apply VRs.agg | exact VRs.nil | ((apply VRs.const); (focus (first | exact bytesV_const _ | exact map_const (fun _ => rfl) | exact recs_const (fun _ v hv => by simp only [List.mem_cons, List.not_mem_nil, or_false] at hv; rcases hv with rfl | rfl | rfl | rfl | rfl <;> rfl)))) | apply VRs.cons))))))))))) | (apply o_call; exact rfl; exact rfl; (focus (first | exact rfl | assumption)); exact rfl; (focus (exact ⟨_, rAdapt_any _ _ _, by repeat (first | with_reducible exact Take.nil | with_reducible apply Take.c | with_reducible apply Take.drop)⟩)); rintro _ _ ⟨rfl, rfl⟩) | (apply o_call; exact rfl; exact rfl; (focus (first | exact rfl | assumption)); exact rfl; (focus (exact ⟨_, hS _ _ (.tail (.tail (.tail hp2))) (by omega) (by omega), by repeat (first | with_reducible exact Take.nil | with_reducible apply Take.c | with_reducible apply Take.drop)⟩)); rintro _ _ ⟨B2, rfl, rfl⟩) | apply thenS_normal | apply blockS_normal | ((with_reducible apply Sd.mk); (first | exact True.intro | omega | (constructor <;> first | omega | (unfold maxLen; omega)) | (unfold maxLen; omega))) | ((with_reducible apply Ln.mk); (first | rfl | exact ‹_› | omega | (simp [hlb]; first | done | omega))) | ((with_reducible apply Wr.mk); (first | exact hq | exact IntWalk.i64_in _ (by omega) | exact IntWalk.u8_in _ (by omega) | exact IntWalk.u32_in _ (by omega) | exact IntWalk.u64_in _ (by omega) | exact IntKind.wrap_u8 _ | exact IntKind.wrap_u32 _ | rfl)) | ((with_reducible apply Ce.mk); (first | rfl | exact ‹_› | exact hcl | exact cell_recZ (fun _ => rfl) (by omega) (by decide) rfl | exact cell_rec (fun _ => rfl) (by omega) (by decide) rfl | exact cell_bytes (by omega) | exact cell_mapZ (by omega) | exact cell_map (by omega))) | ((with_reducible apply Pu.mk); (first | exact putAt_all rfl | exact putAt_recZ (fun _ => rfl) (by omega) | exact putAt_rec (fun _ => rfl) (by omega))) | ((with_reducible apply Su.mk); (first | exact subAt_all | exact subAt_recZ (fun _ => rfl) (by omega) | exact subAt_rec (fun _ => rfl) (by omega))) | exact True.intro | exact Or.inl rfl | apply And.intro | intro A | exact rfl)
        all_goals first
          | (exfalso; omega)
          | exact ⟨(k, 2 * j + b.toNat, t.set j (adp t[j]! b), ebit e t[j]! b, B2, _, true, (B2, ⟨nodes (t.set j (adp t[j]! b)), false⟩) :: (A, ⟨bytesV (ebit e t[j]! b).out, false⟩) :: h, _, n + 2), ⟨by show k ≤ bits; omega, ⟨s1, s2⟩, by rw [List.length_set]; exact ht, hok2, by show n + 2 + 2 * k ≤ 900100; omega, .new _ A, ⟨_, .head⟩, fun _ => rfl, fun g => by dsimp only at g; omega, he, by rw [Bool.true_or]; exact hf⟩, Nat.lt_succ_self _, ⟨congrArg some (gslE rfl rfl (by simp) (by simp) rfl), rfl, rfl, rfl, congrArg some (congrArg (Value.int .i64) (by show 2 * (j : Int) + b = ((2 * j + b.toNat : Nat) : Int); omega)), rfl, trivial⟩, .cons (.tail (.tail .head)) (.cons (.tail (.tail .head)) (.cons .head (.cons .head (tqo.trans hro.take))))⟩
          | trace_state
end Go.Proofs.Ytgooffiipnkmiaa
end
section
set_option linter.unusedVariables false
set_option linter.unusedSimpArgs false
set_option maxRecDepth 4000
namespace Go.Gh
open Go.RowKit

theorem VRs.set {ρ : Nat → Nat} {D : Nat → Prop} {l m : List Value} {u v : Value} (h : VRs ρ D l m) (k : VR ρ D u v) : ∀ {i : Nat}, VRs ρ D (l.set i u) (m.set i v) := by
  induction h with
  | nil => intro i; exact .nil
  | cons h0 hk ih =>
    intro i
    cases i with
    | zero => exact .cons k hk
    | succ i => exact .cons h0 ih
theorem VRs.old {ρ : Nat → Nat} {D : Nat → Prop} {p : SH} (hρ : ∀ y ∈ p, ρ y.1 = y.1) (hD : ∀ y ∈ p, D y.1) : ∀ {l : List Value}, (∀ v ∈ l, ∃ B o n len fl b p1, v = gsl B o n len fl ∧ Pick p B b p1) → VRs ρ D l l
  | [], _ => .nil
  | v :: l, h => by
    obtain ⟨B, o, n, len, fl, b, p1, rfl, hp⟩ := h v List.mem_cons_self
    exact .cons (VR.slc' (rho_pick hρ hp) (dom_pick hD hp)) (VRs.old hρ hD fun v hv => h v (List.mem_cons_of_mem _ hv))
section
variable {P : Program} {sz : Nat} {ops : Array Oper} {Q : SPost} {rest : List Oper} {a : AF} {h : SH} {t : Nat} {ty : TypeId} {pos : String} {aft : Array Edge}
/-- A call that makes three new blocks. -/
theorem o_callE3 {x : Operand} {xs : List Operand} {ts : Array TypeId} {f : FuncId} {first captured : Array Value} {args : List Value} {v : Nat → Nat → Nat → Value} {g : Nat → Nat → Nat → SH} {i0 : Nat} {last : SPast} {cl : SCl} {p : SH}
    (hx : ev a x = some (.func (.func f) first captured)) (hxs : evs a xs = some args) (hf : enters P f = true) (hN : Nat.blt t sz = true) (hr : SRun P f (first.toList ++ args ++ captured.toList) p (fun r q => ∃ A B C, r = v A B C ∧ q = g A B C) ∧ Take h p)
    (hkeys : ∀ A B C, ((g A B C).map (·.1)).Perm (A :: B :: C :: p.map (·.1))) (hpar : ∀ (A A' B B' C C' : Nat) (ρ : Nat → Nat) (D : Nat → Prop), ρ A = A' → ρ B = B' → ρ C = C' → D A → D B → D C → (∀ y ∈ p, ρ y.1 = y.1) → (∀ y ∈ p, D y.1) → VR ρ D (v A B C) (v A' B' C') ∧ SHR ρ D p (g A B C) (g A' B' C'))
    (hok : ∀ A B C, (Mode.draw i0 last cl).efOk ops (g A B C)) (kk : ∀ A B C, GO ((Mode.draw i0 last cl).ef h) P sz ops Q rest ((t, v A B C) :: a) (g A B C)) :
    GO (.draw i0 last cl) P sz ops Q (⟨some t, .call { callee := .value x, args := xs.toArray, argTypes := ts }, ty, pos, aft, none⟩ :: rest) a h := by
  have three : ∀ {ns : List Nat}, ns.length = 3 → ∃ A B C, ns = [A, B, C] := fun {ns} h => by
    match ns, h with
    | [A, B, C], _ => exact ⟨A, B, C, rfl⟩
  refine o_callK (k := 3) (V := fun ns => v ns.head! (ns.getD 1 0) (ns.getD 2 0)) (G := fun ns => g ns.head! (ns.getD 1 0) (ns.getD 2 0)) hx hxs hf hN hr.1 hr.2 (fun r q ⟨A, B, C, h1, h2⟩ => ⟨[A, B, C], rfl, h1, h2 ▸ .nil⟩) (fun ns h => ?_) (fun ns ms ρ D h1 h2 h3 h4 h5 h6 => ?_) (fun ms h => ?_) (fun ms h => ?_)
  · obtain ⟨A, B, C, rfl⟩ := three h; exact hkeys A B C
  · obtain ⟨A, B, C, rfl⟩ := three h1; obtain ⟨A2, B2, C2, rfl⟩ := three h2
    simp only [List.map_cons, List.map_nil, List.cons.injEq, and_true] at h3
    exact hpar A2 A B2 B C2 C ρ D h3.1 h3.2.1 h3.2.2 (h5 A2 (by simp)) (h5 B2 (by simp)) (h5 C2 (by simp)) h4 h6
  · obtain ⟨A, B, C, rfl⟩ := three h; exact hok A B C
  · obtain ⟨A, B, C, rfl⟩ := three h; exact kk A B C
end
end Go.Gh
end
section
set_option linter.unusedVariables false
set_option linter.unusedSimpArgs false
set_option maxRecDepth 4000
namespace Go.Proofs.Ytgooffiipnkmiaa
open Go.Gh Go.RowKit

theorem ncut_in (v : Int) : 0 ≤ ncut v ∧ ncut v ≤ 4611686018427387903 := by unfold ncut; split <;> omega
end Go.Proofs.Ytgooffiipnkmiaa
end
section
set_option linter.unusedVariables false
set_option linter.unusedSimpArgs false
set_option maxRecDepth 4000
namespace Go.Proofs.Ytgooffiipnkmiaa
open Go.Gh Go.RowKit

theorem rlength_any (n : Nat) (h : SH) (hn : n ≤ 9223372036854775807) : SRun Try.prog 124 [I n] h fun r q => r = I (blen n) ∧ q = h := by
  obtain ⟨R, hR⟩ : ∃ R, blen n = R := ⟨_, rfl⟩
  have hR63 : R ≤ 63 := by rw [← hR]; exact blen_le (by have : (2 : Nat) ^ 63 = 9223372036854775808 := rfl; omega)
  rw [hR]
  refine w_body1 Try.func124 rfl rfl ?_
  repeat' (first | apply w_seq | apply w_region | apply o_nil | (apply o_g tyOk; exact rfl; exact rfl) | apply thenS_normal | apply w_block | ((with_reducible apply Sd.mk); (first | exact True.intro | omega | (constructor <;> first | omega | (unfold maxLen; omega)) | (unfold maxLen; omega))))
  refine w_loop (S := Nat × Nat) (fun x => [(0, I x.1), (3, I x.2)]) (fun _ => h) (fun x => x.1 ≤ 9223372036854775807 ∧ x.2 + blen x.1 = R) (fun x => x.1) (n, 0) ⟨hn, by rw [Nat.zero_add]; exact hR⟩ (by repeat' (first | exact trivial | refine ⟨rfl, ?_⟩ | refine ⟨congrArg some ?_, ?_⟩)) (by repeat (first | with_reducible exact Take.nil | with_reducible apply Take.c | with_reducible apply Take.drop)) ?_
  rintro ⟨m, k⟩ ⟨hm, he⟩
  dsimp only at hm he ⊢
  by_cases h0 : m = 0
  · subst h0
    rw [blen_zero, Nat.add_zero] at he
    subst he
    repeat' (first | apply w_seq | apply w_region | apply o_nil | (apply o_g tyOk; exact rfl; exact rfl) | (apply w_false; exact rfl) | apply thenS_normal | apply thenS_exit | apply blockS_exit | apply w_ret | apply w_exit | ((with_reducible apply Sd.mk); (first | exact True.intro | omega | (constructor <;> first | omega | (unfold maxLen; omega)) | (unfold maxLen; omega))))
    all_goals first
      | (exfalso; omega)
      | (apply s_fin; (exact (show ResS _ _ _ _ [_] from ⟨rfl, trivial⟩)); (focus (exact ⟨rfl, rfl⟩)); (focus (repeat (first | with_reducible exact Take.nil | with_reducible apply Take.c | with_reducible apply Take.drop))))
      | trace_state
  · rw [blen_half h0] at he
    have hq : IntKind.i64.wrap ((m : Int).tdiv 2) = ((m / 2 : Nat) : Int) := by
      rw [Int.tdiv_eq_ediv_of_nonneg (by omega)]
      have : (m : Int) / 2 = ((m / 2 : Nat) : Int) := by omega
      rw [this]; exact IntWalk.i64_in _ (by omega)
    repeat' (first | apply w_seq | apply w_region | apply o_nil | (apply o_g tyOk; exact rfl; exact rfl) | (apply o_ar tyOk; exact rfl; exact rfl) | (apply w_dT; exact rfl; (focus (first | exact ‹_› | with_reducible exact rfl | omega))) | apply thenS_normal | apply blockS_normal | apply w_skip | apply w_block | ((with_reducible apply Sd.mk); (first | exact True.intro | omega | (constructor <;> first | omega | (unfold maxLen; omega)) | (unfold maxLen; omega))) | ((with_reducible apply Wr.mk); (first | exact hq | exact IntWalk.i64_in _ (by omega) | exact IntWalk.u8_in _ (by omega) | exact IntWalk.u32_in _ (by omega) | exact IntWalk.u64_in _ (by omega) | exact IntKind.wrap_u8 _ | exact IntKind.wrap_u32 _ | rfl)))
    all_goals first
      | (exfalso; omega)
      | exact ⟨(m / 2, k + 1), ⟨by show m / 2 ≤ _; omega, by show k + 1 + blen (m / 2) = R; omega⟩, by show m / 2 < m; omega, (by repeat' (first | exact trivial | refine ⟨rfl, ?_⟩ | refine ⟨congrArg some ?_, ?_⟩)), (by repeat (first | with_reducible exact Take.nil | with_reducible apply Take.c | with_reducible apply Take.drop))⟩
      | trace_state
/-- Whether the encoder makes new bytes for a number. -/
def nfr (t : List Int) (e : Enc) (v : Int) : Bool :=
  tfr (blen (ncut v).toNat) 6 t e 1 || (if 2 ≤ blen (ncut v).toNat then dfr (ncut v) (blen (ncut v).toNat - 1) (tenc (blen (ncut v).toNat) 6 t e 1).2 else false)
theorem rEncNum_any (t : List Int) (v : Int) (e : Enc) (w : Value) (A0 : Nat) (h h1 : SH) (hp : Pick h A0 ⟨nodes t, false⟩ h1) (hv : RO h e.out w) (ht : t.length = 64) (hok : EncOk 800000 e) :
    SRun Try.prog 109 [reV w e.low e.size, gsl A0 0 64 64 1, I v] h fun r q =>
      ∃ B w' qo, r = .tuple ⟨[reV w' (nenc t e v).2.low (nenc t e v).2.size, gsl B 0 64 64 1]⟩ ∧ ROut h e.out w (nfr t e v) (nenc t e v).2.out w' qo ∧ q = (B, ⟨nodes (nenc t e v).1, false⟩) :: qo := by
  have hcut := ncut_in v
  obtain ⟨x, hx⟩ := Int.eq_ofNat_of_zero_le hcut.1
  have hl : blen x ≤ 62 := blen_le (by have : (2 : Nat) ^ 62 = 4611686018427387904 := rfl; omega)
  have hL := fun h => rlength_any x h (by omega)
  have hT := rTEnc_any 6 t (blen x : Int) e w A0
  have hok2 : EncOk 900000 (tenc (blen x : Int) 6 t e 1).2 := (tenc_ok (v := (blen x : Int)) (k := 6) (t := t) (j := 1) hok).1.mono (by omega)
  rw [ht] at hT
  unfold nenc nfr
  rw [hx, Int.toNat_natCast]
  by_cases hz : v < 0 ∨ 4611686018427387903 < v
  · have hx0 : x = 0 := by
      have : ncut v = 0 := if_pos hz
      omega
    subst hx0
    rw [show blen 0 = 0 from rfl] at *
    rw [if_neg (show ¬ 2 ≤ 0 by decide), if_neg (show ¬ 2 ≤ 0 by decide), Bool.or_false]
    generalize tenc ((0 : Nat) : Int) 6 t e 1 = T at *
    generalize tfr ((0 : Nat) : Int) 6 t e 1 = F at *
    obtain ⟨t2, o2, lo2, sz2⟩ := T
    obtain ⟨o1, lo1, sz1⟩ := e
    dsimp only at *
    rcases id hv with ⟨e0, rfl⟩ | ⟨A1, p2, rfl, hp2⟩
    all_goals
      rcases hz with hz | hz
      all_goals
        refine w_body3 Try.func109 rfl rfl ?_
        repeat' (first | apply w_seq | apply w_region | apply o_nil | (apply o_g tyOk; exact rfl; exact rfl) | (apply o_loads tyOk; (iterate 3 exact rfl); (focus (exact pk))) | (apply o_alloc tyOk; iterate 5 exact rfl) | (apply o_box (tt := tyT); iterate 5 exact rfl) | (apply o_call; exact rfl; exact rfl; (focus (first | exact rfl | assumption)); exact rfl; (focus (exact ⟨_, hL _, by repeat (first | with_reducible exact Take.nil | with_reducible apply Take.c | with_reducible apply Take.drop)⟩)); rintro _ _ ⟨rfl, rfl⟩) | (apply o_call; exact rfl; exact rfl; (focus (first | exact rfl | assumption)); exact rfl; (focus (exact ⟨_, hT _ _ (.tail (.tail hp)) (hv.re (.drop (.drop .nil))) rfl (by decide) (hok.mono (by omega)), by repeat (first | with_reducible exact Take.nil | with_reducible apply Take.c | with_reducible apply Take.drop)⟩)); rintro _ _ ⟨B, w1, qo, rfl, ro, rfl⟩) | (apply o_want; exact rfl; exact rfl) | (apply o_skip; iterate 4 exact rfl) | (apply o_gF; (iterate 3 exact rfl); (focus (first | exact ‹_› | with_reducible exact rfl | omega))) | (apply o_sT; (iterate 3 exact rfl); (focus (first | exact ‹_› | with_reducible exact rfl | omega)); exact rfl) | (apply w_true; exact rfl) | (apply w_dT; exact rfl; (focus (first | exact ‹_› | with_reducible exact rfl | omega))) | apply thenS_normal | ((with_reducible apply Sd.mk); (first | exact True.intro | omega | (constructor <;> first | omega | (unfold maxLen; omega)) | (unfold maxLen; omega))) | ((with_reducible apply Ln.mk); (first | rfl | exact ‹_› | omega | (simp ; first | done | omega))) | ((with_reducible apply Su.mk); (first | exact subAt_all | exact subAt_recZ (fun _ => rfl) (by omega) | exact subAt_rec (fun _ => rfl) (by omega))) | exact True.intro | intro A | exact rfl)
        all_goals first | (exfalso; omega) | skip
        cases ro
        all_goals
          repeat' (first | apply w_seq | apply w_region | apply o_nil | (apply o_g tyOk; exact rfl; exact rfl) | (apply o_loads tyOk; (iterate 3 exact rfl); (focus (exact pk))) | (apply o_stores tyOk; (iterate 4 exact rfl); (focus (exact ⟨rfl⟩)); (focus (exact up))) | (apply w_false; exact rfl) | apply thenS_normal | apply w_skip | apply w_ret | ((with_reducible apply Sd.mk); (first | exact True.intro | omega | (constructor <;> first | omega | (unfold maxLen; omega)) | (unfold maxLen; omega))) | ((with_reducible apply Ln.mk); (first | rfl | exact ‹_› | omega | (simp ; first | done | omega))) | ((with_reducible apply Pu.mk); (first | exact putAt_all rfl | exact putAt_recZ (fun _ => rfl) (by omega) | exact putAt_rec (fun _ => rfl) (by omega))) | ((with_reducible apply Su.mk); (first | exact subAt_all | exact subAt_recZ (fun _ => rfl) (by omega) | exact subAt_rec (fun _ => rfl) (by omega))) | exact True.intro | exact rfl)
          all_goals first
            | (exfalso; omega)
            | (apply s_fin; (exact (show ResS _ _ _ _ [_, _] from (res_cell tyOk rfl rfl rfl (by exact pk) (by first | rfl | exact ‹_› | omega | (simp ; first | done | omega)) (by first | rfl | exact ‹_› | omega | (simp ; first | done | omega)) ⟨rfl, trivial⟩))); (focus (first | exact ⟨B, _, _, rfl, .same, rfl⟩ | exact ⟨B, _, _, rfl, .new _ _, rfl⟩)); (focus (repeat (first | with_reducible exact Take.nil | with_reducible apply Take.c | with_reducible apply Take.drop))))
            | trace_state
  · have hxv : v = x := by
      have : ncut v = v := if_neg hz
      omega
    subst hxv
    clear hx hcut
    generalize blen x = b at *
    generalize tenc (b : Int) 6 t e 1 = T at *
    generalize tfr (b : Int) 6 t e 1 = F at *
    obtain ⟨t2, o2, lo2, sz2⟩ := T
    obtain ⟨o1, lo1, sz1⟩ := e
    dsimp only at *
    by_cases hb2 : 2 ≤ b
    · rw [if_pos hb2, if_pos hb2]
      have hD := fun w h hr => rDirect_any ((b : Int) - 1) (x : Int) ⟨o2, lo2, sz2⟩ w h hr hok2 (by omega)
      rw [show ((b : Int) - 1).toNat = b - 1 by omega] at hD
      generalize edir ⟨o2, lo2, sz2⟩ ((b : Int) - 1) (x : Int) = E at *
      generalize dfr (x : Int) (b - 1) ⟨o2, lo2, sz2⟩ = G at *
      obtain ⟨o3, lo3, sz3⟩ := E
      dsimp only at *
      rcases id hv with ⟨e0, rfl⟩ | ⟨A1, p2, rfl, hp2⟩
      all_goals
        refine w_body3 Try.func109 rfl rfl ?_
        repeat' (first | apply w_seq | apply w_region | apply o_nil | (apply o_g tyOk; exact rfl; exact rfl) | (apply o_loads tyOk; (iterate 3 exact rfl); (focus (exact pk))) | (apply o_alloc tyOk; iterate 5 exact rfl) | (apply o_box (tt := tyT); iterate 5 exact rfl) | (apply o_call; exact rfl; exact rfl; (focus (first | exact rfl | assumption)); exact rfl; (focus (exact ⟨_, hL _, by repeat (first | with_reducible exact Take.nil | with_reducible apply Take.c | with_reducible apply Take.drop)⟩)); rintro _ _ ⟨rfl, rfl⟩) | (apply o_call; exact rfl; exact rfl; (focus (first | exact rfl | assumption)); exact rfl; (focus (exact ⟨_, hT _ _ (.tail (.tail hp)) (hv.re (.drop (.drop .nil))) rfl (by decide) (hok.mono (by omega)), by repeat (first | with_reducible exact Take.nil | with_reducible apply Take.c | with_reducible apply Take.drop)⟩)); rintro _ _ ⟨B, w1, qo, rfl, ro, rfl⟩) | (apply o_want; exact rfl; exact rfl) | (apply w_dF; exact rfl; (focus (first | exact ‹_› | with_reducible exact rfl | omega))) | apply thenS_normal | apply w_skip | ((with_reducible apply Sd.mk); (first | exact True.intro | omega | (constructor <;> first | omega | (unfold maxLen; omega)) | (unfold maxLen; omega))) | ((with_reducible apply Ln.mk); (first | rfl | exact ‹_› | omega | (simp ; first | done | omega))) | ((with_reducible apply Su.mk); (first | exact subAt_all | exact subAt_recZ (fun _ => rfl) (by omega) | exact subAt_rec (fun _ => rfl) (by omega))) | exact True.intro | intro A | exact rfl)
        all_goals first | (exfalso; omega) | skip
        cases ro with
        | same =>
          repeat' (first | apply w_seq | apply w_region | apply o_nil | (apply o_g tyOk; exact rfl; exact rfl) | (apply o_ar tyOk; exact rfl; exact rfl) | (apply o_loads tyOk; (iterate 3 exact rfl); (focus (exact pk))) | (apply o_stores tyOk; (iterate 4 exact rfl); (focus (exact ⟨rfl⟩)); (focus (exact up))) | (apply o_call; exact rfl; exact rfl; (focus (first | exact rfl | assumption)); exact rfl; (focus (exact ⟨_, hD _ _ (hv.re (.drop (.drop (.drop (.drop .nil))))), by repeat (first | with_reducible exact Take.nil | with_reducible apply Take.c | with_reducible apply Take.drop)⟩)); rintro _ _ ⟨w2, rfl, rd⟩) | (apply w_dT; exact rfl; (focus (first | exact ‹_› | with_reducible exact rfl | omega))) | apply thenS_normal | ((with_reducible apply Sd.mk); (first | exact True.intro | omega | (constructor <;> first | omega | (unfold maxLen; omega)) | (unfold maxLen; omega))) | ((with_reducible apply Ln.mk); (first | rfl | exact ‹_› | omega | (simp ; first | done | omega))) | ((with_reducible apply Wr.mk); (first | exact IntWalk.i64_in _ (by omega) | exact IntWalk.u8_in _ (by omega) | exact IntWalk.u32_in _ (by omega) | exact IntWalk.u64_in _ (by omega) | exact IntKind.wrap_u8 _ | exact IntKind.wrap_u32 _ | rfl)) | ((with_reducible apply Pu.mk); (first | exact putAt_all rfl | exact putAt_recZ (fun _ => rfl) (by omega) | exact putAt_rec (fun _ => rfl) (by omega))) | ((with_reducible apply Su.mk); (first | exact subAt_all | exact subAt_recZ (fun _ => rfl) (by omega) | exact subAt_rec (fun _ => rfl) (by omega))) | exact True.intro | exact rfl)
          all_goals first | (exfalso; omega) | skip
          cases rd
          all_goals
            repeat' (first | apply w_seq | apply w_region | apply o_nil | (apply o_g tyOk; exact rfl; exact rfl) | (apply o_loads tyOk; (iterate 3 exact rfl); (focus (exact pk))) | (apply o_stores tyOk; (iterate 4 exact rfl); (focus (exact ⟨rfl⟩)); (focus (exact up))) | apply thenS_normal | apply w_ret | ((with_reducible apply Sd.mk); (first | exact True.intro | omega | (constructor <;> first | omega | (unfold maxLen; omega)) | (unfold maxLen; omega))) | ((with_reducible apply Ln.mk); (first | rfl | exact ‹_› | omega | (simp ; first | done | omega))) | ((with_reducible apply Pu.mk); (first | exact putAt_all rfl | exact putAt_recZ (fun _ => rfl) (by omega) | exact putAt_rec (fun _ => rfl) (by omega))) | ((with_reducible apply Su.mk); (first | exact subAt_all | exact subAt_recZ (fun _ => rfl) (by omega) | exact subAt_rec (fun _ => rfl) (by omega))) | exact True.intro | exact rfl)
            all_goals first
              | (exfalso; omega)
              | (apply s_fin; (exact (show ResS _ _ _ _ [_, _] from (res_cell tyOk rfl rfl rfl (by exact pk) (by first | rfl | exact ‹_› | omega | (simp ; first | done | omega)) (by first | rfl | exact ‹_› | omega | (simp ; first | done | omega)) ⟨rfl, trivial⟩))); (focus (first | exact ⟨B, _, _, rfl, .same, rfl⟩ | exact ⟨B, _, _, rfl, .new _ _, rfl⟩)); (focus (repeat (first | with_reducible exact Take.nil | with_reducible apply Take.c | with_reducible apply Take.drop))))
              | trace_state
        | new o O =>
          repeat' (first | apply w_seq | apply w_region | apply o_nil | (apply o_g tyOk; exact rfl; exact rfl) | (apply o_ar tyOk; exact rfl; exact rfl) | (apply o_loads tyOk; (iterate 3 exact rfl); (focus (exact pk))) | (apply o_stores tyOk; (iterate 4 exact rfl); (focus (exact ⟨rfl⟩)); (focus (exact up))) | (apply o_call; exact rfl; exact rfl; (focus (first | exact rfl | assumption)); exact rfl; (focus (exact ⟨_, hD _ _ (.inr ⟨_, _, rfl, .tail (.tail .head)⟩), by repeat (first | with_reducible exact Take.nil | with_reducible apply Take.c | with_reducible apply Take.drop)⟩)); rintro _ _ ⟨w2, rfl, rd⟩) | (apply w_dT; exact rfl; (focus (first | exact ‹_› | with_reducible exact rfl | omega))) | apply thenS_normal | ((with_reducible apply Sd.mk); (first | exact True.intro | omega | (constructor <;> first | omega | (unfold maxLen; omega)) | (unfold maxLen; omega))) | ((with_reducible apply Ln.mk); (first | rfl | exact ‹_› | omega | (simp ; first | done | omega))) | ((with_reducible apply Wr.mk); (first | exact IntWalk.i64_in _ (by omega) | exact IntWalk.u8_in _ (by omega) | exact IntWalk.u32_in _ (by omega) | exact IntWalk.u64_in _ (by omega) | exact IntKind.wrap_u8 _ | exact IntKind.wrap_u32 _ | rfl)) | ((with_reducible apply Pu.mk); (first | exact putAt_all rfl | exact putAt_recZ (fun _ => rfl) (by omega) | exact putAt_rec (fun _ => rfl) (by omega))) | ((with_reducible apply Su.mk); (first | exact subAt_all | exact subAt_recZ (fun _ => rfl) (by omega) | exact subAt_rec (fun _ => rfl) (by omega))) | exact True.intro | exact rfl)
          all_goals first | (exfalso; omega) | skip
          cases rd
          all_goals
            repeat' (first | apply w_seq | apply w_region | apply o_nil | (apply o_g tyOk; exact rfl; exact rfl) | (apply o_loads tyOk; (iterate 3 exact rfl); (focus (exact pk))) | (apply o_stores tyOk; (iterate 4 exact rfl); (focus (exact ⟨rfl⟩)); (focus (exact up))) | apply thenS_normal | apply w_ret | ((with_reducible apply Sd.mk); (first | exact True.intro | omega | (constructor <;> first | omega | (unfold maxLen; omega)) | (unfold maxLen; omega))) | ((with_reducible apply Ln.mk); (first | rfl | exact ‹_› | omega | (simp ; first | done | omega))) | ((with_reducible apply Pu.mk); (first | exact putAt_all rfl | exact putAt_recZ (fun _ => rfl) (by omega) | exact putAt_rec (fun _ => rfl) (by omega))) | ((with_reducible apply Su.mk); (first | exact subAt_all | exact subAt_recZ (fun _ => rfl) (by omega) | exact subAt_rec (fun _ => rfl) (by omega))) | exact True.intro | exact rfl)
            all_goals first
              | (exfalso; omega)
              | (apply s_fin; (exact (show ResS _ _ _ _ [_, _] from (res_cell tyOk rfl rfl rfl (by exact pk) (by first | rfl | exact ‹_› | omega | (simp ; first | done | omega)) (by first | rfl | exact ‹_› | omega | (simp ; first | done | omega)) ⟨rfl, trivial⟩))); (focus (first | exact ⟨B, _, _, rfl, .same, rfl⟩ | exact ⟨B, _, _, rfl, .new _ _, rfl⟩)); (focus (repeat (first | with_reducible exact Take.nil | with_reducible apply Take.c | with_reducible apply Take.drop))))
              | trace_state
    · rw [if_neg hb2, if_neg hb2, Bool.or_false]
      rcases id hv with ⟨e0, rfl⟩ | ⟨A1, p2, rfl, hp2⟩
      all_goals
        refine w_body3 Try.func109 rfl rfl ?_
        repeat' (first | apply w_seq | apply w_region | apply o_nil | (apply o_g tyOk; exact rfl; exact rfl) | (apply o_loads tyOk; (iterate 3 exact rfl); (focus (exact pk))) | (apply o_alloc tyOk; iterate 5 exact rfl) | (apply o_box (tt := tyT); iterate 5 exact rfl) | (apply o_call; exact rfl; exact rfl; (focus (first | exact rfl | assumption)); exact rfl; (focus (exact ⟨_, hL _, by repeat (first | with_reducible exact Take.nil | with_reducible apply Take.c | with_reducible apply Take.drop)⟩)); rintro _ _ ⟨rfl, rfl⟩) | (apply o_call; exact rfl; exact rfl; (focus (first | exact rfl | assumption)); exact rfl; (focus (exact ⟨_, hT _ _ (.tail (.tail hp)) (hv.re (.drop (.drop .nil))) rfl (by decide) (hok.mono (by omega)), by repeat (first | with_reducible exact Take.nil | with_reducible apply Take.c | with_reducible apply Take.drop)⟩)); rintro _ _ ⟨B, w1, qo, rfl, ro, rfl⟩) | (apply o_want; exact rfl; exact rfl) | (apply w_dF; exact rfl; (focus (first | exact ‹_› | with_reducible exact rfl | omega))) | apply thenS_normal | apply w_skip | ((with_reducible apply Sd.mk); (first | exact True.intro | omega | (constructor <;> first | omega | (unfold maxLen; omega)) | (unfold maxLen; omega))) | ((with_reducible apply Ln.mk); (first | rfl | exact ‹_› | omega | (simp ; first | done | omega))) | ((with_reducible apply Su.mk); (first | exact subAt_all | exact subAt_recZ (fun _ => rfl) (by omega) | exact subAt_rec (fun _ => rfl) (by omega))) | exact True.intro | intro A | exact rfl)
        all_goals first | (exfalso; omega) | skip
        cases ro
        all_goals
          repeat' (first | apply w_seq | apply w_region | apply o_nil | (apply o_g tyOk; exact rfl; exact rfl) | (apply o_loads tyOk; (iterate 3 exact rfl); (focus (exact pk))) | (apply o_stores tyOk; (iterate 4 exact rfl); (focus (exact ⟨rfl⟩)); (focus (exact up))) | (apply w_dF; exact rfl; (focus (first | exact ‹_› | with_reducible exact rfl | omega))) | apply thenS_normal | apply w_skip | apply w_ret | ((with_reducible apply Sd.mk); (first | exact True.intro | omega | (constructor <;> first | omega | (unfold maxLen; omega)) | (unfold maxLen; omega))) | ((with_reducible apply Ln.mk); (first | rfl | exact ‹_› | omega | (simp ; first | done | omega))) | ((with_reducible apply Pu.mk); (first | exact putAt_all rfl | exact putAt_recZ (fun _ => rfl) (by omega) | exact putAt_rec (fun _ => rfl) (by omega))) | ((with_reducible apply Su.mk); (first | exact subAt_all | exact subAt_recZ (fun _ => rfl) (by omega) | exact subAt_rec (fun _ => rfl) (by omega))) | exact True.intro | exact rfl)
          all_goals first
            | (exfalso; omega)
            | (apply s_fin; (exact (show ResS _ _ _ _ [_, _] from (res_cell tyOk rfl rfl rfl (by exact pk) (by first | rfl | exact ‹_› | omega | (simp ; first | done | omega)) (by first | rfl | exact ‹_› | omega | (simp ; first | done | omega)) ⟨rfl, trivial⟩))); (focus (first | exact ⟨B, _, _, rfl, .same, rfl⟩ | exact ⟨B, _, _, rfl, .new _ _, rfl⟩)); (focus (repeat (first | with_reducible exact Take.nil | with_reducible apply Take.c | with_reducible apply Take.drop))))
            | trace_state
end Go.Proofs.Ytgooffiipnkmiaa
end
