/- Part 10 of the proof of the law ModelsStrict: texts merged. No condition. -/
import Derived.Test.YtinfmojbdaiogaaZModelsStrictI
section
set_option linter.unusedVariables false
set_option linter.unusedSimpArgs false
set_option maxRecDepth 4000
namespace Go.Proofs.Ytinfmojbdaiogaa
open Go.Gh Go.RowKit

/-- What decode[byte] gives: bytes, error. -/
def rdec (l : List UInt8) (most : Int) (P : List Int) (c : Int) : List UInt8 × Int :=
  if (rdN l 4096).2.2 ≠ 0 then ([], 12) else if most < (rdN l 4096).1 then ([], 2) else if (rdN l 4096).1 = 0 then ([], rend (rdN l 4096).2.1 0)
  else if dend (bdecN (rdN l 4096).1.toNat P c (dnew (rdN l 4096).2.1)).2 ≠ 0 then ([], dend (bdecN (rdN l 4096).1.toNat P c (dnew (rdN l 4096).2.1)).2)
  else ((bdecN (rdN l 4096).1.toNat P c (dnew (rdN l 4096).2.1)).1, 0)
theorem rdN_ok (l : List UInt8) (m : Int) : (rdN l m).2.1.length ≤ l.length ∧ ((rdN l m).2.2 = 0 → 0 ≤ (rdN l m).1 ∧ (rdN l m).1 ≤ m) := by
  unfold rdN
  split
  · exact ⟨Nat.le_refl _, fun h => absurd h (by show ¬ (12 : Int) = 0; decide)⟩
  · split
    · exact ⟨Nat.le_refl _, fun h => absurd h (by show ¬ (2 : Int) = 0; decide)⟩
    · dsimp only
      rw [List.length_drop]
      omega
/-- Bytes in a block of their own; none where there is an error or no byte. -/
def IsB (h : SH) (x : List UInt8 × Int) (r : Value) (q : SH) : Prop := (x.1 = [] ∧ r = .tuple #[.slice none 0 0, Er x.2] ∧ q = h) ∨
  (x.2 = 0 ∧ ∃ A, r = .tuple #[gsl A 0 x.1.length x.1.length 1, Er 0] ∧ q = (A, ⟨bytesV x.1, false⟩) :: h)
theorem decodeB_any (M N : Nat) (P : List Int) (c : Int) (l : List UInt8) (most : Int) (h : SH) (hl : l.length ≤ 100000) (hP : P.length = 2048) (hc0 : 0 ≤ c ∧ c ≤ 255) :
    SRun Try.prog 50 [.iface 34 (gptr M 0 17), S l, I 4096, I most] ((M, ⟨byC N c, false⟩) :: (N, ⟨nodes P, false⟩) :: h) (IsB h (rdec l most P c)) := by
  have hR := fun n h => rNumber_any n l 4096 h hl
  have hok := rdN_ok l 4096
  obtain ⟨x, hx⟩ : ∃ x, rdec l most P c = x := ⟨_, rfl⟩
  rw [hx]
  unfold rdec at hx
  generalize rdN l 4096 = V at *
  obtain ⟨k, d, e⟩ := V
  dsimp only at *
  have hT := fun n h => rTake_any n d (d.length : Int) h (by omega) (by omega)
  rw [show ((d.length : Int)).toNat = d.length from rfl, List.take_length, List.drop_length] at hT
  by_cases he : e = 0
  case neg =>
    rw [if_pos he] at hx
    refine w_body4 Try.func50 rfl rfl ?_
    repeat' (first | apply w_seq | apply w_region | apply o_nil | (apply o_g tyOk; exact rfl; exact rfl) | (apply o_ar tyOk; exact rfl; exact rfl) | (apply o_store tyOk; exact rfl; exact rfl; exact rfl; exact rfl; (focus (exact up))) | (apply o_stores tyOk; exact rfl; exact rfl; exact rfl; exact rfl; (focus (exact ⟨rfl⟩)); (focus (exact up))) | (apply o_eqs; exact rfl; exact rfl; exact rfl; (focus (kernel_rfl)); exact rfl; exact rfl; (focus (kernel_rfl)); exact rfl) | (apply o_neqs; exact rfl; exact rfl; exact rfl; (focus (kernel_rfl)); exact rfl; exact rfl; (focus (kernel_rfl)); exact rfl) | (apply o_makeSlice tyOk; exact rfl; exact rfl; exact rfl; exact rfl; exact rfl; exact rfl; (focus (decide)); (focus (first | exact True.intro | omega | (constructor <;> first | omega | (unfold maxLen; omega)) | (unfold maxLen; omega))); (focus (first | rfl)); exact rfl) | (apply o_invoke; exact rfl; exact rfl; exact rfl; (focus (exact ⟨_, NewReader_any _ _, by repeat (first | with_reducible exact Take.nil | with_reducible apply Take.c | with_reducible apply Take.drop)⟩)); (focus (kernel_rfl)); exact rfl; rintro _ _ ⟨n, rfl, rfl⟩) | (apply o_call; exact rfl; exact rfl; (focus (first | exact rfl | assumption)); exact rfl; (focus (exact ⟨_, NewReader_any _ _, by repeat (first | with_reducible exact Take.nil | with_reducible apply Take.c | with_reducible apply Take.drop)⟩)); rintro _ _ ⟨n, rfl, rfl⟩) | (apply o_callN; exact rfl; exact rfl; exact rfl; (focus (exact ⟨_, NewReader_any _ _, by repeat (first | with_reducible exact Take.nil | with_reducible apply Take.c | with_reducible apply Take.drop)⟩)); rintro _ _ ⟨n, rfl, rfl⟩) | (apply o_invoke; exact rfl; exact rfl; exact rfl; (focus (exact ⟨_, hR _ _, by repeat (first | with_reducible exact Take.nil | with_reducible apply Take.c | with_reducible apply Take.drop)⟩)); (focus (kernel_rfl)); exact rfl; rintro _ _ ⟨rfl, rfl⟩) | (apply o_call; exact rfl; exact rfl; (focus (first | exact rfl | assumption)); exact rfl; (focus (exact ⟨_, hR _ _, by repeat (first | with_reducible exact Take.nil | with_reducible apply Take.c | with_reducible apply Take.drop)⟩)); rintro _ _ ⟨rfl, rfl⟩) | (apply o_callN; exact rfl; exact rfl; exact rfl; (focus (exact ⟨_, hR _ _, by repeat (first | with_reducible exact Take.nil | with_reducible apply Take.c | with_reducible apply Take.drop)⟩)); rintro _ _ ⟨rfl, rfl⟩) | (apply o_invoke; exact rfl; exact rfl; exact rfl; (focus (exact ⟨_, rErr_any _ _ _ _, by repeat (first | with_reducible exact Take.nil | with_reducible apply Take.c | with_reducible apply Take.drop)⟩)); (focus (kernel_rfl)); exact rfl; rintro _ _ ⟨rfl, rfl⟩) | (apply o_call; exact rfl; exact rfl; (focus (first | exact rfl | assumption)); exact rfl; (focus (exact ⟨_, rErr_any _ _ _ _, by repeat (first | with_reducible exact Take.nil | with_reducible apply Take.c | with_reducible apply Take.drop)⟩)); rintro _ _ ⟨rfl, rfl⟩) | (apply o_callN; exact rfl; exact rfl; exact rfl; (focus (exact ⟨_, rErr_any _ _ _ _, by repeat (first | with_reducible exact Take.nil | with_reducible apply Take.c | with_reducible apply Take.drop)⟩)); rintro _ _ ⟨rfl, rfl⟩) | (apply w_true; exact rfl) | (apply w_false; exact rfl) | (apply w_dT; exact rfl; (focus (first | exact ‹_› | with_reducible exact rfl | omega))) | (apply w_dF; exact rfl; (focus (first | exact ‹_› | with_reducible exact rfl | omega))) | (apply w_ifN; exact rfl; all_goals intro hc) | (apply w_if; exact rfl; all_goals intro hc) | (apply w_ifB; exact rfl; all_goals intro hc) | apply thenS_normal | apply thenS_ret | apply thenS_exit | apply blockS_normal | apply blockS_ret | apply blockS_exit | apply w_skip | apply w_ret | apply w_exit | apply w_block | apply scopeS_normal | apply scopeS_ret | apply scopeS_exit | apply w_scope | (apply blockS_exit_ne; exact rfl) | ((with_reducible apply Sd.mk); (first | exact True.intro | omega | (constructor <;> first | omega | (unfold maxLen; omega)) | (unfold maxLen; omega))) | ((with_reducible apply Ln.mk); (first | rfl | exact ‹_› | omega | (simp ; first | done | omega))) | ((with_reducible apply Wr.mk); (first | exact IntWalk.i64_in _ (by omega) | exact IntWalk.u8_in _ (by omega) | exact IntWalk.u32_in _ (by omega) | exact IntWalk.u64_in _ (by omega) | exact IntKind.wrap_u8 _ | exact IntKind.wrap_u32 _ | rfl)) | with_reducible exact Upd.head | with_reducible apply Upd.tail | ((with_reducible apply Se.mk); (first | (focus ((repeat (first | exact SetAt.zero | apply SetAt.succ)); done)) | exact setAt_bytes (by omega) (by omega) | exact setAt_mapZ (by omega) | exact setAt_map (by omega))) | ((with_reducible apply Pu.mk); (first | exact putAt_all rfl | exact putAt_recZ (fun _ => rfl) (by omega) | exact putAt_rec (fun _ => rfl) (by omega))) | exact True.intro | intro A | exact rfl)
    all_goals first
      | contradiction
      | (apply s_fin; (exact (show ResS _ _ _ _ [_, _] from ⟨rfl, ⟨rfl, trivial⟩⟩)); (focus (exact .inl ⟨by rw [← hx], by rw [← hx]; rfl, rfl⟩)); (focus (repeat (first | with_reducible exact Take.nil | with_reducible apply Take.c | ((with_reducible apply Take.cE); (first | exact rfl | (apply blkE; (focus (first | exact rfl | exact recs_snocE rfl | exact map_snocE rfl | exact congrArg (fun v => [v]) (gslE rfl rfl (by first | rfl | exact ‹_› | omega | (simp ; first | done | omega)) (by first | rfl | exact ‹_› | omega | (simp ; first | done | omega)) rfl)))))) | with_reducible apply Take.drop))))
      | trace_state
  subst he
  rw [if_neg (by decide)] at hx
  have hk := hok.2 rfl
  by_cases h1 : most < k
  case pos =>
    rw [if_pos h1] at hx
    refine w_body4 Try.func50 rfl rfl ?_
    repeat' (first | apply w_seq | apply w_region | apply o_nil | (apply o_g tyOk; exact rfl; exact rfl) | (apply o_ar tyOk; exact rfl; exact rfl) | (apply o_store tyOk; exact rfl; exact rfl; exact rfl; exact rfl; (focus (exact up))) | (apply o_stores tyOk; exact rfl; exact rfl; exact rfl; exact rfl; (focus (exact ⟨rfl⟩)); (focus (exact up))) | (apply o_eqs; exact rfl; exact rfl; exact rfl; (focus (kernel_rfl)); exact rfl; exact rfl; (focus (kernel_rfl)); exact rfl) | (apply o_neqs; exact rfl; exact rfl; exact rfl; (focus (kernel_rfl)); exact rfl; exact rfl; (focus (kernel_rfl)); exact rfl) | (apply o_makeSlice tyOk; exact rfl; exact rfl; exact rfl; exact rfl; exact rfl; exact rfl; (focus (decide)); (focus (first | exact True.intro | omega | (constructor <;> first | omega | (unfold maxLen; omega)) | (unfold maxLen; omega))); (focus (first | rfl)); exact rfl) | (apply o_invoke; exact rfl; exact rfl; exact rfl; (focus (exact ⟨_, NewReader_any _ _, by repeat (first | with_reducible exact Take.nil | with_reducible apply Take.c | with_reducible apply Take.drop)⟩)); (focus (kernel_rfl)); exact rfl; rintro _ _ ⟨n, rfl, rfl⟩) | (apply o_call; exact rfl; exact rfl; (focus (first | exact rfl | assumption)); exact rfl; (focus (exact ⟨_, NewReader_any _ _, by repeat (first | with_reducible exact Take.nil | with_reducible apply Take.c | with_reducible apply Take.drop)⟩)); rintro _ _ ⟨n, rfl, rfl⟩) | (apply o_callN; exact rfl; exact rfl; exact rfl; (focus (exact ⟨_, NewReader_any _ _, by repeat (first | with_reducible exact Take.nil | with_reducible apply Take.c | with_reducible apply Take.drop)⟩)); rintro _ _ ⟨n, rfl, rfl⟩) | (apply o_invoke; exact rfl; exact rfl; exact rfl; (focus (exact ⟨_, hR _ _, by repeat (first | with_reducible exact Take.nil | with_reducible apply Take.c | with_reducible apply Take.drop)⟩)); (focus (kernel_rfl)); exact rfl; rintro _ _ ⟨rfl, rfl⟩) | (apply o_call; exact rfl; exact rfl; (focus (first | exact rfl | assumption)); exact rfl; (focus (exact ⟨_, hR _ _, by repeat (first | with_reducible exact Take.nil | with_reducible apply Take.c | with_reducible apply Take.drop)⟩)); rintro _ _ ⟨rfl, rfl⟩) | (apply o_callN; exact rfl; exact rfl; exact rfl; (focus (exact ⟨_, hR _ _, by repeat (first | with_reducible exact Take.nil | with_reducible apply Take.c | with_reducible apply Take.drop)⟩)); rintro _ _ ⟨rfl, rfl⟩) | (apply o_invoke; exact rfl; exact rfl; exact rfl; (focus (exact ⟨_, rErr_any _ _ _ _, by repeat (first | with_reducible exact Take.nil | with_reducible apply Take.c | with_reducible apply Take.drop)⟩)); (focus (kernel_rfl)); exact rfl; rintro _ _ ⟨rfl, rfl⟩) | (apply o_call; exact rfl; exact rfl; (focus (first | exact rfl | assumption)); exact rfl; (focus (exact ⟨_, rErr_any _ _ _ _, by repeat (first | with_reducible exact Take.nil | with_reducible apply Take.c | with_reducible apply Take.drop)⟩)); rintro _ _ ⟨rfl, rfl⟩) | (apply o_callN; exact rfl; exact rfl; exact rfl; (focus (exact ⟨_, rErr_any _ _ _ _, by repeat (first | with_reducible exact Take.nil | with_reducible apply Take.c | with_reducible apply Take.drop)⟩)); rintro _ _ ⟨rfl, rfl⟩) | (apply w_true; exact rfl) | (apply w_false; exact rfl) | (apply w_dT; exact rfl; (focus (first | exact ‹_› | with_reducible exact rfl | omega))) | (apply w_dF; exact rfl; (focus (first | exact ‹_› | with_reducible exact rfl | omega))) | (apply w_ifN; exact rfl; all_goals intro hc) | (apply w_if; exact rfl; all_goals intro hc) | (apply w_ifB; exact rfl; all_goals intro hc) | apply thenS_normal | apply thenS_ret | apply thenS_exit | apply blockS_normal | apply blockS_ret | apply blockS_exit | apply w_skip | apply w_ret | apply w_exit | apply w_block | apply scopeS_normal | apply scopeS_ret | apply scopeS_exit | apply w_scope | (apply blockS_exit_ne; exact rfl) | ((with_reducible apply Sd.mk); (first | exact True.intro | omega | (constructor <;> first | omega | (unfold maxLen; omega)) | (unfold maxLen; omega))) | ((with_reducible apply Ln.mk); (first | rfl | exact ‹_› | omega | (simp ; first | done | omega))) | ((with_reducible apply Wr.mk); (first | exact IntWalk.i64_in _ (by omega) | exact IntWalk.u8_in _ (by omega) | exact IntWalk.u32_in _ (by omega) | exact IntWalk.u64_in _ (by omega) | exact IntKind.wrap_u8 _ | exact IntKind.wrap_u32 _ | rfl)) | with_reducible exact Upd.head | with_reducible apply Upd.tail | ((with_reducible apply Se.mk); (first | (focus ((repeat (first | exact SetAt.zero | apply SetAt.succ)); done)) | exact setAt_bytes (by omega) (by omega) | exact setAt_mapZ (by omega) | exact setAt_map (by omega))) | ((with_reducible apply Pu.mk); (first | exact putAt_all rfl | exact putAt_recZ (fun _ => rfl) (by omega) | exact putAt_rec (fun _ => rfl) (by omega))) | exact True.intro | intro A | exact rfl)
    all_goals first
      | contradiction
      | (apply s_fin; (exact (show ResS _ _ _ _ [_, _] from ⟨rfl, ⟨rfl, trivial⟩⟩)); (focus (exact .inl ⟨by rw [← hx], by rw [← hx]; rfl, rfl⟩)); (focus (repeat (first | with_reducible exact Take.nil | with_reducible apply Take.c | ((with_reducible apply Take.cE); (first | exact rfl | (apply blkE; (focus (first | exact rfl | exact recs_snocE rfl | exact map_snocE rfl | exact congrArg (fun v => [v]) (gslE rfl rfl (by first | rfl | exact ‹_› | omega | (simp ; first | done | omega)) (by first | rfl | exact ‹_› | omega | (simp ; first | done | omega)) rfl)))))) | with_reducible apply Take.drop))))
      | trace_state
  rw [if_neg h1] at hx
  by_cases h2 : k = 0
  case pos =>
    rw [if_pos h2] at hx
    refine w_body4 Try.func50 rfl rfl ?_
    repeat' (first | apply w_seq | apply w_region | apply o_nil | (apply o_g tyOk; exact rfl; exact rfl) | (apply o_ar tyOk; exact rfl; exact rfl) | (apply o_store tyOk; exact rfl; exact rfl; exact rfl; exact rfl; (focus (exact up))) | (apply o_stores tyOk; exact rfl; exact rfl; exact rfl; exact rfl; (focus (exact ⟨rfl⟩)); (focus (exact up))) | (apply o_eqs; exact rfl; exact rfl; exact rfl; (focus (kernel_rfl)); exact rfl; exact rfl; (focus (kernel_rfl)); exact rfl) | (apply o_neqs; exact rfl; exact rfl; exact rfl; (focus (kernel_rfl)); exact rfl; exact rfl; (focus (kernel_rfl)); exact rfl) | (apply o_makeSlice tyOk; exact rfl; exact rfl; exact rfl; exact rfl; exact rfl; exact rfl; (focus (decide)); (focus (first | exact True.intro | omega | (constructor <;> first | omega | (unfold maxLen; omega)) | (unfold maxLen; omega))); (focus (first | rfl)); exact rfl) | (apply o_invoke; exact rfl; exact rfl; exact rfl; (focus (exact ⟨_, NewReader_any _ _, by repeat (first | with_reducible exact Take.nil | with_reducible apply Take.c | with_reducible apply Take.drop)⟩)); (focus (kernel_rfl)); exact rfl; rintro _ _ ⟨n, rfl, rfl⟩) | (apply o_call; exact rfl; exact rfl; (focus (first | exact rfl | assumption)); exact rfl; (focus (exact ⟨_, NewReader_any _ _, by repeat (first | with_reducible exact Take.nil | with_reducible apply Take.c | with_reducible apply Take.drop)⟩)); rintro _ _ ⟨n, rfl, rfl⟩) | (apply o_callN; exact rfl; exact rfl; exact rfl; (focus (exact ⟨_, NewReader_any _ _, by repeat (first | with_reducible exact Take.nil | with_reducible apply Take.c | with_reducible apply Take.drop)⟩)); rintro _ _ ⟨n, rfl, rfl⟩) | (apply o_invoke; exact rfl; exact rfl; exact rfl; (focus (exact ⟨_, hR _ _, by repeat (first | with_reducible exact Take.nil | with_reducible apply Take.c | with_reducible apply Take.drop)⟩)); (focus (kernel_rfl)); exact rfl; rintro _ _ ⟨rfl, rfl⟩) | (apply o_call; exact rfl; exact rfl; (focus (first | exact rfl | assumption)); exact rfl; (focus (exact ⟨_, hR _ _, by repeat (first | with_reducible exact Take.nil | with_reducible apply Take.c | with_reducible apply Take.drop)⟩)); rintro _ _ ⟨rfl, rfl⟩) | (apply o_callN; exact rfl; exact rfl; exact rfl; (focus (exact ⟨_, hR _ _, by repeat (first | with_reducible exact Take.nil | with_reducible apply Take.c | with_reducible apply Take.drop)⟩)); rintro _ _ ⟨rfl, rfl⟩) | (apply o_invoke; exact rfl; exact rfl; exact rfl; (focus (exact ⟨_, rErr_any _ _ _ _, by repeat (first | with_reducible exact Take.nil | with_reducible apply Take.c | with_reducible apply Take.drop)⟩)); (focus (kernel_rfl)); exact rfl; rintro _ _ ⟨rfl, rfl⟩) | (apply o_call; exact rfl; exact rfl; (focus (first | exact rfl | assumption)); exact rfl; (focus (exact ⟨_, rErr_any _ _ _ _, by repeat (first | with_reducible exact Take.nil | with_reducible apply Take.c | with_reducible apply Take.drop)⟩)); rintro _ _ ⟨rfl, rfl⟩) | (apply o_callN; exact rfl; exact rfl; exact rfl; (focus (exact ⟨_, rErr_any _ _ _ _, by repeat (first | with_reducible exact Take.nil | with_reducible apply Take.c | with_reducible apply Take.drop)⟩)); rintro _ _ ⟨rfl, rfl⟩) | (apply o_invoke; exact rfl; exact rfl; exact rfl; (focus (exact ⟨_, rEnd_any _ _ _ _, by repeat (first | with_reducible exact Take.nil | with_reducible apply Take.c | with_reducible apply Take.drop)⟩)); (focus (kernel_rfl)); exact rfl; rintro _ _ ⟨rfl, rfl⟩) | (apply o_call; exact rfl; exact rfl; (focus (first | exact rfl | assumption)); exact rfl; (focus (exact ⟨_, rEnd_any _ _ _ _, by repeat (first | with_reducible exact Take.nil | with_reducible apply Take.c | with_reducible apply Take.drop)⟩)); rintro _ _ ⟨rfl, rfl⟩) | (apply o_callN; exact rfl; exact rfl; exact rfl; (focus (exact ⟨_, rEnd_any _ _ _ _, by repeat (first | with_reducible exact Take.nil | with_reducible apply Take.c | with_reducible apply Take.drop)⟩)); rintro _ _ ⟨rfl, rfl⟩) | (apply w_true; exact rfl) | (apply w_false; exact rfl) | (apply w_dT; exact rfl; (focus (first | exact ‹_› | with_reducible exact rfl | omega))) | (apply w_dF; exact rfl; (focus (first | exact ‹_› | with_reducible exact rfl | omega))) | (apply w_ifN; exact rfl; all_goals intro hc) | (apply w_if; exact rfl; all_goals intro hc) | (apply w_ifB; exact rfl; all_goals intro hc) | apply thenS_normal | apply thenS_ret | apply thenS_exit | apply blockS_normal | apply blockS_ret | apply blockS_exit | apply w_skip | apply w_ret | apply w_exit | apply w_block | apply scopeS_normal | apply scopeS_ret | apply scopeS_exit | apply w_scope | (apply blockS_exit_ne; exact rfl) | ((with_reducible apply Sd.mk); (first | exact True.intro | omega | (constructor <;> first | omega | (unfold maxLen; omega)) | (unfold maxLen; omega))) | ((with_reducible apply Ln.mk); (first | rfl | exact ‹_› | omega | (simp ; first | done | omega))) | ((with_reducible apply Wr.mk); (first | exact IntWalk.i64_in _ (by omega) | exact IntWalk.u8_in _ (by omega) | exact IntWalk.u32_in _ (by omega) | exact IntWalk.u64_in _ (by omega) | exact IntKind.wrap_u8 _ | exact IntKind.wrap_u32 _ | rfl)) | with_reducible exact Upd.head | with_reducible apply Upd.tail | ((with_reducible apply Se.mk); (first | (focus ((repeat (first | exact SetAt.zero | apply SetAt.succ)); done)) | exact setAt_bytes (by omega) (by omega) | exact setAt_mapZ (by omega) | exact setAt_map (by omega))) | ((with_reducible apply Pu.mk); (first | exact putAt_all rfl | exact putAt_recZ (fun _ => rfl) (by omega) | exact putAt_rec (fun _ => rfl) (by omega))) | exact True.intro | intro A | exact rfl)
    all_goals first
      | contradiction
      | (apply s_fin; (exact (show ResS _ _ _ _ [_, _] from ⟨rfl, ⟨rfl, trivial⟩⟩)); (focus (exact .inl ⟨by rw [← hx], by rw [← hx]; rfl, rfl⟩)); (focus (repeat (first | with_reducible exact Take.nil | with_reducible apply Take.c | ((with_reducible apply Take.cE); (first | exact rfl | (apply blkE; (focus (first | exact rfl | exact recs_snocE rfl | exact map_snocE rfl | exact congrArg (fun v => [v]) (gslE rfl rfl (by first | rfl | exact ‹_› | omega | (simp ; first | done | omega)) (by first | rfl | exact ‹_› | omega | (simp ; first | done | omega)) rfl)))))) | with_reducible apply Take.drop))))
      | trace_state
  rw [if_neg h2] at hx
  obtain ⟨m, rfl⟩ := Int.eq_ofNat_of_zero_le hk.1
  rw [Int.toNat_natCast] at hx
  have hzr : zrow (Value.int IntKind.u8 0) (((m : Int)).toNat * 1) = bytesV (List.replicate m 0) := by
    rw [Int.toNat_natCast]; exact map_zrow (f := fun c : UInt8 => Value.int .u8 c.toNat) 0 rfl rfl _
  refine w_body4 Try.func50 rfl rfl ?_
  repeat' (first | apply w_seq | apply w_region | apply o_nil | (apply o_g tyOk; exact rfl; exact rfl) | (apply o_ar tyOk; exact rfl; exact rfl) | (apply o_store tyOk; exact rfl; exact rfl; exact rfl; exact rfl; (focus (exact up))) | (apply o_stores tyOk; exact rfl; exact rfl; exact rfl; exact rfl; (focus (exact ⟨rfl⟩)); (focus (exact up))) | (apply o_eqs; exact rfl; exact rfl; exact rfl; (focus (kernel_rfl)); exact rfl; exact rfl; (focus (kernel_rfl)); exact rfl) | (apply o_neqs; exact rfl; exact rfl; exact rfl; (focus (kernel_rfl)); exact rfl; exact rfl; (focus (kernel_rfl)); exact rfl) | (apply o_makeSlice tyOk; exact rfl; exact rfl; exact rfl; exact rfl; exact rfl; exact rfl; (focus (decide)); (focus (first | exact True.intro | omega | (constructor <;> first | omega | (unfold maxLen; omega)) | (unfold maxLen; omega))); (focus (first | rfl)); exact rfl) | (apply o_invoke; exact rfl; exact rfl; exact rfl; (focus (exact ⟨_, NewReader_any _ _, by repeat (first | with_reducible exact Take.nil | with_reducible apply Take.c | with_reducible apply Take.drop)⟩)); (focus (kernel_rfl)); exact rfl; rintro _ _ ⟨n, rfl, rfl⟩) | (apply o_call; exact rfl; exact rfl; (focus (first | exact rfl | assumption)); exact rfl; (focus (exact ⟨_, NewReader_any _ _, by repeat (first | with_reducible exact Take.nil | with_reducible apply Take.c | with_reducible apply Take.drop)⟩)); rintro _ _ ⟨n, rfl, rfl⟩) | (apply o_callN; exact rfl; exact rfl; exact rfl; (focus (exact ⟨_, NewReader_any _ _, by repeat (first | with_reducible exact Take.nil | with_reducible apply Take.c | with_reducible apply Take.drop)⟩)); rintro _ _ ⟨n, rfl, rfl⟩) | (apply o_invoke; exact rfl; exact rfl; exact rfl; (focus (exact ⟨_, hR _ _, by repeat (first | with_reducible exact Take.nil | with_reducible apply Take.c | with_reducible apply Take.drop)⟩)); (focus (kernel_rfl)); exact rfl; rintro _ _ ⟨rfl, rfl⟩) | (apply o_call; exact rfl; exact rfl; (focus (first | exact rfl | assumption)); exact rfl; (focus (exact ⟨_, hR _ _, by repeat (first | with_reducible exact Take.nil | with_reducible apply Take.c | with_reducible apply Take.drop)⟩)); rintro _ _ ⟨rfl, rfl⟩) | (apply o_callN; exact rfl; exact rfl; exact rfl; (focus (exact ⟨_, hR _ _, by repeat (first | with_reducible exact Take.nil | with_reducible apply Take.c | with_reducible apply Take.drop)⟩)); rintro _ _ ⟨rfl, rfl⟩) | (apply o_invoke; exact rfl; exact rfl; exact rfl; (focus (exact ⟨_, rErr_any _ _ _ _, by repeat (first | with_reducible exact Take.nil | with_reducible apply Take.c | with_reducible apply Take.drop)⟩)); (focus (kernel_rfl)); exact rfl; rintro _ _ ⟨rfl, rfl⟩) | (apply o_call; exact rfl; exact rfl; (focus (first | exact rfl | assumption)); exact rfl; (focus (exact ⟨_, rErr_any _ _ _ _, by repeat (first | with_reducible exact Take.nil | with_reducible apply Take.c | with_reducible apply Take.drop)⟩)); rintro _ _ ⟨rfl, rfl⟩) | (apply o_callN; exact rfl; exact rfl; exact rfl; (focus (exact ⟨_, rErr_any _ _ _ _, by repeat (first | with_reducible exact Take.nil | with_reducible apply Take.c | with_reducible apply Take.drop)⟩)); rintro _ _ ⟨rfl, rfl⟩) | (apply o_invoke; exact rfl; exact rfl; exact rfl; (focus (exact ⟨_, rLeft_any _ _ _ _, by repeat (first | with_reducible exact Take.nil | with_reducible apply Take.c | with_reducible apply Take.drop)⟩)); (focus (kernel_rfl)); exact rfl; rintro _ _ ⟨rfl, rfl⟩) | (apply o_call; exact rfl; exact rfl; (focus (first | exact rfl | assumption)); exact rfl; (focus (exact ⟨_, rLeft_any _ _ _ _, by repeat (first | with_reducible exact Take.nil | with_reducible apply Take.c | with_reducible apply Take.drop)⟩)); rintro _ _ ⟨rfl, rfl⟩) | (apply o_callN; exact rfl; exact rfl; exact rfl; (focus (exact ⟨_, rLeft_any _ _ _ _, by repeat (first | with_reducible exact Take.nil | with_reducible apply Take.c | with_reducible apply Take.drop)⟩)); rintro _ _ ⟨rfl, rfl⟩) | (apply o_invoke; exact rfl; exact rfl; exact rfl; (focus (exact ⟨_, hT _ _, by repeat (first | with_reducible exact Take.nil | with_reducible apply Take.c | with_reducible apply Take.drop)⟩)); (focus (kernel_rfl)); exact rfl; rintro _ _ ⟨rfl, rfl⟩) | (apply o_call; exact rfl; exact rfl; (focus (first | exact rfl | assumption)); exact rfl; (focus (exact ⟨_, hT _ _, by repeat (first | with_reducible exact Take.nil | with_reducible apply Take.c | with_reducible apply Take.drop)⟩)); rintro _ _ ⟨rfl, rfl⟩) | (apply o_callN; exact rfl; exact rfl; exact rfl; (focus (exact ⟨_, hT _ _, by repeat (first | with_reducible exact Take.nil | with_reducible apply Take.c | with_reducible apply Take.drop)⟩)); rintro _ _ ⟨rfl, rfl⟩) | (apply o_invoke; exact rfl; exact rfl; exact rfl; (focus (exact ⟨_, NewDecoder_any _ _ (by omega), by repeat (first | with_reducible exact Take.nil | with_reducible apply Take.c | with_reducible apply Take.drop)⟩)); (focus (kernel_rfl)); exact rfl; rintro _ _ ⟨n2, rfl, rfl⟩) | (apply o_call; exact rfl; exact rfl; (focus (first | exact rfl | assumption)); exact rfl; (focus (exact ⟨_, NewDecoder_any _ _ (by omega), by repeat (first | with_reducible exact Take.nil | with_reducible apply Take.c | with_reducible apply Take.drop)⟩)); rintro _ _ ⟨n2, rfl, rfl⟩) | (apply o_callN; exact rfl; exact rfl; exact rfl; (focus (exact ⟨_, NewDecoder_any _ _ (by omega), by repeat (first | with_reducible exact Take.nil | with_reducible apply Take.c | with_reducible apply Take.drop)⟩)); rintro _ _ ⟨n2, rfl, rfl⟩) | (apply w_true; exact rfl) | (apply w_false; exact rfl) | (apply w_dT; exact rfl; (focus (first | exact ‹_› | with_reducible exact rfl | omega))) | (apply w_dF; exact rfl; (focus (first | exact ‹_› | with_reducible exact rfl | omega))) | (apply w_ifN; exact rfl; all_goals intro hc) | (apply w_if; exact rfl; all_goals intro hc) | (apply w_ifB; exact rfl; all_goals intro hc) | apply thenS_normal | apply thenS_ret | apply thenS_exit | apply blockS_normal | apply blockS_ret | apply blockS_exit | apply w_skip | apply w_ret | apply w_exit | apply w_block | apply scopeS_normal | apply scopeS_ret | apply scopeS_exit | apply w_scope | (apply blockS_exit_ne; exact rfl) | ((with_reducible apply Sd.mk); (first | exact True.intro | omega | (constructor <;> first | omega | (unfold maxLen; omega)) | (unfold maxLen; omega))) | ((with_reducible apply Ln.mk); (first | rfl | exact ‹_› | omega | (simp ; first | done | omega))) | ((with_reducible apply Wr.mk); (first | exact IntWalk.i64_in _ (by omega) | exact IntWalk.u8_in _ (by omega) | exact IntWalk.u32_in _ (by omega) | exact IntWalk.u64_in _ (by omega) | exact IntKind.wrap_u8 _ | exact IntKind.wrap_u32 _ | rfl)) | with_reducible exact Upd.head | with_reducible apply Upd.tail | ((with_reducible apply Se.mk); (first | (focus ((repeat (first | exact SetAt.zero | apply SetAt.succ)); done)) | exact setAt_bytes (by omega) (by omega) | exact setAt_mapZ (by omega) | exact setAt_map (by omega))) | ((with_reducible apply Pu.mk); (first | exact putAt_all rfl | exact putAt_recZ (fun _ => rfl) (by omega) | exact putAt_rec (fun _ => rfl) (by omega))) | exact True.intro | intro A | exact rfl)
  rw [hzr, Int.toNat_natCast]
  refine w_loop (S := Nat × List UInt8 × List Int × Int × Dec) (fun x => [(0, .iface 34 (gptr M 0 17)), (12, gptr n2 0 5), (13, gsl A 0 (m * 1) m 1), (39, I m), (40, I x.1)])
    (fun x => (A, ⟨bytesV x.2.1, false⟩) :: decB n2 x.2.2.2.2 :: (M, ⟨byC N x.2.2.2.1, false⟩) :: (N, ⟨nodes x.2.2.1, false⟩) :: h)
    (fun x => x.1 ≤ m ∧ x.2.1.length = m ∧ x.2.2.1.length = 2048 ∧ (0 ≤ x.2.2.2.1 ∧ x.2.2.2.1 ≤ 255) ∧ DecOk x.2.2.2.2 ∧ (x.2.1.take x.1 ++ (bdecN (m - x.1) x.2.2.1 x.2.2.2.1 x.2.2.2.2).1, (bdecN (m - x.1) x.2.2.1 x.2.2.2.1 x.2.2.2.2).2) = bdecN m P c (dnew d))
    (fun x => m - x.1) (0, List.replicate m 0, P, c, dnew d) ⟨Nat.zero_le _, List.length_replicate, hP, hc0, dnew_ok (by omega), rfl⟩ (by repeat' (first | exact trivial | refine ⟨rfl, ?_⟩ | refine ⟨congrArg some ?_, ?_⟩)) (by repeat (first | with_reducible exact Take.nil | with_reducible apply Take.c | ((with_reducible apply Take.cE); (first | exact rfl | (apply blkE; (focus (first | exact rfl | exact recs_snocE rfl | exact map_snocE rfl | exact congrArg (fun v => [v]) (gslE rfl rfl (by first | rfl | exact ‹_› | omega | (simp ; first | done | omega)) (by first | rfl | exact ‹_› | omega | (simp ; first | done | omega)) rfl)))))) | with_reducible apply Take.drop)) ?_
  rintro ⟨i, L, P1, c1, d1⟩ ⟨hi, hL, hP1, hc1, hok1, he⟩
  dsimp only at hi hL hP1 hc1 hok1 he ⊢
  by_cases him : i < m
  · have hb := bdec_ok (P := P1) (c := c1) hok1 hP1 hc1
    have hD := BytesDecode_any n2 M N P1 c1 d1 ((A, ⟨bytesV L, false⟩) :: h) hP1 hc1 hok1
    rw [show m - i = (m - (i + 1)) + 1 by omega] at he
    rw [show ∀ k, bdecN (k + 1) P1 c1 d1 = (b8 (bdec P1 c1 d1).2.2 :: (bdecN k (bdec P1 c1 d1).1 (bdec P1 c1 d1).2.2 (bdec P1 c1 d1).2.1).1, (bdecN k (bdec P1 c1 d1).1 (bdec P1 c1 d1).2.2 (bdec P1 c1 d1).2.1).2) from fun _ => rfl] at he
    generalize bdec P1 c1 d1 = B at *
    obtain ⟨P2, d2, c2⟩ := B
    dsimp only at he hD hb
    repeat' (first | apply w_seq | apply w_region | apply o_nil | (apply o_g tyOk; exact rfl; exact rfl) | (apply o_ar tyOk; exact rfl; exact rfl) | (apply o_store tyOk; exact rfl; exact rfl; exact rfl; exact rfl; (focus (exact up))) | (apply o_stores tyOk; exact rfl; exact rfl; exact rfl; exact rfl; (focus (exact ⟨rfl⟩)); (focus (exact up))) | (apply o_eqs; exact rfl; exact rfl; exact rfl; (focus (kernel_rfl)); exact rfl; exact rfl; (focus (kernel_rfl)); exact rfl) | (apply o_neqs; exact rfl; exact rfl; exact rfl; (focus (kernel_rfl)); exact rfl; exact rfl; (focus (kernel_rfl)); exact rfl) | (apply o_makeSlice tyOk; exact rfl; exact rfl; exact rfl; exact rfl; exact rfl; exact rfl; (focus (decide)); (focus (first | exact True.intro | omega | (constructor <;> first | omega | (unfold maxLen; omega)) | (unfold maxLen; omega))); (focus (first | rfl)); exact rfl) | (apply o_invoke; exact rfl; exact rfl; exact rfl; (focus (exact ⟨_, hD, by repeat (first | with_reducible exact Take.nil | with_reducible apply Take.c | with_reducible apply Take.drop)⟩)); (focus (kernel_rfl)); exact rfl; rintro _ _ ⟨rfl, rfl⟩) | (apply o_call; exact rfl; exact rfl; (focus (first | exact rfl | assumption)); exact rfl; (focus (exact ⟨_, hD, by repeat (first | with_reducible exact Take.nil | with_reducible apply Take.c | with_reducible apply Take.drop)⟩)); rintro _ _ ⟨rfl, rfl⟩) | (apply o_callN; exact rfl; exact rfl; exact rfl; (focus (exact ⟨_, hD, by repeat (first | with_reducible exact Take.nil | with_reducible apply Take.c | with_reducible apply Take.drop)⟩)); rintro _ _ ⟨rfl, rfl⟩) | (apply w_true; exact rfl) | (apply w_false; exact rfl) | (apply w_dT; exact rfl; (focus (first | exact ‹_› | with_reducible exact rfl | omega))) | (apply w_dF; exact rfl; (focus (first | exact ‹_› | with_reducible exact rfl | omega))) | (apply w_ifN; exact rfl; all_goals intro hc) | (apply w_if; exact rfl; all_goals intro hc) | (apply w_ifB; exact rfl; all_goals intro hc) | apply thenS_normal | apply thenS_ret | apply thenS_exit | apply blockS_normal | apply blockS_ret | apply blockS_exit | apply w_skip | apply w_ret | apply w_exit | apply w_block | apply scopeS_normal | apply scopeS_ret | apply scopeS_exit | apply w_scope | (apply blockS_exit_ne; exact rfl) | ((with_reducible apply Sd.mk); (first | exact True.intro | omega | (constructor <;> first | omega | (unfold maxLen; omega)) | (unfold maxLen; omega))) | ((with_reducible apply Ln.mk); (first | rfl | exact ‹_› | omega | (simp ; first | done | omega))) | ((with_reducible apply Wr.mk); (first | exact IntWalk.i64_in _ (by omega) | exact IntWalk.u8_in _ (by omega) | exact IntWalk.u32_in _ (by omega) | exact IntWalk.u64_in _ (by omega) | exact IntKind.wrap_u8 _ | exact IntKind.wrap_u32 _ | rfl)) | with_reducible exact Upd.head | with_reducible apply Upd.tail | ((with_reducible apply Se.mk); (first | (focus ((repeat (first | exact SetAt.zero | apply SetAt.succ)); done)) | exact setAt_bytes (by omega) (by omega) | exact setAt_mapZ (by omega) | exact setAt_map (by omega))) | ((with_reducible apply Pu.mk); (first | exact putAt_all rfl | exact putAt_recZ (fun _ => rfl) (by omega) | exact putAt_rec (fun _ => rfl) (by omega))) | exact True.intro | intro A | exact rfl)
    all_goals first
      | (exfalso; omega)
      | (refine ⟨(i + 1, L.set i (b8 c2), P2, c2, d2), ⟨him, by simp [hL], hb.2.1, hb.2.2, hb.1, ?_⟩, by show m - (i + 1) < m - i; omega, (by repeat' (first | exact trivial | refine ⟨rfl, ?_⟩ | refine ⟨congrArg some ?_, ?_⟩)), (by repeat (first | with_reducible exact Take.nil | with_reducible apply Take.c | ((with_reducible apply Take.cE); (first | exact rfl | (apply blkE; (focus (first | exact rfl | exact recs_snocE rfl | exact map_snocE rfl | exact congrArg (fun v => [v]) (gslE rfl rfl (by first | rfl | exact ‹_› | omega | (simp ; first | done | omega)) (by first | rfl | exact ‹_› | omega | (simp ; first | done | omega)) rfl)))))) | with_reducible apply Take.drop))⟩
         dsimp only
         rw [take_set (by omega), List.append_assoc]
         exact he)
      | trace_state
  · obtain rfl : i = m := by omega
    rw [Nat.sub_self, List.take_of_length_le (by omega)] at he
    have he : (L ++ [], d1) = bdecN i P c (dnew d) := he
    rw [List.append_nil] at he
    rw [← he] at hx
    dsimp only at hx
    by_cases h3 : dend d1 = 0
    · rw [if_neg (fun g => g h3)] at hx
      repeat' (first | apply w_seq | apply w_region | apply o_nil | (apply o_g tyOk; exact rfl; exact rfl) | (apply o_ar tyOk; exact rfl; exact rfl) | (apply o_store tyOk; exact rfl; exact rfl; exact rfl; exact rfl; (focus (exact up))) | (apply o_stores tyOk; exact rfl; exact rfl; exact rfl; exact rfl; (focus (exact ⟨rfl⟩)); (focus (exact up))) | (apply o_eqs; exact rfl; exact rfl; exact rfl; (focus (kernel_rfl)); exact rfl; exact rfl; (focus (kernel_rfl)); exact rfl) | (apply o_neqs; exact rfl; exact rfl; exact rfl; (focus (kernel_rfl)); exact rfl; exact rfl; (focus (kernel_rfl)); exact rfl) | (apply o_makeSlice tyOk; exact rfl; exact rfl; exact rfl; exact rfl; exact rfl; exact rfl; (focus (decide)); (focus (first | exact True.intro | omega | (constructor <;> first | omega | (unfold maxLen; omega)) | (unfold maxLen; omega))); (focus (first | rfl)); exact rfl) | (apply o_invoke; exact rfl; exact rfl; exact rfl; (focus (exact ⟨_, End_any _ _ _, by repeat (first | with_reducible exact Take.nil | with_reducible apply Take.c | with_reducible apply Take.drop)⟩)); (focus (kernel_rfl)); exact rfl; rintro _ _ ⟨rfl, rfl⟩) | (apply o_call; exact rfl; exact rfl; (focus (first | exact rfl | assumption)); exact rfl; (focus (exact ⟨_, End_any _ _ _, by repeat (first | with_reducible exact Take.nil | with_reducible apply Take.c | with_reducible apply Take.drop)⟩)); rintro _ _ ⟨rfl, rfl⟩) | (apply o_callN; exact rfl; exact rfl; exact rfl; (focus (exact ⟨_, End_any _ _ _, by repeat (first | with_reducible exact Take.nil | with_reducible apply Take.c | with_reducible apply Take.drop)⟩)); rintro _ _ ⟨rfl, rfl⟩) | (apply w_true; exact rfl) | (apply w_false; exact rfl) | (apply w_dT; exact rfl; (focus (first | exact ‹_› | with_reducible exact rfl | omega))) | (apply w_dF; exact rfl; (focus (first | exact ‹_› | with_reducible exact rfl | omega))) | (apply w_ifN; exact rfl; all_goals intro hc) | (apply w_if; exact rfl; all_goals intro hc) | (apply w_ifB; exact rfl; all_goals intro hc) | apply thenS_normal | apply thenS_ret | apply thenS_exit | apply blockS_normal | apply blockS_ret | apply blockS_exit | apply w_skip | apply w_ret | apply w_exit | apply w_block | apply scopeS_normal | apply scopeS_ret | apply scopeS_exit | apply w_scope | (apply blockS_exit_ne; exact rfl) | ((with_reducible apply Sd.mk); (first | exact True.intro | omega | (constructor <;> first | omega | (unfold maxLen; omega)) | (unfold maxLen; omega))) | ((with_reducible apply Ln.mk); (first | rfl | exact ‹_› | omega | (simp ; first | done | omega))) | ((with_reducible apply Wr.mk); (first | exact IntWalk.i64_in _ (by omega) | exact IntWalk.u8_in _ (by omega) | exact IntWalk.u32_in _ (by omega) | exact IntWalk.u64_in _ (by omega) | exact IntKind.wrap_u8 _ | exact IntKind.wrap_u32 _ | rfl)) | with_reducible exact Upd.head | with_reducible apply Upd.tail | ((with_reducible apply Se.mk); (first | (focus ((repeat (first | exact SetAt.zero | apply SetAt.succ)); done)) | exact setAt_bytes (by omega) (by omega) | exact setAt_mapZ (by omega) | exact setAt_map (by omega))) | ((with_reducible apply Pu.mk); (first | exact putAt_all rfl | exact putAt_recZ (fun _ => rfl) (by omega) | exact putAt_rec (fun _ => rfl) (by omega))) | exact True.intro | intro A | exact rfl)
      all_goals try contradiction
      subst hx hL
      (apply s_fin; (exact (show ResS _ _ _ _ [_, _] from ⟨rfl, ⟨rfl, trivial⟩⟩)); (focus (exact .inr ⟨rfl, A, by rw [Nat.mul_one]; rfl, rfl⟩)); (focus (repeat (first | with_reducible exact Take.nil | with_reducible apply Take.c | ((with_reducible apply Take.cE); (first | exact rfl | (apply blkE; (focus (first | exact rfl | exact recs_snocE rfl | exact map_snocE rfl | exact congrArg (fun v => [v]) (gslE rfl rfl (by first | rfl | exact ‹_› | omega | (simp ; first | done | omega)) (by first | rfl | exact ‹_› | omega | (simp ; first | done | omega)) rfl)))))) | with_reducible apply Take.drop))))
    · rw [if_pos h3] at hx
      repeat' (first | apply w_seq | apply w_region | apply o_nil | (apply o_g tyOk; exact rfl; exact rfl) | (apply o_ar tyOk; exact rfl; exact rfl) | (apply o_store tyOk; exact rfl; exact rfl; exact rfl; exact rfl; (focus (exact up))) | (apply o_stores tyOk; exact rfl; exact rfl; exact rfl; exact rfl; (focus (exact ⟨rfl⟩)); (focus (exact up))) | (apply o_eqs; exact rfl; exact rfl; exact rfl; (focus (kernel_rfl)); exact rfl; exact rfl; (focus (kernel_rfl)); exact rfl) | (apply o_neqs; exact rfl; exact rfl; exact rfl; (focus (kernel_rfl)); exact rfl; exact rfl; (focus (kernel_rfl)); exact rfl) | (apply o_makeSlice tyOk; exact rfl; exact rfl; exact rfl; exact rfl; exact rfl; exact rfl; (focus (decide)); (focus (first | exact True.intro | omega | (constructor <;> first | omega | (unfold maxLen; omega)) | (unfold maxLen; omega))); (focus (first | rfl)); exact rfl) | (apply o_invoke; exact rfl; exact rfl; exact rfl; (focus (exact ⟨_, End_any _ _ _, by repeat (first | with_reducible exact Take.nil | with_reducible apply Take.c | with_reducible apply Take.drop)⟩)); (focus (kernel_rfl)); exact rfl; rintro _ _ ⟨rfl, rfl⟩) | (apply o_call; exact rfl; exact rfl; (focus (first | exact rfl | assumption)); exact rfl; (focus (exact ⟨_, End_any _ _ _, by repeat (first | with_reducible exact Take.nil | with_reducible apply Take.c | with_reducible apply Take.drop)⟩)); rintro _ _ ⟨rfl, rfl⟩) | (apply o_callN; exact rfl; exact rfl; exact rfl; (focus (exact ⟨_, End_any _ _ _, by repeat (first | with_reducible exact Take.nil | with_reducible apply Take.c | with_reducible apply Take.drop)⟩)); rintro _ _ ⟨rfl, rfl⟩) | (apply w_true; exact rfl) | (apply w_false; exact rfl) | (apply w_dT; exact rfl; (focus (first | exact ‹_› | with_reducible exact rfl | omega))) | (apply w_dF; exact rfl; (focus (first | exact ‹_› | with_reducible exact rfl | omega))) | (apply w_ifN; exact rfl; all_goals intro hc) | (apply w_if; exact rfl; all_goals intro hc) | (apply w_ifB; exact rfl; all_goals intro hc) | apply thenS_normal | apply thenS_ret | apply thenS_exit | apply blockS_normal | apply blockS_ret | apply blockS_exit | apply w_skip | apply w_ret | apply w_exit | apply w_block | apply scopeS_normal | apply scopeS_ret | apply scopeS_exit | apply w_scope | (apply blockS_exit_ne; exact rfl) | ((with_reducible apply Sd.mk); (first | exact True.intro | omega | (constructor <;> first | omega | (unfold maxLen; omega)) | (unfold maxLen; omega))) | ((with_reducible apply Ln.mk); (first | rfl | exact ‹_› | omega | (simp ; first | done | omega))) | ((with_reducible apply Wr.mk); (first | exact IntWalk.i64_in _ (by omega) | exact IntWalk.u8_in _ (by omega) | exact IntWalk.u32_in _ (by omega) | exact IntWalk.u64_in _ (by omega) | exact IntKind.wrap_u8 _ | exact IntKind.wrap_u32 _ | rfl)) | with_reducible exact Upd.head | with_reducible apply Upd.tail | ((with_reducible apply Se.mk); (first | (focus ((repeat (first | exact SetAt.zero | apply SetAt.succ)); done)) | exact setAt_bytes (by omega) (by omega) | exact setAt_mapZ (by omega) | exact setAt_map (by omega))) | ((with_reducible apply Pu.mk); (first | exact putAt_all rfl | exact putAt_recZ (fun _ => rfl) (by omega) | exact putAt_rec (fun _ => rfl) (by omega))) | exact True.intro | intro A | exact rfl)
      all_goals first
        | contradiction
        | (apply s_fin; (exact (show ResS _ _ _ _ [_, _] from ⟨rfl, ⟨rfl, trivial⟩⟩)); (focus (exact .inl ⟨by rw [← hx], by rw [← hx]; rfl, rfl⟩)); (focus (repeat (first | with_reducible exact Take.nil | with_reducible apply Take.c | ((with_reducible apply Take.cE); (first | exact rfl | (apply blkE; (focus (first | exact rfl | exact recs_snocE rfl | exact map_snocE rfl | exact congrArg (fun v => [v]) (gslE rfl rfl (by first | rfl | exact ‹_› | omega | (simp ; first | done | omega)) (by first | rfl | exact ‹_› | omega | (simp ; first | done | omega)) rfl)))))) | with_reducible apply Take.drop))))
        | trace_state
end Go.Proofs.Ytinfmojbdaiogaa
end
section
set_option linter.unusedVariables false
set_option linter.unusedSimpArgs false
set_option maxRecDepth 4000
namespace Go.Proofs.Ytinfmojbdaiogaa
open Go.Gh Go.RowKit

/-- What DecodeBytes gives. -/
def mDec (l : List UInt8) (most : Int) : List UInt8 × Int := rdec l most nd0 0
theorem DecodeBytes_any (l : List UInt8) (most : Int) (h : SH) (hl : l.length ≤ 100000) : SRun Try.prog 18 [S l, I most] h fun r q => r = .tuple #[S (mDec l most).1, Er (mDec l most).2] ∧ q = h := by
  have hB : ∀ h, SRun Try.prog 21 [] h fun r q => ∃ M N, r = gptr M 0 17 ∧ q = (M, ⟨byC N 0, false⟩) :: (N, ⟨nodes nd0, false⟩) :: h := NewBytes_any
  have hE := fun M N h => decodeB_any M N nd0 0 l most h hl List.length_replicate (by decide)
  unfold mDec
  generalize rdec l most nd0 0 = R at *
  generalize nd0 = X at *
  obtain ⟨x, e⟩ := R
  refine w_body2 Try.func18 rfl rfl ?_
  repeat' (first | apply w_seq | apply w_region | apply o_nil | (apply o_g tyOk; exact rfl; exact rfl) | (apply o_ar tyOk; exact rfl; exact rfl) | (apply o_convs tyOk; exact rfl; exact rfl; exact rfl; exact rfl; exact rfl; exact rfl) | (apply o_toBytes tyOk; exact rfl; exact rfl; exact rfl; exact rfl; exact rfl; exact rfl; exact rfl) | (apply o_toString tyOk; exact rfl; exact rfl; exact rfl; exact rfl; exact rfl; exact rfl; (focus (exact pk))) | (apply o_toString_nil tyOk; exact rfl; exact rfl; exact rfl; exact rfl; exact rfl; exact rfl; exact rfl) | (apply o_iface; exact rfl; (focus (exact Try.underlying34)); exact rfl; exact rfl) | (apply o_iface; exact rfl; exact rfl; exact rfl; exact rfl) | (apply o_call; exact rfl; exact rfl; (focus (first | exact rfl | assumption)); exact rfl; (focus (exact ⟨_, hB _, by repeat (first | with_reducible exact Take.nil | with_reducible apply Take.c | with_reducible apply Take.drop)⟩)); rintro _ _ ⟨M, N, rfl, rfl⟩) | (apply o_callN; exact rfl; exact rfl; exact rfl; (focus (exact ⟨_, hB _, by repeat (first | with_reducible exact Take.nil | with_reducible apply Take.c | with_reducible apply Take.drop)⟩)); rintro _ _ ⟨M, N, rfl, rfl⟩) | (apply w_true; exact rfl) | (apply w_false; exact rfl) | (apply w_dT; exact rfl; (focus (first | exact ‹_› | with_reducible exact rfl | omega))) | (apply w_dF; exact rfl; (focus (first | exact ‹_› | with_reducible exact rfl | omega))) | (apply w_ifN; exact rfl; all_goals intro hc) | (apply w_if; exact rfl; all_goals intro hc) | (apply w_ifB; exact rfl; all_goals intro hc) | apply thenS_normal | apply thenS_ret | apply thenS_exit | apply blockS_normal | apply blockS_ret | apply blockS_exit | apply w_skip | apply w_ret | apply w_exit | apply w_block | apply scopeS_normal | apply scopeS_ret | apply scopeS_exit | apply w_scope | (apply blockS_exit_ne; exact rfl) | ((with_reducible apply Sd.mk); (first | exact True.intro | omega | (constructor <;> first | omega | (unfold maxLen; omega)) | (unfold maxLen; omega))) | ((with_reducible apply Ln.mk); (first | rfl | exact ‹_› | omega | (simp ; first | done | omega))) | ((with_reducible apply Wr.mk); (first | exact IntWalk.i64_in _ (by omega) | exact IntWalk.u8_in _ (by omega) | exact IntWalk.u32_in _ (by omega) | exact IntWalk.u64_in _ (by omega) | exact IntKind.wrap_u8 _ | exact IntKind.wrap_u32 _ | rfl)) | with_reducible exact Pick.head | with_reducible apply Pick.tail | ((with_reducible apply Su.mk); (first | exact subAt_all | exact subAt_recZ (fun _ => rfl) (by omega) | exact subAt_rec (fun _ => rfl) (by omega))) | exact True.intro | intro A | exact rfl)
  all_goals first | (exfalso; omega) | skip
  refine o_iface (d := .pointer 100) rfl (by kernel_rfl) rfl rfl ?_
  repeat' (first | apply w_seq | apply w_region | apply o_nil | (apply o_g tyOk; exact rfl; exact rfl) | (apply o_ar tyOk; exact rfl; exact rfl) | (apply o_convs tyOk; exact rfl; exact rfl; exact rfl; exact rfl; exact rfl; exact rfl) | (apply o_toBytes tyOk; exact rfl; exact rfl; exact rfl; exact rfl; exact rfl; exact rfl; exact rfl) | (apply o_toString tyOk; exact rfl; exact rfl; exact rfl; exact rfl; exact rfl; exact rfl; (focus (exact pk))) | (apply o_toString_nil tyOk; exact rfl; exact rfl; exact rfl; exact rfl; exact rfl; exact rfl; exact rfl) | (apply o_iface; exact rfl; (focus (exact Try.underlying34)); exact rfl; exact rfl) | (apply o_iface; exact rfl; exact rfl; exact rfl; exact rfl) | (apply o_call; exact rfl; exact rfl; (focus (first | exact rfl | assumption)); exact rfl; (focus (exact ⟨_, hE M N _, by repeat (first | with_reducible exact Take.nil | with_reducible apply Take.c | with_reducible apply Take.drop)⟩)); rintro _ _ hh) | (apply o_callN; exact rfl; exact rfl; exact rfl; (focus (exact ⟨_, hE M N _, by repeat (first | with_reducible exact Take.nil | with_reducible apply Take.c | with_reducible apply Take.drop)⟩)); rintro _ _ hh) | (apply w_true; exact rfl) | (apply w_false; exact rfl) | (apply w_dT; exact rfl; (focus (first | exact ‹_› | with_reducible exact rfl | omega))) | (apply w_dF; exact rfl; (focus (first | exact ‹_› | with_reducible exact rfl | omega))) | (apply w_ifN; exact rfl; all_goals intro hc) | (apply w_if; exact rfl; all_goals intro hc) | (apply w_ifB; exact rfl; all_goals intro hc) | apply thenS_normal | apply thenS_ret | apply thenS_exit | apply blockS_normal | apply blockS_ret | apply blockS_exit | apply w_skip | apply w_ret | apply w_exit | apply w_block | apply scopeS_normal | apply scopeS_ret | apply scopeS_exit | apply w_scope | (apply blockS_exit_ne; exact rfl) | ((with_reducible apply Sd.mk); (first | exact True.intro | omega | (constructor <;> first | omega | (unfold maxLen; omega)) | (unfold maxLen; omega))) | ((with_reducible apply Ln.mk); (first | rfl | exact ‹_› | omega | (simp ; first | done | omega))) | ((with_reducible apply Wr.mk); (first | exact IntWalk.i64_in _ (by omega) | exact IntWalk.u8_in _ (by omega) | exact IntWalk.u32_in _ (by omega) | exact IntWalk.u64_in _ (by omega) | exact IntKind.wrap_u8 _ | exact IntKind.wrap_u32 _ | rfl)) | with_reducible exact Pick.head | with_reducible apply Pick.tail | ((with_reducible apply Su.mk); (first | exact subAt_all | exact subAt_recZ (fun _ => rfl) (by omega) | exact subAt_rec (fun _ => rfl) (by omega))) | exact True.intro | intro A | exact rfl)
  obtain ⟨rfl, rfl, rfl⟩ | ⟨rfl, A, rfl, rfl⟩ := hh
  · dsimp only
    repeat' (first | apply w_seq | apply w_region | apply o_nil | (apply o_g tyOk; exact rfl; exact rfl) | (apply o_ar tyOk; exact rfl; exact rfl) | (apply o_convs tyOk; exact rfl; exact rfl; exact rfl; exact rfl; exact rfl; exact rfl) | (apply o_toBytes tyOk; exact rfl; exact rfl; exact rfl; exact rfl; exact rfl; exact rfl; exact rfl) | (apply o_toString tyOk; exact rfl; exact rfl; exact rfl; exact rfl; exact rfl; exact rfl; (focus (exact pk))) | (apply o_toString_nil tyOk; exact rfl; exact rfl; exact rfl; exact rfl; exact rfl; exact rfl; exact rfl) | (apply o_iface; exact rfl; (focus (exact Try.underlying34)); exact rfl; exact rfl) | (apply o_iface; exact rfl; exact rfl; exact rfl; exact rfl) | (apply w_true; exact rfl) | (apply w_false; exact rfl) | (apply w_dT; exact rfl; (focus (first | exact ‹_› | with_reducible exact rfl | omega))) | (apply w_dF; exact rfl; (focus (first | exact ‹_› | with_reducible exact rfl | omega))) | (apply w_ifN; exact rfl; all_goals intro hc) | (apply w_if; exact rfl; all_goals intro hc) | (apply w_ifB; exact rfl; all_goals intro hc) | apply thenS_normal | apply thenS_ret | apply thenS_exit | apply blockS_normal | apply blockS_ret | apply blockS_exit | apply w_skip | apply w_ret | apply w_exit | apply w_block | apply scopeS_normal | apply scopeS_ret | apply scopeS_exit | apply w_scope | (apply blockS_exit_ne; exact rfl) | ((with_reducible apply Sd.mk); (first | exact True.intro | omega | (constructor <;> first | omega | (unfold maxLen; omega)) | (unfold maxLen; omega))) | ((with_reducible apply Ln.mk); (first | rfl | exact ‹_› | omega | (simp ; first | done | omega))) | ((with_reducible apply Wr.mk); (first | exact IntWalk.i64_in _ (by omega) | exact IntWalk.u8_in _ (by omega) | exact IntWalk.u32_in _ (by omega) | exact IntWalk.u64_in _ (by omega) | exact IntKind.wrap_u8 _ | exact IntKind.wrap_u32 _ | rfl)) | with_reducible exact Pick.head | with_reducible apply Pick.tail | ((with_reducible apply Su.mk); (first | exact subAt_all | exact subAt_recZ (fun _ => rfl) (by omega) | exact subAt_rec (fun _ => rfl) (by omega))) | exact True.intro | intro A | exact rfl)
    all_goals first
      | (apply s_fin; (exact (show ResS _ _ _ _ [_, _] from ⟨rfl, ⟨rfl, trivial⟩⟩)); (focus (exact ⟨rfl, rfl⟩)); (focus (repeat (first | with_reducible exact Take.nil | with_reducible apply Take.c | ((with_reducible apply Take.cE); (first | exact rfl | (apply blkE; (focus (first | exact rfl | exact recs_snocE rfl | exact map_snocE rfl | exact congrArg (fun v => [v]) (gslE rfl rfl (by first | rfl | exact ‹_› | omega | (simp ; first | done | omega)) (by first | rfl | exact ‹_› | omega | (simp ; first | done | omega)) rfl)))))) | with_reducible apply Take.drop))))
      | trace_state
  · dsimp only
    repeat' (first | apply w_seq | apply w_region | apply o_nil | (apply o_g tyOk; exact rfl; exact rfl) | (apply o_ar tyOk; exact rfl; exact rfl) | (apply o_convs tyOk; exact rfl; exact rfl; exact rfl; exact rfl; exact rfl; exact rfl) | (apply o_toBytes tyOk; exact rfl; exact rfl; exact rfl; exact rfl; exact rfl; exact rfl; exact rfl) | (apply o_toString tyOk; exact rfl; exact rfl; exact rfl; exact rfl; exact rfl; exact rfl; (focus (exact pk))) | (apply o_toString_nil tyOk; exact rfl; exact rfl; exact rfl; exact rfl; exact rfl; exact rfl; exact rfl) | (apply o_iface; exact rfl; (focus (exact Try.underlying34)); exact rfl; exact rfl) | (apply o_iface; exact rfl; exact rfl; exact rfl; exact rfl) | (apply w_true; exact rfl) | (apply w_false; exact rfl) | (apply w_dT; exact rfl; (focus (first | exact ‹_› | with_reducible exact rfl | omega))) | (apply w_dF; exact rfl; (focus (first | exact ‹_› | with_reducible exact rfl | omega))) | (apply w_ifN; exact rfl; all_goals intro hc) | (apply w_if; exact rfl; all_goals intro hc) | (apply w_ifB; exact rfl; all_goals intro hc) | apply thenS_normal | apply thenS_ret | apply thenS_exit | apply blockS_normal | apply blockS_ret | apply blockS_exit | apply w_skip | apply w_ret | apply w_exit | apply w_block | apply scopeS_normal | apply scopeS_ret | apply scopeS_exit | apply w_scope | (apply blockS_exit_ne; exact rfl) | ((with_reducible apply Sd.mk); (first | exact True.intro | omega | (constructor <;> first | omega | (unfold maxLen; omega)) | (unfold maxLen; omega))) | ((with_reducible apply Ln.mk); (first | rfl | exact ‹_› | omega | (simp ; first | done | omega))) | ((with_reducible apply Wr.mk); (first | exact IntWalk.i64_in _ (by omega) | exact IntWalk.u8_in _ (by omega) | exact IntWalk.u32_in _ (by omega) | exact IntWalk.u64_in _ (by omega) | exact IntKind.wrap_u8 _ | exact IntKind.wrap_u32 _ | rfl)) | with_reducible exact Pick.head | with_reducible apply Pick.tail | ((with_reducible apply Su.mk); (first | exact subAt_all | exact subAt_recZ (fun _ => rfl) (by omega) | exact subAt_rec (fun _ => rfl) (by omega))) | exact True.intro | intro A | exact rfl)
    all_goals first
      | (apply s_fin; (exact (show ResS _ _ _ _ [_, _] from ⟨rfl, ⟨rfl, trivial⟩⟩)); (focus (exact ⟨rfl, rfl⟩)); (focus (repeat (first | with_reducible exact Take.nil | with_reducible apply Take.c | ((with_reducible apply Take.cE); (first | exact rfl | (apply blkE; (focus (first | exact rfl | exact recs_snocE rfl | exact map_snocE rfl | exact congrArg (fun v => [v]) (gslE rfl rfl (by first | rfl | exact ‹_› | omega | (simp ; first | done | omega)) (by first | rfl | exact ‹_› | omega | (simp ; first | done | omega)) rfl)))))) | with_reducible apply Take.drop))))
      | trace_state
theorem awakeM_any (h : SH) : SRun Try.prog 11 [] h fun r q => r = B true ∧ q = h := by
  have h1 := fun h => EncodeBytes_any [] h (by decide)
  have h2 := fun h => EncodeBytes_any [0] h (by decide)
  have h3 := fun h => DecodeBytes_any [1, 0, 0, 0, 0, 0] 1 h (by decide)
  rw [show mEnc [] = ([0], 0) by decide +kernel] at h1
  rw [show mEnc [0] = ([1, 0, 0, 0, 0, 0], 0) by decide +kernel] at h2
  rw [show mDec [1, 0, 0, 0, 0, 0] 1 = ([0], 0) by decide +kernel] at h3
  have h4 := fun h => Adapt_any 1024 0 h
  have h5 := fun h => Adapt_any 1024 1 h
  have h6 := fun h => Price_any 1024 0 h
  rw [show adp 1024 0 = 1056 by decide +kernel] at h4
  rw [show adp 1024 1 = 992 by decide +kernel] at h5
  rw [show prz 1024 0 = 16 by decide +kernel] at h6
  refine w_body0 Try.func11 rfl rfl ?_
  repeat' (first | apply w_seq | apply w_region | apply o_nil | (apply o_g tyOk; exact rfl; exact rfl) | (apply o_eqs; exact rfl; exact rfl; exact rfl; (focus (kernel_rfl)); exact rfl; exact rfl; (focus (kernel_rfl)); exact rfl) | (apply o_call; exact rfl; exact rfl; (focus (first | exact rfl | assumption)); exact rfl; (focus (exact ⟨_, h1 _, by repeat (first | with_reducible exact Take.nil | with_reducible apply Take.c | with_reducible apply Take.drop)⟩)); rintro _ _ ⟨rfl, rfl⟩) | (apply o_callN; exact rfl; exact rfl; exact rfl; (focus (exact ⟨_, h1 _, by repeat (first | with_reducible exact Take.nil | with_reducible apply Take.c | with_reducible apply Take.drop)⟩)); rintro _ _ ⟨rfl, rfl⟩) | (apply o_call; exact rfl; exact rfl; (focus (first | exact rfl | assumption)); exact rfl; (focus (exact ⟨_, h2 _, by repeat (first | with_reducible exact Take.nil | with_reducible apply Take.c | with_reducible apply Take.drop)⟩)); rintro _ _ ⟨rfl, rfl⟩) | (apply o_callN; exact rfl; exact rfl; exact rfl; (focus (exact ⟨_, h2 _, by repeat (first | with_reducible exact Take.nil | with_reducible apply Take.c | with_reducible apply Take.drop)⟩)); rintro _ _ ⟨rfl, rfl⟩) | (apply o_call; exact rfl; exact rfl; (focus (first | exact rfl | assumption)); exact rfl; (focus (exact ⟨_, h3 _, by repeat (first | with_reducible exact Take.nil | with_reducible apply Take.c | with_reducible apply Take.drop)⟩)); rintro _ _ ⟨rfl, rfl⟩) | (apply o_callN; exact rfl; exact rfl; exact rfl; (focus (exact ⟨_, h3 _, by repeat (first | with_reducible exact Take.nil | with_reducible apply Take.c | with_reducible apply Take.drop)⟩)); rintro _ _ ⟨rfl, rfl⟩) | (apply o_call; exact rfl; exact rfl; (focus (first | exact rfl | assumption)); exact rfl; (focus (exact ⟨_, h4 _, by repeat (first | with_reducible exact Take.nil | with_reducible apply Take.c | with_reducible apply Take.drop)⟩)); rintro _ _ ⟨rfl, rfl⟩) | (apply o_callN; exact rfl; exact rfl; exact rfl; (focus (exact ⟨_, h4 _, by repeat (first | with_reducible exact Take.nil | with_reducible apply Take.c | with_reducible apply Take.drop)⟩)); rintro _ _ ⟨rfl, rfl⟩) | (apply o_call; exact rfl; exact rfl; (focus (first | exact rfl | assumption)); exact rfl; (focus (exact ⟨_, h5 _, by repeat (first | with_reducible exact Take.nil | with_reducible apply Take.c | with_reducible apply Take.drop)⟩)); rintro _ _ ⟨rfl, rfl⟩) | (apply o_callN; exact rfl; exact rfl; exact rfl; (focus (exact ⟨_, h5 _, by repeat (first | with_reducible exact Take.nil | with_reducible apply Take.c | with_reducible apply Take.drop)⟩)); rintro _ _ ⟨rfl, rfl⟩) | (apply o_call; exact rfl; exact rfl; (focus (first | exact rfl | assumption)); exact rfl; (focus (exact ⟨_, h6 _, by repeat (first | with_reducible exact Take.nil | with_reducible apply Take.c | with_reducible apply Take.drop)⟩)); rintro _ _ ⟨rfl, rfl⟩) | (apply o_callN; exact rfl; exact rfl; exact rfl; (focus (exact ⟨_, h6 _, by repeat (first | with_reducible exact Take.nil | with_reducible apply Take.c | with_reducible apply Take.drop)⟩)); rintro _ _ ⟨rfl, rfl⟩) | (apply o_want; exact rfl; exact rfl) | (apply o_skip; exact rfl; exact rfl; exact rfl; exact rfl) | (apply o_skip_undef; exact rfl; exact rfl; exact rfl) | (apply o_gT; exact rfl; exact rfl; exact rfl; (focus (first | exact ‹_› | with_reducible exact rfl | omega))) | (apply o_gF; exact rfl; exact rfl; exact rfl; (focus (first | exact ‹_› | with_reducible exact rfl | omega))) | (apply o_sF; exact rfl; exact rfl; exact rfl; (focus (first | exact ‹_› | with_reducible exact rfl | omega)); exact rfl) | (apply o_sT; exact rfl; exact rfl; exact rfl; (focus (first | exact ‹_› | with_reducible exact rfl | omega)); exact rfl) | (apply o_guardTN; exact rfl; exact rfl; exact rfl; all_goals intro hc) | (apply o_guardFN; exact rfl; exact rfl; exact rfl; all_goals intro hc) | (apply o_guardT; exact rfl; exact rfl; exact rfl; all_goals intro hc) | (apply o_guardF; exact rfl; exact rfl; exact rfl; all_goals intro hc) | (apply o_guardB; exact rfl; exact rfl; exact rfl; all_goals intro hc) | (apply w_true; exact rfl) | (apply w_false; exact rfl) | (apply w_dT; exact rfl; (focus (first | exact ‹_› | with_reducible exact rfl | omega))) | (apply w_dF; exact rfl; (focus (first | exact ‹_› | with_reducible exact rfl | omega))) | (apply w_ifN; exact rfl; all_goals intro hc) | (apply w_if; exact rfl; all_goals intro hc) | (apply w_ifB; exact rfl; all_goals intro hc) | apply thenS_normal | apply thenS_ret | apply thenS_exit | apply blockS_normal | apply blockS_ret | apply blockS_exit | apply w_skip | apply w_ret | apply w_exit | apply w_block | apply scopeS_normal | apply scopeS_ret | apply scopeS_exit | apply w_scope | (apply blockS_exit_ne; exact rfl) | ((with_reducible apply Sd.mk); (first | exact True.intro | omega | (constructor <;> first | omega | (unfold maxLen; omega)) | (unfold maxLen; omega))) | exact True.intro | exact rfl)
  all_goals first
    | (apply s_fin; (exact (show ResS _ _ _ _ [_] from ⟨rfl, trivial⟩)); (focus (exact ⟨rfl, rfl⟩)); (focus (repeat (first | with_reducible exact Take.nil | with_reducible apply Take.c | ((with_reducible apply Take.cE); (first | exact rfl | (apply blkE; (focus (first | exact rfl | exact recs_snocE rfl | exact map_snocE rfl | exact congrArg (fun v => [v]) (gslE rfl rfl (by first | rfl | exact ‹_› | omega | (simp ; first | done | omega)) (by first | rfl | exact ‹_› | omega | (simp ; first | done | omega)) rfl)))))) | with_reducible apply Take.drop))))
    | trace_state
end Go.Proofs.Ytinfmojbdaiogaa
end
section
set_option linter.unusedVariables false
set_option linter.unusedSimpArgs false
set_option maxRecDepth 4000
namespace Go.Proofs.Ytinfmojbdaiogaa
open Go.Gh Go.RowKit

/-- k numbers, one after the other: the numbers, the decoder behind them. -/
def ndecN : Nat → List Int → Dec → List Int × Dec
  | 0, _, d => ([], d)
  | k + 1, t, d => ((ndec t d).2.2 :: (ndecN k (ndec t d).1 (ndec t d).2.1).1, (ndecN k (ndec t d).1 (ndec t d).2.1).2)
theorem ndec_ok {t : List Int} {d : Dec} (h : DecOk d) (ht : t.length = 64) : DecOk (ndec t d).2.1 ∧ (ndec t d).1.length = 64 := by
  obtain ⟨h1, h2, h3⟩ := tdec_ok (k := 6) (t := t) (j := 1) h
  refine ⟨?_, h2.trans ht⟩
  show DecOk (if _ then _ else _)
  split
  · exact h1
  · exact ddir_ok h1 _
/-- What decode[int] gives: numbers, error. -/
def rdecN (l : List UInt8) (most : Int) (t : List Int) : List Int × Int :=
  if (rdN l 4096).2.2 ≠ 0 then ([], 12) else if most < (rdN l 4096).1 then ([], 2) else if (rdN l 4096).1 = 0 then ([], rend (rdN l 4096).2.1 0)
  else if dend (ndecN (rdN l 4096).1.toNat t (dnew (rdN l 4096).2.1)).2 ≠ 0 then ([], dend (ndecN (rdN l 4096).1.toNat t (dnew (rdN l 4096).2.1)).2)
  else ((ndecN (rdN l 4096).1.toNat t (dnew (rdN l 4096).2.1)).1, 0)
/-- Numbers in a block of their own; none where there is an error or no number. -/
def IsN (h : SH) (x : List Int × Int) (r : Value) (q : SH) : Prop := (x.1 = [] ∧ r = .tuple #[.slice none 0 0, Er x.2] ∧ q = h) ∨
  (x.2 = 0 ∧ ∃ A, r = .tuple #[gsl A 0 x.1.length x.1.length 1, Er 0] ∧ q = (A, ⟨nodes x.1, false⟩) :: h)
theorem decodeI_any (M N : Nat) (t : List Int) (l : List UInt8) (most : Int) (h : SH) (hl : l.length ≤ 100000) (ht : t.length = 64) :
    SRun Try.prog 66 [.iface 36 (gptr M 0 2), S l, I 4096, I most] ((M, ⟨numC N, false⟩) :: (N, ⟨nodes t, false⟩) :: h) (IsN h (rdecN l most t)) := by
  have hR := fun n h => rNumber_any n l 4096 h hl
  have hok := rdN_ok l 4096
  obtain ⟨x, hx⟩ : ∃ x, rdecN l most t = x := ⟨_, rfl⟩
  rw [hx]
  unfold rdecN at hx
  generalize rdN l 4096 = V at *
  obtain ⟨k, d, e⟩ := V
  dsimp only at *
  have hT := fun n h => rTake_any n d (d.length : Int) h (by omega) (by omega)
  rw [show ((d.length : Int)).toNat = d.length from rfl, List.take_length, List.drop_length] at hT
  by_cases he : e = 0
  case neg =>
    rw [if_pos he] at hx
    refine w_body4 Try.func66 rfl rfl ?_
    repeat' (first | apply w_seq | apply w_region | apply o_nil | (apply o_g tyOk; exact rfl; exact rfl) | (apply o_ar tyOk; exact rfl; exact rfl) | (apply o_store tyOk; exact rfl; exact rfl; exact rfl; exact rfl; (focus (exact up))) | (apply o_stores tyOk; exact rfl; exact rfl; exact rfl; exact rfl; (focus (exact ⟨rfl⟩)); (focus (exact up))) | (apply o_eqs; exact rfl; exact rfl; exact rfl; (focus (kernel_rfl)); exact rfl; exact rfl; (focus (kernel_rfl)); exact rfl) | (apply o_neqs; exact rfl; exact rfl; exact rfl; (focus (kernel_rfl)); exact rfl; exact rfl; (focus (kernel_rfl)); exact rfl) | (apply o_makeSlice tyOk; exact rfl; exact rfl; exact rfl; exact rfl; exact rfl; exact rfl; (focus (decide)); (focus (first | exact True.intro | omega | (constructor <;> first | omega | (unfold maxLen; omega)) | (unfold maxLen; omega))); (focus (first | rfl)); exact rfl) | (apply o_invoke; exact rfl; exact rfl; exact rfl; (focus (exact ⟨_, NewReader_any _ _, by repeat (first | with_reducible exact Take.nil | with_reducible apply Take.c | with_reducible apply Take.drop)⟩)); (focus (kernel_rfl)); exact rfl; rintro _ _ ⟨n, rfl, rfl⟩) | (apply o_call; exact rfl; exact rfl; (focus (first | exact rfl | assumption)); exact rfl; (focus (exact ⟨_, NewReader_any _ _, by repeat (first | with_reducible exact Take.nil | with_reducible apply Take.c | with_reducible apply Take.drop)⟩)); rintro _ _ ⟨n, rfl, rfl⟩) | (apply o_callN; exact rfl; exact rfl; exact rfl; (focus (exact ⟨_, NewReader_any _ _, by repeat (first | with_reducible exact Take.nil | with_reducible apply Take.c | with_reducible apply Take.drop)⟩)); rintro _ _ ⟨n, rfl, rfl⟩) | (apply o_invoke; exact rfl; exact rfl; exact rfl; (focus (exact ⟨_, hR _ _, by repeat (first | with_reducible exact Take.nil | with_reducible apply Take.c | with_reducible apply Take.drop)⟩)); (focus (kernel_rfl)); exact rfl; rintro _ _ ⟨rfl, rfl⟩) | (apply o_call; exact rfl; exact rfl; (focus (first | exact rfl | assumption)); exact rfl; (focus (exact ⟨_, hR _ _, by repeat (first | with_reducible exact Take.nil | with_reducible apply Take.c | with_reducible apply Take.drop)⟩)); rintro _ _ ⟨rfl, rfl⟩) | (apply o_callN; exact rfl; exact rfl; exact rfl; (focus (exact ⟨_, hR _ _, by repeat (first | with_reducible exact Take.nil | with_reducible apply Take.c | with_reducible apply Take.drop)⟩)); rintro _ _ ⟨rfl, rfl⟩) | (apply o_invoke; exact rfl; exact rfl; exact rfl; (focus (exact ⟨_, rErr_any _ _ _ _, by repeat (first | with_reducible exact Take.nil | with_reducible apply Take.c | with_reducible apply Take.drop)⟩)); (focus (kernel_rfl)); exact rfl; rintro _ _ ⟨rfl, rfl⟩) | (apply o_call; exact rfl; exact rfl; (focus (first | exact rfl | assumption)); exact rfl; (focus (exact ⟨_, rErr_any _ _ _ _, by repeat (first | with_reducible exact Take.nil | with_reducible apply Take.c | with_reducible apply Take.drop)⟩)); rintro _ _ ⟨rfl, rfl⟩) | (apply o_callN; exact rfl; exact rfl; exact rfl; (focus (exact ⟨_, rErr_any _ _ _ _, by repeat (first | with_reducible exact Take.nil | with_reducible apply Take.c | with_reducible apply Take.drop)⟩)); rintro _ _ ⟨rfl, rfl⟩) | (apply w_true; exact rfl) | (apply w_false; exact rfl) | (apply w_dT; exact rfl; (focus (first | exact ‹_› | with_reducible exact rfl | omega))) | (apply w_dF; exact rfl; (focus (first | exact ‹_› | with_reducible exact rfl | omega))) | (apply w_ifN; exact rfl; all_goals intro hc) | (apply w_if; exact rfl; all_goals intro hc) | (apply w_ifB; exact rfl; all_goals intro hc) | apply thenS_normal | apply thenS_ret | apply thenS_exit | apply blockS_normal | apply blockS_ret | apply blockS_exit | apply w_skip | apply w_ret | apply w_exit | apply w_block | apply scopeS_normal | apply scopeS_ret | apply scopeS_exit | apply w_scope | (apply blockS_exit_ne; exact rfl) | ((with_reducible apply Sd.mk); (first | exact True.intro | omega | (constructor <;> first | omega | (unfold maxLen; omega)) | (unfold maxLen; omega))) | ((with_reducible apply Ln.mk); (first | rfl | exact ‹_› | omega | (simp ; first | done | omega))) | ((with_reducible apply Wr.mk); (first | exact IntWalk.i64_in _ (by omega) | exact IntWalk.u8_in _ (by omega) | exact IntWalk.u32_in _ (by omega) | exact IntWalk.u64_in _ (by omega) | exact IntKind.wrap_u8 _ | exact IntKind.wrap_u32 _ | rfl)) | with_reducible exact Upd.head | with_reducible apply Upd.tail | ((with_reducible apply Se.mk); (first | (focus ((repeat (first | exact SetAt.zero | apply SetAt.succ)); done)) | exact setAt_bytes (by omega) (by omega) | exact setAt_mapZ (by omega) | exact setAt_map (by omega))) | ((with_reducible apply Pu.mk); (first | exact putAt_all rfl | exact putAt_recZ (fun _ => rfl) (by omega) | exact putAt_rec (fun _ => rfl) (by omega))) | exact True.intro | intro A | exact rfl)
    all_goals first
      | contradiction
      | (apply s_fin; (exact (show ResS _ _ _ _ [_, _] from ⟨rfl, ⟨rfl, trivial⟩⟩)); (focus (exact .inl ⟨by rw [← hx], by rw [← hx]; rfl, rfl⟩)); (focus (repeat (first | with_reducible exact Take.nil | with_reducible apply Take.c | ((with_reducible apply Take.cE); (first | exact rfl | (apply blkE; (focus (first | exact rfl | exact recs_snocE rfl | exact map_snocE rfl | exact congrArg (fun v => [v]) (gslE rfl rfl (by first | rfl | exact ‹_› | omega | (simp ; first | done | omega)) (by first | rfl | exact ‹_› | omega | (simp ; first | done | omega)) rfl)))))) | with_reducible apply Take.drop))))
      | trace_state
  subst he
  rw [if_neg (by decide)] at hx
  have hk := hok.2 rfl
  by_cases h1 : most < k
  case pos =>
    rw [if_pos h1] at hx
    refine w_body4 Try.func66 rfl rfl ?_
    repeat' (first | apply w_seq | apply w_region | apply o_nil | (apply o_g tyOk; exact rfl; exact rfl) | (apply o_ar tyOk; exact rfl; exact rfl) | (apply o_store tyOk; exact rfl; exact rfl; exact rfl; exact rfl; (focus (exact up))) | (apply o_stores tyOk; exact rfl; exact rfl; exact rfl; exact rfl; (focus (exact ⟨rfl⟩)); (focus (exact up))) | (apply o_eqs; exact rfl; exact rfl; exact rfl; (focus (kernel_rfl)); exact rfl; exact rfl; (focus (kernel_rfl)); exact rfl) | (apply o_neqs; exact rfl; exact rfl; exact rfl; (focus (kernel_rfl)); exact rfl; exact rfl; (focus (kernel_rfl)); exact rfl) | (apply o_makeSlice tyOk; exact rfl; exact rfl; exact rfl; exact rfl; exact rfl; exact rfl; (focus (decide)); (focus (first | exact True.intro | omega | (constructor <;> first | omega | (unfold maxLen; omega)) | (unfold maxLen; omega))); (focus (first | rfl)); exact rfl) | (apply o_invoke; exact rfl; exact rfl; exact rfl; (focus (exact ⟨_, NewReader_any _ _, by repeat (first | with_reducible exact Take.nil | with_reducible apply Take.c | with_reducible apply Take.drop)⟩)); (focus (kernel_rfl)); exact rfl; rintro _ _ ⟨n, rfl, rfl⟩) | (apply o_call; exact rfl; exact rfl; (focus (first | exact rfl | assumption)); exact rfl; (focus (exact ⟨_, NewReader_any _ _, by repeat (first | with_reducible exact Take.nil | with_reducible apply Take.c | with_reducible apply Take.drop)⟩)); rintro _ _ ⟨n, rfl, rfl⟩) | (apply o_callN; exact rfl; exact rfl; exact rfl; (focus (exact ⟨_, NewReader_any _ _, by repeat (first | with_reducible exact Take.nil | with_reducible apply Take.c | with_reducible apply Take.drop)⟩)); rintro _ _ ⟨n, rfl, rfl⟩) | (apply o_invoke; exact rfl; exact rfl; exact rfl; (focus (exact ⟨_, hR _ _, by repeat (first | with_reducible exact Take.nil | with_reducible apply Take.c | with_reducible apply Take.drop)⟩)); (focus (kernel_rfl)); exact rfl; rintro _ _ ⟨rfl, rfl⟩) | (apply o_call; exact rfl; exact rfl; (focus (first | exact rfl | assumption)); exact rfl; (focus (exact ⟨_, hR _ _, by repeat (first | with_reducible exact Take.nil | with_reducible apply Take.c | with_reducible apply Take.drop)⟩)); rintro _ _ ⟨rfl, rfl⟩) | (apply o_callN; exact rfl; exact rfl; exact rfl; (focus (exact ⟨_, hR _ _, by repeat (first | with_reducible exact Take.nil | with_reducible apply Take.c | with_reducible apply Take.drop)⟩)); rintro _ _ ⟨rfl, rfl⟩) | (apply o_invoke; exact rfl; exact rfl; exact rfl; (focus (exact ⟨_, rErr_any _ _ _ _, by repeat (first | with_reducible exact Take.nil | with_reducible apply Take.c | with_reducible apply Take.drop)⟩)); (focus (kernel_rfl)); exact rfl; rintro _ _ ⟨rfl, rfl⟩) | (apply o_call; exact rfl; exact rfl; (focus (first | exact rfl | assumption)); exact rfl; (focus (exact ⟨_, rErr_any _ _ _ _, by repeat (first | with_reducible exact Take.nil | with_reducible apply Take.c | with_reducible apply Take.drop)⟩)); rintro _ _ ⟨rfl, rfl⟩) | (apply o_callN; exact rfl; exact rfl; exact rfl; (focus (exact ⟨_, rErr_any _ _ _ _, by repeat (first | with_reducible exact Take.nil | with_reducible apply Take.c | with_reducible apply Take.drop)⟩)); rintro _ _ ⟨rfl, rfl⟩) | (apply w_true; exact rfl) | (apply w_false; exact rfl) | (apply w_dT; exact rfl; (focus (first | exact ‹_› | with_reducible exact rfl | omega))) | (apply w_dF; exact rfl; (focus (first | exact ‹_› | with_reducible exact rfl | omega))) | (apply w_ifN; exact rfl; all_goals intro hc) | (apply w_if; exact rfl; all_goals intro hc) | (apply w_ifB; exact rfl; all_goals intro hc) | apply thenS_normal | apply thenS_ret | apply thenS_exit | apply blockS_normal | apply blockS_ret | apply blockS_exit | apply w_skip | apply w_ret | apply w_exit | apply w_block | apply scopeS_normal | apply scopeS_ret | apply scopeS_exit | apply w_scope | (apply blockS_exit_ne; exact rfl) | ((with_reducible apply Sd.mk); (first | exact True.intro | omega | (constructor <;> first | omega | (unfold maxLen; omega)) | (unfold maxLen; omega))) | ((with_reducible apply Ln.mk); (first | rfl | exact ‹_› | omega | (simp ; first | done | omega))) | ((with_reducible apply Wr.mk); (first | exact IntWalk.i64_in _ (by omega) | exact IntWalk.u8_in _ (by omega) | exact IntWalk.u32_in _ (by omega) | exact IntWalk.u64_in _ (by omega) | exact IntKind.wrap_u8 _ | exact IntKind.wrap_u32 _ | rfl)) | with_reducible exact Upd.head | with_reducible apply Upd.tail | ((with_reducible apply Se.mk); (first | (focus ((repeat (first | exact SetAt.zero | apply SetAt.succ)); done)) | exact setAt_bytes (by omega) (by omega) | exact setAt_mapZ (by omega) | exact setAt_map (by omega))) | ((with_reducible apply Pu.mk); (first | exact putAt_all rfl | exact putAt_recZ (fun _ => rfl) (by omega) | exact putAt_rec (fun _ => rfl) (by omega))) | exact True.intro | intro A | exact rfl)
    all_goals first
      | contradiction
      | (apply s_fin; (exact (show ResS _ _ _ _ [_, _] from ⟨rfl, ⟨rfl, trivial⟩⟩)); (focus (exact .inl ⟨by rw [← hx], by rw [← hx]; rfl, rfl⟩)); (focus (repeat (first | with_reducible exact Take.nil | with_reducible apply Take.c | ((with_reducible apply Take.cE); (first | exact rfl | (apply blkE; (focus (first | exact rfl | exact recs_snocE rfl | exact map_snocE rfl | exact congrArg (fun v => [v]) (gslE rfl rfl (by first | rfl | exact ‹_› | omega | (simp ; first | done | omega)) (by first | rfl | exact ‹_› | omega | (simp ; first | done | omega)) rfl)))))) | with_reducible apply Take.drop))))
      | trace_state
  rw [if_neg h1] at hx
  by_cases h2 : k = 0
  case pos =>
    rw [if_pos h2] at hx
    refine w_body4 Try.func66 rfl rfl ?_
    repeat' (first | apply w_seq | apply w_region | apply o_nil | (apply o_g tyOk; exact rfl; exact rfl) | (apply o_ar tyOk; exact rfl; exact rfl) | (apply o_store tyOk; exact rfl; exact rfl; exact rfl; exact rfl; (focus (exact up))) | (apply o_stores tyOk; exact rfl; exact rfl; exact rfl; exact rfl; (focus (exact ⟨rfl⟩)); (focus (exact up))) | (apply o_eqs; exact rfl; exact rfl; exact rfl; (focus (kernel_rfl)); exact rfl; exact rfl; (focus (kernel_rfl)); exact rfl) | (apply o_neqs; exact rfl; exact rfl; exact rfl; (focus (kernel_rfl)); exact rfl; exact rfl; (focus (kernel_rfl)); exact rfl) | (apply o_makeSlice tyOk; exact rfl; exact rfl; exact rfl; exact rfl; exact rfl; exact rfl; (focus (decide)); (focus (first | exact True.intro | omega | (constructor <;> first | omega | (unfold maxLen; omega)) | (unfold maxLen; omega))); (focus (first | rfl)); exact rfl) | (apply o_invoke; exact rfl; exact rfl; exact rfl; (focus (exact ⟨_, NewReader_any _ _, by repeat (first | with_reducible exact Take.nil | with_reducible apply Take.c | with_reducible apply Take.drop)⟩)); (focus (kernel_rfl)); exact rfl; rintro _ _ ⟨n, rfl, rfl⟩) | (apply o_call; exact rfl; exact rfl; (focus (first | exact rfl | assumption)); exact rfl; (focus (exact ⟨_, NewReader_any _ _, by repeat (first | with_reducible exact Take.nil | with_reducible apply Take.c | with_reducible apply Take.drop)⟩)); rintro _ _ ⟨n, rfl, rfl⟩) | (apply o_callN; exact rfl; exact rfl; exact rfl; (focus (exact ⟨_, NewReader_any _ _, by repeat (first | with_reducible exact Take.nil | with_reducible apply Take.c | with_reducible apply Take.drop)⟩)); rintro _ _ ⟨n, rfl, rfl⟩) | (apply o_invoke; exact rfl; exact rfl; exact rfl; (focus (exact ⟨_, hR _ _, by repeat (first | with_reducible exact Take.nil | with_reducible apply Take.c | with_reducible apply Take.drop)⟩)); (focus (kernel_rfl)); exact rfl; rintro _ _ ⟨rfl, rfl⟩) | (apply o_call; exact rfl; exact rfl; (focus (first | exact rfl | assumption)); exact rfl; (focus (exact ⟨_, hR _ _, by repeat (first | with_reducible exact Take.nil | with_reducible apply Take.c | with_reducible apply Take.drop)⟩)); rintro _ _ ⟨rfl, rfl⟩) | (apply o_callN; exact rfl; exact rfl; exact rfl; (focus (exact ⟨_, hR _ _, by repeat (first | with_reducible exact Take.nil | with_reducible apply Take.c | with_reducible apply Take.drop)⟩)); rintro _ _ ⟨rfl, rfl⟩) | (apply o_invoke; exact rfl; exact rfl; exact rfl; (focus (exact ⟨_, rErr_any _ _ _ _, by repeat (first | with_reducible exact Take.nil | with_reducible apply Take.c | with_reducible apply Take.drop)⟩)); (focus (kernel_rfl)); exact rfl; rintro _ _ ⟨rfl, rfl⟩) | (apply o_call; exact rfl; exact rfl; (focus (first | exact rfl | assumption)); exact rfl; (focus (exact ⟨_, rErr_any _ _ _ _, by repeat (first | with_reducible exact Take.nil | with_reducible apply Take.c | with_reducible apply Take.drop)⟩)); rintro _ _ ⟨rfl, rfl⟩) | (apply o_callN; exact rfl; exact rfl; exact rfl; (focus (exact ⟨_, rErr_any _ _ _ _, by repeat (first | with_reducible exact Take.nil | with_reducible apply Take.c | with_reducible apply Take.drop)⟩)); rintro _ _ ⟨rfl, rfl⟩) | (apply o_invoke; exact rfl; exact rfl; exact rfl; (focus (exact ⟨_, rEnd_any _ _ _ _, by repeat (first | with_reducible exact Take.nil | with_reducible apply Take.c | with_reducible apply Take.drop)⟩)); (focus (kernel_rfl)); exact rfl; rintro _ _ ⟨rfl, rfl⟩) | (apply o_call; exact rfl; exact rfl; (focus (first | exact rfl | assumption)); exact rfl; (focus (exact ⟨_, rEnd_any _ _ _ _, by repeat (first | with_reducible exact Take.nil | with_reducible apply Take.c | with_reducible apply Take.drop)⟩)); rintro _ _ ⟨rfl, rfl⟩) | (apply o_callN; exact rfl; exact rfl; exact rfl; (focus (exact ⟨_, rEnd_any _ _ _ _, by repeat (first | with_reducible exact Take.nil | with_reducible apply Take.c | with_reducible apply Take.drop)⟩)); rintro _ _ ⟨rfl, rfl⟩) | (apply w_true; exact rfl) | (apply w_false; exact rfl) | (apply w_dT; exact rfl; (focus (first | exact ‹_› | with_reducible exact rfl | omega))) | (apply w_dF; exact rfl; (focus (first | exact ‹_› | with_reducible exact rfl | omega))) | (apply w_ifN; exact rfl; all_goals intro hc) | (apply w_if; exact rfl; all_goals intro hc) | (apply w_ifB; exact rfl; all_goals intro hc) | apply thenS_normal | apply thenS_ret | apply thenS_exit | apply blockS_normal | apply blockS_ret | apply blockS_exit | apply w_skip | apply w_ret | apply w_exit | apply w_block | apply scopeS_normal | apply scopeS_ret | apply scopeS_exit | apply w_scope | (apply blockS_exit_ne; exact rfl) | ((with_reducible apply Sd.mk); (first | exact True.intro | omega | (constructor <;> first | omega | (unfold maxLen; omega)) | (unfold maxLen; omega))) | ((with_reducible apply Ln.mk); (first | rfl | exact ‹_› | omega | (simp ; first | done | omega))) | ((with_reducible apply Wr.mk); (first | exact IntWalk.i64_in _ (by omega) | exact IntWalk.u8_in _ (by omega) | exact IntWalk.u32_in _ (by omega) | exact IntWalk.u64_in _ (by omega) | exact IntKind.wrap_u8 _ | exact IntKind.wrap_u32 _ | rfl)) | with_reducible exact Upd.head | with_reducible apply Upd.tail | ((with_reducible apply Se.mk); (first | (focus ((repeat (first | exact SetAt.zero | apply SetAt.succ)); done)) | exact setAt_bytes (by omega) (by omega) | exact setAt_mapZ (by omega) | exact setAt_map (by omega))) | ((with_reducible apply Pu.mk); (first | exact putAt_all rfl | exact putAt_recZ (fun _ => rfl) (by omega) | exact putAt_rec (fun _ => rfl) (by omega))) | exact True.intro | intro A | exact rfl)
    all_goals first
      | contradiction
      | (apply s_fin; (exact (show ResS _ _ _ _ [_, _] from ⟨rfl, ⟨rfl, trivial⟩⟩)); (focus (exact .inl ⟨by rw [← hx], by rw [← hx]; rfl, rfl⟩)); (focus (repeat (first | with_reducible exact Take.nil | with_reducible apply Take.c | ((with_reducible apply Take.cE); (first | exact rfl | (apply blkE; (focus (first | exact rfl | exact recs_snocE rfl | exact map_snocE rfl | exact congrArg (fun v => [v]) (gslE rfl rfl (by first | rfl | exact ‹_› | omega | (simp ; first | done | omega)) (by first | rfl | exact ‹_› | omega | (simp ; first | done | omega)) rfl)))))) | with_reducible apply Take.drop))))
      | trace_state
  rw [if_neg h2] at hx
  obtain ⟨m, rfl⟩ := Int.eq_ofNat_of_zero_le hk.1
  rw [Int.toNat_natCast] at hx
  have hzr : zrow (Value.int IntKind.i64 0) (((m : Int)).toNat * 1) = nodes (List.replicate m 0) := by
    rw [Int.toNat_natCast]; exact map_zrow (f := iV) 0 rfl rfl _
  refine w_body4 Try.func66 rfl rfl ?_
  repeat' (first | apply w_seq | apply w_region | apply o_nil | (apply o_g tyOk; exact rfl; exact rfl) | (apply o_ar tyOk; exact rfl; exact rfl) | (apply o_store tyOk; exact rfl; exact rfl; exact rfl; exact rfl; (focus (exact up))) | (apply o_stores tyOk; exact rfl; exact rfl; exact rfl; exact rfl; (focus (exact ⟨rfl⟩)); (focus (exact up))) | (apply o_eqs; exact rfl; exact rfl; exact rfl; (focus (kernel_rfl)); exact rfl; exact rfl; (focus (kernel_rfl)); exact rfl) | (apply o_neqs; exact rfl; exact rfl; exact rfl; (focus (kernel_rfl)); exact rfl; exact rfl; (focus (kernel_rfl)); exact rfl) | (apply o_makeSlice tyOk; exact rfl; exact rfl; exact rfl; exact rfl; exact rfl; exact rfl; (focus (decide)); (focus (first | exact True.intro | omega | (constructor <;> first | omega | (unfold maxLen; omega)) | (unfold maxLen; omega))); (focus (first | rfl)); exact rfl) | (apply o_invoke; exact rfl; exact rfl; exact rfl; (focus (exact ⟨_, NewReader_any _ _, by repeat (first | with_reducible exact Take.nil | with_reducible apply Take.c | with_reducible apply Take.drop)⟩)); (focus (kernel_rfl)); exact rfl; rintro _ _ ⟨n, rfl, rfl⟩) | (apply o_call; exact rfl; exact rfl; (focus (first | exact rfl | assumption)); exact rfl; (focus (exact ⟨_, NewReader_any _ _, by repeat (first | with_reducible exact Take.nil | with_reducible apply Take.c | with_reducible apply Take.drop)⟩)); rintro _ _ ⟨n, rfl, rfl⟩) | (apply o_callN; exact rfl; exact rfl; exact rfl; (focus (exact ⟨_, NewReader_any _ _, by repeat (first | with_reducible exact Take.nil | with_reducible apply Take.c | with_reducible apply Take.drop)⟩)); rintro _ _ ⟨n, rfl, rfl⟩) | (apply o_invoke; exact rfl; exact rfl; exact rfl; (focus (exact ⟨_, hR _ _, by repeat (first | with_reducible exact Take.nil | with_reducible apply Take.c | with_reducible apply Take.drop)⟩)); (focus (kernel_rfl)); exact rfl; rintro _ _ ⟨rfl, rfl⟩) | (apply o_call; exact rfl; exact rfl; (focus (first | exact rfl | assumption)); exact rfl; (focus (exact ⟨_, hR _ _, by repeat (first | with_reducible exact Take.nil | with_reducible apply Take.c | with_reducible apply Take.drop)⟩)); rintro _ _ ⟨rfl, rfl⟩) | (apply o_callN; exact rfl; exact rfl; exact rfl; (focus (exact ⟨_, hR _ _, by repeat (first | with_reducible exact Take.nil | with_reducible apply Take.c | with_reducible apply Take.drop)⟩)); rintro _ _ ⟨rfl, rfl⟩) | (apply o_invoke; exact rfl; exact rfl; exact rfl; (focus (exact ⟨_, rErr_any _ _ _ _, by repeat (first | with_reducible exact Take.nil | with_reducible apply Take.c | with_reducible apply Take.drop)⟩)); (focus (kernel_rfl)); exact rfl; rintro _ _ ⟨rfl, rfl⟩) | (apply o_call; exact rfl; exact rfl; (focus (first | exact rfl | assumption)); exact rfl; (focus (exact ⟨_, rErr_any _ _ _ _, by repeat (first | with_reducible exact Take.nil | with_reducible apply Take.c | with_reducible apply Take.drop)⟩)); rintro _ _ ⟨rfl, rfl⟩) | (apply o_callN; exact rfl; exact rfl; exact rfl; (focus (exact ⟨_, rErr_any _ _ _ _, by repeat (first | with_reducible exact Take.nil | with_reducible apply Take.c | with_reducible apply Take.drop)⟩)); rintro _ _ ⟨rfl, rfl⟩) | (apply o_invoke; exact rfl; exact rfl; exact rfl; (focus (exact ⟨_, rLeft_any _ _ _ _, by repeat (first | with_reducible exact Take.nil | with_reducible apply Take.c | with_reducible apply Take.drop)⟩)); (focus (kernel_rfl)); exact rfl; rintro _ _ ⟨rfl, rfl⟩) | (apply o_call; exact rfl; exact rfl; (focus (first | exact rfl | assumption)); exact rfl; (focus (exact ⟨_, rLeft_any _ _ _ _, by repeat (first | with_reducible exact Take.nil | with_reducible apply Take.c | with_reducible apply Take.drop)⟩)); rintro _ _ ⟨rfl, rfl⟩) | (apply o_callN; exact rfl; exact rfl; exact rfl; (focus (exact ⟨_, rLeft_any _ _ _ _, by repeat (first | with_reducible exact Take.nil | with_reducible apply Take.c | with_reducible apply Take.drop)⟩)); rintro _ _ ⟨rfl, rfl⟩) | (apply o_invoke; exact rfl; exact rfl; exact rfl; (focus (exact ⟨_, hT _ _, by repeat (first | with_reducible exact Take.nil | with_reducible apply Take.c | with_reducible apply Take.drop)⟩)); (focus (kernel_rfl)); exact rfl; rintro _ _ ⟨rfl, rfl⟩) | (apply o_call; exact rfl; exact rfl; (focus (first | exact rfl | assumption)); exact rfl; (focus (exact ⟨_, hT _ _, by repeat (first | with_reducible exact Take.nil | with_reducible apply Take.c | with_reducible apply Take.drop)⟩)); rintro _ _ ⟨rfl, rfl⟩) | (apply o_callN; exact rfl; exact rfl; exact rfl; (focus (exact ⟨_, hT _ _, by repeat (first | with_reducible exact Take.nil | with_reducible apply Take.c | with_reducible apply Take.drop)⟩)); rintro _ _ ⟨rfl, rfl⟩) | (apply o_invoke; exact rfl; exact rfl; exact rfl; (focus (exact ⟨_, NewDecoder_any _ _ (by omega), by repeat (first | with_reducible exact Take.nil | with_reducible apply Take.c | with_reducible apply Take.drop)⟩)); (focus (kernel_rfl)); exact rfl; rintro _ _ ⟨n2, rfl, rfl⟩) | (apply o_call; exact rfl; exact rfl; (focus (first | exact rfl | assumption)); exact rfl; (focus (exact ⟨_, NewDecoder_any _ _ (by omega), by repeat (first | with_reducible exact Take.nil | with_reducible apply Take.c | with_reducible apply Take.drop)⟩)); rintro _ _ ⟨n2, rfl, rfl⟩) | (apply o_callN; exact rfl; exact rfl; exact rfl; (focus (exact ⟨_, NewDecoder_any _ _ (by omega), by repeat (first | with_reducible exact Take.nil | with_reducible apply Take.c | with_reducible apply Take.drop)⟩)); rintro _ _ ⟨n2, rfl, rfl⟩) | (apply w_true; exact rfl) | (apply w_false; exact rfl) | (apply w_dT; exact rfl; (focus (first | exact ‹_› | with_reducible exact rfl | omega))) | (apply w_dF; exact rfl; (focus (first | exact ‹_› | with_reducible exact rfl | omega))) | (apply w_ifN; exact rfl; all_goals intro hc) | (apply w_if; exact rfl; all_goals intro hc) | (apply w_ifB; exact rfl; all_goals intro hc) | apply thenS_normal | apply thenS_ret | apply thenS_exit | apply blockS_normal | apply blockS_ret | apply blockS_exit | apply w_skip | apply w_ret | apply w_exit | apply w_block | apply scopeS_normal | apply scopeS_ret | apply scopeS_exit | apply w_scope | (apply blockS_exit_ne; exact rfl) | ((with_reducible apply Sd.mk); (first | exact True.intro | omega | (constructor <;> first | omega | (unfold maxLen; omega)) | (unfold maxLen; omega))) | ((with_reducible apply Ln.mk); (first | rfl | exact ‹_› | omega | (simp ; first | done | omega))) | ((with_reducible apply Wr.mk); (first | exact IntWalk.i64_in _ (by omega) | exact IntWalk.u8_in _ (by omega) | exact IntWalk.u32_in _ (by omega) | exact IntWalk.u64_in _ (by omega) | exact IntKind.wrap_u8 _ | exact IntKind.wrap_u32 _ | rfl)) | with_reducible exact Upd.head | with_reducible apply Upd.tail | ((with_reducible apply Se.mk); (first | (focus ((repeat (first | exact SetAt.zero | apply SetAt.succ)); done)) | exact setAt_bytes (by omega) (by omega) | exact setAt_mapZ (by omega) | exact setAt_map (by omega))) | ((with_reducible apply Pu.mk); (first | exact putAt_all rfl | exact putAt_recZ (fun _ => rfl) (by omega) | exact putAt_rec (fun _ => rfl) (by omega))) | exact True.intro | intro A | exact rfl)
  rw [hzr, Int.toNat_natCast]
  refine w_loop (S := Nat × List Int × List Int × Dec) (fun x => [(0, .iface 36 (gptr M 0 2)), (12, gptr n2 0 5), (13, gsl A 0 (m * 1) m 1), (39, I m), (40, I x.1)])
    (fun x => (A, ⟨nodes x.2.1, false⟩) :: decB n2 x.2.2.2 :: (M, ⟨numC N, false⟩) :: (N, ⟨nodes x.2.2.1, false⟩) :: h)
    (fun x => x.1 ≤ m ∧ x.2.1.length = m ∧ x.2.2.1.length = 64 ∧ DecOk x.2.2.2 ∧ (x.2.1.take x.1 ++ (ndecN (m - x.1) x.2.2.1 x.2.2.2).1, (ndecN (m - x.1) x.2.2.1 x.2.2.2).2) = ndecN m t (dnew d))
    (fun x => m - x.1) (0, List.replicate m 0, t, dnew d) ⟨Nat.zero_le _, List.length_replicate, ht, dnew_ok (by omega), rfl⟩ (by repeat' (first | exact trivial | refine ⟨rfl, ?_⟩ | refine ⟨congrArg some ?_, ?_⟩)) (by repeat (first | with_reducible exact Take.nil | with_reducible apply Take.c | ((with_reducible apply Take.cE); (first | exact rfl | (apply blkE; (focus (first | exact rfl | exact recs_snocE rfl | exact map_snocE rfl | exact congrArg (fun v => [v]) (gslE rfl rfl (by first | rfl | exact ‹_› | omega | (simp ; first | done | omega)) (by first | rfl | exact ‹_› | omega | (simp ; first | done | omega)) rfl)))))) | with_reducible apply Take.drop)) ?_
  rintro ⟨i, L, t1, d1⟩ ⟨hi, hL, ht1, hok1, he⟩
  dsimp only at hi hL ht1 hok1 he ⊢
  by_cases him : i < m
  · have hb := ndec_ok (t := t1) hok1 ht1
    have hD := NumDecode_any n2 M N t1 d1 ((A, ⟨nodes L, false⟩) :: h) ht1 hok1
    rw [show m - i = (m - (i + 1)) + 1 by omega] at he
    rw [show ∀ k, ndecN (k + 1) t1 d1 = ((ndec t1 d1).2.2 :: (ndecN k (ndec t1 d1).1 (ndec t1 d1).2.1).1, (ndecN k (ndec t1 d1).1 (ndec t1 d1).2.1).2) from fun _ => rfl] at he
    generalize ndec t1 d1 = B at *
    obtain ⟨t2, d2, c2⟩ := B
    dsimp only at he hD hb
    repeat' (first | apply w_seq | apply w_region | apply o_nil | (apply o_g tyOk; exact rfl; exact rfl) | (apply o_ar tyOk; exact rfl; exact rfl) | (apply o_store tyOk; exact rfl; exact rfl; exact rfl; exact rfl; (focus (exact up))) | (apply o_stores tyOk; exact rfl; exact rfl; exact rfl; exact rfl; (focus (exact ⟨rfl⟩)); (focus (exact up))) | (apply o_eqs; exact rfl; exact rfl; exact rfl; (focus (kernel_rfl)); exact rfl; exact rfl; (focus (kernel_rfl)); exact rfl) | (apply o_neqs; exact rfl; exact rfl; exact rfl; (focus (kernel_rfl)); exact rfl; exact rfl; (focus (kernel_rfl)); exact rfl) | (apply o_makeSlice tyOk; exact rfl; exact rfl; exact rfl; exact rfl; exact rfl; exact rfl; (focus (decide)); (focus (first | exact True.intro | omega | (constructor <;> first | omega | (unfold maxLen; omega)) | (unfold maxLen; omega))); (focus (first | rfl)); exact rfl) | (apply o_invoke; exact rfl; exact rfl; exact rfl; (focus (exact ⟨_, hD, by repeat (first | with_reducible exact Take.nil | with_reducible apply Take.c | with_reducible apply Take.drop)⟩)); (focus (kernel_rfl)); exact rfl; rintro _ _ ⟨rfl, rfl⟩) | (apply o_call; exact rfl; exact rfl; (focus (first | exact rfl | assumption)); exact rfl; (focus (exact ⟨_, hD, by repeat (first | with_reducible exact Take.nil | with_reducible apply Take.c | with_reducible apply Take.drop)⟩)); rintro _ _ ⟨rfl, rfl⟩) | (apply o_callN; exact rfl; exact rfl; exact rfl; (focus (exact ⟨_, hD, by repeat (first | with_reducible exact Take.nil | with_reducible apply Take.c | with_reducible apply Take.drop)⟩)); rintro _ _ ⟨rfl, rfl⟩) | (apply w_true; exact rfl) | (apply w_false; exact rfl) | (apply w_dT; exact rfl; (focus (first | exact ‹_› | with_reducible exact rfl | omega))) | (apply w_dF; exact rfl; (focus (first | exact ‹_› | with_reducible exact rfl | omega))) | (apply w_ifN; exact rfl; all_goals intro hc) | (apply w_if; exact rfl; all_goals intro hc) | (apply w_ifB; exact rfl; all_goals intro hc) | apply thenS_normal | apply thenS_ret | apply thenS_exit | apply blockS_normal | apply blockS_ret | apply blockS_exit | apply w_skip | apply w_ret | apply w_exit | apply w_block | apply scopeS_normal | apply scopeS_ret | apply scopeS_exit | apply w_scope | (apply blockS_exit_ne; exact rfl) | ((with_reducible apply Sd.mk); (first | exact True.intro | omega | (constructor <;> first | omega | (unfold maxLen; omega)) | (unfold maxLen; omega))) | ((with_reducible apply Ln.mk); (first | rfl | exact ‹_› | omega | (simp ; first | done | omega))) | ((with_reducible apply Wr.mk); (first | exact IntWalk.i64_in _ (by omega) | exact IntWalk.u8_in _ (by omega) | exact IntWalk.u32_in _ (by omega) | exact IntWalk.u64_in _ (by omega) | exact IntKind.wrap_u8 _ | exact IntKind.wrap_u32 _ | rfl)) | with_reducible exact Upd.head | with_reducible apply Upd.tail | ((with_reducible apply Se.mk); (first | (focus ((repeat (first | exact SetAt.zero | apply SetAt.succ)); done)) | exact setAt_bytes (by omega) (by omega) | exact setAt_mapZ (by omega) | exact setAt_map (by omega))) | ((with_reducible apply Pu.mk); (first | exact putAt_all rfl | exact putAt_recZ (fun _ => rfl) (by omega) | exact putAt_rec (fun _ => rfl) (by omega))) | exact True.intro | intro A | exact rfl)
    all_goals first
      | (exfalso; omega)
      | (refine ⟨(i + 1, L.set i c2, t2, d2), ⟨him, by simp [hL], hb.2, hb.1, ?_⟩, by show m - (i + 1) < m - i; omega, (by repeat' (first | exact trivial | refine ⟨rfl, ?_⟩ | refine ⟨congrArg some ?_, ?_⟩)), (by repeat (first | with_reducible exact Take.nil | with_reducible apply Take.c | ((with_reducible apply Take.cE); (first | exact rfl | (apply blkE; (focus (first | exact rfl | exact recs_snocE rfl | exact map_snocE rfl | exact congrArg (fun v => [v]) (gslE rfl rfl (by first | rfl | exact ‹_› | omega | (simp ; first | done | omega)) (by first | rfl | exact ‹_› | omega | (simp ; first | done | omega)) rfl)))))) | with_reducible apply Take.drop))⟩
         dsimp only
         rw [take_set (by omega), List.append_assoc]
         exact he)
      | trace_state
  · obtain rfl : i = m := by omega
    rw [Nat.sub_self, List.take_of_length_le (by omega)] at he
    have he : (L ++ [], d1) = ndecN i t (dnew d) := he
    rw [List.append_nil] at he
    rw [← he] at hx
    dsimp only at hx
    by_cases h3 : dend d1 = 0
    · rw [if_neg (fun g => g h3)] at hx
      repeat' (first | apply w_seq | apply w_region | apply o_nil | (apply o_g tyOk; exact rfl; exact rfl) | (apply o_ar tyOk; exact rfl; exact rfl) | (apply o_store tyOk; exact rfl; exact rfl; exact rfl; exact rfl; (focus (exact up))) | (apply o_stores tyOk; exact rfl; exact rfl; exact rfl; exact rfl; (focus (exact ⟨rfl⟩)); (focus (exact up))) | (apply o_eqs; exact rfl; exact rfl; exact rfl; (focus (kernel_rfl)); exact rfl; exact rfl; (focus (kernel_rfl)); exact rfl) | (apply o_neqs; exact rfl; exact rfl; exact rfl; (focus (kernel_rfl)); exact rfl; exact rfl; (focus (kernel_rfl)); exact rfl) | (apply o_makeSlice tyOk; exact rfl; exact rfl; exact rfl; exact rfl; exact rfl; exact rfl; (focus (decide)); (focus (first | exact True.intro | omega | (constructor <;> first | omega | (unfold maxLen; omega)) | (unfold maxLen; omega))); (focus (first | rfl)); exact rfl) | (apply o_invoke; exact rfl; exact rfl; exact rfl; (focus (exact ⟨_, End_any _ _ _, by repeat (first | with_reducible exact Take.nil | with_reducible apply Take.c | with_reducible apply Take.drop)⟩)); (focus (kernel_rfl)); exact rfl; rintro _ _ ⟨rfl, rfl⟩) | (apply o_call; exact rfl; exact rfl; (focus (first | exact rfl | assumption)); exact rfl; (focus (exact ⟨_, End_any _ _ _, by repeat (first | with_reducible exact Take.nil | with_reducible apply Take.c | with_reducible apply Take.drop)⟩)); rintro _ _ ⟨rfl, rfl⟩) | (apply o_callN; exact rfl; exact rfl; exact rfl; (focus (exact ⟨_, End_any _ _ _, by repeat (first | with_reducible exact Take.nil | with_reducible apply Take.c | with_reducible apply Take.drop)⟩)); rintro _ _ ⟨rfl, rfl⟩) | (apply w_true; exact rfl) | (apply w_false; exact rfl) | (apply w_dT; exact rfl; (focus (first | exact ‹_› | with_reducible exact rfl | omega))) | (apply w_dF; exact rfl; (focus (first | exact ‹_› | with_reducible exact rfl | omega))) | (apply w_ifN; exact rfl; all_goals intro hc) | (apply w_if; exact rfl; all_goals intro hc) | (apply w_ifB; exact rfl; all_goals intro hc) | apply thenS_normal | apply thenS_ret | apply thenS_exit | apply blockS_normal | apply blockS_ret | apply blockS_exit | apply w_skip | apply w_ret | apply w_exit | apply w_block | apply scopeS_normal | apply scopeS_ret | apply scopeS_exit | apply w_scope | (apply blockS_exit_ne; exact rfl) | ((with_reducible apply Sd.mk); (first | exact True.intro | omega | (constructor <;> first | omega | (unfold maxLen; omega)) | (unfold maxLen; omega))) | ((with_reducible apply Ln.mk); (first | rfl | exact ‹_› | omega | (simp ; first | done | omega))) | ((with_reducible apply Wr.mk); (first | exact IntWalk.i64_in _ (by omega) | exact IntWalk.u8_in _ (by omega) | exact IntWalk.u32_in _ (by omega) | exact IntWalk.u64_in _ (by omega) | exact IntKind.wrap_u8 _ | exact IntKind.wrap_u32 _ | rfl)) | with_reducible exact Upd.head | with_reducible apply Upd.tail | ((with_reducible apply Se.mk); (first | (focus ((repeat (first | exact SetAt.zero | apply SetAt.succ)); done)) | exact setAt_bytes (by omega) (by omega) | exact setAt_mapZ (by omega) | exact setAt_map (by omega))) | ((with_reducible apply Pu.mk); (first | exact putAt_all rfl | exact putAt_recZ (fun _ => rfl) (by omega) | exact putAt_rec (fun _ => rfl) (by omega))) | exact True.intro | intro A | exact rfl)
      all_goals try contradiction
      subst hx hL
      (apply s_fin; (exact (show ResS _ _ _ _ [_, _] from ⟨rfl, ⟨rfl, trivial⟩⟩)); (focus (exact .inr ⟨rfl, A, by rw [Nat.mul_one]; rfl, rfl⟩)); (focus (repeat (first | with_reducible exact Take.nil | with_reducible apply Take.c | ((with_reducible apply Take.cE); (first | exact rfl | (apply blkE; (focus (first | exact rfl | exact recs_snocE rfl | exact map_snocE rfl | exact congrArg (fun v => [v]) (gslE rfl rfl (by first | rfl | exact ‹_› | omega | (simp ; first | done | omega)) (by first | rfl | exact ‹_› | omega | (simp ; first | done | omega)) rfl)))))) | with_reducible apply Take.drop))))
    · rw [if_pos h3] at hx
      repeat' (first | apply w_seq | apply w_region | apply o_nil | (apply o_g tyOk; exact rfl; exact rfl) | (apply o_ar tyOk; exact rfl; exact rfl) | (apply o_store tyOk; exact rfl; exact rfl; exact rfl; exact rfl; (focus (exact up))) | (apply o_stores tyOk; exact rfl; exact rfl; exact rfl; exact rfl; (focus (exact ⟨rfl⟩)); (focus (exact up))) | (apply o_eqs; exact rfl; exact rfl; exact rfl; (focus (kernel_rfl)); exact rfl; exact rfl; (focus (kernel_rfl)); exact rfl) | (apply o_neqs; exact rfl; exact rfl; exact rfl; (focus (kernel_rfl)); exact rfl; exact rfl; (focus (kernel_rfl)); exact rfl) | (apply o_makeSlice tyOk; exact rfl; exact rfl; exact rfl; exact rfl; exact rfl; exact rfl; (focus (decide)); (focus (first | exact True.intro | omega | (constructor <;> first | omega | (unfold maxLen; omega)) | (unfold maxLen; omega))); (focus (first | rfl)); exact rfl) | (apply o_invoke; exact rfl; exact rfl; exact rfl; (focus (exact ⟨_, End_any _ _ _, by repeat (first | with_reducible exact Take.nil | with_reducible apply Take.c | with_reducible apply Take.drop)⟩)); (focus (kernel_rfl)); exact rfl; rintro _ _ ⟨rfl, rfl⟩) | (apply o_call; exact rfl; exact rfl; (focus (first | exact rfl | assumption)); exact rfl; (focus (exact ⟨_, End_any _ _ _, by repeat (first | with_reducible exact Take.nil | with_reducible apply Take.c | with_reducible apply Take.drop)⟩)); rintro _ _ ⟨rfl, rfl⟩) | (apply o_callN; exact rfl; exact rfl; exact rfl; (focus (exact ⟨_, End_any _ _ _, by repeat (first | with_reducible exact Take.nil | with_reducible apply Take.c | with_reducible apply Take.drop)⟩)); rintro _ _ ⟨rfl, rfl⟩) | (apply w_true; exact rfl) | (apply w_false; exact rfl) | (apply w_dT; exact rfl; (focus (first | exact ‹_› | with_reducible exact rfl | omega))) | (apply w_dF; exact rfl; (focus (first | exact ‹_› | with_reducible exact rfl | omega))) | (apply w_ifN; exact rfl; all_goals intro hc) | (apply w_if; exact rfl; all_goals intro hc) | (apply w_ifB; exact rfl; all_goals intro hc) | apply thenS_normal | apply thenS_ret | apply thenS_exit | apply blockS_normal | apply blockS_ret | apply blockS_exit | apply w_skip | apply w_ret | apply w_exit | apply w_block | apply scopeS_normal | apply scopeS_ret | apply scopeS_exit | apply w_scope | (apply blockS_exit_ne; exact rfl) | ((with_reducible apply Sd.mk); (first | exact True.intro | omega | (constructor <;> first | omega | (unfold maxLen; omega)) | (unfold maxLen; omega))) | ((with_reducible apply Ln.mk); (first | rfl | exact ‹_› | omega | (simp ; first | done | omega))) | ((with_reducible apply Wr.mk); (first | exact IntWalk.i64_in _ (by omega) | exact IntWalk.u8_in _ (by omega) | exact IntWalk.u32_in _ (by omega) | exact IntWalk.u64_in _ (by omega) | exact IntKind.wrap_u8 _ | exact IntKind.wrap_u32 _ | rfl)) | with_reducible exact Upd.head | with_reducible apply Upd.tail | ((with_reducible apply Se.mk); (first | (focus ((repeat (first | exact SetAt.zero | apply SetAt.succ)); done)) | exact setAt_bytes (by omega) (by omega) | exact setAt_mapZ (by omega) | exact setAt_map (by omega))) | ((with_reducible apply Pu.mk); (first | exact putAt_all rfl | exact putAt_recZ (fun _ => rfl) (by omega) | exact putAt_rec (fun _ => rfl) (by omega))) | exact True.intro | intro A | exact rfl)
      all_goals first
        | contradiction
        | (apply s_fin; (exact (show ResS _ _ _ _ [_, _] from ⟨rfl, ⟨rfl, trivial⟩⟩)); (focus (exact .inl ⟨by rw [← hx], by rw [← hx]; rfl, rfl⟩)); (focus (repeat (first | with_reducible exact Take.nil | with_reducible apply Take.c | ((with_reducible apply Take.cE); (first | exact rfl | (apply blkE; (focus (first | exact rfl | exact recs_snocE rfl | exact map_snocE rfl | exact congrArg (fun v => [v]) (gslE rfl rfl (by first | rfl | exact ‹_› | omega | (simp ; first | done | omega)) (by first | rfl | exact ‹_› | omega | (simp ; first | done | omega)) rfl)))))) | with_reducible apply Take.drop))))
        | trace_state
theorem ndecN_len : ∀ (k : Nat) (t : List Int) (d : Dec), (ndecN k t d).1.length = k
  | 0, _, _ => rfl
  | k + 1, t, d => by
    show ((ndec t d).2.2 :: (ndecN k (ndec t d).1 (ndec t d).2.1).1).length = k + 1
    rw [List.length_cons, ndecN_len k]
theorem rdecN_len (l : List UInt8) (most : Int) (t : List Int) : (rdecN l most t).1.length ≤ 4096 := by
  have := (rdN_ok l 4096).2
  unfold rdecN
  split
  · exact Nat.zero_le _
  · rename_i h
    split
    · exact Nat.zero_le _
    · split
      · exact Nat.zero_le _
      · split
        · exact Nat.zero_le _
        · show (ndecN _ _ _).1.length ≤ 4096
          rw [ndecN_len]
          have := this (Classical.not_not.1 h)
          omega
/-- What DecodeNumbers gives. -/
def mDecN (l : List UInt8) (most : Int) : List Int × Int :=
  if ∀ z ∈ (rdecN l most (List.replicate 64 1024)).1, 0 ≤ z then rdecN l most (List.replicate 64 1024) else ([], 12)
theorem DecodeNumbers_any (l : List UInt8) (most : Int) (h : SH) (hl : l.length ≤ 100000) : SRun Try.prog 41 [S l, I most] h (IsN h (mDecN l most)) := by
  have hB : ∀ h, SRun Try.prog 22 [] h fun r q => ∃ M N, r = gptr M 0 2 ∧ q = (M, ⟨numC N, false⟩) :: (N, ⟨nodes (List.replicate 64 1024), false⟩) :: h := NewNumbers_any
  have hE := fun M N h => decodeI_any M N (List.replicate 64 1024) l most h hl List.length_replicate
  obtain ⟨x, hx⟩ : ∃ x, mDecN l most = x := ⟨_, rfl⟩
  rw [hx]
  unfold mDecN at hx
  have hlen := rdecN_len l most (List.replicate 64 1024)
  generalize rdecN l most (List.replicate 64 1024) = R at *
  generalize (List.replicate 64 1024 : List Int) = X at *
  refine w_body2 Try.func41 rfl rfl ?_
  repeat' (first | apply w_seq | apply w_region | apply o_nil | (apply o_g tyOk; exact rfl; exact rfl) | (apply o_ar tyOk; exact rfl; exact rfl) | (apply o_load tyOk; exact rfl; exact rfl; exact rfl; (focus (exact pk))) | (apply o_loads tyOk; exact rfl; exact rfl; exact rfl; (focus (exact pk))) | (apply o_iface; exact rfl; (focus (exact Try.underlying36)); exact rfl; exact rfl) | (apply o_iface; exact rfl; exact rfl; exact rfl; exact rfl) | (apply o_call; exact rfl; exact rfl; (focus (first | exact rfl | assumption)); exact rfl; (focus (exact ⟨_, hB _, by repeat (first | with_reducible exact Take.nil | with_reducible apply Take.c | with_reducible apply Take.drop)⟩)); rintro _ _ ⟨M, N, rfl, rfl⟩) | (apply o_callN; exact rfl; exact rfl; exact rfl; (focus (exact ⟨_, hB _, by repeat (first | with_reducible exact Take.nil | with_reducible apply Take.c | with_reducible apply Take.drop)⟩)); rintro _ _ ⟨M, N, rfl, rfl⟩) | (apply w_true; exact rfl) | (apply w_false; exact rfl) | (apply w_dT; exact rfl; (focus (first | exact ‹_› | with_reducible exact rfl | omega))) | (apply w_dF; exact rfl; (focus (first | exact ‹_› | with_reducible exact rfl | omega))) | (apply w_ifN; exact rfl; all_goals intro hc) | (apply w_if; exact rfl; all_goals intro hc) | (apply w_ifB; exact rfl; all_goals intro hc) | apply thenS_normal | apply thenS_ret | apply thenS_exit | apply blockS_normal | apply blockS_ret | apply blockS_exit | apply w_skip | apply w_ret | apply w_exit | apply w_block | apply scopeS_normal | apply scopeS_ret | apply scopeS_exit | apply w_scope | (apply blockS_exit_ne; exact rfl) | ((with_reducible apply Sd.mk); (first | exact True.intro | omega | (constructor <;> first | omega | (unfold maxLen; omega)) | (unfold maxLen; omega))) | ((with_reducible apply Ln.mk); (first | rfl | exact ‹_› | omega | (simp ; first | done | omega))) | ((with_reducible apply Wr.mk); (first | exact IntWalk.i64_in _ (by omega) | exact IntWalk.u8_in _ (by omega) | exact IntWalk.u32_in _ (by omega) | exact IntWalk.u64_in _ (by omega) | exact IntKind.wrap_u8 _ | exact IntKind.wrap_u32 _ | rfl)) | ((with_reducible apply Ce.mk); (first | rfl | exact ‹_› | exact cell_recZ (fun _ => rfl) (by omega) (by decide) rfl | exact cell_rec (fun _ => rfl) (by omega) (by decide) rfl | exact cell_bytes (by omega) | exact cell_mapZ (by omega) | exact cell_map (by omega))) | with_reducible exact Pick.head | with_reducible apply Pick.tail | ((with_reducible apply Su.mk); (first | exact subAt_all | exact subAt_recZ (fun _ => rfl) (by omega) | exact subAt_rec (fun _ => rfl) (by omega))) | exact True.intro | exact rfl)
  all_goals first | (exfalso; omega) | skip
  refine o_iface (d := .pointer 102) rfl (by kernel_rfl) rfl rfl ?_
  repeat' (first | apply w_seq | apply w_region | apply o_nil | (apply o_g tyOk; exact rfl; exact rfl) | (apply o_ar tyOk; exact rfl; exact rfl) | (apply o_load tyOk; exact rfl; exact rfl; exact rfl; (focus (exact pk))) | (apply o_loads tyOk; exact rfl; exact rfl; exact rfl; (focus (exact pk))) | (apply o_iface; exact rfl; (focus (exact Try.underlying36)); exact rfl; exact rfl) | (apply o_iface; exact rfl; exact rfl; exact rfl; exact rfl) | (apply o_call; exact rfl; exact rfl; (focus (first | exact rfl | assumption)); exact rfl; (focus (exact ⟨_, hE M N _, by repeat (first | with_reducible exact Take.nil | with_reducible apply Take.c | with_reducible apply Take.drop)⟩)); rintro _ _ hh) | (apply o_callN; exact rfl; exact rfl; exact rfl; (focus (exact ⟨_, hE M N _, by repeat (first | with_reducible exact Take.nil | with_reducible apply Take.c | with_reducible apply Take.drop)⟩)); rintro _ _ hh) | (apply w_true; exact rfl) | (apply w_false; exact rfl) | (apply w_dT; exact rfl; (focus (first | exact ‹_› | with_reducible exact rfl | omega))) | (apply w_dF; exact rfl; (focus (first | exact ‹_› | with_reducible exact rfl | omega))) | (apply w_ifN; exact rfl; all_goals intro hc) | (apply w_if; exact rfl; all_goals intro hc) | (apply w_ifB; exact rfl; all_goals intro hc) | apply thenS_normal | apply thenS_ret | apply thenS_exit | apply blockS_normal | apply blockS_ret | apply blockS_exit | apply w_skip | apply w_ret | apply w_exit | apply w_block | apply scopeS_normal | apply scopeS_ret | apply scopeS_exit | apply w_scope | (apply blockS_exit_ne; exact rfl) | ((with_reducible apply Sd.mk); (first | exact True.intro | omega | (constructor <;> first | omega | (unfold maxLen; omega)) | (unfold maxLen; omega))) | ((with_reducible apply Ln.mk); (first | rfl | exact ‹_› | omega | (simp ; first | done | omega))) | ((with_reducible apply Wr.mk); (first | exact IntWalk.i64_in _ (by omega) | exact IntWalk.u8_in _ (by omega) | exact IntWalk.u32_in _ (by omega) | exact IntWalk.u64_in _ (by omega) | exact IntKind.wrap_u8 _ | exact IntKind.wrap_u32 _ | rfl)) | ((with_reducible apply Ce.mk); (first | rfl | exact ‹_› | exact cell_recZ (fun _ => rfl) (by omega) (by decide) rfl | exact cell_rec (fun _ => rfl) (by omega) (by decide) rfl | exact cell_bytes (by omega) | exact cell_mapZ (by omega) | exact cell_map (by omega))) | with_reducible exact Pick.head | with_reducible apply Pick.tail | ((with_reducible apply Su.mk); (first | exact subAt_all | exact subAt_recZ (fun _ => rfl) (by omega) | exact subAt_rec (fun _ => rfl) (by omega))) | exact True.intro | exact rfl)
  obtain ⟨e1, rfl, rfl⟩ | ⟨e1, A, rfl, rfl⟩ := hh
  · rename_i q0
    rw [e1, if_pos (fun _ g => absurd g List.not_mem_nil)] at hx
    repeat' (first | apply w_seq | apply w_region | apply o_nil | (apply o_g tyOk; exact rfl; exact rfl) | (apply o_ar tyOk; exact rfl; exact rfl) | (apply o_load tyOk; exact rfl; exact rfl; exact rfl; (focus (exact pk))) | (apply o_loads tyOk; exact rfl; exact rfl; exact rfl; (focus (exact pk))) | (apply o_iface; exact rfl; (focus (exact Try.underlying36)); exact rfl; exact rfl) | (apply o_iface; exact rfl; exact rfl; exact rfl; exact rfl) | (apply w_true; exact rfl) | (apply w_false; exact rfl) | (apply w_dT; exact rfl; (focus (first | exact ‹_› | with_reducible exact rfl | omega))) | (apply w_dF; exact rfl; (focus (first | exact ‹_› | with_reducible exact rfl | omega))) | (apply w_ifN; exact rfl; all_goals intro hc) | (apply w_if; exact rfl; all_goals intro hc) | (apply w_ifB; exact rfl; all_goals intro hc) | apply thenS_normal | apply thenS_ret | apply thenS_exit | apply blockS_normal | apply blockS_ret | apply blockS_exit | apply w_skip | apply w_ret | apply w_exit | apply w_block | apply scopeS_normal | apply scopeS_ret | apply scopeS_exit | apply w_scope | (apply blockS_exit_ne; exact rfl) | ((with_reducible apply Sd.mk); (first | exact True.intro | omega | (constructor <;> first | omega | (unfold maxLen; omega)) | (unfold maxLen; omega))) | ((with_reducible apply Ln.mk); (first | rfl | exact ‹_› | omega | (simp ; first | done | omega))) | ((with_reducible apply Wr.mk); (first | exact IntWalk.i64_in _ (by omega) | exact IntWalk.u8_in _ (by omega) | exact IntWalk.u32_in _ (by omega) | exact IntWalk.u64_in _ (by omega) | exact IntKind.wrap_u8 _ | exact IntKind.wrap_u32 _ | rfl)) | ((with_reducible apply Ce.mk); (first | rfl | exact ‹_› | exact cell_recZ (fun _ => rfl) (by omega) (by decide) rfl | exact cell_rec (fun _ => rfl) (by omega) (by decide) rfl | exact cell_bytes (by omega) | exact cell_mapZ (by omega) | exact cell_map (by omega))) | with_reducible exact Pick.head | with_reducible apply Pick.tail | ((with_reducible apply Su.mk); (first | exact subAt_all | exact subAt_recZ (fun _ => rfl) (by omega) | exact subAt_rec (fun _ => rfl) (by omega))) | exact True.intro | exact rfl)
    refine w_loop (S := Unit) (fun _ => [(6, .slice none 0 0), (7, Er R.2), (18, .slice none 0 0), (19, I 0), (20, I 0)]) (fun _ => q0) (fun _ => True) (fun _ => 0) () trivial (by repeat' (first | exact trivial | refine ⟨rfl, ?_⟩ | refine ⟨congrArg some ?_, ?_⟩)) (by repeat (first | with_reducible exact Take.nil | with_reducible apply Take.c | ((with_reducible apply Take.cE); (first | exact rfl | (apply blkE; (focus (first | exact rfl | exact recs_snocE rfl | exact map_snocE rfl | exact congrArg (fun v => [v]) (gslE rfl rfl (by first | rfl | exact ‹_› | omega | (simp ; first | done | omega)) (by first | rfl | exact ‹_› | omega | (simp ; first | done | omega)) rfl)))))) | with_reducible apply Take.drop)) ?_
    rintro - -
    repeat' (first | apply w_seq | apply w_region | apply o_nil | (apply o_g tyOk; exact rfl; exact rfl) | (apply o_ar tyOk; exact rfl; exact rfl) | (apply o_load tyOk; exact rfl; exact rfl; exact rfl; (focus (exact pk))) | (apply o_loads tyOk; exact rfl; exact rfl; exact rfl; (focus (exact pk))) | (apply o_iface; exact rfl; (focus (exact Try.underlying36)); exact rfl; exact rfl) | (apply o_iface; exact rfl; exact rfl; exact rfl; exact rfl) | (apply w_true; exact rfl) | (apply w_false; exact rfl) | (apply w_dT; exact rfl; (focus (first | exact ‹_› | with_reducible exact rfl | omega))) | (apply w_dF; exact rfl; (focus (first | exact ‹_› | with_reducible exact rfl | omega))) | (apply w_ifN; exact rfl; all_goals intro hc) | (apply w_if; exact rfl; all_goals intro hc) | (apply w_ifB; exact rfl; all_goals intro hc) | apply thenS_normal | apply thenS_ret | apply thenS_exit | apply blockS_normal | apply blockS_ret | apply blockS_exit | apply w_skip | apply w_ret | apply w_exit | apply w_block | apply scopeS_normal | apply scopeS_ret | apply scopeS_exit | apply w_scope | (apply blockS_exit_ne; exact rfl) | ((with_reducible apply Sd.mk); (first | exact True.intro | omega | (constructor <;> first | omega | (unfold maxLen; omega)) | (unfold maxLen; omega))) | ((with_reducible apply Ln.mk); (first | rfl | exact ‹_› | omega | (simp ; first | done | omega))) | ((with_reducible apply Wr.mk); (first | exact IntWalk.i64_in _ (by omega) | exact IntWalk.u8_in _ (by omega) | exact IntWalk.u32_in _ (by omega) | exact IntWalk.u64_in _ (by omega) | exact IntKind.wrap_u8 _ | exact IntKind.wrap_u32 _ | rfl)) | ((with_reducible apply Ce.mk); (first | rfl | exact ‹_› | exact cell_recZ (fun _ => rfl) (by omega) (by decide) rfl | exact cell_rec (fun _ => rfl) (by omega) (by decide) rfl | exact cell_bytes (by omega) | exact cell_mapZ (by omega) | exact cell_map (by omega))) | with_reducible exact Pick.head | with_reducible apply Pick.tail | ((with_reducible apply Su.mk); (first | exact subAt_all | exact subAt_recZ (fun _ => rfl) (by omega) | exact subAt_rec (fun _ => rfl) (by omega))) | exact True.intro | exact rfl)
    all_goals first
      | (exfalso; omega)
      | (apply s_fin; (exact (show ResS _ _ _ _ [_, _] from ⟨rfl, ⟨rfl, trivial⟩⟩)); (focus (exact .inl ⟨by rw [← hx]; exact e1, by rw [← hx]; rfl, rfl⟩)); (focus (repeat (first | with_reducible exact Take.nil | with_reducible apply Take.c | ((with_reducible apply Take.cE); (first | exact rfl | (apply blkE; (focus (first | exact rfl | exact recs_snocE rfl | exact map_snocE rfl | exact congrArg (fun v => [v]) (gslE rfl rfl (by first | rfl | exact ‹_› | omega | (simp ; first | done | omega)) (by first | rfl | exact ‹_› | omega | (simp ; first | done | omega)) rfl)))))) | with_reducible apply Take.drop))))
      | trace_state
  · obtain ⟨L, e⟩ := R
    dsimp only at e1 hx hlen ⊢
    subst e1
    have hlb : (nodes L).length = L.length := by simp
    repeat' (first | apply w_seq | apply w_region | apply o_nil | (apply o_g tyOk; exact rfl; exact rfl) | (apply o_ar tyOk; exact rfl; exact rfl) | (apply o_load tyOk; exact rfl; exact rfl; exact rfl; (focus (exact pk))) | (apply o_loads tyOk; exact rfl; exact rfl; exact rfl; (focus (exact pk))) | (apply o_iface; exact rfl; (focus (exact Try.underlying36)); exact rfl; exact rfl) | (apply o_iface; exact rfl; exact rfl; exact rfl; exact rfl) | (apply w_true; exact rfl) | (apply w_false; exact rfl) | (apply w_dT; exact rfl; (focus (first | exact ‹_› | with_reducible exact rfl | omega))) | (apply w_dF; exact rfl; (focus (first | exact ‹_› | with_reducible exact rfl | omega))) | (apply w_ifN; exact rfl; all_goals intro hc) | (apply w_if; exact rfl; all_goals intro hc) | (apply w_ifB; exact rfl; all_goals intro hc) | apply thenS_normal | apply thenS_ret | apply thenS_exit | apply blockS_normal | apply blockS_ret | apply blockS_exit | apply w_skip | apply w_ret | apply w_exit | apply w_block | apply scopeS_normal | apply scopeS_ret | apply scopeS_exit | apply w_scope | (apply blockS_exit_ne; exact rfl) | ((with_reducible apply Sd.mk); (first | exact True.intro | omega | (constructor <;> first | omega | (unfold maxLen; omega)) | (unfold maxLen; omega))) | ((with_reducible apply Ln.mk); (first | rfl | exact ‹_› | omega | (simp ; first | done | omega))) | ((with_reducible apply Wr.mk); (first | exact IntWalk.i64_in _ (by omega) | exact IntWalk.u8_in _ (by omega) | exact IntWalk.u32_in _ (by omega) | exact IntWalk.u64_in _ (by omega) | exact IntKind.wrap_u8 _ | exact IntKind.wrap_u32 _ | rfl)) | ((with_reducible apply Ce.mk); (first | rfl | exact ‹_› | exact cell_recZ (fun _ => rfl) (by omega) (by decide) rfl | exact cell_rec (fun _ => rfl) (by omega) (by decide) rfl | exact cell_bytes (by omega) | exact cell_mapZ (by omega) | exact cell_map (by omega))) | with_reducible exact Pick.head | with_reducible apply Pick.tail | ((with_reducible apply Su.mk); (first | exact subAt_all | exact subAt_recZ (fun _ => rfl) (by omega) | exact subAt_rec (fun _ => rfl) (by omega))) | exact True.intro | exact rfl)
    refine w_loop (S := Nat) (fun i => [(6, gsl A 0 L.length L.length 1), (7, Er 0), (18, gsl A 0 L.length L.length 1), (19, I L.length), (20, I i)]) (fun _ => (A, ⟨nodes L, false⟩) :: h)
      (fun i => i ≤ L.length ∧ ∀ j, j < i → 0 ≤ L[j]!) (fun i => L.length - i) 0 ⟨Nat.zero_le _, fun j hj => absurd hj (Nat.not_lt_zero _)⟩ (by repeat' (first | exact trivial | refine ⟨rfl, ?_⟩ | refine ⟨congrArg some ?_, ?_⟩)) (by repeat (first | with_reducible exact Take.nil | with_reducible apply Take.c | ((with_reducible apply Take.cE); (first | exact rfl | (apply blkE; (focus (first | exact rfl | exact recs_snocE rfl | exact map_snocE rfl | exact congrArg (fun v => [v]) (gslE rfl rfl (by first | rfl | exact ‹_› | omega | (simp ; first | done | omega)) (by first | rfl | exact ‹_› | omega | (simp ; first | done | omega)) rfl)))))) | with_reducible apply Take.drop)) ?_
    rintro i ⟨hi, hall⟩
    by_cases hil : i < L.length
    · obtain ⟨z, hz⟩ : ∃ z, z = L[i]! := ⟨_, rfl⟩
      have hcl : (nodes L)[0 + ((i : Int)).toNat * 1]? = some (I z) := by rw [hz]; exact cell_mapZ hil
      by_cases hz0 : z < 0
      · rw [if_neg (fun g => by have := g z (by rw [hz]; exact ibang_mem hil); omega)] at hx
        repeat' (first | apply w_seq | apply w_region | apply o_nil | (apply o_g tyOk; exact rfl; exact rfl) | (apply o_ar tyOk; exact rfl; exact rfl) | (apply o_load tyOk; exact rfl; exact rfl; exact rfl; (focus (exact pk))) | (apply o_loads tyOk; exact rfl; exact rfl; exact rfl; (focus (exact pk))) | (apply o_iface; exact rfl; (focus (exact Try.underlying36)); exact rfl; exact rfl) | (apply o_iface; exact rfl; exact rfl; exact rfl; exact rfl) | (apply w_true; exact rfl) | (apply w_false; exact rfl) | (apply w_dT; exact rfl; (focus (first | exact ‹_› | with_reducible exact rfl | omega))) | (apply w_dF; exact rfl; (focus (first | exact ‹_› | with_reducible exact rfl | omega))) | (apply w_ifN; exact rfl; all_goals intro hc) | (apply w_if; exact rfl; all_goals intro hc) | (apply w_ifB; exact rfl; all_goals intro hc) | apply thenS_normal | apply thenS_ret | apply thenS_exit | apply blockS_normal | apply blockS_ret | apply blockS_exit | apply w_skip | apply w_ret | apply w_exit | apply w_block | apply scopeS_normal | apply scopeS_ret | apply scopeS_exit | apply w_scope | (apply blockS_exit_ne; exact rfl) | ((with_reducible apply Sd.mk); (first | exact True.intro | omega | (constructor <;> first | omega | (unfold maxLen; omega)) | (unfold maxLen; omega))) | ((with_reducible apply Ln.mk); (first | rfl | exact ‹_› | omega | (simp [hlb]; first | done | omega))) | ((with_reducible apply Wr.mk); (first | exact IntWalk.i64_in _ (by omega) | exact IntWalk.u8_in _ (by omega) | exact IntWalk.u32_in _ (by omega) | exact IntWalk.u64_in _ (by omega) | exact IntKind.wrap_u8 _ | exact IntKind.wrap_u32 _ | rfl)) | ((with_reducible apply Ce.mk); (first | rfl | exact ‹_› | exact hcl | exact cell_recZ (fun _ => rfl) (by omega) (by decide) rfl | exact cell_rec (fun _ => rfl) (by omega) (by decide) rfl | exact cell_bytes (by omega) | exact cell_mapZ (by omega) | exact cell_map (by omega))) | with_reducible exact Pick.head | with_reducible apply Pick.tail | ((with_reducible apply Su.mk); (first | exact subAt_all | exact subAt_recZ (fun _ => rfl) (by omega) | exact subAt_rec (fun _ => rfl) (by omega))) | exact True.intro | exact rfl)
        all_goals first
          | (exfalso; omega)
          | (apply s_fin; (exact (show ResS _ _ _ _ [_, _] from ⟨rfl, ⟨rfl, trivial⟩⟩)); (focus (exact .inl ⟨by rw [← hx], by rw [← hx]; rfl, rfl⟩)); (focus (repeat (first | with_reducible exact Take.nil | with_reducible apply Take.c | ((with_reducible apply Take.cE); (first | exact rfl | (apply blkE; (focus (first | exact rfl | exact recs_snocE rfl | exact map_snocE rfl | exact congrArg (fun v => [v]) (gslE rfl rfl (by first | rfl | exact ‹_› | omega | (simp [hlb]; first | done | omega)) (by first | rfl | exact ‹_› | omega | (simp [hlb]; first | done | omega)) rfl)))))) | with_reducible apply Take.drop))))
          | trace_state
      · repeat' (first | apply w_seq | apply w_region | apply o_nil | (apply o_g tyOk; exact rfl; exact rfl) | (apply o_ar tyOk; exact rfl; exact rfl) | (apply o_load tyOk; exact rfl; exact rfl; exact rfl; (focus (exact pk))) | (apply o_loads tyOk; exact rfl; exact rfl; exact rfl; (focus (exact pk))) | (apply o_iface; exact rfl; (focus (exact Try.underlying36)); exact rfl; exact rfl) | (apply o_iface; exact rfl; exact rfl; exact rfl; exact rfl) | (apply w_true; exact rfl) | (apply w_false; exact rfl) | (apply w_dT; exact rfl; (focus (first | exact ‹_› | with_reducible exact rfl | omega))) | (apply w_dF; exact rfl; (focus (first | exact ‹_› | with_reducible exact rfl | omega))) | (apply w_ifN; exact rfl; all_goals intro hc) | (apply w_if; exact rfl; all_goals intro hc) | (apply w_ifB; exact rfl; all_goals intro hc) | apply thenS_normal | apply thenS_ret | apply thenS_exit | apply blockS_normal | apply blockS_ret | apply blockS_exit | apply w_skip | apply w_ret | apply w_exit | apply w_block | apply scopeS_normal | apply scopeS_ret | apply scopeS_exit | apply w_scope | (apply blockS_exit_ne; exact rfl) | ((with_reducible apply Sd.mk); (first | exact True.intro | omega | (constructor <;> first | omega | (unfold maxLen; omega)) | (unfold maxLen; omega))) | ((with_reducible apply Ln.mk); (first | rfl | exact ‹_› | omega | (simp [hlb]; first | done | omega))) | ((with_reducible apply Wr.mk); (first | exact IntWalk.i64_in _ (by omega) | exact IntWalk.u8_in _ (by omega) | exact IntWalk.u32_in _ (by omega) | exact IntWalk.u64_in _ (by omega) | exact IntKind.wrap_u8 _ | exact IntKind.wrap_u32 _ | rfl)) | ((with_reducible apply Ce.mk); (first | rfl | exact ‹_› | exact hcl | exact cell_recZ (fun _ => rfl) (by omega) (by decide) rfl | exact cell_rec (fun _ => rfl) (by omega) (by decide) rfl | exact cell_bytes (by omega) | exact cell_mapZ (by omega) | exact cell_map (by omega))) | with_reducible exact Pick.head | with_reducible apply Pick.tail | ((with_reducible apply Su.mk); (first | exact subAt_all | exact subAt_recZ (fun _ => rfl) (by omega) | exact subAt_rec (fun _ => rfl) (by omega))) | exact True.intro | exact rfl)
        all_goals first
          | (exfalso; omega)
          | exact ⟨i + 1, ⟨hil, fun j hj => by
              by_cases e : j = i
              · rw [e, ← hz]; omega
              · exact hall j (by omega)⟩, by show L.length - (i + 1) < L.length - i; omega, (by repeat' (first | exact trivial | refine ⟨rfl, ?_⟩ | refine ⟨congrArg some ?_, ?_⟩)), (by repeat (first | with_reducible exact Take.nil | with_reducible apply Take.c | ((with_reducible apply Take.cE); (first | exact rfl | (apply blkE; (focus (first | exact rfl | exact recs_snocE rfl | exact map_snocE rfl | exact congrArg (fun v => [v]) (gslE rfl rfl (by first | rfl | exact ‹_› | omega | (simp ; first | done | omega)) (by first | rfl | exact ‹_› | omega | (simp ; first | done | omega)) rfl)))))) | with_reducible apply Take.drop))⟩
          | trace_state
    · obtain rfl : i = L.length := by omega
      rw [if_pos (fun z hz => by
        obtain ⟨j, hj, e⟩ := List.mem_iff_getElem.1 hz
        have := hall j hj
        rwa [getElem!_pos L j hj, e] at this)] at hx
      subst hx
      repeat' (first | apply w_seq | apply w_region | apply o_nil | (apply o_g tyOk; exact rfl; exact rfl) | (apply o_ar tyOk; exact rfl; exact rfl) | (apply o_load tyOk; exact rfl; exact rfl; exact rfl; (focus (exact pk))) | (apply o_loads tyOk; exact rfl; exact rfl; exact rfl; (focus (exact pk))) | (apply o_iface; exact rfl; (focus (exact Try.underlying36)); exact rfl; exact rfl) | (apply o_iface; exact rfl; exact rfl; exact rfl; exact rfl) | (apply w_true; exact rfl) | (apply w_false; exact rfl) | (apply w_dT; exact rfl; (focus (first | exact ‹_› | with_reducible exact rfl | omega))) | (apply w_dF; exact rfl; (focus (first | exact ‹_› | with_reducible exact rfl | omega))) | (apply w_ifN; exact rfl; all_goals intro hc) | (apply w_if; exact rfl; all_goals intro hc) | (apply w_ifB; exact rfl; all_goals intro hc) | apply thenS_normal | apply thenS_ret | apply thenS_exit | apply blockS_normal | apply blockS_ret | apply blockS_exit | apply w_skip | apply w_ret | apply w_exit | apply w_block | apply scopeS_normal | apply scopeS_ret | apply scopeS_exit | apply w_scope | (apply blockS_exit_ne; exact rfl) | ((with_reducible apply Sd.mk); (first | exact True.intro | omega | (constructor <;> first | omega | (unfold maxLen; omega)) | (unfold maxLen; omega))) | ((with_reducible apply Ln.mk); (first | rfl | exact ‹_› | omega | (simp ; first | done | omega))) | ((with_reducible apply Wr.mk); (first | exact IntWalk.i64_in _ (by omega) | exact IntWalk.u8_in _ (by omega) | exact IntWalk.u32_in _ (by omega) | exact IntWalk.u64_in _ (by omega) | exact IntKind.wrap_u8 _ | exact IntKind.wrap_u32 _ | rfl)) | ((with_reducible apply Ce.mk); (first | rfl | exact ‹_› | exact cell_recZ (fun _ => rfl) (by omega) (by decide) rfl | exact cell_rec (fun _ => rfl) (by omega) (by decide) rfl | exact cell_bytes (by omega) | exact cell_mapZ (by omega) | exact cell_map (by omega))) | with_reducible exact Pick.head | with_reducible apply Pick.tail | ((with_reducible apply Su.mk); (first | exact subAt_all | exact subAt_recZ (fun _ => rfl) (by omega) | exact subAt_rec (fun _ => rfl) (by omega))) | exact True.intro | exact rfl)
      all_goals first
        | (exfalso; omega)
        | (apply s_fin; (exact (show ResS _ _ _ _ [_, _] from ⟨rfl, ⟨rfl, trivial⟩⟩)); (focus (exact .inr ⟨rfl, A, rfl, rfl⟩)); (focus (repeat (first | with_reducible exact Take.nil | with_reducible apply Take.c | ((with_reducible apply Take.cE); (first | exact rfl | (apply blkE; (focus (first | exact rfl | exact recs_snocE rfl | exact map_snocE rfl | exact congrArg (fun v => [v]) (gslE rfl rfl (by first | rfl | exact ‹_› | omega | (simp ; first | done | omega)) (by first | rfl | exact ‹_› | omega | (simp ; first | done | omega)) rfl)))))) | with_reducible apply Take.drop))))
        | trace_state
end Go.Proofs.Ytinfmojbdaiogaa
end
section
set_option linter.unusedVariables false
set_option linter.unusedSimpArgs false
set_option maxRecDepth 4000
namespace Go.Proofs.Ytinfmojbdaiogaa
open Go.Gh Go.RowKit

/-- What ends well is what an encoder gave. -/
theorem end_fin {D : List UInt8} {n : Nat} {f : Enc} {d : Dec} (s : Syn D f d) (hok : EncOk n f) (h : dend d = 0) : D = fin f := by
  obtain ⟨k1, k2, k3, k4⟩ := dend_zero h
  have hlen : D.length = f.out.length + 4 := by
    have h1 := s.len
    have h2 := s.rest
    rw [k3] at h2
    have h3 := congrArg List.length h2
    simp only [List.length_nil, List.length_drop] at h3
    omega
  have hval : val D = val (fin f) := by
    have h1 := s.code
    rw [k4, ← hlen, List.take_length] at h1
    have h2 := fin_val hok.low
    omega
  exact val_inj (by rw [hlen, fin_len]) hval
theorem end_ext {d : Dec} {c : UInt8} : dend (ext d c) = 12 := by
  unfold dend
  rw [if_pos]
  exact .inr (.inr (.inl (by show d.rest ++ [c] ≠ []; simp)))
/-- Bytes. -/
theorem bencN_ok (l : List UInt8) (k : Nat) : ∀ {i n : Nat} {P : List Int} {c : Int} {e : Enc}, EncOk n e → P.length = 2048 → 0 ≤ c ∧ c ≤ 255 → EncOk (n + 16 * k) (bencN l k i P c e) := by
  induction k with
  | zero => intro i n P c e h _ _; exact h
  | succ k ih =>
    intro i n P c e h hP hc
    have h1 := benc_ok (v := bat l (i : Int)) h hP hc
    rw [show n + 16 * (k + 1) = n + 16 + 16 * k by omega]
    exact ih h1.1 h1.2 (bat_255 l i)
theorem bat_lt {l : List UInt8} {i : Nat} (h : i < l.length) : bat l (i : Int) = (l[i].toNat : Int) := by
  unfold bat
  rw [Int.toNat_natCast, List.getD_eq_getElem?_getD, List.getElem?_eq_getElem h]; rfl
theorem bdecN_miss (k : Nat) : ∀ {P : List Int} {c : Int} {d : Dec}, (bdecN k P c d).2.missing = false → d.missing = false := by
  induction k with
  | zero => intro P c d h; exact h
  | succ k ih => intro P c d h; exact bdec_miss (ih (P := (bdec P c d).1) (c := (bdec P c d).2.2) h)
theorem bdecN_full (k : Nat) : ∀ {P : List Int} {c : Int} {d : Dec}, (bdecN k P c d).2.full = d.full := by
  induction k with
  | zero => intro P c d; rfl
  | succ k ih => intro P c d; exact (ih (P := (bdec P c d).1) (c := (bdec P c d).2.2)).trans bdec_full
theorem bdecN_ext {x : UInt8} (k : Nat) : ∀ {P : List Int} {c : Int} {d : Dec}, (bdecN k P c d).2.missing = false → bdecN k P c (ext d x) = ((bdecN k P c d).1, ext (bdecN k P c d).2 x) := by
  induction k with
  | zero => intro P c d _; rfl
  | succ k ih =>
    intro P c d h
    have h1 : (bdec P c d).2.1.missing = false := bdecN_miss k (P := (bdec P c d).1) (c := (bdec P c d).2.2) h
    show (b8 (bdec P c (ext d x)).2.2 :: (bdecN k (bdec P c (ext d x)).1 (bdec P c (ext d x)).2.2 (bdec P c (ext d x)).2.1).1, (bdecN k (bdec P c (ext d x)).1 (bdec P c (ext d x)).2.2 (bdec P c (ext d x)).2.1).2) = _
    rw [bdec_ext h1]
    dsimp only
    rw [ih (P := (bdec P c d).1) (c := (bdec P c d).2.2) h]
    rfl
theorem bdecN_len : ∀ (k : Nat) (P : List Int) (c : Int) (d : Dec), (bdecN k P c d).1.length = k
  | 0, _, _, _ => rfl
  | k + 1, P, c, d => by
    show (b8 (bdec P c d).2.2 :: (bdecN k (bdec P c d).1 (bdec P c d).2.2 (bdec P c d).2.1).1).length = k + 1
    rw [List.length_cons, bdecN_len k]
theorem bdecN_strict {D : List UInt8} (l : List UInt8) (k : Nat) : ∀ {i n : Nat} {P : List Int} {c : Int} {e : Enc} {d : Dec}, DecOk d → Syn D e d → EncOk n e → InB e → P.length = 2048 → 0 ≤ c ∧ c ≤ 255 → (bdecN k P c d).2.missing = false → (bdecN k P c d).1 = l.drop i → i + k = l.length →
    Syn D (bencN l k i P c e) (bdecN k P c d).2 := by
  induction k with
  | zero => intro i n P c e d _ s _ _ _ _ _ _ _; exact s
  | succ k ih =>
    intro i n P c e d hd s hok hi hP hc hm hl hik
    have hb := bdec_ok (P := P) (c := c) hd hP hc
    have h1 : (bdec P c d).2.1.missing = false := bdecN_miss k (P := (bdec P c d).1) (c := (bdec P c d).2.2) hm
    obtain ⟨g1, g2⟩ := bdec_strict hd s hok hi h1
    have hl' : b8 (bdec P c d).2.2 :: (bdecN k (bdec P c d).1 (bdec P c d).2.2 (bdec P c d).2.1).1 = l.drop i := hl
    rw [List.drop_eq_getElem_cons (i := i) (by omega)] at hl'
    obtain ⟨e1, e2⟩ := List.cons.inj hl'
    have g4 : bat l (i : Int) = (bdec P c d).2.2 := by
      rw [bat_lt (by omega), ← e1]
      exact b8_val (by omega)
    show Syn D (bencN l k (i + 1) (benc P c e (bat l (i : Int))).1 (bat l (i : Int)) (benc P c e (bat l (i : Int))).2) (bdecN k (bdec P c d).1 (bdec P c d).2.2 (bdec P c d).2.1).2
    rw [g4, ← g2]
    exact ih hb.1 g1 (benc_ok hok hP hc).1 (benc_in hok hi).2 hb.2.1 hb.2.2 hm e2 (by omega)
/-- Numbers. -/
theorem nencN_ok (l : List Int) (k : Nat) : ∀ {i n : Nat} {t : List Int} {e : Enc}, EncOk n e → EncOk (n + 136 * k) (nencN l k i t e) := by
  induction k with
  | zero => intro i n t e h; exact h
  | succ k ih =>
    intro i n t e h
    rw [show n + 136 * (k + 1) = n + 136 + 136 * k by omega]
    exact ih (nenc_ok h _).1
theorem ndecN_miss (k : Nat) : ∀ {t : List Int} {d : Dec}, (ndecN k t d).2.missing = false → d.missing = false := by
  induction k with
  | zero => intro t d h; exact h
  | succ k ih => intro t d h; exact (ndec_miss (ih (t := (ndec t d).1) h)).1
theorem ndecN_full (k : Nat) : ∀ {t : List Int} {d : Dec}, (ndecN k t d).2.full = d.full := by
  induction k with
  | zero => intro t d; rfl
  | succ k ih => intro t d; exact (ih (t := (ndec t d).1)).trans ndec_full
theorem ndecN_ext {x : UInt8} (k : Nat) : ∀ {t : List Int} {d : Dec}, (ndecN k t d).2.missing = false → ndecN k t (ext d x) = ((ndecN k t d).1, ext (ndecN k t d).2 x) := by
  induction k with
  | zero => intro t d _; rfl
  | succ k ih =>
    intro t d h
    have h1 : (ndec t d).2.1.missing = false := ndecN_miss k (t := (ndec t d).1) h
    show ((ndec t (ext d x)).2.2 :: (ndecN k (ndec t (ext d x)).1 (ndec t (ext d x)).2.1).1, (ndecN k (ndec t (ext d x)).1 (ndec t (ext d x)).2.1).2) = _
    rw [ndec_ext h1]
    dsimp only
    rw [ih (t := (ndec t d).1) h]
    rfl
theorem ndecN_strict {D : List UInt8} (l : List Int) (hnn : ∀ z ∈ l, 0 ≤ z) (k : Nat) : ∀ {i n : Nat} {t : List Int} {e : Enc} {d : Dec}, DecOk d → Syn D e d → EncOk n e → InB e → t.length = 64 → (ndecN k t d).2.missing = false → (ndecN k t d).1 = l.drop i → i + k = l.length →
    Syn D (nencN l k i t e) (ndecN k t d).2 ∧ ∀ z ∈ l.drop i, nOk z := by
  induction k with
  | zero => intro i n t e d _ s _ _ _ _ _ hik; exact ⟨s, by rw [List.drop_of_length_le (by omega)]; exact fun _ g => absurd g List.not_mem_nil⟩
  | succ k ih =>
    intro i n t e d hd s hok hi ht hm hl hik
    have hb := ndec_ok (t := t) hd ht
    have h1 : (ndec t d).2.1.missing = false := ndecN_miss k (t := (ndec t d).1) hm
    have hl' : (ndec t d).2.2 :: (ndecN k (ndec t d).1 (ndec t d).2.1).1 = l.drop i := hl
    have hz := hnn _ (ibang_mem (L := l) (i := i) (by omega))
    rw [List.drop_eq_getElem_cons (i := i) (by omega)] at hl' ⊢
    obtain ⟨e1, e2⟩ := List.cons.inj hl'
    rw [← getElem!_pos l i (by omega)] at e1 ⊢
    obtain ⟨g1, g2, g3⟩ := ndec_strict hd s hok hi h1 (by omega)
    show Syn D (nencN l k (i + 1) (nenc t e l[i]!).1 (nenc t e l[i]!).2) (ndecN k (ndec t d).1 (ndec t d).2.1).2 ∧ _
    rw [← e1, ← g2]
    have := ih (i := i + 1) hb.1 g1 (nenc_ok (t := t) hok _).1 (nenc_in hok hi).2 hb.2 hm e2 (by omega)
    refine ⟨this.1, fun z hz => ?_⟩
    rcases List.mem_cons.1 hz with rfl | hz
    · exact g3
    · exact this.2 z hz
end Go.Proofs.Ytinfmojbdaiogaa
end
section
set_option linter.unusedVariables false
set_option linter.unusedSimpArgs false
set_option maxRecDepth 4000
namespace Go.Proofs.Ytinfmojbdaiogaa
open Go.Gh Go.RowKit

theorem lead_fin : ∀ f : Nat, f < 256 → (f < 128 → vlead (f : Int) 8 0 = 0 ∧ vlow (f : Int) 0 = f) ∧ (128 ≤ f → f < 192 → vlead (f : Int) 8 0 = 1 ∧ vlow (f : Int) 1 = (f : Int) - 128) ∧ (192 ≤ f → 2 ≤ vlead (f : Int) 8 0) := by decide +kernel
theorem hd_fin : ∀ m : Nat, m < 128 → vhd 0 (m : Int) = m ∧ (m < 64 → vhd 1 (m : Int) = 128 + (m : Int)) := by decide +kernel
theorem vbnd0 : vbnd 0 = 0 := rfl
theorem vbnd1 : vbnd 1 = 128 := by decide
theorem vbnd2 : vbnd 2 = 16512 := by decide
theorem vbnd_big : ∀ k : Nat, k < 9 → 2 ≤ k → 16512 ≤ vbnd k := by decide
theorem vk_lo {n : Int} (h : n < 128) : vk n = 0 := by
  show (if vbnd 1 ≤ n then vks n 7 1 else 0) = 0
  rw [vbnd1, if_neg (by omega)]
theorem vk_hi {n : Int} (h : 128 ≤ n) (h2 : n < 16512) : vk n = 1 := by
  show (if vbnd 1 ≤ n then (if vbnd 2 ≤ n then vks n 6 2 else 1) else 0) = 1
  rw [vbnd1, vbnd2, if_pos h, if_neg (by omega)]
theorem vnum_lo {n : Int} (h0 : 0 ≤ n) (h : n < 128) : vnum n = [b8 n] := by
  obtain ⟨m, rfl⟩ := Int.eq_ofNat_of_zero_le h0
  unfold vnum
  rw [if_neg (by omega), vk_lo h, vbnd0, Int.sub_zero]
  show [b8 (vhd 0 (m : Int))] = _
  rw [(hd_fin m (by omega)).1]
theorem vnum_hi {n : Int} (h0 : 128 ≤ n) (h : n < 16512) : vnum n = [b8 (128 + (n - 128) / 256), b8 ((n - 128) % 256)] := by
  unfold vnum
  rw [if_neg (by omega), vk_hi h0 h, vbnd1]
  show [b8 (vhd 1 ((n - 128) / 256)), b8 ((n - 128) % 256)] = _
  obtain ⟨m, hm⟩ := Int.eq_ofNat_of_zero_le (show 0 ≤ (n - 128) / 256 by omega)
  rw [hm, (hd_fin m (by omega)).2 (by omega)]
theorem bat_zero (x : UInt8) (r : List UInt8) : bat (x :: r) 0 = x.toNat := rfl
theorem vpeek_lo {x : UInt8} {r : List UInt8} (h : x.toNat < 128) : vpeek (x :: r) = ((x.toNat : Int), 1, true) := by
  have hl := (lead_fin x.toNat (by omega)).1 h
  unfold vpeek
  rw [if_neg (by simp), bat_zero, hl.1, if_neg (by simp), hl.2, vbnd0]
  rw [show vacc (x :: r) 0 1 (x.toNat : Int) = x.toNat from rfl, if_neg (by omega), Int.add_zero]
  rfl
theorem vpeek_hi {x y : UInt8} {r : List UInt8} (h : 128 ≤ x.toNat) (h2 : x.toNat < 192) : vpeek (x :: y :: r) = (((x.toNat : Int) - 128) * 256 + y.toNat + 128, 2, true) := by
  have hl := (lead_fin x.toNat (by omega)).2.1 h h2
  have hy := y.toNat_lt
  unfold vpeek
  rw [if_neg (by simp), bat_zero, hl.1, if_neg (by simp), hl.2, vbnd1]
  rw [show vacc (x :: y :: r) 1 1 ((x.toNat : Int) - 128) = ((x.toNat : Int) - 128) * 256 + y.toNat from rfl, if_neg (by omega)]
  rfl
theorem vacc_ge (l : List UInt8) (k : Nat) : ∀ (i : Nat) (v : Int), 0 ≤ v → 0 ≤ vacc l k i v := by
  induction k with
  | zero => intro i v h; exact h
  | succ k ih => intro i v h; exact ih (i + 1) _ (by have := bat_255 l (i : Int); omega)
/-- A number of at most 4096 in front. -/
theorem vpeek_front {l : List UInt8} (h : (vpeek l).2.2 = true) (hn : (vpeek l).1 ≤ 4096) : 0 ≤ (vpeek l).1 ∧ l = vnum (vpeek l).1 ++ l.drop (vpeek l).2.1.toNat := by
  match l with
  | [] => cases h
  | x :: r =>
    have hx := x.toNat_lt
    by_cases h1 : x.toNat < 128
    · rw [vpeek_lo h1]
      dsimp only
      rw [vnum_lo (by omega) (by omega)]
      have : b8 (x.toNat : Int) = x := UInt8.toNat_inj.1 (by have := b8_val (n := (x.toNat : Int)) (by omega); omega)
      rw [this]
      exact ⟨by omega, rfl⟩
    · by_cases h2 : x.toNat < 192
      · match r with
        | [] =>
          exfalso
          have hl := (lead_fin x.toNat (by omega)).2.1 (by omega) h2
          unfold vpeek at h
          rw [if_neg (by simp), bat_zero, hl.1, if_pos (by simp)] at h
          cases h
        | y :: r =>
          have hy := y.toNat_lt
          rw [vpeek_hi (by omega) h2]
          dsimp only
          rw [vnum_hi (by omega) (by omega)]
          have e1 : 128 + (((x.toNat : Int) - 128) * 256 + y.toNat + 128 - 128) / 256 = x.toNat := by omega
          have e2 : (((x.toNat : Int) - 128) * 256 + y.toNat + 128 - 128) % 256 = y.toNat := by omega
          rw [e1, e2]
          have i1 : b8 (x.toNat : Int) = x := UInt8.toNat_inj.1 (by have := b8_val (n := (x.toNat : Int)) (by omega); omega)
          have i2 : b8 (y.toNat : Int) = y := UInt8.toNat_inj.1 (by have := b8_val (n := (y.toNat : Int)) (by omega); omega)
          rw [i1, i2]
          exact ⟨by omega, rfl⟩
      · exfalso
        have hl := (lead_fin x.toNat (by omega)).2.2 (by omega)
        have hl2 := (vlead_le (bat (x :: r) 0) 8 0).2
        have hb := vbnd_big (vlead (bat (x :: r) 0) 8 0) (by omega) (by rw [bat_zero]; exact hl)
        have hlo := (vlow_in (bat (x :: r) 0) (k := vlead (bat (x :: r) 0) 8 0) (by omega)).1
        have ha := vacc_ge (x :: r) (vlead (bat (x :: r) 0) 8 0) 1 _ hlo
        unfold vpeek at h hn
        rw [if_neg (by simp)] at h hn
        split at h
        · cases h
        · rename_i g1
          rw [if_neg g1] at hn
          split at h
          · cases h
          · rename_i g2
            rw [if_neg g2] at hn
            dsimp only at hn
            omega
theorem vpeek_num {n : Int} (h0 : 0 ≤ n) (h : n ≤ 4096) (r : List UInt8) : vpeek (vnum n ++ r) = (n, ((vnum n).length : Int), true) := by
  by_cases h1 : n < 128
  · rw [vnum_lo h0 h1]
    have := b8_val (n := n) (by omega)
    show vpeek (b8 n :: r) = _
    rw [vpeek_lo (by omega), this]
    rfl
  · rw [vnum_hi (by omega) (by omega)]
    have e1 := b8_val (n := 128 + (n - 128) / 256) (by omega)
    have e2 := b8_val (n := (n - 128) % 256) (by omega)
    show vpeek (b8 (128 + (n - 128) / 256) :: b8 ((n - 128) % 256) :: r) = _
    rw [vpeek_hi (by omega) (by omega), e1, e2]
    have : (128 + (n - 128) / 256 - 128) * 256 + (n - 128) % 256 + 128 = n := by omega
    rw [this]
    rfl
theorem rdN_num {n : Int} (h0 : 0 ≤ n) (h : n ≤ 4096) (r : List UInt8) : rdN (vnum n ++ r) 4096 = (n, r, 0) := by
  unfold rdN
  rw [vpeek_num h0 h]
  dsimp only
  rw [if_neg (by decide), if_neg (by omega), Int.toNat_natCast, List.drop_left]
theorem rdN_front {l : List UInt8} (h : (rdN l 4096).2.2 = 0) : l = vnum (rdN l 4096).1 ++ (rdN l 4096).2.1 ∧ 0 ≤ (rdN l 4096).1 ∧ (rdN l 4096).1 ≤ 4096 := by
  unfold rdN at h ⊢
  split at h
  · exact absurd h (by show ¬ (12 : Int) = 0; decide)
  · rename_i h1
    split at h
    · exact absurd h (by show ¬ (2 : Int) = 0; decide)
    · rename_i h2
      rw [if_neg h1, if_neg h2]
      dsimp only
      have := vpeek_front (l := l) (by simpa using h1) (by omega)
      exact ⟨this.2, by omega, by omega⟩
/-- What is accepted is the bytes of what it gives. -/
theorem mDec_strict {D : List UInt8} {most : Int} (hD : D.length ≤ 100000) (h : (mDec D most).2 = 0) : mEnc (mDec D most).1 = (D, 0) ∧ (mDec D most).1.length ≤ 4096 ∧ ∀ c, (mDec (D ++ [c]) most).2 = 12 := by
  unfold mDec at h ⊢
  unfold rdec at h ⊢
  by_cases h1 : (rdN D 4096).2.2 = 0
  case neg => rw [if_pos h1] at h; exact absurd h (by show ¬ (12 : Int) = 0; decide)
  rw [if_neg (Classical.not_not.2 h1)] at h ⊢
  obtain ⟨f1, f2, f3⟩ := rdN_front h1
  have hlen := (rdN_ok D 4096).1
  generalize (rdN D 4096).1 = n at *
  generalize (rdN D 4096).2.1 = R at *
  subst f1
  have hext : ∀ c, rdN (vnum n ++ R ++ [c]) 4096 = (n, R ++ [c], 0) := fun c => by rw [List.append_assoc]; exact rdN_num f2 f3 _
  by_cases h2 : most < n
  case pos => rw [if_pos h2] at h; exact absurd h (by show ¬ (2 : Int) = 0; decide)
  rw [if_neg h2] at h ⊢
  by_cases h3 : n = 0
  · rw [if_pos h3] at h ⊢
    have hR : R = [] := by
      rcases R with - | ⟨x, R⟩
      · rfl
      · exact absurd h (by show ¬ rend (x :: R) 0 = 0; rw [show rend (x :: R) 0 = 12 from if_pos ⟨rfl, by simp⟩]; decide)
    subst hR
    refine ⟨?_, Nat.zero_le _, fun c => ?_⟩
    · rw [h3, List.append_nil]; rfl
    · rw [hext c]
      dsimp only
      rw [if_neg (by decide), if_neg h2, if_pos h3]
      rfl
  rw [if_neg h3] at h ⊢
  obtain ⟨m, rfl⟩ := Int.eq_ofNat_of_zero_le f2
  rw [Int.toNat_natCast] at *
  by_cases h4 : dend (bdecN m nd0 0 (dnew R)).2 = 0
  case neg => rw [if_pos h4] at h; exact absurd h h4
  rw [if_neg (Classical.not_not.2 h4)]
  obtain ⟨k1, k2, k3, k4⟩ := dend_zero h4
  have hf : (dnew R).full = false := by rw [← k2]; exact (bdecN_full m).symm
  have hl4 := dnew_miss (bdecN_miss m k1)
  have hll := bdecN_len m nd0 0 (dnew R)
  obtain ⟨L, hL⟩ : ∃ L, L = (bdecN m nd0 0 (dnew R)).1 := ⟨_, rfl⟩
  have hs := bdecN_strict L m (i := 0) (P := nd0) (c := 0) (dnew_ok (by omega)) (dnew_syn hl4 hf) encZ_ok e00_InB List.length_replicate (by decide) k1 hL.symm (by rw [hL, Nat.zero_add]; exact hll.symm)
  have hok := bencN_ok L m (i := 0) (P := nd0) (c := 0) encZ_ok List.length_replicate (by decide)
  have hfin := end_fin hs hok h4
  dsimp only
  rw [← hL] at hll ⊢
  refine ⟨?_, by omega, fun c => ?_⟩
  · rw [show mEnc L = (if L.length = 0 then vnum 0 else vnum L.length ++ fin (bencN L L.length 0 nd0 0 encZ), 0) from if_neg (by omega), if_neg (by omega), hll, ← hfin]
  · rw [hext c]
    dsimp only
    rw [Int.toNat_natCast, dnew_ext hl4, bdecN_ext m k1]
    dsimp only
    rw [end_ext, if_neg (by decide), if_neg h2, if_neg h3, if_pos (by decide)]
theorem mDec_err {D : List UInt8} {most : Int} (h : (mDec D most).2 ≠ 0) : (mDec D most).1 = [] := by
  unfold mDec rdec at h ⊢
  split at h
  · rename_i g; rw [if_pos g]
  · rename_i g1
    rw [if_neg g1]
    split at h
    · rename_i g; rw [if_pos g]
    · rename_i g2
      rw [if_neg g2]
      split at h
      · rename_i g; rw [if_pos g]
      · rename_i g3
        rw [if_neg g3]
        split at h
        · rename_i g; rw [if_pos g]
        · exact absurd rfl h
end Go.Proofs.Ytinfmojbdaiogaa
end
section
set_option linter.unusedVariables false
set_option linter.unusedSimpArgs false
set_option maxRecDepth 4000
namespace Go.Proofs.Ytinfmojbdaiogaa
open Go.Gh Go.RowKit

abbrev nt0 : List Int := List.replicate 64 1024
theorem mDecN_strict {D : List UInt8} {most : Int} (hD : D.length ≤ 100000) (h : (mDecN D most).2 = 0) : mEncN (mDecN D most).1 = (D, 0) ∧ (mDecN D most).1.length ≤ 4096 ∧ ∀ c, (mDecN (D ++ [c]) most).2 = 12 := by
  have hnil : ∀ z ∈ ([] : List Int), 0 ≤ z := fun _ g => absurd g List.not_mem_nil
  have key0 : ∀ l, rdecN l most nt0 = ([], 12) → (mDecN l most).2 = 12 := fun l g => by unfold mDecN; rw [g, if_pos hnil]
  unfold mDecN at h
  by_cases hnn : ∀ z ∈ (rdecN D most nt0).1, 0 ≤ z
  case neg => rw [if_neg hnn] at h; exact absurd h (by show ¬ (12 : Int) = 0; decide)
  rw [if_pos hnn] at h
  rw [show mDecN D most = rdecN D most nt0 from if_pos hnn]
  unfold rdecN at h hnn ⊢
  by_cases h1 : (rdN D 4096).2.2 = 0
  case neg => rw [if_pos h1] at h; exact absurd h (by show ¬ (12 : Int) = 0; decide)
  rw [if_neg (Classical.not_not.2 h1)] at h hnn ⊢
  obtain ⟨f1, f2, f3⟩ := rdN_front h1
  have hlen := (rdN_ok D 4096).1
  generalize (rdN D 4096).1 = n at *
  generalize (rdN D 4096).2.1 = R at *
  subst f1
  have hext : ∀ c, rdN (vnum n ++ R ++ [c]) 4096 = (n, R ++ [c], 0) := fun c => by rw [List.append_assoc]; exact rdN_num f2 f3 _
  by_cases h2 : most < n
  case pos => rw [if_pos h2] at h; exact absurd h (by show ¬ (2 : Int) = 0; decide)
  rw [if_neg h2] at h hnn ⊢
  by_cases h3 : n = 0
  · rw [if_pos h3] at h ⊢
    have hR : R = [] := by
      rcases R with - | ⟨x, R⟩
      · rfl
      · exact absurd h (by show ¬ rend (x :: R) 0 = 0; rw [show rend (x :: R) 0 = 12 from if_pos ⟨rfl, by simp⟩]; decide)
    subst hR
    refine ⟨?_, Nat.zero_le _, fun c => key0 _ ?_⟩
    · rw [h3, List.append_nil]; rfl
    · unfold rdecN
      rw [hext c]
      dsimp only
      rw [if_neg (by decide), if_neg h2, if_pos h3]
      rfl
  rw [if_neg h3] at h hnn ⊢
  obtain ⟨m, rfl⟩ := Int.eq_ofNat_of_zero_le f2
  rw [Int.toNat_natCast] at *
  by_cases h4 : dend (ndecN m nt0 (dnew R)).2 = 0
  case neg => rw [if_pos h4] at h; exact absurd h h4
  rw [if_neg (Classical.not_not.2 h4)] at hnn ⊢
  obtain ⟨k1, k2, k3, k4⟩ := dend_zero h4
  have hf : (dnew R).full = false := by rw [← k2]; exact (ndecN_full m).symm
  have hl4 := dnew_miss (ndecN_miss m k1)
  have hll := ndecN_len m nt0 (dnew R)
  obtain ⟨L, hL⟩ : ∃ L, L = (ndecN m nt0 (dnew R)).1 := ⟨_, rfl⟩
  have hnn : ∀ z ∈ L, 0 ≤ z := by rw [hL]; exact hnn
  have hs := ndecN_strict L hnn m (i := 0) (t := nt0) (dnew_ok (by omega)) (dnew_syn hl4 hf) encZ_ok e00_InB List.length_replicate k1 hL.symm (by rw [hL, Nat.zero_add]; exact hll.symm)
  have hok := nencN_ok L m (i := 0) (t := nt0) encZ_ok
  have hfin := end_fin hs.1 hok h4
  dsimp only
  rw [← hL] at hll ⊢
  refine ⟨?_, by omega, fun c => key0 _ ?_⟩
  · have : mEncN L = (if L.length = 0 then vnum 0 else vnum L.length ++ fin (nencN L L.length 0 nt0 encZ), 0) := by
      unfold mEncN; rw [if_neg (by omega), if_pos (show ∀ z ∈ L, nOk z from hs.2)]
    rw [this, if_neg (by omega), hll, ← hfin]
  · unfold rdecN
    rw [hext c]
    dsimp only
    rw [Int.toNat_natCast, dnew_ext hl4, ndecN_ext m k1]
    dsimp only
    rw [end_ext, if_neg (by decide), if_neg h2, if_neg h3, if_pos (by decide)]
theorem mDecN_err {D : List UInt8} {most : Int} (h : (mDecN D most).2 ≠ 0) : (mDecN D most).1 = [] := by
  unfold mDecN at h ⊢
  split at h
  · rename_i g0
    rw [if_pos g0]
    unfold rdecN at h ⊢
    split at h
    · rename_i g; rw [if_pos g]
    · rename_i g1
      rw [if_neg g1]
      split at h
      · rename_i g; rw [if_pos g]
      · rename_i g2
        rw [if_neg g2]
        split at h
        · rename_i g; rw [if_pos g]
        · rename_i g3
          rw [if_neg g3]
          split at h
          · rename_i g; rw [if_pos g]
          · exact absurd rfl h
  · rename_i g0; rw [if_neg g0]
end Go.Proofs.Ytinfmojbdaiogaa
end
section
set_option linter.unusedVariables false
set_option linter.unusedSimpArgs false
set_option maxRecDepth 4000
namespace Go.Proofs.Ytinfmojbdaiogaa
open Go.Gh Go.RowKit

/-- DecodeNumbers: the numbers lie somewhere. -/
theorem DecodeNumbers_has (l : List UInt8) (most : Int) (h : SH) (hl : l.length ≤ 100000) : SRun Try.prog 41 [S l, I most] h fun r q =>
    ∃ w, r = .tuple #[w, Er (mDecN l most).2] ∧ Has q (nodes (mDecN l most).1) 1 (mDecN l most).1.length w ∧ Take q h :=
  (DecodeNumbers_any l most h hl).mono fun r q g => by
    rcases g with ⟨g1, rfl, rfl⟩ | ⟨g1, A, rfl, rfl⟩
    · exact ⟨_, rfl, by rw [g1]; exact ⟨none, 0, rfl, fun k => absurd rfl k⟩, .nil⟩
    · rw [g1]
      exact ⟨_, rfl, ⟨_, _, rfl, fun _ => ⟨A, false, _, by rw [Nat.one_mul], .head⟩⟩, .drop .nil⟩
end Go.Proofs.Ytinfmojbdaiogaa
end
