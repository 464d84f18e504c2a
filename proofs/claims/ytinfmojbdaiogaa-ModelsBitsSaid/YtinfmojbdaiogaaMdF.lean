/- Chapter 08: the model of numbers. -/
import Derived.Test.YtinfmojbdaiogaaMdE
import Derived.Test.YtinfmojbdaiogaaLbA
set_option linter.unusedVariables false
set_option linter.unusedSimpArgs false
set_option maxRecDepth 4000
namespace Go.Proofs.Ytinfmojbdaiogaa
open Go.Gh Go.RowKit

abbrev numC (N : Nat) : List Value := [I 6, gsl N 0 64 64 0]
theorem numEnc (n M N m : Nat) (t : List Int) (e : Enc) (v : Int) (h p : SH) (hb : EncB n ((M, ⟨numC N, false⟩) :: (N, ⟨nodes t, false⟩) :: h) e p) (ht : t.length = 64) (hok : EncOk m e) (hm : m + 12 ≤ 999000) :
    SRun Try.prog 35 [gptr M 0 2, gptr n 0 3, I v] p fun _ q => EncB n ((M, ⟨numC N, false⟩) :: (N, ⟨nodes (tenc v 6 t e 1).1, false⟩) :: h) (tenc v 6 t e 1).2 q := by
  have hb' : EncB n ((M, ⟨numC N, false⟩) :: (N, ⟨nodes ([] ++ t ++ []), false⟩) :: h) e p := by rw [List.nil_append, List.append_nil]; exact hb
  have := TreeEncode_any n M N 0 2 64 6 m (numC N) [] [] t e v h p hb' rfl rfl rfl rfl ht (by decide) hok hm
  rw [List.nil_append, List.append_nil] at this
  exact this
theorem numDec (n M N : Nat) (t : List Int) (d : Dec) (h : SH) (ht : t.length = 64) (hok : DecOk d) :
    SRun Try.prog 38 [gptr M 0 2, gptr n 0 5] (decB n d :: (M, ⟨numC N, false⟩) :: (N, ⟨nodes t, false⟩) :: h) fun r q =>
      r = I (((tdec 6 t d 1).2.2 - 64 : Nat) : Int) ∧ q = decB n (tdec 6 t d 1).2.1 :: (M, ⟨numC N, false⟩) :: (N, ⟨nodes (tdec 6 t d 1).1, false⟩) :: h := by
  have := TreeDecode_any n M N 0 2 64 6 (numC N) [] [] t d h rfl rfl rfl rfl ht (by decide) hok
  rw [List.nil_append, List.append_nil, List.nil_append, List.append_nil] at this
  have hb := (tdec_ok (k := 6) (t := t) (j := 1) hok).2.2
  refine this.mono fun r q g => ⟨?_, g.2⟩
  rw [g.1]
  have h64 : (2 ^ 6 : Nat) = 64 := rfl
  rw [h64] at hb ⊢
  exact congrArg (Value.int .i64) (by omega)
/-- The model of numbers writes a number. -/
def ncut (v : Int) : Int := if v < 0 ∨ 4611686018427387903 < v then 0 else v
def nenc (t : List Int) (e : Enc) (v : Int) : List Int × Enc :=
  ((tenc (blen (ncut v).toNat) 6 t e 1).1, if 2 ≤ blen (ncut v).toNat then edir (tenc (blen (ncut v).toNat) 6 t e 1).2 ((blen (ncut v).toNat : Int) - 1) (ncut v) else (tenc (blen (ncut v).toNat) 6 t e 1).2)
theorem nenc_ok {n : Nat} {t : List Int} {e : Enc} (h : EncOk n e) (v : Int) : EncOk (n + 136) (nenc t e v).2 ∧ (nenc t e v).1.length = t.length := by
  have := tenc_ok (v := (blen (ncut v).toNat : Int)) (k := 6) (t := t) (j := 1) h
  refine ⟨?_, this.2⟩
  show EncOk _ (if _ then _ else _)
  split
  · have := edir_ok this.1 ((blen (ncut v).toNat : Int) - 1) (ncut v)
    exact this
  · exact this.1.mono (by omega)
theorem dbits_lt : ∀ {k : Nat} {d : Dec} {v : Int} {j : Nat}, 0 ≤ v → v < 2 ^ j → 0 ≤ (dbits k d v).2 ∧ (dbits k d v).2 < 2 ^ (j + k)
  | 0, d, v, j, h1, h2 => ⟨h1, h2⟩
  | k + 1, d, v, j, h1, h2 => by
    have hb := dbit_bit d 1024
    have := dbits_lt (k := k) (d := (dbit d 1024).1) (v := v * 2 + (dbit d 1024).2) (j := j + 1) (by omega) (by rw [Int.pow_succ]; omega)
    rw [show j + (k + 1) = j + 1 + k by omega]
    exact this
theorem ddir_lt (d : Dec) {l : Nat} (h : 2 ≤ l ∧ l ≤ 62) : 0 ≤ (ddir d ((l : Int) - 1)).2 ∧ (ddir d ((l : Int) - 1)).2 < 2 ^ (l - 1) := by
  have e : ddir d ((l : Int) - 1) = dbits (l - 1) d 0 := by
    unfold ddir
    rw [if_neg (by omega), show ((l : Int) - 1).toNat = l - 1 by omega]
  rw [e]
  have := dbits_lt (k := l - 1) (d := d) (v := 0) (j := 0) (Int.le_refl _) (by decide)
  rwa [Nat.zero_add] at this
theorem or_pow {k : Nat} {x : Int} (hk : k ≤ 61) (hx : 0 ≤ x ∧ x < 2 ^ k) : IntKind.i64.wrap ((BitVec.ofInt IntKind.i64.bits (((2 ^ k : Nat)) : Int) ||| BitVec.ofInt IntKind.i64.bits x).toNat : Int) = ((2 ^ k : Nat) : Int) + x := by
  obtain ⟨y, rfl⟩ := Int.eq_ofNat_of_zero_le hx.1
  have h2 : (2 : Nat) ^ k ≤ 2 ^ 61 := Nat.pow_le_pow_right (by decide) hk
  have h3 : (2 : Nat) ^ 61 = 2305843009213693952 := rfl
  have hy : y < 2 ^ k := by
    have := hx.2
    have e : ((2 : Int) ^ k) = ((2 ^ k : Nat) : Int) := by rw [Int.natCast_pow]; rfl
    rw [e] at this
    omega
  have e : (BitVec.ofInt 64 (((2 ^ k : Nat)) : Int) ||| BitVec.ofInt 64 (y : Int)).toNat = 2 ^ k + y := by
    rw [BitVec.ofInt_natCast, BitVec.ofInt_natCast, BitVec.toNat_or, BitVec.toNat_ofNat, BitVec.toNat_ofNat, Nat.mod_eq_of_lt (by omega), Nat.mod_eq_of_lt (by omega)]
    have := Nat.two_pow_add_eq_or_of_lt hy 1
    rw [Nat.mul_one] at this
    exact this.symm
  rw [show (IntKind.i64.bits) = 64 from rfl, e, IntWalk.i64_in _ (by omega)]
  omega
/-- The model of numbers reads a number. -/
def ndec (t : List Int) (d : Dec) : List Int × Dec × Int :=
  ((tdec 6 t d 1).1, if (tdec 6 t d 1).2.2 - 64 ≤ 1 ∨ (tdec 6 t d 1).2.2 - 64 = 63 then (tdec 6 t d 1).2.1 else (ddir (tdec 6 t d 1).2.1 (((tdec 6 t d 1).2.2 - 64 : Nat) - 1)).1,
    if (tdec 6 t d 1).2.2 - 64 ≤ 1 then (((tdec 6 t d 1).2.2 - 64 : Nat) : Int) else if (tdec 6 t d 1).2.2 - 64 = 63 then -1 else ((2 ^ ((tdec 6 t d 1).2.2 - 64 - 1) : Nat) : Int) + (ddir (tdec 6 t d 1).2.1 (((tdec 6 t d 1).2.2 - 64 : Nat) - 1)).2)
theorem NumDecode_any (n M N : Nat) (t : List Int) (d : Dec) (h : SH) (ht : t.length = 64) (hok : DecOk d) :
    SRun Try.prog 28 [gptr M 0 2, gptr n 0 5] (decB n d :: (M, ⟨numC N, false⟩) :: (N, ⟨nodes t, false⟩) :: h) fun r q =>
      r = I (ndec t d).2.2 ∧ q = decB n (ndec t d).2.1 :: (M, ⟨numC N, false⟩) :: (N, ⟨nodes (ndec t d).1, false⟩) :: h := by
  have hD := numDec n M N t d h ht hok
  obtain ⟨hok2, _, hb⟩ := tdec_ok (k := 6) (t := t) (j := 1) hok
  unfold ndec
  generalize tdec 6 t d 1 = T at *
  obtain ⟨t2, d2, j⟩ := T
  dsimp only at *
  have hl : j - 64 ≤ 63 := by
    have h64 : (2 ^ 6 : Nat) = 64 := rfl
    rw [h64] at hb; omega
  generalize j - 64 = l at *
  have hq := ddir_lt d2 (l := l)
  have hdd := dDirect_any n ((l : Int) - 1) d2 ((M, ⟨numC N, false⟩) :: (N, ⟨nodes t2, false⟩) :: h) hok2
  generalize ddir d2 ((l : Int) - 1) = D at *
  by_cases hl1 : l ≤ 1
  · rw [if_pos hl1, if_pos (show l ≤ 1 ∨ l = 63 from .inl hl1)]
    refine w_body2 Try.func28 rfl rfl ?_
    repeat' (first | apply w_seq | apply w_region | apply o_nil | (apply w_draw; (focus (kernel_rfl)); (focus (kernel_rfl))) | (apply o_g tyOk; exact rfl; exact rfl) | (apply o_ar tyOk; exact rfl; exact rfl) | (apply o_eqs; exact rfl; exact rfl; exact rfl; (focus (kernel_rfl)); exact rfl; exact rfl; (focus (kernel_rfl)); exact rfl) | (apply o_call; exact rfl; exact rfl; (focus (first | exact rfl | assumption)); exact rfl; (focus (exact ⟨_, hD, by repeat (first | with_reducible exact Take.nil | with_reducible apply Take.c | with_reducible apply Take.drop)⟩)); rintro _ _ ⟨rfl, rfl⟩) | (apply o_callD; exact rfl; exact rfl; exact rfl; exact rfl; (focus (exact ⟨_, hD, by repeat (first | with_reducible exact Take.nil | with_reducible apply Take.c | with_reducible apply Take.drop)⟩)); (focus (exact fun _ _ h => h.1)); (focus ((repeat (first | exact Flat.c rfl | apply flat_tuple | apply flat_agg | exact FlatL.nil | apply FlatL.cons))))) | (apply o_callN; exact rfl; exact rfl; exact rfl; (focus (exact ⟨_, hD, by repeat (first | with_reducible exact Take.nil | with_reducible apply Take.c | with_reducible apply Take.drop)⟩)); rintro _ _ ⟨rfl, rfl⟩) | (apply w_true; exact rfl) | (apply w_false; exact rfl) | (apply w_dT; exact rfl; (focus (first | exact ‹_› | with_reducible exact rfl | omega))) | (apply w_dF; exact rfl; (focus (first | exact ‹_› | with_reducible exact rfl | omega))) | (apply w_ifN; exact rfl; all_goals intro hc) | (apply w_if; exact rfl; all_goals intro hc) | (apply w_ifB; exact rfl; all_goals intro hc) | apply thenS_normal | apply thenS_ret | apply thenS_exit | apply blockS_normal | apply blockS_ret | apply blockS_exit | apply w_skip | apply w_ret | apply w_exit | apply w_block | apply scopeS_normal | apply scopeS_ret | apply scopeS_exit | apply w_scope | (apply blockS_exit_ne; exact rfl) | ((with_reducible apply Sd.mk); (first | exact True.intro | omega | (constructor <;> first | omega | (unfold maxLen; omega)) | (unfold maxLen; omega))) | ((with_reducible apply Wr.mk); (first | exact IntWalk.i64_in _ (by omega) | exact IntWalk.u8_in _ (by omega) | exact IntWalk.u32_in _ (by omega) | exact IntWalk.u64_in _ (by omega) | exact IntKind.wrap_u8 _ | exact IntKind.wrap_u32 _ | rfl)) | exact True.intro | refine Rc.mk ⟨_, _, pk, ?_⟩ | exact Rd.mk ⟨_, hD, by repeat (first | with_reducible exact Take.nil | with_reducible apply take_lock | with_reducible apply Take.c | with_reducible apply Take.drop)⟩ | exact Or.inl rfl | refine Or.inr (And.intro ?_ ?_) | apply And.intro | apply Or.inr | intro A | exact rfl)
    all_goals first
      | (exfalso; omega)
      | (apply s_fin; (exact (show ResS _ _ _ _ [_] from ⟨rfl, trivial⟩)); (focus (exact ⟨rfl, rfl⟩)); (focus (repeat (first | with_reducible exact Take.nil | with_reducible apply Take.c | ((with_reducible apply Take.cE); (first | exact rfl | (apply blkE; (focus (first | exact rfl | exact recs_snocE rfl | exact map_snocE rfl | exact congrArg (fun v => [v]) (gslE rfl rfl (by first | rfl | exact ‹_› | omega | (simp ; first | done | omega)) (by first | rfl | exact ‹_› | omega | (simp ; first | done | omega)) rfl)))))) | with_reducible apply Take.drop))))
      | trace_state
  · rw [if_neg hl1]
    by_cases hl2 : l = 63
    · rw [if_pos hl2, if_pos (show l ≤ 1 ∨ l = 63 from .inr hl2)]
      refine w_body2 Try.func28 rfl rfl ?_
      repeat' (first | apply w_seq | apply w_region | apply o_nil | (apply w_draw; (focus (kernel_rfl)); (focus (kernel_rfl))) | (apply o_g tyOk; exact rfl; exact rfl) | (apply o_ar tyOk; exact rfl; exact rfl) | (apply o_eqs; exact rfl; exact rfl; exact rfl; (focus (kernel_rfl)); exact rfl; exact rfl; (focus (kernel_rfl)); exact rfl) | (apply o_call; exact rfl; exact rfl; (focus (first | exact rfl | assumption)); exact rfl; (focus (exact ⟨_, hD, by repeat (first | with_reducible exact Take.nil | with_reducible apply Take.c | with_reducible apply Take.drop)⟩)); rintro _ _ ⟨rfl, rfl⟩) | (apply o_callD; exact rfl; exact rfl; exact rfl; exact rfl; (focus (exact ⟨_, hD, by repeat (first | with_reducible exact Take.nil | with_reducible apply Take.c | with_reducible apply Take.drop)⟩)); (focus (exact fun _ _ h => h.1)); (focus ((repeat (first | exact Flat.c rfl | apply flat_tuple | apply flat_agg | exact FlatL.nil | apply FlatL.cons))))) | (apply o_callN; exact rfl; exact rfl; exact rfl; (focus (exact ⟨_, hD, by repeat (first | with_reducible exact Take.nil | with_reducible apply Take.c | with_reducible apply Take.drop)⟩)); rintro _ _ ⟨rfl, rfl⟩) | (apply w_true; exact rfl) | (apply w_false; exact rfl) | (apply w_dT; exact rfl; (focus (first | exact ‹_› | with_reducible exact rfl | omega))) | (apply w_dF; exact rfl; (focus (first | exact ‹_› | with_reducible exact rfl | omega))) | (apply w_ifN; exact rfl; all_goals intro hc) | (apply w_if; exact rfl; all_goals intro hc) | (apply w_ifB; exact rfl; all_goals intro hc) | apply thenS_normal | apply thenS_ret | apply thenS_exit | apply blockS_normal | apply blockS_ret | apply blockS_exit | apply w_skip | apply w_ret | apply w_exit | apply w_block | apply scopeS_normal | apply scopeS_ret | apply scopeS_exit | apply w_scope | (apply blockS_exit_ne; exact rfl) | ((with_reducible apply Sd.mk); (first | exact True.intro | omega | (constructor <;> first | omega | (unfold maxLen; omega)) | (unfold maxLen; omega))) | ((with_reducible apply Wr.mk); (first | exact IntWalk.i64_in _ (by omega) | exact IntWalk.u8_in _ (by omega) | exact IntWalk.u32_in _ (by omega) | exact IntWalk.u64_in _ (by omega) | exact IntKind.wrap_u8 _ | exact IntKind.wrap_u32 _ | rfl)) | exact True.intro | refine Rc.mk ⟨_, _, pk, ?_⟩ | exact Rd.mk ⟨_, hD, by repeat (first | with_reducible exact Take.nil | with_reducible apply take_lock | with_reducible apply Take.c | with_reducible apply Take.drop)⟩ | exact Or.inl rfl | refine Or.inr (And.intro ?_ ?_) | apply And.intro | apply Or.inr | intro A | exact rfl)
      all_goals first
        | (exfalso; omega)
        | (apply s_fin; (exact (show ResS _ _ _ _ [_] from ⟨rfl, trivial⟩)); (focus (exact ⟨rfl, rfl⟩)); (focus (repeat (first | with_reducible exact Take.nil | with_reducible apply Take.c | ((with_reducible apply Take.cE); (first | exact rfl | (apply blkE; (focus (first | exact rfl | exact recs_snocE rfl | exact map_snocE rfl | exact congrArg (fun v => [v]) (gslE rfl rfl (by first | rfl | exact ‹_› | omega | (simp ; first | done | omega)) (by first | rfl | exact ‹_› | omega | (simp ; first | done | omega)) rfl)))))) | with_reducible apply Take.drop))))
        | trace_state
    · rw [if_neg hl2, if_neg (show ¬ (l ≤ 1 ∨ l = 63) from fun g => g.elim hl1 hl2)]
      have hq := hq (by omega)
      have hor := or_pow (by omega) hq
      have hsh : IntKind.i64.wrap (1 * 2 ^ (min ((l : Int) - 1).toNat IntKind.i64.bits)) = ((2 ^ (l - 1) : Nat) : Int) := by
        have h64 : IntKind.i64.bits = 64 := rfl
        rw [show ((l : Int) - 1).toNat = l - 1 by omega, h64, Nat.min_eq_left (by omega), Int.one_mul]
        have e : ((2 : Int) ^ (l - 1)) = ((2 ^ (l - 1) : Nat) : Int) := by rw [Int.natCast_pow]; rfl
        have h2 : (2 : Nat) ^ (l - 1) ≤ 2 ^ 61 := Nat.pow_le_pow_right (by decide) (by omega)
        have h3 : (2 : Nat) ^ 61 = 2305843009213693952 := rfl
        rw [e]
        exact IntWalk.i64_in _ (by omega)
      refine w_body2 Try.func28 rfl rfl ?_
      repeat' (first | apply w_seq | apply w_region | apply o_nil | (apply w_draw; (focus (kernel_rfl)); (focus (kernel_rfl))) | (apply o_g tyOk; exact rfl; exact rfl) | (apply o_ar tyOk; exact rfl; exact rfl) | (apply o_eqs; exact rfl; exact rfl; exact rfl; (focus (kernel_rfl)); exact rfl; exact rfl; (focus (kernel_rfl)); exact rfl) | (apply o_call; exact rfl; exact rfl; (focus (first | exact rfl | assumption)); exact rfl; (focus (exact ⟨_, hD, by repeat (first | with_reducible exact Take.nil | with_reducible apply Take.c | with_reducible apply Take.drop)⟩)); rintro _ _ ⟨rfl, rfl⟩) | (apply o_callD; exact rfl; exact rfl; exact rfl; exact rfl; (focus (exact ⟨_, hD, by repeat (first | with_reducible exact Take.nil | with_reducible apply Take.c | with_reducible apply Take.drop)⟩)); (focus (exact fun _ _ h => h.1)); (focus ((repeat (first | exact Flat.c rfl | apply flat_tuple | apply flat_agg | exact FlatL.nil | apply FlatL.cons))))) | (apply o_callN; exact rfl; exact rfl; exact rfl; (focus (exact ⟨_, hD, by repeat (first | with_reducible exact Take.nil | with_reducible apply Take.c | with_reducible apply Take.drop)⟩)); rintro _ _ ⟨rfl, rfl⟩) | (apply o_callE0; exact rfl; exact rfl; exact rfl; exact rfl; (focus (exact ⟨hdd, by repeat (first | with_reducible exact Take.nil | with_reducible apply Take.c | with_reducible apply Take.drop)⟩)); (focus (first | exact List.Perm.refl _ | (simp; done) | exact List.Perm.swap _ _ _)); (focus ((intro ρ D hρ hD; refine ⟨?_, ?_⟩; (focus (repeat (first | exact VR.const rfl | (apply VR.ptr'; (focus (first | exact e1 | exact e2 | ((apply rho_pick hρ); (exact pk)))); (focus (first | exact d1 | exact d2 | ((apply dom_pick hD); (exact pk))))) | (apply VR.slc'; (focus (first | exact e1 | exact e2 | ((apply rho_pick hρ); (exact pk)))); (focus (first | exact d1 | exact d2 | ((apply dom_pick hD); (exact pk))))) | exact VR.sdead | apply VRs.tuple | apply VRs.agg | exact VRs.nil | ((apply VRs.const); (focus (first | exact bytesV_const _ | exact map_const (fun _ => rfl) | exact recs_const (fun _ v hv => by simp only [List.mem_cons, List.not_mem_nil, or_false] at hv; rcases hv with rfl | rfl | rfl | rfl | rfl <;> rfl)))) | apply VRs.cons))); (focus (repeat (first | exact SHR.nil | ((apply SHR.same); (focus (intro x hx; (repeat (first | exact hx | apply List.mem_cons_of_mem)); done))) | ((apply SHR.keep); (focus ((repeat (first | with_reducible exact List.mem_cons_self | apply List.mem_cons_of_mem)); done))) | (apply SHR.cons; (focus (first | exact e1 | exact e2 | ((apply rho_pick hρ); (exact pk)))); (focus (repeat (first | exact VR.const rfl | (apply VR.ptr'; (focus (first | exact e1 | exact e2 | ((apply rho_pick hρ); (exact pk)))); (focus (first | exact d1 | exact d2 | ((apply dom_pick hD); (exact pk))))) | (apply VR.slc'; (focus (first | exact e1 | exact e2 | ((apply rho_pick hρ); (exact pk)))); (focus (first | exact d1 | exact d2 | ((apply dom_pick hD); (exact pk))))) | exact VR.sdead | apply VRs.tuple | apply VRs.agg | exact VRs.nil | ((apply VRs.const); (focus (first | exact bytesV_const _ | exact map_const (fun _ => rfl) | exact recs_const (fun _ v hv => by simp only [List.mem_cons, List.not_mem_nil, or_false] at hv; rcases hv with rfl | rfl | rfl | rfl | rfl <;> rfl)))) | apply VRs.cons))))))))))) | (apply w_true; exact rfl) | (apply w_false; exact rfl) | (apply w_dT; exact rfl; (focus (first | exact ‹_› | with_reducible exact rfl | omega))) | (apply w_dF; exact rfl; (focus (first | exact ‹_› | with_reducible exact rfl | omega))) | (apply w_ifN; exact rfl; all_goals intro hc) | (apply w_if; exact rfl; all_goals intro hc) | (apply w_ifB; exact rfl; all_goals intro hc) | apply thenS_normal | apply thenS_ret | apply thenS_exit | apply blockS_normal | apply blockS_ret | apply blockS_exit | apply w_skip | apply w_ret | apply w_exit | apply w_block | apply scopeS_normal | apply scopeS_ret | apply scopeS_exit | apply w_scope | (apply blockS_exit_ne; exact rfl) | ((with_reducible apply Sd.mk); (first | exact True.intro | omega | (constructor <;> first | omega | (unfold maxLen; omega)) | (unfold maxLen; omega))) | ((with_reducible apply Wr.mk); (first | exact hsh | exact hor | exact IntWalk.i64_in _ (by omega) | exact IntWalk.u8_in _ (by omega) | exact IntWalk.u32_in _ (by omega) | exact IntWalk.u64_in _ (by omega) | exact IntKind.wrap_u8 _ | exact IntKind.wrap_u32 _ | rfl)) | exact True.intro | refine Rc.mk ⟨_, _, pk, ?_⟩ | exact Rd.mk ⟨_, hD, by repeat (first | with_reducible exact Take.nil | with_reducible apply take_lock | with_reducible apply Take.c | with_reducible apply Take.drop)⟩ | exact Or.inl rfl | refine Or.inr (And.intro ?_ ?_) | apply And.intro | apply Or.inr | intro A | exact rfl)
      all_goals first
        | (exfalso; omega)
        | (apply s_fin; (exact (show ResS _ _ _ _ [_] from ⟨rfl, trivial⟩)); (focus (exact ⟨rfl, rfl⟩)); (focus (repeat (first | with_reducible exact Take.nil | with_reducible apply Take.c | ((with_reducible apply Take.cE); (first | exact rfl | (apply blkE; (focus (first | exact rfl | exact recs_snocE rfl | exact map_snocE rfl | exact congrArg (fun v => [v]) (gslE rfl rfl (by first | rfl | exact ‹_› | omega | (simp ; first | done | omega)) (by first | rfl | exact ‹_› | omega | (simp ; first | done | omega)) rfl)))))) | with_reducible apply Take.drop))))
        | trace_state
end Go.Proofs.Ytinfmojbdaiogaa
