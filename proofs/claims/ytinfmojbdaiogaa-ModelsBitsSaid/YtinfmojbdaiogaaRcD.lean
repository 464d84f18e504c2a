/- Package rangecoder: Decode, the examples. -/
import Derived.Test.YtinfmojbdaiogaaRcC
set_option linter.unusedVariables false
set_option linter.unusedSimpArgs false
set_option maxRecDepth 4000
namespace Go.Proofs.Ytinfmojbdaiogaa
open Go.Gh Go.RowKit

theorem EncB.takes {n : Nat} {h p r : SH} {e : Enc} (hb : EncB n h e p) (t : Take h r) : Take p r := by
  cases hb with
  | nil => exact .drop t
  | some => exact .drop (.drop t)
theorem w_shl1 {v : Int} (h : 0 ≤ v ∧ v < 4611686018427387904) : IntKind.i64.wrap (v * 2 ^ (min (Int.toNat 1) IntKind.i64.bits)) = v * 2 := by
  rw [show (2 : Int) ^ (min (Int.toNat 1) IntKind.i64.bits) = 2 from rfl]
  exact IntWalk.i64_in _ (by omega)
theorem or1n (q c : Nat) (hq : q < 4611686018427387904) (hc : c < 2) : (BitVec.ofInt 64 ((q * 2 : Nat) : Int) ||| BitVec.ofInt 64 (c : Int)).toNat = q * 2 + c := by
  rw [BitVec.ofInt_natCast, BitVec.ofInt_natCast, BitVec.toNat_or, BitVec.toNat_ofNat, BitVec.toNat_ofNat, Nat.mod_eq_of_lt (by omega), Nat.mod_eq_of_lt (by omega), Nat.mul_comm q 2]
  exact or_low 1 hc
theorem w_or1 {v c : Int} (h : 0 ≤ v ∧ v < 4611686018427387904) (hc : 0 ≤ c ∧ c < 2) : IntKind.i64.wrap ((BitVec.ofInt IntKind.i64.bits (v * 2) ||| BitVec.ofInt IntKind.i64.bits c).toNat : Int) = v * 2 + c := by
  obtain ⟨q, rfl⟩ := Int.eq_ofNat_of_zero_le h.1
  obtain ⟨c, rfl⟩ := Int.eq_ofNat_of_zero_le hc.1
  rw [show (IntKind.i64.bits) = 64 from rfl, show ((q : Int)) * 2 = ((q * 2 : Nat) : Int) by omega, or1n q c (by omega) (by omega), IntWalk.i64_in _ (by omega)]
  omega

theorem dbit_bit (d : Dec) (z : Int) : 0 ≤ (dbit d z).2 ∧ (dbit d z).2 < 2 := by
  show 0 ≤ (dstep d z).2 ∧ (dstep d z).2 < 2
  unfold dstep; split <;> (dsimp only; omega)
def dbits : Nat → Dec → Int → Dec × Int
  | 0, d, v => (d, v)
  | k + 1, d, v => dbits k (dbit d 1024).1 (v * 2 + (dbit d 1024).2)
def ddir (d : Dec) (n : Int) : Dec × Int := if n < 0 ∨ 62 < n then (d, 0) else dbits n.toNat d 0
theorem dbits_ok : ∀ {k : Nat} {d : Dec} {v : Int}, DecOk d → DecOk (dbits k d v).1
  | 0, _, _, h => h
  | k + 1, d, v, h => by unfold dbits; exact dbits_ok (dbit_ok h _)
theorem ddir_ok {d : Dec} (h : DecOk d) (n : Int) : DecOk (ddir d n).1 := by
  unfold ddir
  split
  · exact h
  · exact dbits_ok h
theorem two_le {j n : Nat} (h : j ≤ n) : (2 : Int) ^ j ≤ 2 ^ n := by
  have := Nat.pow_le_pow_right (n := 2) (by decide) h
  exact_mod_cast this

theorem dDirect_any (n : Nat) (x : Int) (d : Dec) (h : SH) (hok : DecOk d) :
    SRun Try.prog 59 [gptr n 0 5, I x] (decB n d :: h) fun r q => r = I (ddir d x).2 ∧ q = decB n (ddir d x).1 :: h := by
  refine w_body2 Try.func59 rfl rfl ?_
  repeat' (first | apply w_seq | apply w_region | apply o_nil | (apply o_g tyOk; exact rfl; exact rfl) | (apply o_ar tyOk; exact rfl; exact rfl) | (apply o_want; exact rfl; exact rfl) | (apply o_skip; exact rfl; exact rfl; exact rfl; exact rfl) | (apply o_skip_undef; exact rfl; exact rfl; exact rfl) | (apply o_gT; exact rfl; exact rfl; exact rfl; (focus (first | exact ‹_› | with_reducible exact rfl | omega))) | (apply o_gF; exact rfl; exact rfl; exact rfl; (focus (first | exact ‹_› | with_reducible exact rfl | omega))) | (apply o_sF; exact rfl; exact rfl; exact rfl; (focus (first | exact ‹_› | with_reducible exact rfl | omega)); exact rfl) | (apply o_sT; exact rfl; exact rfl; exact rfl; (focus (first | exact ‹_› | with_reducible exact rfl | omega)); exact rfl) | (apply o_guardTN; exact rfl; exact rfl; exact rfl; all_goals intro hc) | (apply o_guardFN; exact rfl; exact rfl; exact rfl; all_goals intro hc) | (apply o_guardT; exact rfl; exact rfl; exact rfl; all_goals intro hc) | (apply o_guardF; exact rfl; exact rfl; exact rfl; all_goals intro hc) | (apply o_guardB; exact rfl; exact rfl; exact rfl; all_goals intro hc) | (apply w_true; exact rfl) | (apply w_false; exact rfl) | (apply w_dT; exact rfl; (focus (first | exact ‹_› | with_reducible exact rfl | omega))) | (apply w_dF; exact rfl; (focus (first | exact ‹_› | with_reducible exact rfl | omega))) | (apply w_ifN; exact rfl; all_goals intro hc) | (apply w_if; exact rfl; all_goals intro hc) | (apply w_ifB; exact rfl; all_goals intro hc) | apply thenS_normal | apply thenS_ret | apply thenS_exit | apply blockS_normal | apply blockS_ret | apply blockS_exit | apply w_skip | apply w_ret | apply w_exit | apply w_block | apply scopeS_normal | apply scopeS_ret | apply scopeS_exit | apply w_scope | (apply blockS_exit_ne; exact rfl) | ((with_reducible apply Sd.mk); (first | exact True.intro | omega | (constructor <;> first | omega | (unfold maxLen; omega)) | (unfold maxLen; omega))) | ((with_reducible apply Wr.mk); (first | exact w_shl8u _ | exact w_quoU (by omega) (by omega) | exact w_shl1 (by omega) | exact w_or1 (by omega) (by omega) | exact IntWalk.i64_in _ (by omega) | exact IntWalk.u8_in _ (by omega) | exact IntWalk.u32_in _ (by omega) | exact IntWalk.u64_in _ (by omega) | exact IntKind.wrap_u8 _ | exact IntKind.wrap_u32 _ | rfl)) | exact True.intro | exact rfl)
  all_goals first | (apply s_fin; (exact (show ResS _ _ _ _ [_] from ⟨rfl, trivial⟩)); (focus (rw [show ddir d x = (d, 0) from if_pos (by omega)]; exact ⟨rfl, rfl⟩)); (focus (repeat (first | with_reducible exact Take.nil | with_reducible apply Take.c | ((with_reducible apply Take.cE); (first | exact rfl | (apply blkE; (focus (first | exact rfl | exact recs_snocE rfl | exact map_snocE rfl | exact congrArg (fun v => [v]) (gslE rfl rfl (by first | rfl | exact ‹_› | omega | (simp ; first | done | omega)) (by first | rfl | exact ‹_› | omega | (simp ; first | done | omega)) rfl)))))) | with_reducible apply Take.drop)))) | skip
  obtain ⟨m, rfl⟩ := Int.eq_ofNat_of_zero_le (show 0 ≤ x by omega)
  have he : ddir d m = dbits m d 0 := if_neg (by omega)
  refine w_loop (S := Nat × Dec × Int) (fun x => [(0, gptr n 0 5), (5, I x.2.2), (12, I m), (13, I x.1)]) (fun x => decB n x.2.1 :: h) (fun x => DecOk x.2.1 ∧ x.1 ≤ m ∧ dbits (m - x.1) x.2.1 x.2.2 = ddir d m ∧ 0 ≤ x.2.2 ∧ x.2.2 < 2 ^ x.1)
    (fun x => m - x.1) (0, d, 0) ⟨hok, by omega, he.symm, Int.le_refl 0, by show (0 : Int) < 2 ^ 0; decide⟩ (by repeat' (first | exact trivial | refine ⟨rfl, ?_⟩ | refine ⟨congrArg some ?_, ?_⟩)) (by repeat (first | with_reducible exact Take.nil | with_reducible apply Take.c | ((with_reducible apply Take.cE); (first | exact rfl | (apply blkE; (focus (first | exact rfl | exact recs_snocE rfl | exact map_snocE rfl | exact congrArg (fun v => [v]) (gslE rfl rfl (by first | rfl | exact ‹_› | omega | (simp ; first | done | omega)) (by first | rfl | exact ‹_› | omega | (simp ; first | done | omega)) rfl)))))) | with_reducible apply Take.drop)) ?_
  rintro ⟨k, d1, v⟩ ⟨hok1, hk, he1, hv1, hv2⟩
  dsimp only at *
  by_cases hkm : k < m
  · have h61 := two_le (show k ≤ 61 by omega)
    rw [show (2 : Int) ^ 61 = 2305843009213693952 from rfl] at h61
    have hb := dbit_bit d1 1024
    repeat' (first | apply w_seq | apply w_region | apply o_nil | (apply o_g tyOk; exact rfl; exact rfl) | (apply o_ar tyOk; exact rfl; exact rfl) | (apply o_call; exact rfl; exact rfl; (focus (first | exact rfl | assumption)); exact rfl; (focus (exact ⟨_, dBit_any _ _ _ _ hok1, by repeat (first | with_reducible exact Take.nil | with_reducible apply Take.c | with_reducible apply Take.drop)⟩)); rintro _ _ ⟨rfl, rfl⟩) | (apply o_callN; exact rfl; exact rfl; exact rfl; (focus (exact ⟨_, dBit_any _ _ _ _ hok1, by repeat (first | with_reducible exact Take.nil | with_reducible apply Take.c | with_reducible apply Take.drop)⟩)); rintro _ _ ⟨rfl, rfl⟩) | (apply o_want; exact rfl; exact rfl) | (apply o_skip; exact rfl; exact rfl; exact rfl; exact rfl) | (apply o_skip_undef; exact rfl; exact rfl; exact rfl) | (apply o_gT; exact rfl; exact rfl; exact rfl; (focus (first | exact ‹_› | with_reducible exact rfl | omega))) | (apply o_gF; exact rfl; exact rfl; exact rfl; (focus (first | exact ‹_› | with_reducible exact rfl | omega))) | (apply o_sF; exact rfl; exact rfl; exact rfl; (focus (first | exact ‹_› | with_reducible exact rfl | omega)); exact rfl) | (apply o_sT; exact rfl; exact rfl; exact rfl; (focus (first | exact ‹_› | with_reducible exact rfl | omega)); exact rfl) | (apply o_guardTN; exact rfl; exact rfl; exact rfl; all_goals intro hc) | (apply o_guardFN; exact rfl; exact rfl; exact rfl; all_goals intro hc) | (apply o_guardT; exact rfl; exact rfl; exact rfl; all_goals intro hc) | (apply o_guardF; exact rfl; exact rfl; exact rfl; all_goals intro hc) | (apply o_guardB; exact rfl; exact rfl; exact rfl; all_goals intro hc) | (apply w_true; exact rfl) | (apply w_false; exact rfl) | (apply w_dT; exact rfl; (focus (first | exact ‹_› | with_reducible exact rfl | omega))) | (apply w_dF; exact rfl; (focus (first | exact ‹_› | with_reducible exact rfl | omega))) | (apply w_ifN; exact rfl; all_goals intro hc) | (apply w_if; exact rfl; all_goals intro hc) | (apply w_ifB; exact rfl; all_goals intro hc) | apply thenS_normal | apply thenS_ret | apply thenS_exit | apply blockS_normal | apply blockS_ret | apply blockS_exit | apply w_skip | apply w_ret | apply w_exit | apply w_block | apply scopeS_normal | apply scopeS_ret | apply scopeS_exit | apply w_scope | (apply blockS_exit_ne; exact rfl) | ((with_reducible apply Sd.mk); (first | exact True.intro | omega | (constructor <;> first | omega | (unfold maxLen; omega)) | (unfold maxLen; omega))) | ((with_reducible apply Wr.mk); (first | exact w_shl8u _ | exact w_quoU (by omega) (by omega) | exact w_shl1 (by omega) | exact w_or1 (by omega) (by omega) | exact IntWalk.i64_in _ (by omega) | exact IntWalk.u8_in _ (by omega) | exact IntWalk.u32_in _ (by omega) | exact IntWalk.u64_in _ (by omega) | exact IntKind.wrap_u8 _ | exact IntKind.wrap_u32 _ | rfl)) | exact True.intro | exact rfl)
    refine ⟨(k + 1, (dbit d1 1024).1, v * 2 + (dbit d1 1024).2), ⟨dbit_ok hok1 _, hkm, ?_, by show 0 ≤ v * 2 + _; omega, ?_⟩, by show m - (k + 1) < _; omega, (by repeat' (first | exact trivial | refine ⟨rfl, ?_⟩ | refine ⟨congrArg some ?_, ?_⟩)), (by repeat (first | with_reducible exact Take.nil | with_reducible apply Take.c | ((with_reducible apply Take.cE); (first | exact rfl | (apply blkE; (focus (first | exact rfl | exact recs_snocE rfl | exact map_snocE rfl | exact congrArg (fun v => [v]) (gslE rfl rfl (by first | rfl | exact ‹_› | omega | (simp ; first | done | omega)) (by first | rfl | exact ‹_› | omega | (simp ; first | done | omega)) rfl)))))) | with_reducible apply Take.drop))⟩
    · rw [← he1, show m - k = (m - (k + 1)) + 1 by omega]; rfl
    · show v * 2 + _ < (2 : Int) ^ (k + 1)
      rw [Int.pow_succ]; omega
  · obtain rfl : k = m := by omega
    rw [Nat.sub_self] at he1
    repeat' (first | apply w_seq | apply w_region | apply o_nil | (apply o_g tyOk; exact rfl; exact rfl) | (apply o_ar tyOk; exact rfl; exact rfl) | (apply o_want; exact rfl; exact rfl) | (apply o_skip; exact rfl; exact rfl; exact rfl; exact rfl) | (apply o_skip_undef; exact rfl; exact rfl; exact rfl) | (apply o_gT; exact rfl; exact rfl; exact rfl; (focus (first | exact ‹_› | with_reducible exact rfl | omega))) | (apply o_gF; exact rfl; exact rfl; exact rfl; (focus (first | exact ‹_› | with_reducible exact rfl | omega))) | (apply o_sF; exact rfl; exact rfl; exact rfl; (focus (first | exact ‹_› | with_reducible exact rfl | omega)); exact rfl) | (apply o_sT; exact rfl; exact rfl; exact rfl; (focus (first | exact ‹_› | with_reducible exact rfl | omega)); exact rfl) | (apply o_guardTN; exact rfl; exact rfl; exact rfl; all_goals intro hc) | (apply o_guardFN; exact rfl; exact rfl; exact rfl; all_goals intro hc) | (apply o_guardT; exact rfl; exact rfl; exact rfl; all_goals intro hc) | (apply o_guardF; exact rfl; exact rfl; exact rfl; all_goals intro hc) | (apply o_guardB; exact rfl; exact rfl; exact rfl; all_goals intro hc) | (apply w_true; exact rfl) | (apply w_false; exact rfl) | (apply w_dT; exact rfl; (focus (first | exact ‹_› | with_reducible exact rfl | omega))) | (apply w_dF; exact rfl; (focus (first | exact ‹_› | with_reducible exact rfl | omega))) | (apply w_ifN; exact rfl; all_goals intro hc) | (apply w_if; exact rfl; all_goals intro hc) | (apply w_ifB; exact rfl; all_goals intro hc) | apply thenS_normal | apply thenS_ret | apply thenS_exit | apply blockS_normal | apply blockS_ret | apply blockS_exit | apply w_skip | apply w_ret | apply w_exit | apply w_block | apply scopeS_normal | apply scopeS_ret | apply scopeS_exit | apply w_scope | (apply blockS_exit_ne; exact rfl) | ((with_reducible apply Sd.mk); (first | exact True.intro | omega | (constructor <;> first | omega | (unfold maxLen; omega)) | (unfold maxLen; omega))) | ((with_reducible apply Wr.mk); (first | exact w_shl8u _ | exact w_quoU (by omega) (by omega) | exact w_shl1 (by omega) | exact w_or1 (by omega) (by omega) | exact IntWalk.i64_in _ (by omega) | exact IntWalk.u8_in _ (by omega) | exact IntWalk.u32_in _ (by omega) | exact IntWalk.u64_in _ (by omega) | exact IntKind.wrap_u8 _ | exact IntKind.wrap_u32 _ | rfl)) | exact True.intro | exact rfl)
    (apply s_fin; (exact (show ResS _ _ _ _ [_] from ⟨rfl, trivial⟩)); (focus (rw [← he1]; exact ⟨rfl, rfl⟩)); (focus (repeat (first | with_reducible exact Take.nil | with_reducible apply Take.c | ((with_reducible apply Take.cE); (first | exact rfl | (apply blkE; (focus (first | exact rfl | exact recs_snocE rfl | exact map_snocE rfl | exact congrArg (fun v => [v]) (gslE rfl rfl (by first | rfl | exact ‹_› | omega | (simp ; first | done | omega)) (by first | rfl | exact ‹_› | omega | (simp ; first | done | omega)) rfl)))))) | with_reducible apply Take.drop))))

def dend (d : Dec) : Int := if d.missing = true ∨ d.full = true ∨ d.rest ≠ [] ∨ d.code ≠ 0 then 12 else 0
theorem End_any (n : Nat) (d : Dec) (h : SH) : SRun Try.prog 29 [gptr n 0 5] (decB n d :: h) fun r q => r = Er (dend d) ∧ q = decB n d :: h := by
  obtain ⟨rest, code, size, missing, full⟩ := d
  show SRun _ _ _ ((n, ⟨[S rest, U code, U size, B missing, B full], false⟩) :: h) _
  refine w_body1 Try.func29 rfl rfl ?_
  cases missing <;> cases full
  all_goals repeat' (first | apply w_seq | apply w_region | apply o_nil | (apply o_g tyOk; exact rfl; exact rfl) | (apply o_load tyOk; exact rfl; exact rfl; exact rfl; (focus (exact pk))) | (apply o_loads tyOk; exact rfl; exact rfl; exact rfl; (focus (exact pk))) | (apply o_neqs; exact rfl; exact rfl; exact rfl; (focus (kernel_rfl)); exact rfl; exact rfl; (focus (kernel_rfl)); exact rfl) | (apply o_want; exact rfl; exact rfl) | (apply o_skip; exact rfl; exact rfl; exact rfl; exact rfl) | (apply o_skip_undef; exact rfl; exact rfl; exact rfl) | (apply o_gT; exact rfl; exact rfl; exact rfl; (focus (first | exact ‹_› | with_reducible exact rfl | omega))) | (apply o_gF; exact rfl; exact rfl; exact rfl; (focus (first | exact ‹_› | with_reducible exact rfl | omega))) | (apply o_sF; exact rfl; exact rfl; exact rfl; (focus (first | exact ‹_› | with_reducible exact rfl | omega)); exact rfl) | (apply o_sT; exact rfl; exact rfl; exact rfl; (focus (first | exact ‹_› | with_reducible exact rfl | omega)); exact rfl) | (apply o_guardTN; exact rfl; exact rfl; exact rfl; all_goals intro hc) | (apply o_guardFN; exact rfl; exact rfl; exact rfl; all_goals intro hc) | (apply o_guardT; exact rfl; exact rfl; exact rfl; all_goals intro hc) | (apply o_guardF; exact rfl; exact rfl; exact rfl; all_goals intro hc) | (apply o_guardB; exact rfl; exact rfl; exact rfl; all_goals intro hc) | (apply w_true; exact rfl) | (apply w_false; exact rfl) | (apply w_dT; exact rfl; (focus (first | exact ‹_› | with_reducible exact rfl | omega))) | (apply w_dF; exact rfl; (focus (first | exact ‹_› | with_reducible exact rfl | omega))) | (apply w_ifN; exact rfl; all_goals intro hc) | (apply w_if; exact rfl; all_goals intro hc) | (apply w_ifB; exact rfl; all_goals intro hc) | apply thenS_normal | apply thenS_ret | apply thenS_exit | apply blockS_normal | apply blockS_ret | apply blockS_exit | apply w_skip | apply w_ret | apply w_exit | apply w_block | apply scopeS_normal | apply scopeS_ret | apply scopeS_exit | apply w_scope | (apply blockS_exit_ne; exact rfl) | ((with_reducible apply Sd.mk); (first | exact True.intro | omega | (constructor <;> first | omega | (unfold maxLen; omega)) | (unfold maxLen; omega))) | ((with_reducible apply Ln.mk); (first | rfl | exact ‹_› | omega | (simp ; first | done | omega))) | ((with_reducible apply Ce.mk); (first | rfl | exact ‹_› | exact cell_recZ (fun _ => rfl) (by omega) (by decide) rfl | exact cell_rec (fun _ => rfl) (by omega) (by decide) rfl | exact cell_bytes (by omega) | exact cell_mapZ (by omega) | exact cell_map (by omega))) | with_reducible exact Pick.head | with_reducible apply Pick.tail | ((with_reducible apply Su.mk); (first | exact subAt_all | exact subAt_recZ (fun _ => rfl) (by omega) | exact subAt_rec (fun _ => rfl) (by omega))) | exact True.intro | exact rfl)
  all_goals (apply s_fin; (exact (show ResS _ _ _ _ [_] from ⟨rfl, trivial⟩)); (focus (refine ⟨?_, rfl⟩; show Er _ = Er _; first | rfl | (unfold dend; dsimp only; first | (rw [if_pos]; (simp_all; done)) | (rw [if_neg]; (simp_all; done))))); (focus (repeat (first | with_reducible exact Take.nil | with_reducible apply Take.c | ((with_reducible apply Take.cE); (first | exact rfl | (apply blkE; (focus (first | exact rfl | exact recs_snocE rfl | exact map_snocE rfl | exact congrArg (fun v => [v]) (gslE rfl rfl (by first | rfl | exact ‹_› | omega | (simp ; first | done | omega)) (by first | rfl | exact ‹_› | omega | (simp ; first | done | omega)) rfl)))))) | with_reducible apply Take.drop))))

theorem take_set {α : Type} {b : α} : ∀ {l : List α} {k : Nat}, k < l.length → (l.set k b).take (k + 1) = l.take k ++ [b]
  | [], k, h => by simp at h
  | x :: r, 0, h => by simp
  | x :: r, k + 1, h => by simp only [List.set_cons_succ, List.take_succ_cons, List.cons_append]; rw [take_set (by simpa using h)]
/-- The bits that are read behind some. -/
def drun : List Int → Dec → List Int → Dec × List Int
  | [], d, acc => (d, acc)
  | z :: r, d, acc => drun r (dbit d z).1 (acc ++ [(dbit d z).2])
theorem drun_cons (z : Int) (r : List Int) (d : Dec) (acc : List Int) : drun (z :: r) d acc = drun r (dbit d z).1 (acc ++ [(dbit d z).2]) := rfl
abbrev inF (n : Int) : Value := I n
def dec (l : List UInt8) (zs : List Int) : List Int × Int :=
  if ∀ z ∈ zs, vldP z then (if dend (drun zs (dnew l) []).1 = 0 then ((drun zs (dnew l) []).2, 0) else ([], dend (drun zs (dnew l) []).1)) else ([], 1)
/-- A list of numbers in a block of its own, nil where there was an error. -/
def IsD (h : SH) (x : List Int × Int) (r : Value) (q : SH) : Prop := (x.2 ≠ 0 ∧ x.1 = [] ∧ r = .tuple #[.slice none 0 0, Er x.2] ∧ q = h) ∨
  (x.2 = 0 ∧ ∃ A, r = .tuple #[gsl A 0 x.1.length x.1.length 1, Er 0] ∧ q = (A, ⟨x.1.map inF, false⟩) :: h)

theorem dec_len (l : List UInt8) (zs : List Int) (h : (dec l zs).2 = 0) : (dec l zs).1.length = zs.length := by
  have hr : ∀ (zs : List Int) (d : Dec) (acc : List Int), (drun zs d acc).2.length = acc.length + zs.length := by
    intro zs
    induction zs with
    | nil => intro d acc; simp [drun]
    | cons z r ih => intro d acc; rw [drun_cons, ih]; simp; omega
  unfold dec at h ⊢
  split at h
  · split at h
    · rw [if_pos (by assumption), if_pos (by assumption), hr]; simp
    · contradiction
  · cases h

theorem enc0 : enc [] = ([0, 0, 0, 0], 0) := by rfl
theorem enc1 : enc [(1024, 1)] = ([127, 255, 252, 0], 0) := by decide +kernel
theorem dec1 : dec [127, 255, 252, 0] [1024] = ([1], 0) := by decide +kernel
theorem edir8 : edir ⟨[], 0, 4294967295⟩ 8 0 = ⟨[0], 0, 4294705152⟩ := by rfl
theorem Direct8_any (n : Nat) (h p : SH) (hb : EncB n h ⟨[], 0, 4294967295⟩ p) : SRun Try.prog 57 [gptr n 0 3, I 8, I 0] p fun _ q => EncB n h ⟨[0], 0, 4294705152⟩ q := by
  have := Direct_any n 8 0 _ h p hb ⟨by simp, by dsimp only; omega, by dsimp only; omega⟩
  rwa [edir8] at this
theorem Finish8_any (n : Nat) (h p : SH) (hb : EncB n h ⟨[0], 0, 4294705152⟩ p) : SRun Try.prog 26 [gptr n 0 3] p fun r q => r = S [0, 0, 0, 0, 0] ∧ q = p := Finish_any n _ p hb.r (by simp) (by dsimp only; omega)

end Go.Proofs.Ytinfmojbdaiogaa
