/- Part 4 of the proof of the law ModelsTrees: texts merged. No condition. -/
import Derived.Test.YtinfmojbdaiogaaZModelsTreesC
section
set_option linter.unusedVariables false
set_option linter.unusedSimpArgs false
set_option maxRecDepth 4000
namespace Go.Proofs.Ytinfmojbdaiogaa
open Go.Gh Go.RowKit

theorem ex8u (m : Int) : m / 2 ^ (min (Int.toNat 8) IntKind.u32.bits) = m / 256 := rfl
theorem ex16u (m : Int) : m / 2 ^ (min (Int.toNat 16) IntKind.u32.bits) = m / 65536 := rfl
theorem ex24u (m : Int) : m / 2 ^ (min (Int.toNat 24) IntKind.u32.bits) = m / 16777216 := rfl
theorem ex8i (m : Int) : m / 2 ^ (min (Int.toNat 8) IntKind.i64.bits) = m / 256 := rfl
theorem ex16i (m : Int) : m / 2 ^ (min (Int.toNat 16) IntKind.i64.bits) = m / 65536 := rfl
theorem ex24i (m : Int) : m / 2 ^ (min (Int.toNat 24) IntKind.i64.bits) = m / 16777216 := rfl
theorem w_shl8u (m : Int) : IntKind.u32.wrap (m * 2 ^ (min (Int.toNat 8) IntKind.u32.bits)) = m * 256 % 4294967296 := IntKind.wrap_u32 _
theorem w_quoU {m n : Int} (hm : 0 ≤ m) (h : 0 ≤ m / n ∧ m / n ≤ 4294967295) : IntKind.u32.wrap (m.tdiv n) = m / n := by rw [Int.tdiv_eq_ediv_of_nonneg hm]; exact IntWalk.u32_in _ h
theorem w_quoI {m n : Int} (hm : 0 ≤ m) (h : 0 ≤ m / n ∧ m / n ≤ 9223372036854775807) : IntKind.i64.wrap (m.tdiv n) = m / n := by rw [Int.tdiv_eq_ediv_of_nonneg hm]; exact IntWalk.i64_in _ (by omega)
abbrev U (n : Int) : Value := .int .u32 n
abbrev Y (n : Int) : Value := .int .u8 n

/-- The probability that is used. -/
def clp (z : Int) : Int := min (max z 1) 2047
theorem clp_in (z : Int) : 1 ≤ clp z ∧ clp z ≤ 2047 := by unfold clp; omega
theorem clamp_any (z : Int) (h : SH) : SRun Try.prog 89 [I z] h fun r q => r = U (clp z) ∧ q = h := by
  refine w_body1 Try.func89 rfl rfl ?_
  repeat' (first | apply w_seq | apply w_region | apply o_nil | (apply o_g tyOk; exact rfl; exact rfl) | (apply o_ar tyOk; exact rfl; exact rfl) | (apply o_min; iterate 3 exact rfl) | (apply o_max; iterate 3 exact rfl) | apply thenS_normal | apply w_ret | ((with_reducible apply Sd.mk); (first | exact True.intro | omega | (constructor <;> first | omega | (unfold maxLen; omega)) | (unfold maxLen; omega))) | ((with_reducible apply Wr.mk); (first | exact w_shl8u _ | exact w_quoU (by omega) (by omega) | exact w_quoI (by omega) (by omega) | exact IntWalk.i64_in _ (by omega) | exact IntWalk.u8_in _ (by omega) | exact IntWalk.u32_in _ (by omega) | exact IntWalk.u64_in _ (by omega) | exact IntKind.wrap_u8 _ | exact IntKind.wrap_u32 _ | rfl)))
  (apply s_fin; (exact (show ResS _ _ _ _ [_] from ⟨rfl, trivial⟩)); (focus (exact ⟨rfl, rfl⟩)); (focus (repeat (first | with_reducible exact Take.nil | with_reducible apply Take.c | ((with_reducible apply Take.cE); (first | exact rfl | (apply blkE; (focus (first | exact rfl | exact recs_snocE rfl | exact map_snocE rfl | exact congrArg (fun v => [v]) (gslE rfl rfl (by first | rfl | exact ‹_› | omega | (simp ; first | done | omega)) (by first | rfl | exact ‹_› | omega | (simp ; first | done | omega)) rfl)))))) | with_reducible apply Take.drop))))
theorem limit_any (z : Int) (h : SH) : SRun Try.prog 91 [I z] h fun r q => r = I (clp z) ∧ q = h := by
  refine w_body1 Try.func91 rfl rfl ?_
  repeat' (first | apply w_seq | apply w_region | apply o_nil | (apply o_g tyOk; exact rfl; exact rfl) | (apply o_min; iterate 3 exact rfl) | (apply o_max; iterate 3 exact rfl) | apply thenS_normal | apply w_ret | ((with_reducible apply Sd.mk); (first | exact True.intro | omega | (constructor <;> first | omega | (unfold maxLen; omega)) | (unfold maxLen; omega))))
  (apply s_fin; (exact (show ResS _ _ _ _ [_] from ⟨rfl, trivial⟩)); (focus (exact ⟨rfl, rfl⟩)); (focus (repeat (first | with_reducible exact Take.nil | with_reducible apply Take.c | ((with_reducible apply Take.cE); (first | exact rfl | (apply blkE; (focus (first | exact rfl | exact recs_snocE rfl | exact map_snocE rfl | exact congrArg (fun v => [v]) (gslE rfl rfl (by first | rfl | exact ‹_› | omega | (simp ; first | done | omega)) (by first | rfl | exact ‹_› | omega | (simp ; first | done | omega)) rfl)))))) | with_reducible apply Take.drop))))
abbrev vldP (z : Int) : Prop := 1 ≤ z ∧ z ≤ 2047
structure Enc where
  out : List UInt8
  low : Int
  size : Int
/-- One is added to the byte before place k, and to the ones before it as long as they run over. -/
def carryAt (l : List UInt8) : Nat → List UInt8
  | 0 => l
  | k + 1 => if (bat l k + 1) % 256 ≠ 0 then l.set k (b8 ((bat l k + 1) % 256)) else carryAt (l.set k (b8 ((bat l k + 1) % 256))) k
@[simp] theorem carryAt_len (l : List UInt8) : ∀ k, (carryAt l k).length = l.length := by
  intro k
  induction k generalizing l with
  | zero => rfl
  | succ k ih => unfold carryAt; split <;> simp [ih]
def carry (l : List UInt8) : List UInt8 := carryAt l l.length
@[simp] theorem carry_len (l : List UInt8) : (carry l).length = l.length := carryAt_len l _
def eshift (e : Enc) : Enc := ⟨e.out ++ [b8 (e.low / 16777216)], e.low * 256 % 4294967296, e.size * 256⟩
def norm : Nat → Enc → Enc
  | 0, e => e
  | k + 1, e => if e.size < 16777216 then norm k (eshift e) else e
def bound (size z : Int) : Int := size / 2048 * clp z
def estep (e : Enc) (z b : Int) : Enc := if b = 0 then ⟨e.out, e.low, bound e.size z⟩ else
  if 4294967296 ≤ e.low + bound e.size z then ⟨carry e.out, e.low + bound e.size z - 4294967296, e.size - bound e.size z⟩ else ⟨e.out, e.low + bound e.size z, e.size - bound e.size z⟩
def ebit (e : Enc) (z b : Int) : Enc := norm 2 (estep e z b)
structure EncOk (n : Nat) (e : Enc) : Prop where
  out : e.out.length ≤ n
  low : 0 ≤ e.low ∧ e.low ≤ 4294967295
  size : 16777216 ≤ e.size ∧ e.size ≤ 4294967295

abbrev encC (sl : Value) (low size : Int) : List Value := [sl, U low, U size]
/-- The blocks of an encoder at n. -/
inductive EncB (n : Nat) (h : SH) : Enc → SH → Prop
  | nil (low size : Int) : EncB n h ⟨[], low, size⟩ ((n, ⟨encC (.slice none 0 0) low size, false⟩) :: h)
  | some (o : List UInt8) (low size : Int) (A : Nat) : EncB n h ⟨o, low, size⟩ ((n, ⟨encC (gsl A 0 o.length o.length 1) low size, false⟩) :: (A, ⟨bytesV o, false⟩) :: h)

theorem EncB.some' {n : Nat} {h : SH} {o : List UInt8} {m : Nat} (hm : o.length = m) (low size : Int) (A : Nat) : EncB n h ⟨o, low, size⟩ ((n, ⟨encC (gsl A 0 m m 1) low size, false⟩) :: (A, ⟨bytesV o, false⟩) :: h) := by subst hm; exact .some _ _ _ _
theorem cell_bytes_set {l : List UInt8} {i n : Int} (hi : 0 ≤ i ∧ i < l.length) (h : 0 ≤ n ∧ n < 256) : (bytesV (l.set i.toNat (b8 n)))[0 + i.toNat * 1]? = some (.int .u8 n) := by
  have h1 : i.toNat < l.length := by omega
  rw [Nat.zero_add, Nat.mul_one]
  unfold bytesV
  rw [List.getElem?_map, List.getElem?_set_self h1, Option.map_some]
  exact congrArg (fun x => some (Value.int .u8 x)) (b8_val h)
theorem carry_any (n : Nat) (e : Enc) (h p : SH) (hb : EncB n h e p) (ho : e.out.length ≤ 1000000) :
    SRun Try.prog 90 [gptr n 0 3] p fun _ q => EncB n h ⟨carry e.out, e.low, e.size⟩ q := by
  cases hb with
  | nil low size =>
    refine w_body1 Try.func90 rfl rfl ?_
    repeat' (first | apply w_seq | apply w_region | apply o_nil | (apply o_g tyOk; exact rfl; exact rfl) | (apply o_ar tyOk; exact rfl; exact rfl) | (apply o_load tyOk; (iterate 3 exact rfl); (focus (exact pk))) | apply thenS_normal | apply w_block | ((with_reducible apply Sd.mk); (first | exact True.intro | omega | (constructor <;> first | omega | (unfold maxLen; omega)) | (unfold maxLen; omega))) | ((with_reducible apply Ln.mk); (first | rfl | exact ‹_› | omega | (simp ; first | done | omega))) | ((with_reducible apply Wr.mk); (first | exact w_shl8u _ | exact w_quoU (by omega) (by omega) | exact w_quoI (by omega) (by omega) | exact IntWalk.i64_in _ (by omega) | exact IntWalk.u8_in _ (by omega) | exact IntWalk.u32_in _ (by omega) | exact IntWalk.u64_in _ (by omega) | exact IntKind.wrap_u8 _ | exact IntKind.wrap_u32 _ | rfl)) | ((with_reducible apply Ce.mk); (first | rfl | exact ‹_› | exact cell_recZ (fun _ => rfl) (by omega) (by decide) rfl | exact cell_rec (fun _ => rfl) (by omega) (by decide) rfl | exact cell_bytes (by omega) | exact cell_mapZ (by omega) | exact cell_map (by omega))) | exact True.intro | exact rfl)
    refine w_loop (S := Unit) (fun x => [(2, I (0 - 1))]) (fun x => (n, ⟨encC (.slice none 0 0) low size, false⟩) :: h) (fun _ => True) (fun _ => 0) () trivial (by repeat' (first | exact trivial | refine ⟨rfl, ?_⟩ | refine ⟨congrArg some ?_, ?_⟩)) (by repeat (first | with_reducible exact Take.nil | with_reducible apply Take.c | ((with_reducible apply Take.cE); (first | exact rfl | (apply blkE; (focus (first | exact rfl | exact recs_snocE rfl | exact map_snocE rfl | exact congrArg (fun v => [v]) (gslE rfl rfl (by first | rfl | exact ‹_› | omega | (simp ; first | done | omega)) (by first | rfl | exact ‹_› | omega | (simp ; first | done | omega)) rfl)))))) | with_reducible apply Take.drop)) ?_
    rintro - -
    repeat' (first | apply w_seq | apply w_region | apply o_nil | (apply o_g tyOk; exact rfl; exact rfl) | (apply w_false; exact rfl) | apply thenS_normal | apply thenS_exit | apply blockS_exit | apply w_exit | ((with_reducible apply Sd.mk); (first | exact True.intro | omega | (constructor <;> first | omega | (unfold maxLen; omega)) | (unfold maxLen; omega))))
    (apply s_finN; (exact (show ResS _ _ _ _ [] from trivial)); (focus (exact .nil _ _)); (focus (repeat (first | with_reducible exact Take.nil | with_reducible apply Take.c | ((with_reducible apply Take.cE); (first | exact rfl | (apply blkE; (focus (first | exact rfl | exact recs_snocE rfl | exact map_snocE rfl | exact congrArg (fun v => [v]) (gslE rfl rfl (by first | rfl | exact ‹_› | omega | (simp ; first | done | omega)) (by first | rfl | exact ‹_› | omega | (simp ; first | done | omega)) rfl)))))) | with_reducible apply Take.drop))))
  | some o low size A =>
    dsimp only at ho
    refine w_body1 Try.func90 rfl rfl ?_
    repeat' (first | apply w_seq | apply w_region | apply o_nil | (apply o_g tyOk; exact rfl; exact rfl) | (apply o_ar tyOk; exact rfl; exact rfl) | (apply o_load tyOk; (iterate 3 exact rfl); (focus (exact pk))) | apply thenS_normal | apply w_block | ((with_reducible apply Sd.mk); (first | exact True.intro | omega | (constructor <;> first | omega | (unfold maxLen; omega)) | (unfold maxLen; omega))) | ((with_reducible apply Ln.mk); (first | rfl | exact ‹_› | omega | (simp ; first | done | omega))) | ((with_reducible apply Wr.mk); (first | exact w_shl8u _ | exact w_quoU (by omega) (by omega) | exact w_quoI (by omega) (by omega) | exact IntWalk.i64_in _ (by omega) | exact IntWalk.u8_in _ (by omega) | exact IntWalk.u32_in _ (by omega) | exact IntWalk.u64_in _ (by omega) | exact IntKind.wrap_u8 _ | exact IntKind.wrap_u32 _ | rfl)) | ((with_reducible apply Ce.mk); (first | rfl | exact ‹_› | exact cell_recZ (fun _ => rfl) (by omega) (by decide) rfl | exact cell_rec (fun _ => rfl) (by omega) (by decide) rfl | exact cell_bytes (by omega) | exact cell_mapZ (by omega) | exact cell_map (by omega))) | exact True.intro | exact rfl)
    refine w_loop (S := Nat × List UInt8) (fun x => [(0, gptr n 0 3), (2, I (x.1 - 1))]) (fun x => (n, ⟨encC (gsl A 0 o.length o.length 1) low size, false⟩) :: (A, ⟨bytesV x.2, false⟩) :: h)
      (fun x => x.1 ≤ o.length ∧ x.2.length = o.length ∧ carryAt x.2 x.1 = carry o) (fun x => x.1) (o.length, o) ⟨Nat.le_refl _, rfl, rfl⟩ (by repeat' (first | exact trivial | refine ⟨rfl, ?_⟩ | refine ⟨congrArg some ?_, ?_⟩)) (by repeat (first | with_reducible exact Take.nil | with_reducible apply Take.c | ((with_reducible apply Take.cE); (first | exact rfl | (apply blkE; (focus (first | exact rfl | exact recs_snocE rfl | exact map_snocE rfl | exact congrArg (fun v => [v]) (gslE rfl rfl (by first | rfl | exact ‹_› | omega | (simp ; first | done | omega)) (by first | rfl | exact ‹_› | omega | (simp ; first | done | omega)) rfl)))))) | with_reducible apply Take.drop)) ?_
    rintro ⟨k, l⟩ ⟨hk, hl, he⟩
    dsimp only at hk hl he ⊢
    rw [← hl]
    cases k with
    | zero =>
      repeat' (first | apply w_seq | apply w_region | apply o_nil | (apply o_g tyOk; exact rfl; exact rfl) | (apply w_false; exact rfl) | apply thenS_normal | apply thenS_exit | apply blockS_exit | apply w_exit | ((with_reducible apply Sd.mk); (first | exact True.intro | omega | (constructor <;> first | omega | (unfold maxLen; omega)) | (unfold maxLen; omega))))
      (apply s_finN; (exact (show ResS _ _ _ _ [] from trivial)); (focus (rw [← show l = carry o from he]; exact .some _ _ _ A)); (focus (repeat (first | with_reducible exact Take.nil | with_reducible apply Take.c | ((with_reducible apply Take.cE); (first | exact rfl | (apply blkE; (focus (first | exact rfl | exact recs_snocE rfl | exact map_snocE rfl | exact congrArg (fun v => [v]) (gslE rfl rfl (by first | rfl | exact ‹_› | omega | (simp ; first | done | omega)) (by first | rfl | exact ‹_› | omega | (simp ; first | done | omega)) rfl)))))) | with_reducible apply Take.drop))))
    | succ k =>
      rw [show ((k + 1 : Nat) : Int) - 1 = k by omega]
      repeat' (first | apply w_seq | apply w_region | apply o_nil | (apply o_g tyOk; exact rfl; exact rfl) | (apply o_ar tyOk; exact rfl; exact rfl) | (apply o_load tyOk; (iterate 3 exact rfl); (focus (exact pk))) | (apply o_store tyOk; (iterate 4 exact rfl); (focus (exact up))) | (apply w_true; exact rfl) | (apply w_ifN; exact rfl; all_goals intro hc) | apply thenS_normal | apply thenS_ret | apply blockS_normal | apply blockS_ret | apply w_skip | apply w_ret | apply w_block | ((with_reducible apply Sd.mk); (first | exact True.intro | omega | (constructor <;> first | omega | (unfold maxLen; omega)) | (unfold maxLen; omega))) | ((with_reducible apply Ln.mk); (first | rfl | exact ‹_› | omega | (simp ; first | done | omega))) | ((with_reducible apply Wr.mk); (first | exact w_shl8u _ | exact w_quoU (by omega) (by omega) | exact w_quoI (by omega) (by omega) | exact IntWalk.i64_in _ (by omega) | exact IntWalk.u8_in _ (by omega) | exact IntWalk.u32_in _ (by omega) | exact IntWalk.u64_in _ (by omega) | exact IntKind.wrap_u8 _ | exact IntKind.wrap_u32 _ | rfl)) | ((with_reducible apply Ce.mk); (first | rfl | exact ‹_› | exact cell_bytes_set (by omega) (by omega) | exact cell_recZ (fun _ => rfl) (by omega) (by decide) rfl | exact cell_rec (fun _ => rfl) (by omega) (by decide) rfl | exact cell_bytes (by omega) | exact cell_mapZ (by omega) | exact cell_map (by omega))) | ((with_reducible apply Se.mk); (first | (focus ((repeat (first | exact SetAt.zero | apply SetAt.succ)); done)) | exact setAt_bytes (by omega) (by omega) | exact setAt_mapZ (by omega) | exact setAt_map (by omega))) | exact True.intro | exact rfl)
      · (apply s_fin; (exact (show ResS _ _ _ _ [] from trivial)); (focus (rw [← he, carryAt, if_pos hc]; exact .some' (m := l.length) (by simp) _ _ A)); (focus (repeat (first | with_reducible exact Take.nil | with_reducible apply Take.c | ((with_reducible apply Take.cE); (first | exact rfl | (apply blkE; (focus (first | exact rfl | exact recs_snocE rfl | exact map_snocE rfl | exact congrArg (fun v => [v]) (gslE rfl rfl (by first | rfl | exact ‹_› | omega | (simp ; first | done | omega)) (by first | rfl | exact ‹_› | omega | (simp ; first | done | omega)) rfl)))))) | with_reducible apply Take.drop))))
      · refine ⟨(k, l.set k (b8 ((bat l k + 1) % 256))), ⟨by show k ≤ _; omega, by simp [hl], ?_⟩, by show k < k + 1; omega, (by repeat' (first | exact trivial | refine ⟨rfl, ?_⟩ | refine ⟨congrArg some ?_, ?_⟩)), (by repeat (first | with_reducible exact Take.nil | with_reducible apply Take.c | ((with_reducible apply Take.cE); (first | exact rfl | (apply blkE; (focus (first | exact rfl | exact recs_snocE rfl | exact map_snocE rfl | exact congrArg (fun v => [v]) (gslE rfl rfl (by first | rfl | exact ‹_› | omega | (simp ; first | done | omega)) (by first | rfl | exact ‹_› | omega | (simp ; first | done | omega)) rfl)))))) | with_reducible apply Take.drop))⟩
        rw [← he, carryAt, if_neg (fun h => h hc)]

theorem size_dvd {s : Int} (h : 16777216 ≤ s ∧ s ≤ 4294967295) (z : Int) : 8192 ≤ bound s z ∧ bound s z + 8192 ≤ s := by
  have h1 := clp_in z
  unfold bound
  generalize clp z = c at *
  have h2 : 8192 ≤ s / 2048 := by omega
  have h3 : s / 2048 * 2048 ≤ s := by omega
  generalize s / 2048 = d at *
  have h4 : d * c ≤ d * 2047 := Int.mul_le_mul_of_nonneg_left h1.2 (by omega)
  have h5 : d * 1 ≤ d * c := Int.mul_le_mul_of_nonneg_left h1.1 (by omega)
  omega
theorem estep_ok {n : Nat} {e : Enc} (h : EncOk n e) (z b : Int) : (estep e z b).out.length ≤ n ∧ (0 ≤ (estep e z b).low ∧ (estep e z b).low ≤ 4294967295) ∧ 8192 ≤ (estep e z b).size ∧ (estep e z b).size ≤ 4294967295 := by
  have h1 := size_dvd h.size z
  have := h.low; have := h.size; have := h.out
  unfold estep
  split
  · dsimp only; omega
  · split
    · dsimp only; rw [carry_len]; omega
    · dsimp only; omega

theorem encB_shift_nil {n A : Nat} {h : SH} {low size : Int} (hl : 0 ≤ low ∧ low ≤ 4294967295) : EncB n h (eshift ⟨[], low, size⟩) ((n, ⟨encC (gsl A 0 (1 * 1) 1 1) (low * 256 % 4294967296) (size * 256), false⟩) :: (A, ⟨[Y (low / 16777216)], false⟩) :: h) := by
  have := EncB.some' (n := n) (h := h) (o := [b8 (low / 16777216)]) (m := 1) rfl (low * 256 % 4294967296) (size * 256) A
  rw [bytesV_one (by omega)] at this
  exact this
theorem encB_shift {n A : Nat} {h : SH} {o : List UInt8} {low size : Int} (hl : 0 ≤ low ∧ low ≤ 4294967295) : EncB n h (eshift ⟨o, low, size⟩) ((n, ⟨encC (gsl A 0 (o.length + 1 * 1) (o.length + 1) 1) (low * 256 % 4294967296) (size * 256), false⟩) :: (A, ⟨bytesV o ++ [Y (low / 16777216)], false⟩) :: h) := by
  have := EncB.some' (n := n) (h := h) (o := o ++ [b8 (low / 16777216)]) (m := o.length + 1) (by simp) (low * 256 % 4294967296) (size * 256) A
  rw [← bytesV_snoc (by omega)] at this
  exact this
theorem norm_go {k : Nat} {e : Enc} (h : e.size < 16777216) (g : 16777216 ≤ e.size * 256 ^ k) : ∃ k', k = k' + 1 ∧ norm k e = norm k' (eshift e) ∧ 16777216 ≤ (eshift e).size * 256 ^ k' := by
  cases k with
  | zero => simp at g; omega
  | succ k =>
    refine ⟨k, rfl, if_pos h, ?_⟩
    show _ ≤ e.size * 256 * 256 ^ k
    rw [Int.mul_assoc, ← Int.pow_succ']; exact g
theorem norm_end {k : Nat} {e : Enc} (h : ¬ e.size < 16777216) : norm k e = e := by
  cases k with
  | zero => rfl
  | succ k => exact if_neg h

theorem Bit_any (n : Nat) (z b : Int) (e : Enc) (h p : SH) (hb : EncB n h e p) (hok : EncOk 1000000 e) :
    SRun Try.prog 60 [gptr n 0 3, I z, I b] p fun _ q => EncB n h (ebit e z b) q := by
  have hd := size_dvd hok.size z
  unfold bound at hd
  have hz := clp_in z
  have h1 := hok.low; have h2 := hok.size; have h3 := hok.out
  unfold ebit
  have h4 := estep_ok hok z b
  generalize hs : estep e z b = s at h4
  obtain ⟨p1, B', hp⟩ : ∃ p1 sl, Pick p n ⟨encC sl e.low e.size, false⟩ p1 := by cases hb <;> exact ⟨_, _, Pick.head⟩
  obtain ⟨o, low, size⟩ := e
  dsimp only at *
  refine w_body3 Try.func60 rfl rfl ?_
  repeat' ((fail_if_success (show SWp _ _ (Code.cond (Operand.tmp 17) _ _) _ _ _)); first | apply w_seq | apply w_region | apply o_nil | (apply w_draw; (focus (kernel_rfl)); (focus (kernel_rfl))) | (apply o_g tyOk; exact rfl; exact rfl) | (apply o_ar tyOk; exact rfl; exact rfl) | (apply o_load tyOk; (iterate 3 exact rfl); (focus (exact pk))) | (apply o_callD; (iterate 4 exact rfl); (focus (exact ⟨_, clamp_any _ _, by repeat (first | with_reducible exact Take.nil | with_reducible apply Take.c | with_reducible apply Take.drop)⟩)); (focus (exact fun _ _ h => h.1)); (focus ((repeat (first | exact Flat.c rfl | apply flat_tuple | apply flat_agg | exact FlatL.nil | apply FlatL.cons))))) | apply thenS_normal | ((with_reducible apply Sd.mk); (first | exact True.intro | omega | (constructor <;> first | omega | (unfold maxLen; omega)) | (unfold maxLen; omega))) | ((with_reducible apply Ln.mk); (first | rfl | exact ‹_› | omega | (simp ; first | done | omega))) | ((with_reducible apply Wr.mk); (first | exact w_shl8u _ | exact w_quoU (by omega) (by omega) | exact w_quoI (by omega) (by omega) | exact IntWalk.i64_in _ (by omega) | exact IntWalk.u8_in _ (by omega) | exact IntWalk.u32_in _ (by omega) | exact IntWalk.u64_in _ (by omega) | exact IntKind.wrap_u8 _ | exact IntKind.wrap_u32 _ | rfl)) | ((with_reducible apply Ce.mk); (first | rfl | exact ‹_› | exact cell_recZ (fun _ => rfl) (by omega) (by decide) rfl | exact cell_rec (fun _ => rfl) (by omega) (by decide) rfl | exact cell_bytes (by omega) | exact cell_mapZ (by omega) | exact cell_map (by omega))) | exact True.intro | exact rfl)
  refine w_meet (S := SH) (fun _ => [(0, gptr n 0 3)]) (fun q => q) (fun q => EncB n h s q) ?_ ?_
  · unfold estep bound at hs
    dsimp only at hs
    cases hb with
    | nil low size =>
      repeat' (first | apply w_seq | apply w_region | apply o_nil | (apply o_g tyOk; exact rfl; exact rfl) | (apply o_ar tyOk; exact rfl; exact rfl) | (apply o_load tyOk; (iterate 3 exact rfl); (focus (exact pk))) | (apply o_store tyOk; (iterate 4 exact rfl); (focus (exact up))) | (apply o_call; exact rfl; exact rfl; (focus (first | exact rfl | assumption)); exact rfl; (focus (exact ⟨_, carry_any _ _ _ _ (.nil _ _) (by simp), by repeat (first | with_reducible exact Take.nil | with_reducible apply Take.c | with_reducible apply Take.drop)⟩)); rintro _ _ hb2) | (apply w_if; exact rfl; all_goals intro hc) | apply thenS_normal | apply w_skip | ((with_reducible apply Sd.mk); (first | exact True.intro | omega | (constructor <;> first | omega | (unfold maxLen; omega)) | (unfold maxLen; omega))) | ((with_reducible apply Ln.mk); (first | rfl | exact ‹_› | omega | (simp ; first | done | omega))) | ((with_reducible apply Wr.mk); (first | exact w_shl8u _ | exact w_quoU (by omega) (by omega) | exact w_quoI (by omega) (by omega) | exact IntWalk.i64_in _ (by omega) | exact IntWalk.u8_in _ (by omega) | exact IntWalk.u32_in _ (by omega) | exact IntWalk.u64_in _ (by omega) | exact IntKind.wrap_u8 _ | exact IntKind.wrap_u32 _ | rfl)) | ((with_reducible apply Ce.mk); (first | rfl | exact ‹_› | exact cell_recZ (fun _ => rfl) (by omega) (by decide) rfl | exact cell_rec (fun _ => rfl) (by omega) (by decide) rfl | exact cell_bytes (by omega) | exact cell_mapZ (by omega) | exact cell_map (by omega))) | ((with_reducible apply Se.mk); (first | (focus ((repeat (first | exact SetAt.zero | apply SetAt.succ)); done)) | exact setAt_bytes (by omega) (by omega) | exact setAt_mapZ (by omega) | exact setAt_map (by omega))) | exact True.intro | exact rfl)
      · rw [if_pos hc] at hs; subst hs
        exact ⟨_, .nil _ _, (by repeat' (first | exact trivial | refine ⟨rfl, ?_⟩ | refine ⟨congrArg some ?_, ?_⟩)), Take.nil⟩
      · rw [if_neg (show ¬ b = 0 by assumption), if_pos (by omega), show (low + size / 2048 * clp z) - 4294967296 = (low + size / 2048 * clp z) % 4294967296 by omega] at hs; subst hs
        generalize carry [] = o2 at hb2
        dsimp only at hb2
        cases hb2 with
        | nil =>
          repeat' (first | apply o_nil | (apply o_g tyOk; exact rfl; exact rfl) | (apply o_ar tyOk; exact rfl; exact rfl) | (apply o_load tyOk; (iterate 3 exact rfl); (focus (exact pk))) | (apply o_store tyOk; (iterate 4 exact rfl); (focus (exact up))) | apply thenS_normal | ((with_reducible apply Sd.mk); (first | exact True.intro | omega | (constructor <;> first | omega | (unfold maxLen; omega)) | (unfold maxLen; omega))) | ((with_reducible apply Ln.mk); (first | rfl | exact ‹_› | omega | (simp ; first | done | omega))) | ((with_reducible apply Wr.mk); (first | exact w_shl8u _ | exact w_quoU (by omega) (by omega) | exact w_quoI (by omega) (by omega) | exact IntWalk.i64_in _ (by omega) | exact IntWalk.u8_in _ (by omega) | exact IntWalk.u32_in _ (by omega) | exact IntWalk.u64_in _ (by omega) | exact IntKind.wrap_u8 _ | exact IntKind.wrap_u32 _ | rfl)) | ((with_reducible apply Ce.mk); (first | rfl | exact ‹_› | exact cell_recZ (fun _ => rfl) (by omega) (by decide) rfl | exact cell_rec (fun _ => rfl) (by omega) (by decide) rfl | exact cell_bytes (by omega) | exact cell_mapZ (by omega) | exact cell_map (by omega))) | ((with_reducible apply Se.mk); (first | (focus ((repeat (first | exact SetAt.zero | apply SetAt.succ)); done)) | exact setAt_bytes (by omega) (by omega) | exact setAt_mapZ (by omega) | exact setAt_map (by omega))) | exact True.intro | exact rfl)
          exact ⟨_, .nil _ _, (by repeat' (first | exact trivial | refine ⟨rfl, ?_⟩ | refine ⟨congrArg some ?_, ?_⟩)), Take.nil⟩
        | some _ _ _ A =>
          repeat' (first | apply o_nil | (apply o_g tyOk; exact rfl; exact rfl) | (apply o_ar tyOk; exact rfl; exact rfl) | (apply o_load tyOk; (iterate 3 exact rfl); (focus (exact pk))) | (apply o_store tyOk; (iterate 4 exact rfl); (focus (exact up))) | apply thenS_normal | ((with_reducible apply Sd.mk); (first | exact True.intro | omega | (constructor <;> first | omega | (unfold maxLen; omega)) | (unfold maxLen; omega))) | ((with_reducible apply Ln.mk); (first | rfl | exact ‹_› | omega | (simp ; first | done | omega))) | ((with_reducible apply Wr.mk); (first | exact w_shl8u _ | exact w_quoU (by omega) (by omega) | exact w_quoI (by omega) (by omega) | exact IntWalk.i64_in _ (by omega) | exact IntWalk.u8_in _ (by omega) | exact IntWalk.u32_in _ (by omega) | exact IntWalk.u64_in _ (by omega) | exact IntKind.wrap_u8 _ | exact IntKind.wrap_u32 _ | rfl)) | ((with_reducible apply Ce.mk); (first | rfl | exact ‹_› | exact cell_recZ (fun _ => rfl) (by omega) (by decide) rfl | exact cell_rec (fun _ => rfl) (by omega) (by decide) rfl | exact cell_bytes (by omega) | exact cell_mapZ (by omega) | exact cell_map (by omega))) | ((with_reducible apply Se.mk); (first | (focus ((repeat (first | exact SetAt.zero | apply SetAt.succ)); done)) | exact setAt_bytes (by omega) (by omega) | exact setAt_mapZ (by omega) | exact setAt_map (by omega))) | exact True.intro | exact rfl)
          exact ⟨_, .some _ _ _ A, (by repeat' (first | exact trivial | refine ⟨rfl, ?_⟩ | refine ⟨congrArg some ?_, ?_⟩)), Take.nil⟩
      · rw [if_neg (show ¬ b = 0 by assumption), if_neg (by omega), show (low + size / 2048 * clp z) = (low + size / 2048 * clp z) % 4294967296 by omega] at hs; subst hs
        exact ⟨_, .nil _ _, (by repeat' (first | exact trivial | refine ⟨rfl, ?_⟩ | refine ⟨congrArg some ?_, ?_⟩)), Take.nil⟩
    | some o low size A =>
      repeat' (first | apply w_seq | apply w_region | apply o_nil | (apply o_g tyOk; exact rfl; exact rfl) | (apply o_ar tyOk; exact rfl; exact rfl) | (apply o_load tyOk; (iterate 3 exact rfl); (focus (exact pk))) | (apply o_store tyOk; (iterate 4 exact rfl); (focus (exact up))) | (apply o_call; exact rfl; exact rfl; (focus (first | exact rfl | assumption)); exact rfl; (focus (exact ⟨_, carry_any _ _ _ _ (.some _ _ _ _) h3, by repeat (first | with_reducible exact Take.nil | with_reducible apply Take.c | with_reducible apply Take.drop)⟩)); rintro _ _ hb2) | (apply w_if; exact rfl; all_goals intro hc) | apply thenS_normal | apply w_skip | ((with_reducible apply Sd.mk); (first | exact True.intro | omega | (constructor <;> first | omega | (unfold maxLen; omega)) | (unfold maxLen; omega))) | ((with_reducible apply Ln.mk); (first | rfl | exact ‹_› | omega | (simp ; first | done | omega))) | ((with_reducible apply Wr.mk); (first | exact w_shl8u _ | exact w_quoU (by omega) (by omega) | exact w_quoI (by omega) (by omega) | exact IntWalk.i64_in _ (by omega) | exact IntWalk.u8_in _ (by omega) | exact IntWalk.u32_in _ (by omega) | exact IntWalk.u64_in _ (by omega) | exact IntKind.wrap_u8 _ | exact IntKind.wrap_u32 _ | rfl)) | ((with_reducible apply Ce.mk); (first | rfl | exact ‹_› | exact cell_recZ (fun _ => rfl) (by omega) (by decide) rfl | exact cell_rec (fun _ => rfl) (by omega) (by decide) rfl | exact cell_bytes (by omega) | exact cell_mapZ (by omega) | exact cell_map (by omega))) | ((with_reducible apply Se.mk); (first | (focus ((repeat (first | exact SetAt.zero | apply SetAt.succ)); done)) | exact setAt_bytes (by omega) (by omega) | exact setAt_mapZ (by omega) | exact setAt_map (by omega))) | exact True.intro | exact rfl)
      · rw [if_pos hc] at hs; subst hs
        exact ⟨_, .some _ _ _ A, (by repeat' (first | exact trivial | refine ⟨rfl, ?_⟩ | refine ⟨congrArg some ?_, ?_⟩)), Take.nil⟩
      · rw [if_neg (show ¬ b = 0 by assumption), if_pos (by omega), show (low + size / 2048 * clp z) - 4294967296 = (low + size / 2048 * clp z) % 4294967296 by omega] at hs; subst hs
        generalize carry o = o2 at hb2
        dsimp only at hb2
        cases hb2 with
        | nil =>
          repeat' (first | apply o_nil | (apply o_g tyOk; exact rfl; exact rfl) | (apply o_ar tyOk; exact rfl; exact rfl) | (apply o_load tyOk; (iterate 3 exact rfl); (focus (exact pk))) | (apply o_store tyOk; (iterate 4 exact rfl); (focus (exact up))) | apply thenS_normal | ((with_reducible apply Sd.mk); (first | exact True.intro | omega | (constructor <;> first | omega | (unfold maxLen; omega)) | (unfold maxLen; omega))) | ((with_reducible apply Ln.mk); (first | rfl | exact ‹_› | omega | (simp ; first | done | omega))) | ((with_reducible apply Wr.mk); (first | exact w_shl8u _ | exact w_quoU (by omega) (by omega) | exact w_quoI (by omega) (by omega) | exact IntWalk.i64_in _ (by omega) | exact IntWalk.u8_in _ (by omega) | exact IntWalk.u32_in _ (by omega) | exact IntWalk.u64_in _ (by omega) | exact IntKind.wrap_u8 _ | exact IntKind.wrap_u32 _ | rfl)) | ((with_reducible apply Ce.mk); (first | rfl | exact ‹_› | exact cell_recZ (fun _ => rfl) (by omega) (by decide) rfl | exact cell_rec (fun _ => rfl) (by omega) (by decide) rfl | exact cell_bytes (by omega) | exact cell_mapZ (by omega) | exact cell_map (by omega))) | ((with_reducible apply Se.mk); (first | (focus ((repeat (first | exact SetAt.zero | apply SetAt.succ)); done)) | exact setAt_bytes (by omega) (by omega) | exact setAt_mapZ (by omega) | exact setAt_map (by omega))) | exact True.intro | exact rfl)
          exact ⟨_, .nil _ _, (by repeat' (first | exact trivial | refine ⟨rfl, ?_⟩ | refine ⟨congrArg some ?_, ?_⟩)), Take.nil⟩
        | some _ _ _ A =>
          repeat' (first | apply o_nil | (apply o_g tyOk; exact rfl; exact rfl) | (apply o_ar tyOk; exact rfl; exact rfl) | (apply o_load tyOk; (iterate 3 exact rfl); (focus (exact pk))) | (apply o_store tyOk; (iterate 4 exact rfl); (focus (exact up))) | apply thenS_normal | ((with_reducible apply Sd.mk); (first | exact True.intro | omega | (constructor <;> first | omega | (unfold maxLen; omega)) | (unfold maxLen; omega))) | ((with_reducible apply Ln.mk); (first | rfl | exact ‹_› | omega | (simp ; first | done | omega))) | ((with_reducible apply Wr.mk); (first | exact w_shl8u _ | exact w_quoU (by omega) (by omega) | exact w_quoI (by omega) (by omega) | exact IntWalk.i64_in _ (by omega) | exact IntWalk.u8_in _ (by omega) | exact IntWalk.u32_in _ (by omega) | exact IntWalk.u64_in _ (by omega) | exact IntKind.wrap_u8 _ | exact IntKind.wrap_u32 _ | rfl)) | ((with_reducible apply Ce.mk); (first | rfl | exact ‹_› | exact cell_recZ (fun _ => rfl) (by omega) (by decide) rfl | exact cell_rec (fun _ => rfl) (by omega) (by decide) rfl | exact cell_bytes (by omega) | exact cell_mapZ (by omega) | exact cell_map (by omega))) | ((with_reducible apply Se.mk); (first | (focus ((repeat (first | exact SetAt.zero | apply SetAt.succ)); done)) | exact setAt_bytes (by omega) (by omega) | exact setAt_mapZ (by omega) | exact setAt_map (by omega))) | exact True.intro | exact rfl)
          exact ⟨_, .some _ _ _ A, (by repeat' (first | exact trivial | refine ⟨rfl, ?_⟩ | refine ⟨congrArg some ?_, ?_⟩)), Take.nil⟩
      · rw [if_neg (show ¬ b = 0 by assumption), if_neg (by omega), show (low + size / 2048 * clp z) = (low + size / 2048 * clp z) % 4294967296 by omega] at hs; subst hs
        exact ⟨_, .some _ _ _ A, (by repeat' (first | exact trivial | refine ⟨rfl, ?_⟩ | refine ⟨congrArg some ?_, ?_⟩)), Take.nil⟩
  · intro q0 hb
    repeat' (first | apply w_block)
    refine w_loop (S := Nat × Enc × SH) (fun x => [(0, gptr n 0 3)]) (fun x => x.2.2) (fun x => EncB n h x.2.1 x.2.2 ∧ norm x.1 x.2.1 = norm 2 s ∧ 16777216 ≤ x.2.1.size * 256 ^ x.1 ∧ 0 < x.2.1.size ∧ x.2.1.size ≤ 4294967295 ∧ (0 ≤ x.2.1.low ∧ x.2.1.low ≤ 4294967295) ∧ x.2.1.out.length + x.1 ≤ 1000002)
      (fun x => x.1) (2, s, q0) ⟨hb, rfl, by show _ ≤ s.size * 256 ^ 2; omega, by show 0 < s.size; omega, by show s.size ≤ _; omega, h4.2.1, by show s.out.length + 2 ≤ _; omega⟩ (by repeat' (first | exact trivial | refine ⟨rfl, ?_⟩ | refine ⟨congrArg some ?_, ?_⟩)) (by repeat (first | with_reducible exact Take.nil | with_reducible apply Take.c | ((with_reducible apply Take.cE); (first | exact rfl | (apply blkE; (focus (first | exact rfl | exact recs_snocE rfl | exact map_snocE rfl | exact congrArg (fun v => [v]) (gslE rfl rfl (by first | rfl | exact ‹_› | omega | (simp ; first | done | omega)) (by first | rfl | exact ‹_› | omega | (simp ; first | done | omega)) rfl)))))) | with_reducible apply Take.drop)) ?_
    rintro ⟨k, ⟨o, low, size⟩, q⟩ ⟨hb, he, g1, g2, g3, g4, g5⟩
    dsimp only at *
    cases hb with
    | nil =>
      repeat' (first | apply w_seq | apply w_region | apply o_nil | (apply w_draw; (focus (kernel_rfl)); (focus (kernel_rfl))) | (apply o_g tyOk; exact rfl; exact rfl) | (apply o_ar tyOk; exact rfl; exact rfl) | (apply o_ex; exact rfl; exact rfl) | (apply o_load tyOk; (iterate 3 exact rfl); (focus (exact pk))) | (apply o_store tyOk; (iterate 4 exact rfl); (focus (exact up))) | (apply o_buildSlice tyOk; (iterate 5 exact rfl); (focus (decide)); exact rfl; (focus (decide)); (focus (repeat (first | exact CatR.nil | exact CatR.last rfl | (apply CatR.one; exact rfl; exact rfl) | (apply CatR.agg; exact rfl)))); exact rfl) | (apply o_append_nil tyOk; (iterate 5 exact rfl); (focus (exact ⟨by decide⟩)); (focus (exact pk))) | (apply w_if; exact rfl; all_goals intro hc) | apply thenS_normal | apply thenS_exit | apply blockS_normal | apply blockS_exit | apply w_skip | apply w_exit | apply w_block | ((with_reducible apply Sd.mk); (first | exact True.intro | omega | (constructor <;> first | omega | (unfold maxLen; omega)) | (unfold maxLen; omega))) | ((with_reducible apply Ln.mk); (first | rfl | exact ‹_› | omega | (simp ; first | done | omega))) | ((with_reducible apply Wr.mk); (first | exact w_shl8u _ | exact w_quoU (by omega) (by omega) | exact w_quoI (by omega) (by omega) | exact IntWalk.i64_in _ (by omega) | exact IntWalk.u8_in _ (by omega) | exact IntWalk.u32_in _ (by omega) | exact IntWalk.u64_in _ (by omega) | exact IntKind.wrap_u8 _ | exact IntKind.wrap_u32 _ | rfl)) | ((with_reducible apply Ex.mk); (first | exact Int.tmod_eq_emod_of_nonneg (by omega) | exact ex8u _ | exact ex16u _ | exact ex24u _ | exact ex8i _ | exact ex16i _ | exact ex24i _ | rfl)) | ((with_reducible apply Ce.mk); (first | rfl | exact ‹_› | exact cell_recZ (fun _ => rfl) (by omega) (by decide) rfl | exact cell_rec (fun _ => rfl) (by omega) (by decide) rfl | exact cell_bytes (by omega) | exact cell_mapZ (by omega) | exact cell_map (by omega))) | ((with_reducible apply Se.mk); (first | (focus ((repeat (first | exact SetAt.zero | apply SetAt.succ)); done)) | exact setAt_bytes (by omega) (by omega) | exact setAt_mapZ (by omega) | exact setAt_map (by omega))) | ((with_reducible apply Su.mk); (first | exact subAt_all | exact subAt_recZ (fun _ => rfl) (by omega) | exact subAt_rec (fun _ => rfl) (by omega))) | exact True.intro | refine Rc.mk ⟨_, _, pk, ?_⟩ | exact Or.inl rfl | apply And.intro | apply Or.inr | intro A | exact rfl)
      · obtain ⟨k', rfl, e1, e2⟩ := norm_go (e := ⟨[], low, size⟩) hc g1
        rw [show size * 256 % 4294967296 = size * 256 by omega]
        refine ⟨(k', eshift ⟨[], low, size⟩, _), ⟨encB_shift_nil (A := A) g4, by rw [← e1]; exact he, e2, by show 0 < size * 256; omega, by show size * 256 ≤ _; omega, by show 0 ≤ low * 256 % 4294967296 ∧ low * 256 % 4294967296 ≤ _; omega, by show 1 + k' ≤ _; simp only [List.length_nil] at g5; omega⟩, by show k' < k' + 1; omega, (by repeat' (first | exact trivial | refine ⟨rfl, ?_⟩ | refine ⟨congrArg some ?_, ?_⟩)), (by repeat (first | with_reducible exact Take.nil | with_reducible apply Take.c | ((with_reducible apply Take.cE); (first | exact rfl | (apply blkE; (focus (first | exact rfl | exact recs_snocE rfl | exact map_snocE rfl | exact congrArg (fun v => [v]) (gslE rfl rfl (by first | rfl | exact ‹_› | omega | (simp ; first | done | omega)) (by first | rfl | exact ‹_› | omega | (simp ; first | done | omega)) rfl)))))) | with_reducible apply Take.drop))⟩
      · rw [norm_end hc] at he
        (apply s_finN; (exact (show ResS _ _ _ _ [] from trivial)); (focus (rw [← he]; exact .nil _ _)); (focus (repeat (first | with_reducible exact Take.nil | with_reducible apply Take.c | ((with_reducible apply Take.cE); (first | exact rfl | (apply blkE; (focus (first | exact rfl | exact recs_snocE rfl | exact map_snocE rfl | exact congrArg (fun v => [v]) (gslE rfl rfl (by first | rfl | exact ‹_› | omega | (simp ; first | done | omega)) (by first | rfl | exact ‹_› | omega | (simp ; first | done | omega)) rfl)))))) | with_reducible apply Take.drop))))
    | some _ _ _ A =>
      repeat' (first | apply w_seq | apply w_region | apply o_nil | (apply w_draw; (focus (kernel_rfl)); (focus (kernel_rfl))) | (apply o_g tyOk; exact rfl; exact rfl) | (apply o_ar tyOk; exact rfl; exact rfl) | (apply o_ex; exact rfl; exact rfl) | (apply o_load tyOk; (iterate 3 exact rfl); (focus (exact pk))) | (apply o_store tyOk; (iterate 4 exact rfl); (focus (exact up))) | (apply o_buildSlice tyOk; (iterate 5 exact rfl); (focus (decide)); exact rfl; (focus (decide)); (focus (repeat (first | exact CatR.nil | exact CatR.last rfl | (apply CatR.one; exact rfl; exact rfl) | (apply CatR.agg; exact rfl)))); exact rfl) | (apply o_append tyOk; (iterate 5 exact rfl); (focus (exact ⟨by decide⟩)); (focus (exact up)); (focus (exact pk))) | (apply w_if; exact rfl; all_goals intro hc) | apply thenS_normal | apply thenS_exit | apply blockS_normal | apply blockS_exit | apply w_skip | apply w_exit | apply w_block | ((with_reducible apply Sd.mk); (first | exact True.intro | omega | (constructor <;> first | omega | (unfold maxLen; omega)) | (unfold maxLen; omega))) | ((with_reducible apply Ln.mk); (first | rfl | exact ‹_› | omega | (simp ; first | done | omega))) | ((with_reducible apply Wr.mk); (first | exact w_shl8u _ | exact w_quoU (by omega) (by omega) | exact w_quoI (by omega) (by omega) | exact IntWalk.i64_in _ (by omega) | exact IntWalk.u8_in _ (by omega) | exact IntWalk.u32_in _ (by omega) | exact IntWalk.u64_in _ (by omega) | exact IntKind.wrap_u8 _ | exact IntKind.wrap_u32 _ | rfl)) | ((with_reducible apply Ex.mk); (first | exact Int.tmod_eq_emod_of_nonneg (by omega) | exact ex8u _ | exact ex16u _ | exact ex24u _ | exact ex8i _ | exact ex16i _ | exact ex24i _ | rfl)) | ((with_reducible apply Ce.mk); (first | rfl | exact ‹_› | exact cell_recZ (fun _ => rfl) (by omega) (by decide) rfl | exact cell_rec (fun _ => rfl) (by omega) (by decide) rfl | exact cell_bytes (by omega) | exact cell_mapZ (by omega) | exact cell_map (by omega))) | ((with_reducible apply Se.mk); (first | (focus ((repeat (first | exact SetAt.zero | apply SetAt.succ)); done)) | exact setAt_bytes (by omega) (by omega) | exact setAt_mapZ (by omega) | exact setAt_map (by omega))) | ((with_reducible apply Su.mk); (first | exact subAt_all | exact subAt_recZ (fun _ => rfl) (by omega) | exact subAt_rec (fun _ => rfl) (by omega))) | exact True.intro | refine Rc.mk ⟨_, _, pk, ?_⟩ | exact Or.inl rfl | apply And.intro | apply Or.inr | intro A | exact rfl)
      · obtain ⟨k', rfl, e1, e2⟩ := norm_go (e := ⟨o, low, size⟩) hc g1
        rw [show size * 256 % 4294967296 = size * 256 by omega]
        refine ⟨(k', eshift ⟨o, low, size⟩, _), ⟨encB_shift g4, by rw [← e1]; exact he, e2, by show 0 < size * 256; omega, by show size * 256 ≤ _; omega, by show 0 ≤ low * 256 % 4294967296 ∧ low * 256 % 4294967296 ≤ _; omega, by show (o ++ [_]).length + k' ≤ _; simp only [List.length_append, List.length_singleton]; omega⟩, by show k' < k' + 1; omega, (by repeat' (first | exact trivial | refine ⟨rfl, ?_⟩ | refine ⟨congrArg some ?_, ?_⟩)), Take.drop Take.nil⟩
      · rw [norm_end hc] at he
        (apply s_finN; (exact (show ResS _ _ _ _ [] from trivial)); (focus (rw [← he]; exact .some _ _ _ A)); (focus (repeat (first | with_reducible exact Take.nil | with_reducible apply Take.c | ((with_reducible apply Take.cE); (first | exact rfl | (apply blkE; (focus (first | exact rfl | exact recs_snocE rfl | exact map_snocE rfl | exact congrArg (fun v => [v]) (gslE rfl rfl (by first | rfl | exact ‹_› | omega | (simp ; first | done | omega)) (by first | rfl | exact ‹_› | omega | (simp ; first | done | omega)) rfl)))))) | with_reducible apply Take.drop))))
theorem norm_ok {n : Nat} : ∀ {k : Nat} {e : Enc}, e.out.length + k ≤ n → (0 ≤ e.low ∧ e.low ≤ 4294967295) → 16777216 ≤ e.size * 256 ^ k → e.size ≤ 4294967295 → EncOk n (norm k e)
  | 0, e, h1, h2, h3, h4 => ⟨by show e.out.length ≤ n; omega, h2, by show 16777216 ≤ e.size ∧ e.size ≤ _; simp at h3; omega⟩
  | k + 1, e, h1, h2, h3, h4 => by
    by_cases hc : e.size < 16777216
    · obtain ⟨k', e0, e1, e2⟩ := norm_go hc h3
      obtain rfl : k = k' := by omega
      rw [e1]
      exact norm_ok (by show (e.out ++ [_]).length + k ≤ n; simp only [List.length_append, List.length_singleton]; omega) (by show 0 ≤ e.low * 256 % 4294967296 ∧ e.low * 256 % 4294967296 ≤ _; omega) e2 (by show e.size * 256 ≤ _; omega)
    · rw [norm_end hc]; exact ⟨by omega, h2, by omega⟩
theorem ebit_ok {n : Nat} {e : Enc} (h : EncOk n e) (z b : Int) : EncOk (n + 2) (ebit e z b) := by
  have h4 := estep_ok h z b
  exact norm_ok (by omega) h4.2.1 (by omega) h4.2.2.2
end Go.Proofs.Ytinfmojbdaiogaa
end
section
set_option linter.unusedVariables false
set_option linter.unusedSimpArgs false
set_option maxRecDepth 4000
namespace Go.Proofs.Ytinfmojbdaiogaa
open Go.Gh Go.RowKit

theorem and1 (m : Int) : ((BitVec.ofInt 64 m &&& BitVec.ofInt 64 1).toNat : Int) = m % 2 := by
  have h1 : (BitVec.ofInt 64 m &&& BitVec.ofInt 64 1).toNat = (BitVec.ofInt 64 m).toNat % 2 := by
    rw [BitVec.toNat_and, show (BitVec.ofInt 64 1).toNat = 1 from rfl, Nat.and_one_is_mod]
  rw [h1, BitVec.toNat_ofInt]
  omega
theorem w_and1 (m : Int) : IntKind.i64.wrap ((BitVec.ofInt IntKind.i64.bits m &&& BitVec.ofInt IntKind.i64.bits 1).toNat : Int) = m % 2 := by
  rw [show (IntKind.i64.bits) = 64 from rfl, and1]
  exact IntWalk.i64_in _ (by omega)
theorem ex_shrk {m : Int} {k : Nat} (h : k ≤ 64) : m / 2 ^ (min (Int.toNat (k : Int)) IntKind.i64.bits) = m / 2 ^ k := by
  rw [Int.toNat_natCast, show (IntKind.i64.bits) = 64 from rfl, Nat.min_eq_left h]

theorem EncB.pick {n : Nat} {h p : SH} {e : Enc} (hb : EncB n h e p) {A : Nat} {b : Blk} {h1 : SH} (hp : Pick h A b h1) : ∃ p1, Pick p A b p1 := by
  cases hb with
  | nil => exact ⟨_, .tail hp⟩
  | some => exact ⟨_, .tail (.tail hp)⟩
/-- An encoder that is there to be read. -/
inductive EncR (n : Nat) (p : SH) : Enc → Prop
  | nil (low size : Int) (p1 : SH) (hp : Pick p n ⟨encC (.slice none 0 0) low size, false⟩ p1) : EncR n p ⟨[], low, size⟩
  | some (o : List UInt8) (low size : Int) (A : Nat) (p1 p2 : SH) (hp : Pick p n ⟨encC (gsl A 0 o.length o.length 1) low size, false⟩ p1) (ha : Pick p A ⟨bytesV o, false⟩ p2) : EncR n p ⟨o, low, size⟩
theorem EncB.r {n : Nat} {h p : SH} {e : Enc} (hb : EncB n h e p) : EncR n p e := by
  cases hb with
  | nil => exact .nil _ _ _ .head
  | some => exact .some _ _ _ _ _ _ .head (.tail .head)
theorem EncR.up {n m : Nat} {h p : SH} {e e2 : Enc} (hr : EncR n h e) (hb : EncB m h e2 p) : EncR n p e := by
  cases hr with
  | nil _ _ _ hp => obtain ⟨p1, g⟩ := hb.pick hp; exact .nil _ _ _ g
  | some _ _ _ _ _ _ hp ha => obtain ⟨p1, g⟩ := hb.pick hp; obtain ⟨p2, g2⟩ := hb.pick ha; exact .some _ _ _ _ _ _ g g2
/-- Two encoders: which one lies on top does not matter. -/
theorem EncB.swap {n m : Nat} {h p1 p : SH} {e e2 : Enc} (h1 : EncB n h e p1) (h2 : EncB m p1 e2 p) : ∃ q1 q, EncB m h e2 q1 ∧ EncB n q1 e q ∧ Take p q := by
  cases h1 with
  | nil =>
    cases h2 with
    | nil => exact ⟨_, _, .nil _ _, .nil _ _, .cons (.tail .head) .nil⟩
    | some => exact ⟨_, _, .some _ _ _ _, .nil _ _, .cons (.tail (.tail .head)) .nil⟩
  | some =>
    cases h2 with
    | nil => exact ⟨_, _, .nil _ _, .some _ _ _ _, .cons (.tail .head) (.cons (.tail .head) .nil)⟩
    | some => exact ⟨_, _, .some _ _ _ _, .some _ _ _ _, .cons (.tail (.tail .head)) (.cons (.tail (.tail .head)) .nil)⟩
theorem EncB.take {n : Nat} {h p : SH} {e : Enc} (hb : EncB n h e p) : Take p h := by
  cases hb with
  | nil => exact .drop .nil
  | some => exact .drop (.drop .nil)
theorem EncOk.mono {n m : Nat} {e : Enc} (h : EncOk n e) (hm : n ≤ m) : EncOk m e := ⟨by have := h.out; omega, h.low, h.size⟩
def tail4 (low : Int) : List UInt8 := [b8 (low / 16777216), b8 (low / 65536 % 256), b8 (low / 256 % 256), b8 (low % 256)]
/-- The bytes of an encoder. -/
def fin (e : Enc) : List UInt8 := e.out ++ tail4 e.low
theorem subAt_tail {low : Int} (h : 0 ≤ low ∧ low ≤ 4294967295) : SubAt [Y (low / 16777216), Y (low / 65536 % 256), Y (low / 256 % 256), Y (low % 256)] 0 (bytesV (tail4 low)) := by
  have e : bytesV (tail4 low) = [Y (low / 16777216), Y (low / 65536 % 256), Y (low / 256 % 256), Y (low % 256)] := by
    unfold tail4
    rw [show ∀ a b c d : UInt8, [a, b, c, d] = [a] ++ ([b] ++ ([c] ++ [d])) from fun _ _ _ _ => rfl, bytesV_app, bytesV_app, bytesV_app, bytesV_one (by omega), bytesV_one (by omega), bytesV_one (by omega), bytesV_one (by omega)]
    rfl
  rw [e]; exact subAt_all
theorem tail4_len (l : Int) : (tail4 l).length = 4 := rfl
theorem Finish_any (n : Nat) (e : Enc) (p : SH) (hb : EncR n p e) (ho : e.out.length ≤ 1000000) (hl : 0 ≤ e.low ∧ e.low ≤ 4294967295) :
    SRun Try.prog 26 [gptr n 0 3] p fun r q => r = S (fin e) ∧ q = p := by
  cases hb with
  | nil _ _ _ hp =>
    dsimp only at ho hl
    refine w_body1 Try.func26 rfl rfl ?_
    repeat' (first | apply w_seq | apply w_region | apply o_nil | (apply w_draw; (focus (kernel_rfl)); (focus (kernel_rfl))) | (apply o_g tyOk; exact rfl; exact rfl) | (apply o_ar tyOk; exact rfl; exact rfl) | (apply o_ex; exact rfl; exact rfl) | (apply o_load tyOk; (iterate 3 exact rfl); (focus (exact pk))) | (apply o_stores tyOk; (iterate 4 exact rfl); (focus (exact ⟨rfl⟩)); (focus (exact up))) | (apply o_alloc tyOk; iterate 5 exact rfl) | (apply o_buildArr tyOk; (iterate 4 exact rfl); (focus (repeat (first | exact BuildR.nil | (apply BuildR.one; exact rfl; exact rfl; (first | (focus ((repeat (first | exact SetAt.zero | apply SetAt.succ)); done)) | exact setAt_bytes (by omega) (by omega) | exact setAt_mapZ (by omega) | exact setAt_map (by omega))) | (apply BuildR.agg; exact rfl; exact rfl; (first | exact putAt_all rfl | exact putAt_recZ (fun _ => rfl) (by omega) | exact putAt_rec (fun _ => rfl) (by omega)))))); exact rfl) | (apply o_toString tyOk; (iterate 6 exact rfl); (focus (exact pk))) | (apply o_toString_nil tyOk; iterate 7 exact rfl) | apply thenS_normal | apply w_ret | ((with_reducible apply Sd.mk); (first | exact True.intro | omega | (constructor <;> first | omega | (unfold maxLen; omega)) | (unfold maxLen; omega) | (simp only [tail4_len, List.length_nil]; omega))) | ((with_reducible apply Ln.mk); (first | rfl | exact ‹_› | omega | (simp ; first | done | omega))) | ((with_reducible apply Wr.mk); (first | exact w_shl8u _ | exact w_quoU (by omega) (by omega) | exact w_quoI (by omega) (by omega) | exact w_and1 _ | exact IntWalk.i64_in _ (by omega) | exact IntWalk.u8_in _ (by omega) | exact IntWalk.u32_in _ (by omega) | exact IntWalk.u64_in _ (by omega) | exact IntKind.wrap_u8 _ | exact IntKind.wrap_u32 _ | rfl)) | ((with_reducible apply Ex.mk); (first | exact Int.tmod_eq_emod_of_nonneg (by omega) | exact ex8u _ | exact ex16u _ | exact ex24u _ | exact ex8i _ | exact ex16i _ | exact ex24i _ | exact ex_shrk (by omega) | rfl)) | ((with_reducible apply Ce.mk); (first | rfl | exact ‹_› | exact cell_recZ (fun _ => rfl) (by omega) (by decide) rfl | exact cell_rec (fun _ => rfl) (by omega) (by decide) rfl | exact cell_bytes (by omega) | exact cell_mapZ (by omega) | exact cell_map (by omega))) | ((with_reducible apply Pu.mk); (first | exact putAt_all rfl | exact putAt_recZ (fun _ => rfl) (by omega) | exact putAt_rec (fun _ => rfl) (by omega))) | ((with_reducible apply Su.mk); (first | exact subAt_tail (by omega) | exact subAt_all | exact subAt_recZ (fun _ => rfl) (by omega) | exact subAt_rec (fun _ => rfl) (by omega))) | exact True.intro | exact Or.inl rfl | apply And.intro | intro A | exact rfl)
    (apply s_fin; (exact (show ResS _ _ _ _ [_] from ⟨rfl, trivial⟩)); (focus (exact ⟨rfl, rfl⟩)); (focus (repeat (first | with_reducible exact Take.nil | with_reducible apply Take.c | ((with_reducible apply Take.cE); (first | exact rfl | (apply blkE; (focus (first | exact rfl | exact recs_snocE rfl | exact map_snocE rfl | exact congrArg (fun v => [v]) (gslE rfl rfl (by first | rfl | exact ‹_› | omega | (simp ; first | done | omega)) (by first | rfl | exact ‹_› | omega | (simp ; first | done | omega)) rfl)))))) | with_reducible apply Take.drop))))
  | some _ _ _ _ _ _ hp ha =>
    dsimp only at ho hl
    refine w_body1 Try.func26 rfl rfl ?_
    repeat' (first | apply w_seq | apply w_region | apply o_nil | (apply w_draw; (focus (kernel_rfl)); (focus (kernel_rfl))) | (apply o_g tyOk; exact rfl; exact rfl) | (apply o_ar tyOk; exact rfl; exact rfl) | (apply o_ex; exact rfl; exact rfl) | (apply o_load tyOk; (iterate 3 exact rfl); (focus (exact pk))) | (apply o_stores tyOk; (iterate 4 exact rfl); (focus (exact ⟨rfl⟩)); (focus (exact up))) | (apply o_alloc tyOk; iterate 5 exact rfl) | (apply o_buildArr tyOk; (iterate 4 exact rfl); (focus (repeat (first | exact BuildR.nil | (apply BuildR.one; exact rfl; exact rfl; (first | (focus ((repeat (first | exact SetAt.zero | apply SetAt.succ)); done)) | exact setAt_bytes (by omega) (by omega) | exact setAt_mapZ (by omega) | exact setAt_map (by omega))) | (apply BuildR.agg; exact rfl; exact rfl; (first | exact putAt_all rfl | exact putAt_recZ (fun _ => rfl) (by omega) | exact putAt_rec (fun _ => rfl) (by omega)))))); exact rfl) | (apply o_toString tyOk; (iterate 6 exact rfl); (focus (exact pk))) | apply thenS_normal | apply w_ret | ((with_reducible apply Sd.mk); (first | exact True.intro | omega | (constructor <;> first | omega | (unfold maxLen; omega)) | (unfold maxLen; omega) | (simp only [tail4_len, List.length_nil]; omega))) | ((with_reducible apply Ln.mk); (first | rfl | exact ‹_› | omega | (simp ; first | done | omega))) | ((with_reducible apply Wr.mk); (first | exact w_shl8u _ | exact w_quoU (by omega) (by omega) | exact w_quoI (by omega) (by omega) | exact w_and1 _ | exact IntWalk.i64_in _ (by omega) | exact IntWalk.u8_in _ (by omega) | exact IntWalk.u32_in _ (by omega) | exact IntWalk.u64_in _ (by omega) | exact IntKind.wrap_u8 _ | exact IntKind.wrap_u32 _ | rfl)) | ((with_reducible apply Ex.mk); (first | exact Int.tmod_eq_emod_of_nonneg (by omega) | exact ex8u _ | exact ex16u _ | exact ex24u _ | exact ex8i _ | exact ex16i _ | exact ex24i _ | exact ex_shrk (by omega) | rfl)) | ((with_reducible apply Ce.mk); (first | rfl | exact ‹_› | exact cell_recZ (fun _ => rfl) (by omega) (by decide) rfl | exact cell_rec (fun _ => rfl) (by omega) (by decide) rfl | exact cell_bytes (by omega) | exact cell_mapZ (by omega) | exact cell_map (by omega))) | ((with_reducible apply Pu.mk); (first | exact putAt_all rfl | exact putAt_recZ (fun _ => rfl) (by omega) | exact putAt_rec (fun _ => rfl) (by omega))) | ((with_reducible apply Su.mk); (first | exact subAt_tail (by omega) | exact subAt_all | exact subAt_recZ (fun _ => rfl) (by omega) | exact subAt_rec (fun _ => rfl) (by omega))) | exact True.intro | exact Or.inl rfl | apply And.intro | intro A | exact rfl)
    (apply s_fin; (exact (show ResS _ _ _ _ [_] from ⟨rfl, trivial⟩)); (focus (exact ⟨rfl, rfl⟩)); (focus (repeat (first | with_reducible exact Take.nil | with_reducible apply Take.c | ((with_reducible apply Take.cE); (first | exact rfl | (apply blkE; (focus (first | exact rfl | exact recs_snocE rfl | exact map_snocE rfl | exact congrArg (fun v => [v]) (gslE rfl rfl (by first | rfl | exact ‹_› | omega | (simp ; first | done | omega)) (by first | rfl | exact ‹_› | omega | (simp ; first | done | omega)) rfl)))))) | with_reducible apply Take.drop))))

abbrev stF (s : Int × Int) : List Value := [I s.1, I s.2]
theorem stW (s : Int × Int) : (stF s).length = 2 := rfl
@[simp] theorem len_sts (l : List (Int × Int)) : (recs stF l).length = 2 * l.length := by rw [recs_len stW]; omega
abbrev vldS (s : Int × Int) : Prop := vldP s.1 ∧ (s.2 = 0 ∨ s.2 = 1)
/-- Steps, as long as they are valid. -/
def erun : List (Int × Int) → Enc → Option Enc
  | [], e => some e
  | s :: r, e => if vldS s then erun r (ebit e s.1 s.2) else none
def enc (l : List (Int × Int)) : List UInt8 × Int := match erun l ⟨[], 0, 4294967295⟩ with
  | some e => (fin e, 0)
  | none => ([], 1)
abbrev Er (n : Int) : Value := .int .i64 n

end Go.Proofs.Ytinfmojbdaiogaa
end
section
set_option linter.unusedVariables false
set_option linter.unusedSimpArgs false
set_option maxRecDepth 4000
namespace Go.Proofs.Ytinfmojbdaiogaa
open Go.Gh Go.RowKit

theorem or_low {a b : Nat} (n : Nat) (h : b < 2 ^ n) : 2 ^ n * a ||| b = 2 ^ n * a + b := (Nat.two_pow_add_eq_or_of_lt h a).symm
theorem or8n (q c : Nat) (hq : q < 16777216) (hc : c < 256) : (BitVec.ofInt 32 ((q * 256 : Nat) : Int) ||| BitVec.ofInt 32 (c : Int)).toNat = q * 256 + c := by
  rw [BitVec.ofInt_natCast, BitVec.ofInt_natCast, BitVec.toNat_or, BitVec.toNat_ofNat, BitVec.toNat_ofNat, Nat.mod_eq_of_lt (by omega), Nat.mod_eq_of_lt (by omega), Nat.mul_comm q 256]
  exact or_low 8 hc
theorem w_or8 (m c : Int) (h : 0 ≤ c ∧ c < 256) : IntKind.u32.wrap ((BitVec.ofInt IntKind.u32.bits (m * 256 % 4294967296) ||| BitVec.ofInt IntKind.u32.bits c).toNat : Int) = m * 256 % 4294967296 + c := by
  obtain ⟨c, rfl⟩ := Int.eq_ofNat_of_zero_le h.1
  obtain ⟨q, hq, hq2⟩ : ∃ q : Nat, m * 256 % 4294967296 = ((q * 256 : Nat) : Int) ∧ q < 16777216 := ⟨(m % 16777216).toNat, by omega, by omega⟩
  rw [hq, show (IntKind.u32.bits) = 32 from rfl, or8n q c hq2 (by omega), IntWalk.u32_in _ (by omega)]
  omega

structure Dec where
  rest : List UInt8
  code : Int
  size : Int
  missing : Bool
  full : Bool
structure DecOk (d : Dec) : Prop where
  rest : d.rest.length ≤ 1000000
  code : 0 ≤ d.code ∧ d.code ≤ 4294967295
  size : 16777216 ≤ d.size ∧ d.size ≤ 4294967295
def dnext (d : Dec) : Dec := match d.rest with
  | [] => { d with missing := true, code := d.code * 256 % 4294967296 + 0 }
  | c :: r => { d with rest := r, code := d.code * 256 % 4294967296 + c.toNat }
abbrev decC (d : Dec) : List Value := [S d.rest, U d.code, U d.size, B d.missing, B d.full]
abbrev decB (n : Nat) (d : Dec) : Nat × Blk := (n, ⟨decC d, false⟩)

theorem next_any (n : Nat) (d : Dec) (h : SH) (hr : d.rest.length ≤ 9223372036854775807) : SRun Try.prog 58 [gptr n 0 5] (decB n d :: h) fun _ q => q = decB n (dnext d) :: h := by
  obtain ⟨rest, code, size, missing, full⟩ := d
  dsimp only at hr
  cases rest with
  | nil =>
    show SRun _ _ _ ((n, ⟨[S [], U code, U size, B missing, B full], false⟩) :: h) _
    refine w_body1 Try.func58 rfl rfl ?_
    repeat' (first | apply w_seq | apply w_region | apply o_nil | (apply o_g tyOk; exact rfl; exact rfl) | (apply o_ar tyOk; exact rfl; exact rfl) | (apply o_load tyOk; (iterate 3 exact rfl); (focus (exact pk))) | (apply o_store tyOk; (iterate 4 exact rfl); (focus (exact up))) | (apply w_true; exact rfl) | apply thenS_normal | ((with_reducible apply Sd.mk); (first | exact True.intro | omega | (constructor <;> first | omega | (unfold maxLen; omega)) | (unfold maxLen; omega))) | ((with_reducible apply Ln.mk); (first | rfl | exact ‹_› | omega | (simp ; first | done | omega))) | ((with_reducible apply Wr.mk); (first | exact w_shl8u _ | exact w_quoU (by omega) (by omega) | exact w_or8 _ _ (by omega) | exact IntWalk.i64_in _ (by omega) | exact IntWalk.u8_in _ (by omega) | exact IntWalk.u32_in _ (by omega) | exact IntWalk.u64_in _ (by omega) | exact IntKind.wrap_u8 _ | exact IntKind.wrap_u32 _ | rfl)) | ((with_reducible apply Ce.mk); (first | rfl | exact ‹_› | exact cell_recZ (fun _ => rfl) (by omega) (by decide) rfl | exact cell_rec (fun _ => rfl) (by omega) (by decide) rfl | exact cell_bytes (by omega) | exact cell_mapZ (by omega) | exact cell_map (by omega))) | ((with_reducible apply Se.mk); (first | (focus ((repeat (first | exact SetAt.zero | apply SetAt.succ)); done)) | exact setAt_bytes (by omega) (by omega) | exact setAt_mapZ (by omega) | exact setAt_map (by omega))) | exact True.intro | exact rfl)
    (apply s_finN; (exact (show ResS _ _ _ _ [] from trivial)); (focus (rfl)); (focus (repeat (first | with_reducible exact Take.nil | with_reducible apply Take.c | ((with_reducible apply Take.cE); (first | exact rfl | (apply blkE; (focus (first | exact rfl | exact recs_snocE rfl | exact map_snocE rfl | exact congrArg (fun v => [v]) (gslE rfl rfl (by first | rfl | exact ‹_› | omega | (simp ; first | done | omega)) (by first | rfl | exact ‹_› | omega | (simp ; first | done | omega)) rfl)))))) | with_reducible apply Take.drop))))
  | cons c r =>
    have hc1 : 0 ≤ bat (c :: r) 0 ∧ bat (c :: r) 0 < 256 := by
      have := c.toNat_lt
      show (0 : Int) ≤ (c.toNat : Int) ∧ (c.toNat : Int) < 256; omega
    rw [List.length_cons] at hr
    show SRun _ _ _ ((n, ⟨[S (c :: r), U code, U size, B missing, B full], false⟩) :: h) _
    refine w_body1 Try.func58 rfl rfl ?_
    repeat' (first | apply w_seq | apply w_region | apply o_nil | (apply w_draw; (focus (kernel_rfl)); (focus (kernel_rfl))) | (apply o_g tyOk; exact rfl; exact rfl) | (apply o_ar tyOk; exact rfl; exact rfl) | (apply o_load tyOk; (iterate 3 exact rfl); (focus (exact pk))) | (apply o_store tyOk; (iterate 4 exact rfl); (focus (exact up))) | (apply w_false; exact rfl) | apply thenS_normal | ((with_reducible apply Sd.mk); (first | exact True.intro | omega | (constructor <;> first | omega | (unfold maxLen; omega)) | (unfold maxLen; omega) | (simp only [List.length_cons]; omega))) | ((with_reducible apply Ln.mk); (first | rfl | exact ‹_› | omega | (simp ; first | done | omega))) | ((with_reducible apply Wr.mk); (first | exact w_shl8u _ | exact w_quoU (by omega) (by omega) | exact w_or8 _ _ (by omega) | exact IntWalk.i64_in _ (by omega) | exact IntWalk.u8_in _ (by omega) | exact IntWalk.u32_in _ (by omega) | exact IntWalk.u64_in _ (by omega) | exact IntKind.wrap_u8 _ | exact IntKind.wrap_u32 _ | rfl)) | ((with_reducible apply Ce.mk); (first | rfl | exact ‹_› | exact cell_recZ (fun _ => rfl) (by omega) (by decide) rfl | exact cell_rec (fun _ => rfl) (by omega) (by decide) rfl | exact cell_bytes (by omega) | exact cell_mapZ (by omega) | exact cell_map (by omega))) | ((with_reducible apply Se.mk); (first | (focus ((repeat (first | exact SetAt.zero | apply SetAt.succ)); done)) | exact setAt_bytes (by omega) (by omega) | exact setAt_mapZ (by omega) | exact setAt_map (by omega))) | exact True.intro | exact Or.inl rfl | apply And.intro | exact rfl)
    (apply s_finN; (exact (show ResS _ _ _ _ [] from trivial)); (focus (rfl)); (focus (repeat (first | with_reducible exact Take.nil | with_reducible apply Take.c | ((with_reducible apply Take.cE); (first | exact rfl | (apply blkE; (focus (first | exact rfl | exact recs_snocE rfl | exact map_snocE rfl | exact congrArg (fun v => [v]) (gslE rfl rfl (by first | rfl | exact ‹_› | omega | (simp ; first | done | omega)) (by first | rfl | exact ‹_› | omega | (simp ; first | done | omega)) rfl)))))) | with_reducible apply Take.drop))))
theorem dnext_ok (d : Dec) : 0 ≤ (dnext d).code ∧ (dnext d).code ≤ 4294967295 ∧ (dnext d).size = d.size ∧ (dnext d).rest.length ≤ d.rest.length := by
  obtain ⟨rest, code, size, missing, full⟩ := d
  cases rest with
  | nil => simp only [dnext]; refine ⟨?_, ?_, trivial, Nat.le_refl _⟩ <;> omega
  | cons c r =>
    have := c.toNat_lt
    simp only [dnext, List.length_cons]; refine ⟨?_, ?_, trivial, ?_⟩ <;> omega

/-- A decoder of bytes. -/
def dnew (l : List UInt8) : Dec :=
  let d := dnext (dnext (dnext (dnext ⟨l, 0, 4294967295, false, false⟩)))
  { d with full := decide (d.code = d.size) }
def dnexts : Nat → Dec → Dec
  | 0, d => d
  | k + 1, d => dnexts k (dnext d)
theorem NewDecoder_any (l : List UInt8) (h : SH) (hl : l.length ≤ 1000000) : SRun Try.prog 25 [S l] h fun r q => ∃ n, r = gptr n 0 5 ∧ q = decB n (dnew l) :: h := by
  refine w_body1 Try.func25 rfl rfl ?_
  repeat' (first | apply w_seq | apply w_region | apply o_nil | (apply o_g tyOk; exact rfl; exact rfl) | (apply o_box (tt := tyT); iterate 5 exact rfl) | (apply o_build tyOk; exact rfl; exact rfl; (focus (first | with_reducible exact pl107)); exact rfl; (focus (repeat (first | exact BuildR.nil | (apply BuildR.one; exact rfl; exact rfl; (first | (focus ((repeat (first | exact SetAt.zero | apply SetAt.succ)); done)) | exact setAt_bytes (by omega) (by omega) | exact setAt_mapZ (by omega) | exact setAt_map (by omega))) | (apply BuildR.agg; exact rfl; exact rfl; (first | exact putAt_all rfl | exact putAt_recZ (fun _ => rfl) (by omega) | exact putAt_rec (fun _ => rfl) (by omega)))))); exact rfl) | apply thenS_normal | apply w_block | ((with_reducible apply Sd.mk); (first | exact True.intro | omega | (constructor <;> first | omega | (unfold maxLen; omega)) | (unfold maxLen; omega))) | intro A)
  refine w_loop (S := Nat × Dec) (fun x => [(3, gptr A 0 5), (7, I x.1)]) (fun x => decB A x.2 :: h) (fun x => x.1 ≤ 4 ∧ x.2.rest.length ≤ 1000000 ∧ dnexts (4 - x.1) x.2 = dnexts 4 ⟨l, 0, 4294967295, false, false⟩) (fun x => 4 - x.1)
    (0, ⟨l, 0, 4294967295, false, false⟩) ⟨by omega, hl, rfl⟩ (by repeat' (first | exact trivial | refine ⟨rfl, ?_⟩ | refine ⟨congrArg some ?_, ?_⟩)) (by repeat (first | with_reducible exact Take.nil | with_reducible apply Take.c | ((with_reducible apply Take.cE); (first | exact rfl | (apply blkE; (focus (first | exact rfl | exact recs_snocE rfl | exact map_snocE rfl | exact congrArg (fun v => [v]) (gslE rfl rfl (by first | rfl | exact ‹_› | omega | (simp ; first | done | omega)) (by first | rfl | exact ‹_› | omega | (simp ; first | done | omega)) rfl)))))) | with_reducible apply Take.drop)) ?_
  rintro ⟨k, d⟩ ⟨hk, hd, he⟩
  dsimp only at *
  by_cases hkl : k < 4
  · repeat' (first | apply w_seq | apply w_region | apply o_nil | (apply o_g tyOk; exact rfl; exact rfl) | (apply o_ar tyOk; exact rfl; exact rfl) | (apply o_call; exact rfl; exact rfl; (focus (first | exact rfl | assumption)); exact rfl; (focus (exact ⟨_, next_any _ d _ (by omega), by repeat (first | with_reducible exact Take.nil | with_reducible apply Take.c | with_reducible apply Take.drop)⟩)); rintro _ _ rfl) | (apply w_dT; exact rfl; (focus (first | exact ‹_› | with_reducible exact rfl | omega))) | apply thenS_normal | apply blockS_normal | apply w_skip | apply w_block | ((with_reducible apply Sd.mk); (first | exact True.intro | omega | (constructor <;> first | omega | (unfold maxLen; omega)) | (unfold maxLen; omega))) | ((with_reducible apply Wr.mk); (first | exact w_shl8u _ | exact w_quoU (by omega) (by omega) | exact w_or8 _ _ (by omega) | exact IntWalk.i64_in _ (by omega) | exact IntWalk.u8_in _ (by omega) | exact IntWalk.u32_in _ (by omega) | exact IntWalk.u64_in _ (by omega) | exact IntKind.wrap_u8 _ | exact IntKind.wrap_u32 _ | rfl)))
    exact ⟨(k + 1, dnext d), ⟨hkl, by have := (dnext_ok d).2.2.2; show (dnext d).rest.length ≤ _; omega, by rw [← he, show 4 - k = (4 - (k + 1)) + 1 by omega]; rfl⟩, by show 4 - (k + 1) < 4 - k; omega, (by repeat' (first | exact trivial | refine ⟨rfl, ?_⟩ | refine ⟨congrArg some ?_, ?_⟩)), (by repeat (first | with_reducible exact Take.nil | with_reducible apply Take.c | ((with_reducible apply Take.cE); (first | exact rfl | (apply blkE; (focus (first | exact rfl | exact recs_snocE rfl | exact map_snocE rfl | exact congrArg (fun v => [v]) (gslE rfl rfl (by first | rfl | exact ‹_› | omega | (simp ; first | done | omega)) (by first | rfl | exact ‹_› | omega | (simp ; first | done | omega)) rfl)))))) | with_reducible apply Take.drop))⟩
  · rw [show 4 - k = 0 by omega] at he
    obtain rfl : d = dnexts 4 ⟨l, 0, 4294967295, false, false⟩ := he
    repeat' (first | apply w_seq | apply w_region | apply o_nil | (apply w_draw; (focus (kernel_rfl)); (focus (kernel_rfl))) | (apply o_g tyOk; exact rfl; exact rfl) | (apply o_load tyOk; (iterate 3 exact rfl); (focus (exact pk))) | (apply o_store tyOk; (iterate 4 exact rfl); (focus (exact up))) | (apply w_dF; exact rfl; (focus (first | exact ‹_› | with_reducible exact rfl | omega))) | apply thenS_normal | apply thenS_exit | apply blockS_exit | apply w_ret | apply w_exit | ((with_reducible apply Sd.mk); (first | exact True.intro | omega | (constructor <;> first | omega | (unfold maxLen; omega)) | (unfold maxLen; omega))) | ((with_reducible apply Ln.mk); (first | rfl | exact ‹_› | omega | (simp ; first | done | omega))) | ((with_reducible apply Ce.mk); (first | rfl | exact ‹_› | exact cell_recZ (fun _ => rfl) (by omega) (by decide) rfl | exact cell_rec (fun _ => rfl) (by omega) (by decide) rfl | exact cell_bytes (by omega) | exact cell_mapZ (by omega) | exact cell_map (by omega))) | ((with_reducible apply Se.mk); (first | (focus ((repeat (first | exact SetAt.zero | apply SetAt.succ)); done)) | exact setAt_bytes (by omega) (by omega) | exact setAt_mapZ (by omega) | exact setAt_map (by omega))) | exact True.intro | exact Or.inl rfl | apply And.intro | exact rfl)
    (apply s_fin; (exact (show ResS _ _ _ _ [_] from ⟨rfl, trivial⟩)); (focus (exact ⟨A, rfl, rfl⟩)); (focus (repeat (first | with_reducible exact Take.nil | with_reducible apply Take.c | ((with_reducible apply Take.cE); (first | exact rfl | (apply blkE; (focus (first | exact rfl | exact recs_snocE rfl | exact map_snocE rfl | exact congrArg (fun v => [v]) (gslE rfl rfl (by first | rfl | exact ‹_› | omega | (simp ; first | done | omega)) (by first | rfl | exact ‹_› | omega | (simp ; first | done | omega)) rfl)))))) | with_reducible apply Take.drop))))

def dnorm : Nat → Dec → Dec
  | 0, d => d
  | k + 1, d => if d.size < 16777216 then dnorm k { dnext d with size := (dnext d).size * 256 } else d
def dstep (d : Dec) (z : Int) : Dec × Int := if d.code < bound d.size z then ({ d with size := bound d.size z }, 0) else ({ d with code := d.code - bound d.size z, size := d.size - bound d.size z }, 1)
def dbit (d : Dec) (z : Int) : Dec × Int := (dnorm 2 (dstep d z).1, (dstep d z).2)
theorem dstep_ok {d : Dec} (h : DecOk d) (z : Int) : (dstep d z).1.rest.length ≤ 1000000 ∧ (0 ≤ (dstep d z).1.code ∧ (dstep d z).1.code ≤ 4294967295) ∧ 8192 ≤ (dstep d z).1.size ∧ (dstep d z).1.size ≤ 4294967295 := by
  have h1 := size_dvd h.size z
  have := h.rest; have := h.code; have := h.size
  unfold dstep
  split <;> (dsimp only; omega)
theorem dnorm_go {k : Nat} {d : Dec} (h : d.size < 16777216) (g : 16777216 ≤ d.size * 256 ^ k) : ∃ k', k = k' + 1 ∧ dnorm k d = dnorm k' { dnext d with size := (dnext d).size * 256 } ∧ 16777216 ≤ (dnext d).size * 256 * 256 ^ k' := by
  cases k with
  | zero => simp at g; omega
  | succ k =>
    refine ⟨k, rfl, if_pos h, ?_⟩
    rw [(dnext_ok d).2.2.1, Int.mul_assoc, ← Int.pow_succ']; exact g
theorem dnorm_end {k : Nat} {d : Dec} (h : ¬ d.size < 16777216) : dnorm k d = d := by
  cases k with
  | zero => rfl
  | succ k => exact if_neg h
theorem dnorm_ok : ∀ {k : Nat} {d : Dec}, d.rest.length ≤ 1000000 → (0 ≤ d.code ∧ d.code ≤ 4294967295) → 16777216 ≤ d.size * 256 ^ k → d.size ≤ 4294967295 → DecOk (dnorm k d)
  | 0, d, h1, h2, h3, h4 => ⟨h1, h2, by show 16777216 ≤ d.size ∧ d.size ≤ _; simp at h3; omega⟩
  | k + 1, d, h1, h2, h3, h4 => by
    by_cases hc : d.size < 16777216
    · obtain ⟨k', e0, e1, e2⟩ := dnorm_go hc h3
      obtain rfl : k = k' := by omega
      obtain ⟨g1, g2, g3, g4⟩ := dnext_ok d
      rw [e1]
      exact dnorm_ok (by show (dnext d).rest.length ≤ _; omega) ⟨g1, g2⟩ e2 (by show (dnext d).size * 256 ≤ _; omega)
    · rw [dnorm_end hc]; exact ⟨h1, h2, by omega⟩
theorem dbit_ok {d : Dec} (h : DecOk d) (z : Int) : DecOk (dbit d z).1 := by
  have h4 := dstep_ok h z
  exact dnorm_ok h4.1 h4.2.1 (by omega) h4.2.2.2
theorem dnew_ok {l : List UInt8} (hl : l.length ≤ 1000000) : DecOk (dnew l) := by
  have h1 := dnext_ok ⟨l, 0, 4294967295, false, false⟩
  have h2 := dnext_ok (dnext ⟨l, 0, 4294967295, false, false⟩)
  have h3 := dnext_ok (dnext (dnext ⟨l, 0, 4294967295, false, false⟩))
  have h4 := dnext_ok (dnext (dnext (dnext ⟨l, 0, 4294967295, false, false⟩)))
  refine ⟨?_, ⟨h4.1, h4.2.1⟩, ?_⟩
  · have : ∀ d : Dec, d.rest.length = d.rest.length := fun _ => rfl
    show (dnext (dnext (dnext (dnext ⟨l, 0, 4294967295, false, false⟩)))).rest.length ≤ _
    dsimp only at h1; omega
  · show 16777216 ≤ (dnext (dnext (dnext (dnext ⟨l, 0, 4294967295, false, false⟩)))).size ∧ (dnext (dnext (dnext (dnext ⟨l, 0, 4294967295, false, false⟩)))).size ≤ _
    dsimp only at h1; omega

theorem dBit_any (n : Nat) (z : Int) (d : Dec) (h : SH) (hok : DecOk d) :
    SRun Try.prog 63 [gptr n 0 5, I z] (decB n d :: h) fun r q => r = I (dbit d z).2 ∧ q = decB n (dbit d z).1 :: h := by
  have hd := size_dvd hok.size z
  unfold bound at hd
  have hz := clp_in z
  have h1 := hok.code; have h2 := hok.size; have h3 := hok.rest
  unfold dbit
  have h4 := dstep_ok hok z
  generalize hs : dstep d z = s at h4
  refine w_body2 Try.func63 rfl rfl ?_
  repeat' ((fail_if_success (show SWp _ _ (Code.cond (Operand.tmp 20) _ _) _ _ _)); first | apply w_seq | apply w_region | apply o_nil | (apply w_draw; (focus (kernel_rfl)); (focus (kernel_rfl))) | (apply o_g tyOk; exact rfl; exact rfl) | (apply o_ar tyOk; exact rfl; exact rfl) | (apply o_load tyOk; (iterate 3 exact rfl); (focus (exact pk))) | (apply o_callD; (iterate 4 exact rfl); (focus (exact ⟨_, clamp_any _ _, by repeat (first | with_reducible exact Take.nil | with_reducible apply Take.c | with_reducible apply Take.drop)⟩)); (focus (exact fun _ _ h => h.1)); (focus ((repeat (first | exact Flat.c rfl | apply flat_tuple | apply flat_agg | exact FlatL.nil | apply FlatL.cons))))) | apply thenS_normal | ((with_reducible apply Sd.mk); (first | exact True.intro | omega | (constructor <;> first | omega | (unfold maxLen; omega)) | (unfold maxLen; omega))) | ((with_reducible apply Ln.mk); (first | rfl | exact ‹_› | omega | (simp ; first | done | omega))) | ((with_reducible apply Wr.mk); (first | exact w_shl8u _ | exact w_quoU (by omega) (by omega) | exact w_or8 _ _ (by omega) | exact IntWalk.i64_in _ (by omega) | exact IntWalk.u8_in _ (by omega) | exact IntWalk.u32_in _ (by omega) | exact IntWalk.u64_in _ (by omega) | exact IntKind.wrap_u8 _ | exact IntKind.wrap_u32 _ | rfl)) | ((with_reducible apply Ce.mk); (first | rfl | exact ‹_› | exact cell_recZ (fun _ => rfl) (by omega) (by decide) rfl | exact cell_rec (fun _ => rfl) (by omega) (by decide) rfl | exact cell_bytes (by omega) | exact cell_mapZ (by omega) | exact cell_map (by omega))) | exact True.intro | exact rfl)
  refine w_meet (S := Unit) (fun _ => [(0, gptr n 0 5), (6, I s.2)]) (fun _ => decB n s.1 :: h) (fun q => True) ?_ ?_
  · unfold dstep bound at hs
    repeat' (first | apply w_region | apply o_nil | (apply w_draw; (focus (kernel_rfl)); (focus (kernel_rfl))) | (apply o_g tyOk; exact rfl; exact rfl) | (apply o_ar tyOk; exact rfl; exact rfl) | (apply o_load tyOk; (iterate 3 exact rfl); (focus (exact pk))) | (apply o_store tyOk; (iterate 4 exact rfl); (focus (exact up))) | (apply w_if; exact rfl; all_goals intro hc) | apply thenS_normal | ((with_reducible apply Sd.mk); (first | exact True.intro | omega | (constructor <;> first | omega | (unfold maxLen; omega)) | (unfold maxLen; omega))) | ((with_reducible apply Ln.mk); (first | rfl | exact ‹_› | omega | (simp ; first | done | omega))) | ((with_reducible apply Wr.mk); (first | exact w_shl8u _ | exact w_quoU (by omega) (by omega) | exact w_or8 _ _ (by omega) | exact IntWalk.i64_in _ (by omega) | exact IntWalk.u8_in _ (by omega) | exact IntWalk.u32_in _ (by omega) | exact IntWalk.u64_in _ (by omega) | exact IntKind.wrap_u8 _ | exact IntKind.wrap_u32 _ | rfl)) | ((with_reducible apply Ce.mk); (first | rfl | exact ‹_› | exact cell_recZ (fun _ => rfl) (by omega) (by decide) rfl | exact cell_rec (fun _ => rfl) (by omega) (by decide) rfl | exact cell_bytes (by omega) | exact cell_mapZ (by omega) | exact cell_map (by omega))) | ((with_reducible apply Se.mk); (first | (focus ((repeat (first | exact SetAt.zero | apply SetAt.succ)); done)) | exact setAt_bytes (by omega) (by omega) | exact setAt_mapZ (by omega) | exact setAt_map (by omega))) | exact True.intro | exact Or.inl rfl | apply And.intro | exact rfl)
    · rw [if_pos hc] at hs; subst hs
      exact ⟨(), trivial, (by repeat' (first | exact trivial | refine ⟨rfl, ?_⟩ | refine ⟨congrArg some ?_, ?_⟩)), (by repeat (first | with_reducible exact Take.nil | with_reducible apply Take.c | ((with_reducible apply Take.cE); (first | exact rfl | (apply blkE; (focus (first | exact rfl | exact recs_snocE rfl | exact map_snocE rfl | exact congrArg (fun v => [v]) (gslE rfl rfl (by first | rfl | exact ‹_› | omega | (simp ; first | done | omega)) (by first | rfl | exact ‹_› | omega | (simp ; first | done | omega)) rfl)))))) | with_reducible apply Take.drop))⟩
    · rw [if_neg hc] at hs; subst hs
      exact ⟨(), trivial, (by repeat' (first | exact trivial | refine ⟨rfl, ?_⟩ | refine ⟨congrArg some ?_, ?_⟩)), (by repeat (first | with_reducible exact Take.nil | with_reducible apply Take.c | ((with_reducible apply Take.cE); (first | exact rfl | (apply blkE; (focus (first | exact rfl | exact recs_snocE rfl | exact map_snocE rfl | exact congrArg (fun v => [v]) (gslE rfl rfl (by first | rfl | exact ‹_› | omega | (simp ; first | done | omega)) (by first | rfl | exact ‹_› | omega | (simp ; first | done | omega)) rfl)))))) | with_reducible apply Take.drop))⟩
  · rintro - -
    repeat' (first | apply w_seq | apply w_block)
    refine w_loop (S := Nat × Dec) (fun x => [(0, gptr n 0 5), (6, I s.2)]) (fun x => decB n x.2 :: h) (fun x => dnorm x.1 x.2 = dnorm 2 s.1 ∧ 16777216 ≤ x.2.size * 256 ^ x.1 ∧ 0 < x.2.size ∧ x.2.size ≤ 4294967295 ∧ (0 ≤ x.2.code ∧ x.2.code ≤ 4294967295) ∧ x.2.rest.length ≤ 1000000)
      (fun x => x.1) (2, s.1) ⟨rfl, by show _ ≤ s.1.size * 256 ^ 2; omega, by show 0 < s.1.size; omega, by show s.1.size ≤ _; omega, h4.2.1, h4.1⟩ (by repeat' (first | exact trivial | refine ⟨rfl, ?_⟩ | refine ⟨congrArg some ?_, ?_⟩)) (by repeat (first | with_reducible exact Take.nil | with_reducible apply Take.c | ((with_reducible apply Take.cE); (first | exact rfl | (apply blkE; (focus (first | exact rfl | exact recs_snocE rfl | exact map_snocE rfl | exact congrArg (fun v => [v]) (gslE rfl rfl (by first | rfl | exact ‹_› | omega | (simp ; first | done | omega)) (by first | rfl | exact ‹_› | omega | (simp ; first | done | omega)) rfl)))))) | with_reducible apply Take.drop)) ?_
    rintro ⟨k, d⟩ ⟨he, g1, g2, g3, g4, g5⟩
    dsimp only at he g1 g2 g3 g4 g5 ⊢
    obtain ⟨q1, q2, q3, q4⟩ := dnext_ok d
    repeat' (first | apply w_seq | apply w_region | apply o_nil | (apply o_g tyOk; exact rfl; exact rfl) | (apply o_ar tyOk; exact rfl; exact rfl) | (apply o_load tyOk; (iterate 3 exact rfl); (focus (exact pk))) | (apply o_store tyOk; (iterate 4 exact rfl); (focus (exact up))) | (apply o_call; exact rfl; exact rfl; (focus (first | exact rfl | assumption)); exact rfl; (focus (exact ⟨_, next_any _ d _ (by omega), by repeat (first | with_reducible exact Take.nil | with_reducible apply Take.c | with_reducible apply Take.drop)⟩)); rintro _ _ rfl) | (apply w_if; exact rfl; all_goals intro hc) | apply thenS_normal | apply thenS_exit | apply blockS_normal | apply blockS_exit | apply w_skip | apply w_ret | apply w_exit | apply w_block | ((with_reducible apply Sd.mk); (first | exact True.intro | omega | (constructor <;> first | omega | (unfold maxLen; omega)) | (unfold maxLen; omega))) | ((with_reducible apply Ln.mk); (first | rfl | exact ‹_› | omega | (simp ; first | done | omega))) | ((with_reducible apply Wr.mk); (first | exact w_shl8u _ | exact w_quoU (by omega) (by omega) | exact w_or8 _ _ (by omega) | exact IntWalk.i64_in _ (by omega) | exact IntWalk.u8_in _ (by omega) | exact IntWalk.u32_in _ (by omega) | exact IntWalk.u64_in _ (by omega) | exact IntKind.wrap_u8 _ | exact IntKind.wrap_u32 _ | rfl)) | ((with_reducible apply Ce.mk); (first | rfl | exact ‹_› | exact cell_recZ (fun _ => rfl) (by omega) (by decide) rfl | exact cell_rec (fun _ => rfl) (by omega) (by decide) rfl | exact cell_bytes (by omega) | exact cell_mapZ (by omega) | exact cell_map (by omega))) | ((with_reducible apply Se.mk); (first | (focus ((repeat (first | exact SetAt.zero | apply SetAt.succ)); done)) | exact setAt_bytes (by omega) (by omega) | exact setAt_mapZ (by omega) | exact setAt_map (by omega))) | exact True.intro | exact rfl)
    · obtain ⟨k', rfl, e1, e2⟩ := dnorm_go hc g1
      rw [show (dnext d).size * 256 % 4294967296 = (dnext d).size * 256 by omega]
      exact ⟨(k', { dnext d with size := (dnext d).size * 256 }), ⟨by rw [← e1]; exact he, e2, by show 0 < (dnext d).size * 256; omega, by show (dnext d).size * 256 ≤ _; omega, ⟨q1, q2⟩, by show (dnext d).rest.length ≤ _; omega⟩, by show k' < k' + 1; omega, (by repeat' (first | exact trivial | refine ⟨rfl, ?_⟩ | refine ⟨congrArg some ?_, ?_⟩)), (by repeat (first | with_reducible exact Take.nil | with_reducible apply Take.c | ((with_reducible apply Take.cE); (first | exact rfl | (apply blkE; (focus (first | exact rfl | exact recs_snocE rfl | exact map_snocE rfl | exact congrArg (fun v => [v]) (gslE rfl rfl (by first | rfl | exact ‹_› | omega | (simp ; first | done | omega)) (by first | rfl | exact ‹_› | omega | (simp ; first | done | omega)) rfl)))))) | with_reducible apply Take.drop))⟩
    · rw [dnorm_end hc] at he
      (apply s_fin; (exact (show ResS _ _ _ _ [_] from ⟨rfl, trivial⟩)); (focus (rw [← he]; exact ⟨rfl, rfl⟩)); (focus (repeat (first | with_reducible exact Take.nil | with_reducible apply Take.c | ((with_reducible apply Take.cE); (first | exact rfl | (apply blkE; (focus (first | exact rfl | exact recs_snocE rfl | exact map_snocE rfl | exact congrArg (fun v => [v]) (gslE rfl rfl (by first | rfl | exact ‹_› | omega | (simp ; first | done | omega)) (by first | rfl | exact ‹_› | omega | (simp ; first | done | omega)) rfl)))))) | with_reducible apply Take.drop))))
end Go.Proofs.Ytinfmojbdaiogaa
end
section
set_option linter.unusedVariables false
set_option linter.unusedSimpArgs false
set_option maxRecDepth 4000
namespace Go.Proofs.Ytinfmojbdaiogaa
open Go.Gh Go.RowKit

theorem dbit_bit (d : Dec) (z : Int) : 0 ≤ (dbit d z).2 ∧ (dbit d z).2 < 2 := by
  show 0 ≤ (dstep d z).2 ∧ (dstep d z).2 < 2
  unfold dstep; split <;> (dsimp only; omega)
def dend (d : Dec) : Int := if d.missing = true ∨ d.full = true ∨ d.rest ≠ [] ∨ d.code ≠ 0 then 12 else 0
theorem End_any (n : Nat) (d : Dec) (h : SH) : SRun Try.prog 29 [gptr n 0 5] (decB n d :: h) fun r q => r = Er (dend d) ∧ q = decB n d :: h := by
  obtain ⟨rest, code, size, missing, full⟩ := d
  show SRun _ _ _ ((n, ⟨[S rest, U code, U size, B missing, B full], false⟩) :: h) _
  refine w_body1 Try.func29 rfl rfl ?_
  cases missing <;> cases full
  all_goals repeat' (first | apply w_seq | apply w_region | apply o_nil | (apply o_g tyOk; exact rfl; exact rfl) | (apply o_load tyOk; (iterate 3 exact rfl); (focus (exact pk))) | (apply o_want; exact rfl; exact rfl) | (apply o_skip; iterate 4 exact rfl) | (apply o_guardFN; (iterate 3 exact rfl); all_goals intro hc) | (apply w_true; exact rfl) | (apply w_ifN; exact rfl; all_goals intro hc) | apply thenS_normal | apply thenS_ret | apply w_skip | apply w_ret | ((with_reducible apply Sd.mk); (first | exact True.intro | omega | (constructor <;> first | omega | (unfold maxLen; omega)) | (unfold maxLen; omega))) | ((with_reducible apply Ln.mk); (first | rfl | exact ‹_› | omega | (simp ; first | done | omega))) | ((with_reducible apply Ce.mk); (first | rfl | exact ‹_› | exact cell_recZ (fun _ => rfl) (by omega) (by decide) rfl | exact cell_rec (fun _ => rfl) (by omega) (by decide) rfl | exact cell_bytes (by omega) | exact cell_mapZ (by omega) | exact cell_map (by omega))) | exact True.intro | exact rfl)
  all_goals (apply s_fin; (exact (show ResS _ _ _ _ [_] from ⟨rfl, trivial⟩)); (focus (refine ⟨?_, rfl⟩; show Er _ = Er _; first | rfl | (unfold dend; dsimp only; first | (rw [if_pos]; (simp_all; done)) | (rw [if_neg]; (simp_all; done))))); (focus (repeat (first | with_reducible exact Take.nil | with_reducible apply Take.c | ((with_reducible apply Take.cE); (first | exact rfl | (apply blkE; (focus (first | exact rfl | exact recs_snocE rfl | exact map_snocE rfl | exact congrArg (fun v => [v]) (gslE rfl rfl (by first | rfl | exact ‹_› | omega | (simp ; first | done | omega)) (by first | rfl | exact ‹_› | omega | (simp ; first | done | omega)) rfl)))))) | with_reducible apply Take.drop))))

theorem take_set {α : Type} {b : α} : ∀ {l : List α} {k : Nat}, k < l.length → (l.set k b).take (k + 1) = l.take k ++ [b]
  | [], k, h => by simp at h
  | x :: r, 0, h => by simp
  | x :: r, k + 1, h => by simp only [List.set_cons_succ, List.take_succ_cons, List.cons_append]; rw [take_set (by simpa using h)]
end Go.Proofs.Ytinfmojbdaiogaa
end
section
set_option linter.unusedVariables false
set_option linter.unusedSimpArgs false
set_option maxRecDepth 4000
namespace Go.Gh
open Go.RowKit

/-- A value under other names: u is v, where A is named ρ A. -/
inductive VR (ρ : Nat → Nat) (D : Nat → Prop) : Value → Value → Prop
  | const {v} (h : constOk v = true) : VR ρ D v v
  | ptr {A o n} (h : D A) : VR ρ D (.pointer (some ⟨A, o, some n⟩)) (.pointer (some ⟨ρ A, o, some n⟩))
  | slc {A o n len fl} (h : D A) : VR ρ D (.slice (some ⟨A, o, some n⟩) len fl) (.slice (some ⟨ρ A, o, some n⟩) len fl)
  | sdead : VR ρ D (.slice (some ⟨0, 0, none⟩) 0 0) (.slice (some ⟨0, 0, none⟩) 0 0)
  | agg {a b : Array Value} (h1 : a.size = b.size) (h2 : ∀ i (h : i < a.size) (h' : i < b.size), VR ρ D a[i] b[i]) : VR ρ D (.agg a) (.agg b)
  | tuple {a b : Array Value} (h1 : a.size = b.size) (h2 : ∀ i (h : i < a.size) (h' : i < b.size), VR ρ D a[i] b[i]) : VR ρ D (.tuple a) (.tuple b)
  | func {f : Fn} {a b c d : Array Value} (h1 : a.size = b.size) (h2 : ∀ i (h : i < a.size) (h' : i < b.size), VR ρ D a[i] b[i])
      (h3 : c.size = d.size) (h4 : ∀ i (h : i < c.size) (h' : i < d.size), VR ρ D c[i] d[i]) : VR ρ D (.func f a c) (.func f b d)
inductive VRs (ρ : Nat → Nat) (D : Nat → Prop) : List Value → List Value → Prop
  | nil : VRs ρ D [] []
  | cons {u v l m} (h : VR ρ D u v) (k : VRs ρ D l m) : VRs ρ D (u :: l) (v :: m)
theorem VRs.len {ρ : Nat → Nat} {D : Nat → Prop} {l m : List Value} (h : VRs ρ D l m) : l.length = m.length := by
  induction h with
  | nil => rfl
  | cons _ _ ih => simp [ih]
theorem VRs.get {ρ : Nat → Nat} {D : Nat → Prop} {l m : List Value} (h : VRs ρ D l m) : ∀ {i : Nat} {u : Value}, l[i]? = some u → ∃ v, m[i]? = some v ∧ VR ρ D u v := by
  induction h with
  | nil => intro i u h; simp at h
  | @cons u v l m h _ ih =>
    intro i w hw
    cases i with
    | zero => simp only [List.getElem?_cons_zero, Option.some.injEq] at hw; subst hw; exact ⟨v, rfl, h⟩
    | succ i => exact ih (by simpa using hw)
theorem VRs.at {ρ : Nat → Nat} {D : Nat → Prop} {l m : List Value} (h : VRs ρ D l m) (i : Nat) (h1 : i < (Array.mk l).size) (h2 : i < (Array.mk m).size) : VR ρ D (Array.mk l)[i] (Array.mk m)[i] := by
  obtain ⟨v, g1, g2⟩ := h.get (i := i) (u := l[i]'(by simpa using h1)) (List.getElem?_eq_getElem _)
  have : (Array.mk m)[i] = v := by
    have h2' : i < m.length := by simpa using h2
    rw [List.getElem?_eq_getElem h2'] at g1
    simpa using g1
  rw [this]; exact g2
theorem VRs.agg {ρ : Nat → Nat} {D : Nat → Prop} {l m : List Value} (h : VRs ρ D l m) : VR ρ D (.agg ⟨l⟩) (.agg ⟨m⟩) := .agg (by simpa using h.len) h.at
theorem VRs.tuple {ρ : Nat → Nat} {D : Nat → Prop} {l m : List Value} (h : VRs ρ D l m) : VR ρ D (.tuple ⟨l⟩) (.tuple ⟨m⟩) := .tuple (by simpa using h.len) h.at
theorem VRs.const {ρ : Nat → Nat} {D : Nat → Prop} : ∀ {l : List Value}, (∀ v ∈ l, constOk v = true) → VRs ρ D l l
  | [], _ => .nil
  | _ :: _, h => .cons (.const (h _ List.mem_cons_self)) (VRs.const fun v hv => h v (List.mem_cons_of_mem _ hv))
theorem VRs.app {ρ : Nat → Nat} {D : Nat → Prop} {l m l' m' : List Value} (h : VRs ρ D l m) (k : VRs ρ D l' m') : VRs ρ D (l ++ l') (m ++ m') := by
  induction h with
  | nil => exact k
  | cons h _ ih => exact .cons h ih
theorem VR.val {ρ : Nat → Nat} {D : Nat → Prop} {φ : Nat → Loc} {L L' : Lens} {u v : Value} (h : VR ρ D u v) (hD : ∀ A, D A → L' A = L (ρ A)) : ∀ {v' : Value}, Val φ L v v' → Val (fun A => φ (ρ A)) L' u v' := by
  induction h with
  | const hc => intro v' hv; rw [Val.det hc hv]; exact Val.const hc
  | @ptr A o n h =>
    intro v' hv
    generalize hq : Value.pointer (some ⟨ρ A, o, some n⟩) = q at hv
    cases hv with
    | ptr A' o' v' n' c hL hv h' => cases hq; exact .ptr _ _ _ _ _ (by rw [hD _ h]; exact hL) hv h'
    | _ => cases hq
  | @slc A o n len fl h =>
    intro v' hv
    generalize hq : Value.slice (some ⟨ρ A, o, some n⟩) len fl = q at hv
    cases hv with
    | slc A' o' v' n' len' fl' cap c hL hv hc hm h' => cases hq; exact .slc _ _ _ _ _ _ _ _ (by rw [hD _ h]; exact hL) hv hc hm h'
    | sdead => simp at hq
    | _ => cases hq
  | sdead => intro v' hv; cases hv with | sdead c cap hm => exact .sdead c cap hm
  | agg h1 _ ih => intro v' hv; cases hv with | agg a b g1 g2 => exact .agg _ _ (h1.trans g1) fun i hi hi' => ih i hi (by omega) (g2 i (by omega) hi')
  | tuple h1 _ ih => intro v' hv; cases hv with | tuple a b g1 g2 => exact .tuple _ _ (h1.trans g1) fun i hi hi' => ih i hi (by omega) (g2 i (by omega) hi')
  | func h1 _ h3 _ ih1 ih2 =>
    intro v' hv
    cases hv with
    | func f a b c d g1 g2 g3 g4 => exact .func _ _ _ _ _ (h1.trans g1) (fun i hi hi' => ih1 i hi (by omega) (g2 i (by omega) hi')) (h3.trans g3) fun i hi hi' => ih2 i hi (by omega) (g4 i (by omega) hi')
/-- A value that was there before: it reads as it read. -/
theorem old_val {D : Nat → Prop} {φ φ1 φ2 : Nat → Loc} {L L1 L2 : Lens} (hL : ∀ A m, L A = some m → D A) (h12 : ∀ A, D A → φ2 A = φ1 A ∧ L2 A = L1 A) {v v' : Value} (h : Val φ1 L1 v v') : ∀ {v0 : Value}, Val φ L v v0 → Val φ2 L2 v v' := by
  induction h with
  | bool b => intro v0 _; exact .bool b
  | int k n => intro v0 _; exact .int k n
  | str s => intro v0 _; exact .str s
  | pnil => intro v0 _; exact .pnil
  | ptr A o v n c h1 h2 h3 =>
    intro v0 h0
    generalize hq : Value.pointer (some ⟨A, o, some v⟩) = q at h0
    cases h0 with
    | ptr A' o' v' n' c' hL' hv' h' =>
      cases hq
      obtain ⟨e1, e2⟩ := h12 _ (hL _ _ hL')
      exact .ptr _ _ _ _ _ (by rw [e2]; exact h1) h2 (by rw [e1]; exact h3)
    | _ => cases hq
  | snil => intro v0 _; exact .snil
  | slc A o v n len fl cap c h1 h2 hc hm h3 =>
    intro v0 h0
    generalize hq : Value.slice (some ⟨A, o, some v⟩) len fl = q at h0
    cases h0 with
    | slc A' o' v' n' len' fl' cap' c' hL' hv' hc' hm' h' =>
      cases hq
      obtain ⟨e1, e2⟩ := h12 _ (hL _ _ hL')
      exact .slc _ _ _ _ _ _ _ _ (by rw [e2]; exact h1) h2 hc hm (by rw [e1]; exact h3)
    | _ => cases hq
  | full A o v n len c h1 h2 hm h3 =>
    intro v0 h0
    generalize hq : Value.slice (some ⟨A, o, none⟩) len (v + 1) = q at h0
    cases h0 with
    | full A' o' v' n' len' c' hL' hv' hm' h' =>
      cases hq
      obtain ⟨e1, e2⟩ := h12 _ (hL _ _ hL')
      exact .full _ _ _ _ _ _ (by rw [e2]; exact h1) h2 hm (by rw [e1]; exact h3)
    | sdead => simp at hq
    | _ => cases hq
  | map A n r h1 h3 =>
    intro v0 h0
    generalize hq : Value.map (some A) = q at h0
    cases h0 with
    | map A' n' r' hL' h' =>
      cases hq
      obtain ⟨e1, e2⟩ := h12 _ (hL _ _ hL')
      exact .map _ n _ (by rw [e2]; exact h1) (by rw [e1]; exact h3)
    | _ => cases hq
  | sdead c cap hm => intro v0 _; exact .sdead c cap hm
  | mnil => intro v0 _; exact .mnil
  | func f a b c d h1 _ h3 _ ih1 ih2 =>
    intro v0 h0
    cases h0 with
    | func _ _ b' _ d' g1 g2 g3 g4 => exact .func f a b c d h1 (fun i hi hi' => ih1 i hi hi' (g2 i hi (by omega))) h3 (fun i hi hi' => ih2 i hi hi' (g4 i hi (by omega)))
  | fnil => intro v0 _; exact .fnil
  | inil => intro v0 _; exact .inil
  | iface t v v' _ ih => intro v0 h0; cases h0 with | iface _ _ _ h => exact .iface t v v' (ih h)
  | agg a b h1 _ ih => intro v0 h0; cases h0 with | agg _ b' g1 g2 => exact .agg a b h1 fun i hi hi' => ih i hi hi' (g2 i hi (by omega))
  | tuple a b h1 _ ih => intro v0 h0; cases h0 with | tuple _ b' g1 g2 => exact .tuple a b h1 fun i hi hi' => ih i hi hi' (g2 i hi (by omega))

/-- Blocks under other names; of p those that did not turn. -/
inductive SHR (ρ : Nat → Nat) (D : Nat → Prop) (p : SH) : SH → SH → Prop
  | nil : SHR ρ D p [] []
  | same {h} (k : ∀ x ∈ h, x ∈ p) : SHR ρ D p h h
  | cons {A A' c c' ro h h'} (e : ρ A = A') (h1 : VRs ρ D c c') (k : SHR ρ D p h h') : SHR ρ D p ((A, ⟨c, ro⟩) :: h) ((A', ⟨c', ro⟩) :: h')
  | keep {x h h'} (e : x ∈ p) (k : SHR ρ D p h h') : SHR ρ D p (x :: h) (x :: h')
theorem SHR.get {ρ : Nat → Nat} {D : Nat → Prop} {p h h' : SH} (k : SHR ρ D p h h') (hp : ∀ y ∈ p, ρ y.1 = y.1) : ∀ x ∈ h, (x ∈ p ∧ x ∈ h') ∨ ∃ c', (ρ x.1, ⟨c', x.2.ro⟩) ∈ h' ∧ VRs ρ D x.2.cells c' := by
  induction k with
  | nil => intro x hx; cases hx
  | same k => intro x hx; exact .inl ⟨k x hx, hx⟩
  | cons e h1 _ ih =>
    intro x hx
    rcases List.mem_cons.1 hx with rfl | hx
    · exact .inr ⟨_, by rw [e]; exact List.mem_cons_self, h1⟩
    · rcases ih x hx with ⟨g1, g2⟩ | ⟨c', g1, g2⟩
      · exact .inl ⟨g1, List.mem_cons_of_mem _ g2⟩
      · exact .inr ⟨c', List.mem_cons_of_mem _ g1, g2⟩
  | keep e _ ih =>
    intro x hx
    rcases List.mem_cons.1 hx with rfl | hx
    · exact .inl ⟨e, List.mem_cons_self⟩
    · rcases ih x hx with ⟨g1, g2⟩ | ⟨c', g1, g2⟩
      · exact .inl ⟨g1, List.mem_cons_of_mem _ g2⟩
      · exact .inr ⟨c', List.mem_cons_of_mem _ g1, g2⟩

def look (g : SH) (A : Nat) : Option Blk := (g.find? fun x => Nat.beq x.1 A).map (·.2)
theorem look_mem {g : SH} {A : Nat} {b : Blk} (h : look g A = some b) : (A, b) ∈ g := by
  unfold look at h
  cases hf : g.find? fun x => Nat.beq x.1 A with
  | none => rw [hf] at h; cases h
  | some x =>
    rw [hf] at h
    simp only [Option.map_some, Option.some.injEq] at h
    have h1 := List.mem_of_find?_eq_some hf
    have h2 := Nat.eq_of_beq_eq_true (List.find?_some (p := fun x : Nat × Blk => Nat.beq x.1 A) hf)
    rw [← h2, ← h]; exact h1
theorem look_of {g : SH} (hn : (g.map (·.1)).Nodup) {A : Nat} {b : Blk} (h : (A, b) ∈ g) : look g A = some b := by
  induction g with
  | nil => cases h
  | cons x g ih =>
    simp only [List.map_cons, List.nodup_cons] at hn
    unfold look
    rw [List.find?_cons]
    rcases List.mem_cons.1 h with rfl | h
    · simp [Nat.beq_refl]
    · have hne : x.1 ≠ A := fun e => hn.1 (List.mem_map.2 ⟨_, h, e.symm⟩)
      rw [show Nat.beq x.1 A = false from by
        cases hb : Nat.beq x.1 A with
        | true => exact absurd (Nat.eq_of_beq_eq_true hb) hne
        | false => rfl]
      exact ih hn.2 h
/-- The heap behind a call, with k new blocks. -/
def canon (H : Heap) (g : SH) (k : Nat) : Heap := (List.range (H.length + k)).map fun A => match look g A with | some b => some b | none => H.getD A none
theorem canon_len {H : Heap} {g : SH} {k : Nat} : (canon H g k).length = H.length + k := by simp [canon]
theorem canon_get {H : Heap} {g : SH} {k A : Nat} (h : A < H.length + k) : (canon H g k)[A]? = some (match look g A with | some b => some b | none => H.getD A none) := by
  unfold canon; rw [List.getElem?_map, List.getElem?_range h]; rfl

theorem perm_disj {l m : List Nat} {g : List Nat} (hp : g.Perm (l ++ m)) (hn : g.Nodup) : (∀ x ∈ l, x ∉ m) ∧ l.Nodup := by
  have := hp.nodup_iff.1 hn
  rw [List.nodup_append] at this
  exact ⟨fun x hx hm => this.2.2 x hx x hm rfl, this.1⟩

theorem call_at {P : Program} {f : FuncId} {as0 : List Value} {p : SH} {R : Value → SH → Prop} (hr : SRun P f as0 p R) {H H' : Heap} {n : Nat} (i : Inv ⟨H, p⟩ p H) {k : Nat} {V : List Nat → Value} {G : List Nat → SH}
    (hfun : ∀ r q, R r q → ∃ ns, ns.length = k ∧ r = V ns ∧ Take q (G ns)) (hkeys : ∀ ns, ns.length = k → ((G ns).map (·.1)).Perm (ns ++ p.map (·.1)))
    (hpar : ∀ (ns ms : List Nat) (ρ : Nat → Nat) (D : Nat → Prop), ns.length = k → ms.length = k → ms.map ρ = ns → (∀ y ∈ p, ρ y.1 = y.1) → (∀ A ∈ ms, D A) → (∀ y ∈ p, D y.1) → VR ρ D (V ms) (V ns) ∧ SHR ρ D p (G ms) (G ns))
    (hfree : ∀ A, n ≤ A → A < n + k → ∀ g, H[A]? ≠ some (some g)) (hin : ∀ x ∈ G (List.range' n k), H'[x.1]? = some (some x.2)) (hoth : ∀ A, (∀ x ∈ G (List.range' n k), x.1 ≠ A) → ∀ g, H'[A]? = some (some g) ↔ H[A]? = some (some g))
    {B0 : Nat} {w0 w : World} {φ : Nat → Loc} {vs : Array Value} (hrel : Rel B0 w0 φ H w) (hvs : VRel φ (lens H) as0 vs) :
    Calls P f vs w fun e w' => ∃ φ' v', Ext φ (lens H) φ' (lens H') ∧ Rel B0 w0 φ' H' w' ∧ e = .returned v' ∧ Val φ' (lens H') (V (List.range' n k)) v' := by
  unfold SRun at hr
  have h1 := hr H i
  unfold Run at h1
  refine (h1 B0 w0 φ (lens H) φ w vs (.refl _ _) hrel hvs).mono ?_
  rintro e w' ⟨φ2, r, H2, v, hext, hrel2, rfl, hv, q, hR, i2⟩
  obtain ⟨ns, hk, rfl, ht⟩ := hfun r q hR
  have i3 := i2.le ht.le
  generalize hms : List.range' n k = ms at hin hoth ⊢
  have hmk : ms.length = k := by rw [← hms, List.length_range']
  have hmem : ∀ A, A ∈ ms ↔ n ≤ A ∧ A < n + k := fun A => by rw [← hms, List.mem_range'_1]
  -- names
  have hpk := hkeys ns hk
  have hpm := hkeys ms hmk
  obtain ⟨hdis, hnd⟩ := perm_disj hpk i3.nd
  have hpold : ∀ y ∈ p, y.1 < H.length := fun y hy => (List.getElem?_eq_some_iff.1 (i.sat y hy)).1
  have hpms : ∀ y ∈ p, y.1 ∉ ms := fun y hy h => hfree y.1 ((hmem _).1 h).1 ((hmem _).1 h).2 y.2 (i.sat y hy)
  have hns : ∀ x ∈ ns, H.length ≤ x := by
    intro x hx
    rcases Nat.lt_or_ge x H.length with hlt | hge
    · obtain ⟨b, hb, e⟩ := List.mem_map.1 (hpk.mem_iff.2 (List.mem_append_left _ hx))
      obtain ⟨y, hy, e2⟩ := i3.own b hb (by simp only; omega)
      exact absurd (List.mem_map.2 ⟨y, hy, by omega⟩) (hdis x hx)
    · exact hge
  let ρ : Nat → Nat := fun A => if n ≤ A ∧ A < n + k then ns.getD (A - n) 0 else A
  have hρo : ∀ A, A ∉ ms → ρ A = A := fun A h => if_neg (fun k => h ((hmem A).2 k))
  have hρe : ∀ A, A ∈ ms → ρ A = ns.getD (A - n) 0 := fun A h => if_pos ((hmem A).1 h)
  have hρn : ∀ A, A ∈ ms → ρ A ∈ ns := fun A h => by
    obtain ⟨g1, g2⟩ := (hmem A).1 h
    rw [hρe A h, List.getD_eq_getElem?_getD, List.getElem?_eq_getElem (by omega)]
    exact List.getElem_mem _
  have hmap : ms.map ρ = ns := by
    apply List.ext_getElem?
    intro j
    rw [List.getElem?_map]
    rcases Nat.lt_or_ge j k with hj | hj
    · have e1 : ms[j]? = some (n + j) := by rw [← hms, List.getElem?_range' hj, Nat.one_mul]
      rw [e1, Option.map_some, hρe _ ((hmem _).2 ⟨by omega, by omega⟩), Nat.add_sub_cancel_left, List.getD_eq_getElem?_getD, List.getElem?_eq_getElem (by omega)]; rfl
    · rw [List.getElem?_eq_none (by omega), List.getElem?_eq_none (by omega)]; rfl
  have hρinj : ∀ A A', (A ∈ ms ∨ A < H.length) → (A' ∈ ms ∨ A' < H.length) → ρ A = ρ A' → A = A' := by
    intro A A' hA hA' he
    by_cases h1 : A ∈ ms <;> by_cases h2 : A' ∈ ms
    · rw [hρe A h1, hρe A' h2] at he
      obtain ⟨a1, a2⟩ := (hmem A).1 h1
      obtain ⟨b1, b2⟩ := (hmem A').1 h2
      rw [List.getD_eq_getElem?_getD, List.getD_eq_getElem?_getD, List.getElem?_eq_getElem (by omega), List.getElem?_eq_getElem (by omega)] at he
      have he' : ns[A - n]'(by omega) = ns[A' - n]'(by omega) := he
      have hpw := List.pairwise_iff_getElem.1 hnd
      rcases Nat.lt_trichotomy (A - n) (A' - n) with h | h | h
      · exact absurd he' (hpw _ _ (by omega) (by omega) h)
      · omega
      · exact absurd he'.symm (hpw _ _ (by omega) (by omega) h)
    · rw [hρo A' h2] at he
      have := hns _ (hρn A h1)
      rcases hA' with h | h
      · exact absurd h h2
      · omega
    · rw [hρo A h1] at he
      have := hns _ (hρn A' h2)
      rcases hA with h | h
      · exact absurd h h1
      · omega
    · rw [hρo A h1, hρo A' h2] at he; exact he
  obtain ⟨hV, hG⟩ := hpar ns ms ρ (fun A => A ∈ ms ∨ A ∈ p.map (·.1)) hk hmk hmap (fun y hy => hρo _ (hpms y hy)) (fun A h => .inl h) (fun y hy => .inr (List.mem_map.2 ⟨y, hy, rfl⟩))
  -- blocks
  have hkeyG : ∀ A, (A ∈ ms ∨ A ∈ p.map (·.1)) → ∃ b, (A, b) ∈ G ms := by
    intro A hA
    obtain ⟨b, hb, e⟩ := List.mem_map.1 (hpm.mem_iff.2 (by rcases hA with h | h; exact List.mem_append_left _ h; exact List.mem_append_right _ h))
    exact ⟨b.2, by rw [← e]; exact hb⟩
  have hget : ∀ A g, H'[A]? = some (some g) → (A ∈ ms ∨ A < H.length) ∧ ((H2[ρ A]? = some (some g) ∧ H[A]? = some (some g) ∧ A ∉ ms) ∨ ∃ c', H2[ρ A]? = some (some ⟨c', g.ro⟩) ∧ VRs ρ (fun A => A ∈ ms ∨ A ∈ p.map (·.1)) g.cells c') := by
    intro A g hA
    by_cases hx : ∃ b, (A, b) ∈ G ms
    · obtain ⟨b, hb⟩ := hx
      have := hin _ hb
      rw [hA] at this
      simp only [Option.some.injEq] at this
      subst this
      have hdom : A ∈ ms ∨ A < H.length := by
        rcases List.mem_append.1 (hpm.mem_iff.1 (List.mem_map.2 ⟨_, hb, rfl⟩)) with h | h
        · exact .inl h
        · obtain ⟨y, hy, e⟩ := List.mem_map.1 h
          have := hpold y hy
          exact .inr (by simp only at e; omega)
      refine ⟨hdom, ?_⟩
      rcases hG.get (fun y hy => hρo _ (hpms y hy)) _ hb with ⟨g1, g2⟩ | ⟨c', g1, g2⟩
      · exact .inl ⟨by rw [hρo A (hpms _ g1)]; exact i3.sat _ g2, i.sat _ g1, hpms _ g1⟩
      · exact .inr ⟨c', i3.sat _ g1, g2⟩
    · have hno : ∀ x ∈ G ms, x.1 ≠ A := fun x hxm e => hx ⟨x.2, by rw [← e]; exact hxm⟩
      have hA2 := (hoth A hno g).1 hA
      have hl := (List.getElem?_eq_some_iff.1 hA2).1
      have hnm : A ∉ ms := fun h => hx (hkeyG A (.inl h))
      refine ⟨.inr hl, .inl ⟨?_, hA2, hnm⟩⟩
      rw [hρo A hnm, i3.keep A hl fun y hy e => hx (hkeyG A (.inr (List.mem_map.2 ⟨y, hy, e⟩)))]
      exact hA2
  have hlen : ∀ A g, H'[A]? = some (some g) → lens H' A = lens H2 (ρ A) := by
    intro A g hA
    rw [lens_of hA]
    rcases (hget A g hA).2 with ⟨g1, _⟩ | ⟨c', g1, g2⟩
    · rw [lens_of g1]
    · rw [lens_of g1, g2.len]
  have hlenD : ∀ A, (A ∈ ms ∨ A ∈ p.map (·.1)) → lens H' A = lens H2 (ρ A) := fun A h => by
    obtain ⟨b, hb⟩ := hkeyG A h
    exact hlen A b (hin _ hb)
  -- what was there is there
  have hlive : ∀ A m, lens H A = some m → A ∉ ms ∧ ∃ g, H'[A]? = some (some g) := by
    intro A m hA
    obtain ⟨g, h1, _⟩ := lens_live hA
    have hnm : A ∉ ms := fun h => hfree A ((hmem _).1 h).1 ((hmem _).1 h).2 g h1
    refine ⟨hnm, ?_⟩
    by_cases hx : ∃ b, (A, b) ∈ G ms
    · obtain ⟨b, hb⟩ := hx; exact ⟨b, hin _ hb⟩
    · exact ⟨g, (hoth A (fun x hxm e => hx ⟨x.2, by rw [← e]; exact hxm⟩) g).2 h1⟩
  have hold : ∀ A, (∃ m, lens H A = some m) → φ2 (ρ A) = φ2 A ∧ lens H' A = lens H2 A := by
    rintro A ⟨m, hA⟩
    obtain ⟨h1, g, h2⟩ := hlive A m hA
    exact ⟨by rw [hρo A h1], by rw [hlen A g h2, hρo A h1]⟩
  refine ⟨fun A => φ2 (ρ A), v, fun A n hA => ?_, ⟨hrel2.below, hrel2.b0, fun A g hA => ?_, fun A g hA hro => ?_, fun A A' g g' hA hro hA' he => ?_⟩, rfl, hV.val hlenD hv⟩
  · obtain ⟨n', g1, g2⟩ := hext A n hA
    obtain ⟨q1, q2⟩ := hold A ⟨n, hA⟩
    refine ⟨n', by rw [q2]; exact g1, ?_⟩
    show (n' = n ∧ φ2 (ρ A) = φ A) ∨ (n < n' ∧ ((φ A).mp = true → φ2 (ρ A) = φ A))
    rw [q1]; exact g2
  · obtain ⟨hlt, hc⟩ := hget A g hA
    rcases hc with ⟨g1, g2, g3⟩ | ⟨c', g1, g2⟩
    · obtain ⟨o, c, k1, k2, k3, k5⟩ := (hrel2.blk _ _ g1).any
      obtain ⟨o0, c0, _, _, _, j5⟩ := (hrel.blk _ _ g2).any
      refine ⟨o, c, k1, k2, k3, fun j x hx => ?_⟩
      obtain ⟨x', m1, m2⟩ := k5 j x hx
      obtain ⟨x0, _, m3⟩ := j5 j x hx
      exact ⟨x', m1, old_val (D := fun B => ∃ m, lens H B = some m) (fun B m h => ⟨m, h⟩) hold m2 m3⟩
    · obtain ⟨o, c, k1, k2, k3, k5⟩ := (hrel2.blk _ _ g1).any
      refine ⟨o, c, k1, ?_, by rw [g2.len]; exact k3, fun j x hx => ?_⟩
      · cases k2 with
        | cells hm hs hf => exact .cells hm hs hf
        | map hm hb hl => exact .map hm hb (by rw [g2.len]; exact hl)
      obtain ⟨y, m1, m2⟩ := g2.get hx
      obtain ⟨x', m3, m4⟩ := k5 j y m1
      exact ⟨x', m3, m2.val hlenD m4⟩
  · rcases (hget A g hA).2 with ⟨g1, _⟩ | ⟨c', g1, _⟩
    · exact hrel2.own _ _ g1 hro
    · exact hrel2.own _ _ g1 hro
  · obtain ⟨d1, hc⟩ := hget A g hA
    obtain ⟨d2, hc'⟩ := hget A' g' hA'
    obtain ⟨y, hy⟩ : ∃ y, H2[ρ A']? = some (some y) := by rcases hc' with ⟨g1, _⟩ | ⟨c', g1, _⟩ <;> exact ⟨_, g1⟩
    refine hρinj A' A d2 d1 ?_
    rcases hc with ⟨g1, _⟩ | ⟨c', g1, _⟩
    · exact hrel2.inj _ _ _ _ g1 hro hy he
    · exact hrel2.inj _ _ _ _ g1 hro hy he
/-- What the caller knows behind the call. -/
theorem canon_in {p : SH} {H : Heap} (i : Inv ⟨H, p⟩ p H) {k : Nat} {G : List Nat → SH} (hkeys : ∀ ns, ns.length = k → ((G ns).map (·.1)).Perm (ns ++ p.map (·.1))) :
    (∀ x ∈ G (List.range' H.length k), (canon H (G (List.range' H.length k)) k)[x.1]? = some (some x.2)) ∧ ((G (List.range' H.length k)).map (·.1)).Nodup ∧ (∀ x ∈ G (List.range' H.length k), x.1 < H.length + k) ∧ ∀ x ∈ G (List.range' H.length k), x.1 < H.length → ∃ y ∈ p, y.1 = x.1 := by
  generalize hms : List.range' H.length k = ms
  have hmk : ms.length = k := by rw [← hms, List.length_range']
  have hmem : ∀ A, A ∈ ms ↔ H.length ≤ A ∧ A < H.length + k := fun A => by rw [← hms, List.mem_range'_1]
  have hpm := hkeys ms hmk
  have hpold : ∀ y ∈ p, y.1 < H.length := fun y hy => (List.getElem?_eq_some_iff.1 (i.sat y hy)).1
  have hmnd : ((G ms).map (·.1)).Nodup := by
    refine hpm.nodup_iff.2 (List.nodup_append.2 ⟨by rw [← hms]; exact List.nodup_range', i.nd, ?_⟩)
    rintro a ha b hb rfl
    obtain ⟨y, hy, rfl⟩ := List.mem_map.1 hb
    have := hpold y hy
    have := (hmem _).1 ha
    omega
  have hall : ∀ x ∈ G ms, x.1 < H.length + k := by
    intro x hx
    rcases List.mem_append.1 (hpm.mem_iff.1 (List.mem_map.2 ⟨x, hx, rfl⟩)) with h | h
    · exact ((hmem _).1 h).2
    · obtain ⟨y, hy, e⟩ := List.mem_map.1 h; have := hpold y hy; omega
  refine ⟨fun x hx => ?_, hmnd, hall, fun x hx hlt => ?_⟩
  · rw [canon_get (hall x hx), look_of hmnd (show (x.1, x.2) ∈ G ms from hx)]
  · rcases List.mem_append.1 (hpm.mem_iff.1 (List.mem_map.2 ⟨x, hx, rfl⟩)) with h | h
    · have := ((hmem _).1 h).1; omega
    · obtain ⟨y, hy, e⟩ := List.mem_map.1 h; exact ⟨y, hy, e⟩
theorem canon_inv {E : Ent} {h p : SH} {H : Heap} (i0 : Inv E h H) (ht : Take h p) {k : Nat} {G : List Nat → SH} (hkeys : ∀ ns, ns.length = k → ((G ns).map (·.1)).Perm (ns ++ p.map (·.1))) :
    Inv E (G (List.range' H.length k)) (canon H (G (List.range' H.length k)) k) := by
  have i := i0.le ht.le
  obtain ⟨h1, h2, h3, h4⟩ := canon_in i.refl hkeys
  refine ⟨h1, h2, fun x hx hlt => ?_, by rw [canon_len]; have := i.len; omega, fun A hA hne => ?_⟩
  · obtain ⟨y, hy, e⟩ := h4 x hx (by have := i.len; omega)
    obtain ⟨z, hz, e2⟩ := i.own y hy (by omega)
    exact ⟨z, hz, by omega⟩
  · have hAl : A < H.length := by have := i.len; omega
    rw [canon_get (by omega)]
    cases hl : look (G (List.range' H.length k)) A with
    | some b =>
      obtain ⟨y, hy, e⟩ := h4 _ (look_mem hl) hAl
      obtain ⟨z, hz, e2⟩ := i.own y hy (by simp only at e; omega)
      exact absurd (by simp only at e; omega) (hne z hz)
    | none =>
      show some (H.getD A none) = _
      rw [List.getD_eq_getElem?_getD, List.getElem?_eq_getElem hAl, Option.getD_some, ← List.getElem?_eq_getElem hAl]
      exact i.keep A hA hne
theorem rho_pick {p p1 : SH} {ρ : Nat → Nat} {A : Nat} {b : Blk} (hρ : ∀ y ∈ p, ρ y.1 = y.1) (h : Pick p A b p1) : ρ A = A := hρ _ h.mem
theorem dom_pick {p p1 : SH} {D : Nat → Prop} {A : Nat} {b : Blk} (hD : ∀ y ∈ p, D y.1) (h : Pick p A b p1) : D A := hD _ h.mem
theorem VR.ptr' {ρ : Nat → Nat} {D : Nat → Prop} {A A' o n : Nat} (e : ρ A = A') (h : D A) : VR ρ D (gptr A o n) (gptr A' o n) := by subst e; exact .ptr h
theorem VR.slc' {ρ : Nat → Nat} {D : Nat → Prop} {A A' o n len fl : Nat} (e : ρ A = A') (h : D A) : VR ρ D (gsl A o n len fl) (gsl A' o n len fl) := by subst e; exact .slc h
theorem bytesV_const (l : List UInt8) : ∀ v ∈ bytesV l, constOk v = true := by
  intro v hv; unfold bytesV at hv; obtain ⟨_, _, rfl⟩ := List.mem_map.1 hv; rfl
theorem map_const {α : Type} {f : α → Value} {l : List α} (h : ∀ x, constOk (f x) = true) : ∀ v ∈ l.map f, constOk v = true := by
  intro v hv; obtain ⟨_, _, rfl⟩ := List.mem_map.1 hv; exact h _
theorem recs_const {α : Type} {f : α → List Value} {l : List α} (h : ∀ x, ∀ v ∈ f x, constOk v = true) : ∀ v ∈ recs f l, constOk v = true := by
  induction l with
  | nil => intro v hv; cases hv
  | cons x r ih =>
    intro v hv
    rcases List.mem_append.1 hv with hv | hv
    · exact h x v hv
    · exact ih v hv

section
variable {P : Program} {sz : Nat} {ops : Array Oper} {Q : SPost} {rest : List Oper} {a : AF} {h : SH} {t : Nat} {ty : TypeId} {pos : String} {aft : Array Edge}
theorem o_callK {x : Operand} {xs : List Operand} {ts : Array TypeId} {f : FuncId} {first captured : Array Value} {as0 : List Value} {R : Value → SH → Prop} {i0 : Nat} {last : SPast} {cl : SCl} {k : Nat} {V : List Nat → Value} {G : List Nat → SH} {p : SH}
    (hx : ev a x = some (.func (.func f) first captured)) (hxs : evs a xs = some as0) (hf : enters P f = true) (hN : Nat.blt t sz = true) (hr : SRun P f (first.toList ++ as0 ++ captured.toList) p R) (ht : Take h p)
    (hfun : ∀ r q, R r q → ∃ ns, ns.length = k ∧ r = V ns ∧ Take q (G ns)) (hkeys : ∀ ns, ns.length = k → ((G ns).map (·.1)).Perm (ns ++ p.map (·.1)))
    (hpar : ∀ (ns ms : List Nat) (ρ : Nat → Nat) (D : Nat → Prop), ns.length = k → ms.length = k → ms.map ρ = ns → (∀ y ∈ p, ρ y.1 = y.1) → (∀ A ∈ ms, D A) → (∀ y ∈ p, D y.1) → VR ρ D (V ms) (V ns) ∧ SHR ρ D p (G ms) (G ns))
    (hok : ∀ ms, ms.length = k → (Mode.draw i0 last cl).efOk ops (G ms)) (kk : ∀ ms, ms.length = k → GO ((Mode.draw i0 last cl).ef h) P sz ops Q rest ((t, V ms) :: a) (G ms)) :
    GO (.draw i0 last cl) P sz ops Q (⟨some t, .call { callee := .value x, args := xs.toArray, argTypes := ts }, ty, pos, aft, none⟩ :: rest) a h := by
  unfold GO
  intro E H n0 pH i ip
  have hk : (List.range' H.length k).length = k := List.length_range'
  have kk' := kk _ hk
  unfold GO at kk'
  obtain ⟨_, g⟩ := kk' E _ n0 ((true, i0, H) :: pH) (canon_inv i ht hkeys) ⟨⟨rfl, rfl, i⟩, ip⟩
  refine ⟨_, .eff k hN trivial canon_len (fun X a' hag hX => ⟨fun B0 w0 φ w ac hrel hfr => ?_⟩) (efOk_l ip (hok _ hk)) (efOk_cl (canon_inv i ht hkeys) (hok _ hk)) g⟩
  have hx' : ev a' x = some (.func (.func f) first captured) := (hag.ev (by simp [Op.operands, Call.operands])).trans hx
  have hxs' : evs a' xs = some as0 := (evs_congr fun y hy => hag.ev (by simp [Op.operands, Call.operands, hy])).trans hxs
  have e1 := ev_rel hfr hx'
  have e2 := evs_rel hfr hxs'
  refine .inr ?_
  generalize hu : ac.eval x = u at e1
  cases e1 with
  | func _ _ b _ d q1 q2 q3 q4 =>
    have hvr := ((VRel.of_arrays q1 q2).append e2).append (VRel.of_arrays q3 q4)
    obtain ⟨c1, c2, c3, c4⟩ := canon_in (i.le ht.le).refl hkeys
    refine ⟨f, b ++ (xs.map ac.eval).toArray ++ d, ?_, call_at hr ((i.app X).le ht.le).refl hfun hkeys hpar (fun A h1 h2 g hg => ?_) (fun x hx => ?_) (fun A hA g => ?_) hrel hvr⟩
    rotate_left
    · have := hX (A - H.length) (by omega)
      rw [List.getElem?_append_right h1, this] at hg; cases hg
    · rw [List.getElem?_append_left (by rw [canon_len]; exact c3 x hx)]; exact c1 x hx
    · rcases Nat.lt_or_ge A (H.length + k) with hl | hl
      · rw [List.getElem?_append_left (by rw [canon_len]; exact hl), canon_get hl]
        have hlk : look (G (List.range' H.length k)) A = none := by
          cases hq : look (G (List.range' H.length k)) A with
          | none => rfl
          | some b => exact absurd rfl (hA _ (look_mem hq))
        rw [hlk]
        rcases Nat.lt_or_ge A H.length with hl2 | hl2
        · rw [List.getElem?_append_left hl2]
          show some (H.getD A none) = _ ↔ _
          rw [List.getD_eq_getElem?_getD, List.getElem?_eq_getElem hl2]; rfl
        · rw [List.getElem?_append_right hl2, hX (A - H.length) (by omega)]
          show some (H.getD A none) = _ ↔ _
          rw [List.getD_eq_getElem?_getD, List.getElem?_eq_none hl2]; rfl
      · rw [List.getElem?_append_right (by rw [canon_len]; exact hl), canon_len, List.getElem?_drop, List.getElem?_append_right (by omega), show k + (A - (H.length + k)) = A - H.length by omega]
    unfold execOp
    simp only [resolve, List.map_toArray, hu, Deferred.ofValue, Sem.run_bind, Sem.run_pure, Result.andThen_ok, invoke]
    exact run_callFunc_enters hf _ w
/-- A call that makes nothing that is kept. -/
theorem o_callE0 {x : Operand} {xs : List Operand} {ts : Array TypeId} {f : FuncId} {first captured : Array Value} {as0 : List Value} {v : Value} {g : SH} {i0 : Nat} {last : SPast} {cl : SCl} {p : SH}
    (hx : ev a x = some (.func (.func f) first captured)) (hxs : evs a xs = some as0) (hf : enters P f = true) (hN : Nat.blt t sz = true) (hr : SRun P f (first.toList ++ as0 ++ captured.toList) p (fun r q => r = v ∧ q = g) ∧ Take h p)
    (hkeys : (g.map (·.1)).Perm (p.map (·.1))) (hpar : ∀ (ρ : Nat → Nat) (D : Nat → Prop), (∀ y ∈ p, ρ y.1 = y.1) → (∀ y ∈ p, D y.1) → VR ρ D v v ∧ SHR ρ D p g g)
    (hok : (Mode.draw i0 last cl).efOk ops g) (kk : GO ((Mode.draw i0 last cl).ef h) P sz ops Q rest ((t, v) :: a) g) :
    GO (.draw i0 last cl) P sz ops Q (⟨some t, .call { callee := .value x, args := xs.toArray, argTypes := ts }, ty, pos, aft, none⟩ :: rest) a h :=
  o_callK (k := 0) (V := fun _ => v) (G := fun _ => g) hx hxs hf hN hr.1 hr.2 (fun r q ⟨h1, h2⟩ => ⟨[], rfl, h1, h2 ▸ .nil⟩) (fun ns h => by rw [List.length_eq_zero_iff.1 h]; exact hkeys)
    (fun _ _ ρ D _ _ _ h1 _ h2 => hpar ρ D h1 h2) (fun _ _ => hok) (fun _ _ => kk)
/-- A call that makes one new block. -/
theorem o_callE1 {x : Operand} {xs : List Operand} {ts : Array TypeId} {f : FuncId} {first captured : Array Value} {as0 : List Value} {v : Nat → Value} {g : Nat → SH} {i0 : Nat} {last : SPast} {cl : SCl} {p : SH}
    (hx : ev a x = some (.func (.func f) first captured)) (hxs : evs a xs = some as0) (hf : enters P f = true) (hN : Nat.blt t sz = true) (hr : SRun P f (first.toList ++ as0 ++ captured.toList) p (fun r q => ∃ A, r = v A ∧ q = g A) ∧ Take h p)
    (hkeys : ∀ A, ((g A).map (·.1)).Perm (A :: p.map (·.1))) (hpar : ∀ (A A' : Nat) (ρ : Nat → Nat) (D : Nat → Prop), ρ A = A' → D A → (∀ y ∈ p, ρ y.1 = y.1) → (∀ y ∈ p, D y.1) → VR ρ D (v A) (v A') ∧ SHR ρ D p (g A) (g A'))
    (hok : ∀ A, (Mode.draw i0 last cl).efOk ops (g A)) (kk : ∀ A, GO ((Mode.draw i0 last cl).ef h) P sz ops Q rest ((t, v A) :: a) (g A)) :
    GO (.draw i0 last cl) P sz ops Q (⟨some t, .call { callee := .value x, args := xs.toArray, argTypes := ts }, ty, pos, aft, none⟩ :: rest) a h := by
  have one : ∀ {ns : List Nat}, ns.length = 1 → ∃ A, ns = [A] := fun {ns} h => by
    match ns, h with
    | [A], _ => exact ⟨A, rfl⟩
  refine o_callK (k := 1) (V := fun ns => v ns.head!) (G := fun ns => g ns.head!) hx hxs hf hN hr.1 hr.2 (fun r q ⟨A, h1, h2⟩ => ⟨[A], rfl, h1, h2 ▸ .nil⟩) (fun ns h => ?_) (fun ns ms ρ D h1 h2 h3 h4 h5 h6 => ?_) (fun ms h => ?_) (fun ms h => ?_)
  · obtain ⟨A, rfl⟩ := one h; exact hkeys A
  · obtain ⟨A, rfl⟩ := one h1; obtain ⟨B, rfl⟩ := one h2
    simp only [List.map_cons, List.map_nil, List.cons.injEq, and_true] at h3
    exact hpar B A ρ D h3 (h5 B (by simp)) h4 h6
  · obtain ⟨A, rfl⟩ := one h; exact hok A
  · obtain ⟨A, rfl⟩ := one h; exact kk A
end
end Go.Gh
end
section
set_option linter.unusedVariables false
set_option linter.unusedSimpArgs false
set_option maxRecDepth 4000
namespace Go.Gh
open Go.RowKit

theorem two_pow_le {k n : Nat} (h : k ≤ n) : (2 : Int) ^ k ≤ 2 ^ n := by
  have := Nat.pow_le_pow_right (n := 2) (by decide) h
  exact_mod_cast this
theorem two_pow_pos (k : Nat) : (0 : Int) < 2 ^ k := Int.pow_pos (by decide)
theorem ofInt_toNat64 (v : Int) : ((BitVec.ofInt 64 v).toNat : Int) = v % 18446744073709551616 := by
  rw [BitVec.toNat_ofInt]
  omega
/-- v & (1<<k - 1) -/
theorem w_mask (v : Int) {k : Nat} (h : k ≤ 62) : IntKind.i64.wrap ((BitVec.ofInt IntKind.i64.bits v &&& BitVec.ofInt IntKind.i64.bits (2 ^ k - 1)).toNat : Int) = v % 2 ^ k := by
  have h1 := two_pow_le (k := k) (n := 62) h
  have h2 := two_pow_pos k
  rw [show (2 : Int) ^ 62 = 4611686018427387904 from rfl] at h1
  have h3 := Int.emod_nonneg v (show (2 : Int) ^ k ≠ 0 by omega)
  have h4 := Int.emod_lt_of_pos v h2
  have hn : (BitVec.ofInt 64 ((2 : Int) ^ k - 1)).toNat = 2 ^ k - 1 := by
    have e : ((2 : Int) ^ k - 1) = ((2 ^ k - 1 : Nat) : Int) := by
      have : 0 < 2 ^ k := Nat.two_pow_pos k
      rw [Int.ofNat_sub (by omega)]; norm_cast
    have hle : 2 ^ k ≤ 2 ^ 62 := Nat.pow_le_pow_right (by decide) h
    rw [e, BitVec.ofInt_natCast, BitVec.toNat_ofNat, Nat.mod_eq_of_lt]
    have : (2 : Nat) ^ 62 < 2 ^ 64 := by decide
    omega
  rw [show IntKind.i64.bits = 64 from rfl, BitVec.toNat_and, hn, Nat.and_two_pow_sub_one_eq_mod]
  have e : (((BitVec.ofInt 64 v).toNat % 2 ^ k : Nat) : Int) = v % 2 ^ k := by
    rw [Int.natCast_emod, ofInt_toNat64]
    have : ((2 ^ k : Nat) : Int) = 2 ^ k := by norm_cast
    rw [this, Int.emod_emod_of_dvd]
    rw [show (18446744073709551616 : Int) = 2 ^ k * 2 ^ (64 - k) by rw [← Int.pow_add, show k + (64 - k) = 64 by omega]; rfl]
    exact Int.dvd_mul_right _ _
  rw [e, IntWalk.i64_in _ (by omega)]
end Go.Gh
end
