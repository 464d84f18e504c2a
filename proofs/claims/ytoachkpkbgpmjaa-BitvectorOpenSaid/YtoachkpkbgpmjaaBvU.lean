/- BitvectorOpen: numbers of replacements. -/
import Derived.Test.YtoachkpkbgpmjaaBvQ
import Derived.Test.YtoachkpkbgpmjaaBvM
import Derived.Test.YtoachkpkbgpmjaaSlK
set_option linter.unusedVariables false
set_option linter.unusedSimpArgs false
namespace Go.Proofs.Ytoachkpkbgpmjaa
open Go.Gh Go.RowKit

/-- The closure's loop: the number and what is left of the way. -/
def vstep (c : Int) (x : Int × Int) : Int × Int := if c = 49 then (x.1 * 2 + 1, x.2) else if c = 120 ∨ c = 122 then (x.1 * 2 + x.2 % 2, x.2 / 2) else (x.1 * 2, x.2)
def vrun : List UInt8 → Int × Int → Int × Int
  | [], x => x
  | c :: r, x => vrun r (vstep c.toNat x)
theorem vrun_step {l : List UInt8} {i : Nat} (h : i < l.length) (x : Int × Int) : vrun (l.drop i) x = vrun (l.drop (i + 1)) (vstep (bat l (i : Int)) x) := by
  rw [List.drop_eq_getElem_cons h, bat_get h]; rfl
theorem vstep_in {c : Int} {x : Int × Int} {p : Int} (hx : 0 ≤ x.1 ∧ x.1 < p ∧ 0 ≤ x.2 ∧ x.2 ≤ 64) : 0 ≤ (vstep c x).1 ∧ (vstep c x).1 < p * 2 ∧ 0 ≤ (vstep c x).2 ∧ (vstep c x).2 ≤ 64 := by
  unfold vstep; (repeat' split) <;> (dsimp only; omega)
theorem value_any (l : List UInt8) (w : Int) (A : Nat) (h : SH) (hl : l.length ≤ 12) (hw : 0 ≤ w ∧ w ≤ 64) :
    SRun Try.prog 16 [S l, gptr A 0 1] ((A, ⟨[I w], false⟩) :: h) fun r q => r = I (vrun l (0, w)).1 ∧ q = (A, ⟨[I (vrun l (0, w)).2], false⟩) :: h := by
  refine w_body2 Try.func16 rfl rfl ?_
  repeat' (first | apply w_seq | apply w_region | apply o_nil | (apply o_g tyOk; exact rfl; exact rfl) | (apply o_ar tyOk; exact rfl; exact rfl) | (apply o_ex; exact rfl; exact rfl) | (apply o_load tyOk; exact rfl; exact rfl; exact rfl; (focus (exact pk))) | (apply o_loads tyOk; exact rfl; exact rfl; exact rfl; (focus (exact pk))) | (apply o_store tyOk; exact rfl; exact rfl; exact rfl; exact rfl; (focus (exact up))) | (apply o_stores tyOk; exact rfl; exact rfl; exact rfl; exact rfl; (focus (exact ⟨rfl⟩)); (focus (exact up))) | (apply o_eqs; exact rfl; exact rfl; exact rfl; (focus (kernel_rfl)); exact rfl; exact rfl; (focus (kernel_rfl)); exact rfl) | (apply w_true; exact rfl) | (apply w_false; exact rfl) | (apply w_dT; exact rfl; (focus (first | exact ‹_› | with_reducible exact rfl | omega))) | (apply w_dF; exact rfl; (focus (first | exact ‹_› | with_reducible exact rfl | omega))) | (apply w_ifN; exact rfl; all_goals intro hc) | (apply w_if; exact rfl; all_goals intro hc) | (apply w_ifB; exact rfl; all_goals intro hc) | apply thenS_normal | apply thenS_ret | apply thenS_exit | apply blockS_normal | apply blockS_ret | apply blockS_exit | apply w_skip | apply w_ret | apply w_exit | apply w_block | apply scopeS_normal | apply scopeS_ret | apply scopeS_exit | apply w_scope | (apply blockS_exit_ne; exact rfl) | ((with_reducible apply Sd.mk); (first | exact True.intro | omega | (constructor <;> first | omega | (unfold maxLen; omega)) | (unfold maxLen; omega))) | ((with_reducible apply Ln.mk); (first | rfl | exact ‹_› | omega | (simp ; first | done | omega))) | ((with_reducible apply Wr.mk); (first | exact IntWalk.i64_in _ (by omega) | exact IntWalk.u8_in _ (by omega) | exact IntWalk.u32_in _ (by omega) | exact IntWalk.u64_in _ (by omega) | exact IntKind.wrap_u8 _ | exact IntKind.wrap_u32 _ | rfl)) | ((with_reducible apply Ex.mk); (first | exact Int.tmod_eq_emod_of_nonneg (by omega) | rfl)) | ((with_reducible apply Ce.mk); (first | rfl | exact ‹_› | exact cell_recZ (fun _ => rfl) (by omega) (by decide) rfl | exact cell_rec (fun _ => rfl) (by omega) (by decide) rfl | exact cell_bytes (by omega) | exact cell_mapZ (by omega) | exact cell_map (by omega))) | with_reducible exact Pick.head | with_reducible apply Pick.tail | with_reducible exact Upd.head | with_reducible apply Upd.tail | ((with_reducible apply Se.mk); (first | (focus ((repeat (first | exact SetAt.zero | apply SetAt.succ)); done)) | exact setAt_bytes (by omega) (by omega) | exact setAt_mapZ (by omega) | exact setAt_map (by omega))) | ((with_reducible apply Pu.mk); (first | exact putAt_all rfl | exact putAt_recZ (fun _ => rfl) (by omega) | exact putAt_rec (fun _ => rfl) (by omega))) | ((with_reducible apply Su.mk); (first | exact subAt_all | exact subAt_recZ (fun _ => rfl) (by omega) | exact subAt_rec (fun _ => rfl) (by omega))) | exact True.intro | exact rfl)
  refine w_loop (S := Nat × (Int × Int)) (fun x => [(0, S l), (1, gptr A 0 1), (5, I x.1), (4, I x.2.1)]) (fun x => (A, ⟨[I x.2.2], false⟩) :: h)
    (fun x => x.1 ≤ l.length ∧ vrun (l.drop x.1) x.2 = vrun l (0, w) ∧ 0 ≤ x.2.1 ∧ x.2.1 < 2 ^ x.1 ∧ 0 ≤ x.2.2 ∧ x.2.2 ≤ 64) (fun x => l.length - x.1) (0, (0, w)) ⟨Nat.zero_le _, rfl, Int.le_refl _, by show (0 : Int) < 2 ^ 0; decide, hw.1, hw.2⟩ (by repeat' (first | exact trivial | refine ⟨rfl, ?_⟩ | refine ⟨congrArg some ?_, ?_⟩)) (by repeat (first | with_reducible exact Take.nil | with_reducible apply Take.c | ((with_reducible apply Take.cE); (first | exact rfl | (apply blkE; (focus (first | exact rfl | exact recs_snocE rfl | exact map_snocE rfl | exact congrArg (fun v => [v]) (gslE rfl rfl (by first | rfl | exact ‹_› | omega | (simp ; first | done | omega)) (by first | rfl | exact ‹_› | omega | (simp ; first | done | omega)) rfl)))))) | with_reducible apply Take.drop)) ?_
  rintro ⟨i, n, w⟩ ⟨h1, h2, h3, h4, h5, h6⟩
  dsimp only at h1 h2 h3 h4 h5 h6 ⊢
  have hp := two_pow_le (k := i) (n := 12) (by omega)
  rw [show (2 : Int) ^ 12 = 4096 from rfl] at hp
  by_cases hi : i < l.length
  · rw [vrun_step hi] at h2
    have hin := vstep_in (c := bat l (i : Int)) (x := (n, w)) (p := 2 ^ i) ⟨h3, h4, h5, h6⟩
    rw [← Int.pow_succ] at hin
    have e1 : bat l (i : Int) = 49 → vstep (bat l (i : Int)) (n, w) = (n * 2 + 1, w) := fun e => by unfold vstep; rw [if_pos e]
    have e2 : bat l (i : Int) ≠ 49 → (bat l (i : Int) = 120 ∨ bat l (i : Int) = 122) → vstep (bat l (i : Int)) (n, w) = (n * 2 + w % 2, w / 2) := fun e g => by unfold vstep; rw [if_neg e, if_pos g]
    have e3 : bat l (i : Int) ≠ 49 → ¬ (bat l (i : Int) = 120 ∨ bat l (i : Int) = 122) → vstep (bat l (i : Int)) (n, w) = (n * 2, w) := fun e g => by unfold vstep; rw [if_neg e, if_neg g]
    have hq : IntKind.i64.wrap (w.tdiv 2) = w / 2 := by rw [Int.tdiv_eq_ediv_of_nonneg h5]; exact IntWalk.i64_in _ (by omega)
    repeat' (first | apply w_seq | apply w_region | apply o_nil | (apply o_g tyOk; exact rfl; exact rfl) | (apply o_ar tyOk; exact rfl; exact rfl) | (apply o_ex; exact rfl; exact rfl) | (apply o_load tyOk; exact rfl; exact rfl; exact rfl; (focus (exact pk))) | (apply o_loads tyOk; exact rfl; exact rfl; exact rfl; (focus (exact pk))) | (apply o_store tyOk; exact rfl; exact rfl; exact rfl; exact rfl; (focus (exact up))) | (apply o_stores tyOk; exact rfl; exact rfl; exact rfl; exact rfl; (focus (exact ⟨rfl⟩)); (focus (exact up))) | (apply o_eqs; exact rfl; exact rfl; exact rfl; (focus (kernel_rfl)); exact rfl; exact rfl; (focus (kernel_rfl)); exact rfl) | (apply w_true; exact rfl) | (apply w_false; exact rfl) | (apply w_dT; exact rfl; (focus (first | exact ‹_› | with_reducible exact rfl | omega))) | (apply w_dF; exact rfl; (focus (first | exact ‹_› | with_reducible exact rfl | omega))) | (apply w_ifN; exact rfl; all_goals intro hc) | (apply w_if; exact rfl; all_goals intro hc) | (apply w_ifB; exact rfl; all_goals intro hc) | apply thenS_normal | apply thenS_ret | apply thenS_exit | apply blockS_normal | apply blockS_ret | apply blockS_exit | apply w_skip | apply w_ret | apply w_exit | apply w_block | apply scopeS_normal | apply scopeS_ret | apply scopeS_exit | apply w_scope | (apply blockS_exit_ne; exact rfl) | ((with_reducible apply Sd.mk); (first | exact True.intro | omega | (constructor <;> first | omega | (unfold maxLen; omega)) | (unfold maxLen; omega))) | ((with_reducible apply Ln.mk); (first | rfl | exact ‹_› | omega | (simp ; first | done | omega))) | ((with_reducible apply Wr.mk); (first | exact hq | exact IntWalk.i64_in _ (by omega) | exact IntWalk.u8_in _ (by omega) | exact IntWalk.u32_in _ (by omega) | exact IntWalk.u64_in _ (by omega) | exact IntKind.wrap_u8 _ | exact IntKind.wrap_u32 _ | rfl)) | ((with_reducible apply Ex.mk); (first | exact Int.tmod_eq_emod_of_nonneg (by omega) | rfl)) | ((with_reducible apply Ce.mk); (first | rfl | exact ‹_› | exact cell_recZ (fun _ => rfl) (by omega) (by decide) rfl | exact cell_rec (fun _ => rfl) (by omega) (by decide) rfl | exact cell_bytes (by omega) | exact cell_mapZ (by omega) | exact cell_map (by omega))) | with_reducible exact Pick.head | with_reducible apply Pick.tail | with_reducible exact Upd.head | with_reducible apply Upd.tail | ((with_reducible apply Se.mk); (first | (focus ((repeat (first | exact SetAt.zero | apply SetAt.succ)); done)) | exact setAt_bytes (by omega) (by omega) | exact setAt_mapZ (by omega) | exact setAt_map (by omega))) | ((with_reducible apply Pu.mk); (first | exact putAt_all rfl | exact putAt_recZ (fun _ => rfl) (by omega) | exact putAt_rec (fun _ => rfl) (by omega))) | ((with_reducible apply Su.mk); (first | exact subAt_all | exact subAt_recZ (fun _ => rfl) (by omega) | exact subAt_rec (fun _ => rfl) (by omega))) | exact True.intro | exact rfl)
    all_goals first
      | (have e := e1 (by omega)
         rw [e] at h2 hin
         exact ⟨(i + 1, (n * 2 + 1, w)), ⟨hi, h2, hin.1, hin.2.1, hin.2.2.1, hin.2.2.2⟩, by show l.length - (i + 1) < l.length - i; omega, (by repeat' (first | exact trivial | refine ⟨rfl, ?_⟩ | refine ⟨congrArg some ?_, ?_⟩)), (by repeat (first | with_reducible exact Take.nil | with_reducible apply Take.c | ((with_reducible apply Take.cE); (first | exact rfl | (apply blkE; (focus (first | exact rfl | exact recs_snocE rfl | exact map_snocE rfl | exact congrArg (fun v => [v]) (gslE rfl rfl (by first | rfl | exact ‹_› | omega | (simp ; first | done | omega)) (by first | rfl | exact ‹_› | omega | (simp ; first | done | omega)) rfl)))))) | with_reducible apply Take.drop))⟩)
      | (have e := e2 (by omega) (by omega)
         rw [e] at h2 hin
         exact ⟨(i + 1, (n * 2 + w % 2, w / 2)), ⟨hi, h2, hin.1, hin.2.1, hin.2.2.1, hin.2.2.2⟩, by show l.length - (i + 1) < l.length - i; omega, (by repeat' (first | exact trivial | refine ⟨rfl, ?_⟩ | refine ⟨congrArg some ?_, ?_⟩)), (by repeat (first | with_reducible exact Take.nil | with_reducible apply Take.c | ((with_reducible apply Take.cE); (first | exact rfl | (apply blkE; (focus (first | exact rfl | exact recs_snocE rfl | exact map_snocE rfl | exact congrArg (fun v => [v]) (gslE rfl rfl (by first | rfl | exact ‹_› | omega | (simp ; first | done | omega)) (by first | rfl | exact ‹_› | omega | (simp ; first | done | omega)) rfl)))))) | with_reducible apply Take.drop))⟩)
      | (have e := e3 (by omega) (by omega)
         rw [e] at h2 hin
         exact ⟨(i + 1, (n * 2, w)), ⟨hi, h2, hin.1, hin.2.1, hin.2.2.1, hin.2.2.2⟩, by show l.length - (i + 1) < l.length - i; omega, (by repeat' (first | exact trivial | refine ⟨rfl, ?_⟩ | refine ⟨congrArg some ?_, ?_⟩)), (by repeat (first | with_reducible exact Take.nil | with_reducible apply Take.c | ((with_reducible apply Take.cE); (first | exact rfl | (apply blkE; (focus (first | exact rfl | exact recs_snocE rfl | exact map_snocE rfl | exact congrArg (fun v => [v]) (gslE rfl rfl (by first | rfl | exact ‹_› | omega | (simp ; first | done | omega)) (by first | rfl | exact ‹_› | omega | (simp ; first | done | omega)) rfl)))))) | with_reducible apply Take.drop))⟩)
      | trace_state
  · obtain rfl : i = l.length := by omega
    rw [List.drop_length] at h2
    rw [← h2]
    repeat' (first | apply w_seq | apply w_region | apply o_nil | (apply o_g tyOk; exact rfl; exact rfl) | (apply o_ar tyOk; exact rfl; exact rfl) | (apply o_ex; exact rfl; exact rfl) | (apply o_load tyOk; exact rfl; exact rfl; exact rfl; (focus (exact pk))) | (apply o_loads tyOk; exact rfl; exact rfl; exact rfl; (focus (exact pk))) | (apply o_store tyOk; exact rfl; exact rfl; exact rfl; exact rfl; (focus (exact up))) | (apply o_stores tyOk; exact rfl; exact rfl; exact rfl; exact rfl; (focus (exact ⟨rfl⟩)); (focus (exact up))) | (apply o_eqs; exact rfl; exact rfl; exact rfl; (focus (kernel_rfl)); exact rfl; exact rfl; (focus (kernel_rfl)); exact rfl) | (apply w_true; exact rfl) | (apply w_false; exact rfl) | (apply w_dT; exact rfl; (focus (first | exact ‹_› | with_reducible exact rfl | omega))) | (apply w_dF; exact rfl; (focus (first | exact ‹_› | with_reducible exact rfl | omega))) | (apply w_ifN; exact rfl; all_goals intro hc) | (apply w_if; exact rfl; all_goals intro hc) | (apply w_ifB; exact rfl; all_goals intro hc) | apply thenS_normal | apply thenS_ret | apply thenS_exit | apply blockS_normal | apply blockS_ret | apply blockS_exit | apply w_skip | apply w_ret | apply w_exit | apply w_block | apply scopeS_normal | apply scopeS_ret | apply scopeS_exit | apply w_scope | (apply blockS_exit_ne; exact rfl) | ((with_reducible apply Sd.mk); (first | exact True.intro | omega | (constructor <;> first | omega | (unfold maxLen; omega)) | (unfold maxLen; omega))) | ((with_reducible apply Ln.mk); (first | rfl | exact ‹_› | omega | (simp ; first | done | omega))) | ((with_reducible apply Wr.mk); (first | exact IntWalk.i64_in _ (by omega) | exact IntWalk.u8_in _ (by omega) | exact IntWalk.u32_in _ (by omega) | exact IntWalk.u64_in _ (by omega) | exact IntKind.wrap_u8 _ | exact IntKind.wrap_u32 _ | rfl)) | ((with_reducible apply Ex.mk); (first | exact Int.tmod_eq_emod_of_nonneg (by omega) | rfl)) | ((with_reducible apply Ce.mk); (first | rfl | exact ‹_› | exact cell_recZ (fun _ => rfl) (by omega) (by decide) rfl | exact cell_rec (fun _ => rfl) (by omega) (by decide) rfl | exact cell_bytes (by omega) | exact cell_mapZ (by omega) | exact cell_map (by omega))) | with_reducible exact Pick.head | with_reducible apply Pick.tail | with_reducible exact Upd.head | with_reducible apply Upd.tail | ((with_reducible apply Se.mk); (first | (focus ((repeat (first | exact SetAt.zero | apply SetAt.succ)); done)) | exact setAt_bytes (by omega) (by omega) | exact setAt_mapZ (by omega) | exact setAt_map (by omega))) | ((with_reducible apply Pu.mk); (first | exact putAt_all rfl | exact putAt_recZ (fun _ => rfl) (by omega) | exact putAt_rec (fun _ => rfl) (by omega))) | ((with_reducible apply Su.mk); (first | exact subAt_all | exact subAt_recZ (fun _ => rfl) (by omega) | exact subAt_rec (fun _ => rfl) (by omega))) | exact True.intro | exact rfl)
    all_goals first
      | (exfalso; omega)
      | (apply s_fin; (exact (show ResS _ _ _ _ [_] from ⟨rfl, trivial⟩)); (focus (exact ⟨rfl, rfl⟩)); (focus (repeat (first | with_reducible exact Take.nil | with_reducible apply Take.c | ((with_reducible apply Take.cE); (first | exact rfl | (apply blkE; (focus (first | exact rfl | exact recs_snocE rfl | exact map_snocE rfl | exact congrArg (fun v => [v]) (gslE rfl rfl (by first | rfl | exact ‹_› | omega | (simp ; first | done | omega)) (by first | rfl | exact ‹_› | omega | (simp ; first | done | omega)) rfl)))))) | with_reducible apply Take.drop))))
/-- The number of digits. -/
def nm : List UInt8 → Int
  | [] => 0
  | c :: r => (c.toNat - 48) * 2 ^ r.length + nm r
theorem nm_cons (c : UInt8) (r : List UInt8) : nm (c :: r) = (c.toNat - 48) * 2 ^ r.length + nm r := rfl
abbrev dig (l : List UInt8) : Prop := ∀ b ∈ l, (b.toNat : Int) = 48 ∨ (b.toNat : Int) = 49
theorem nm_in : ∀ {l : List UInt8}, dig l → 0 ≤ nm l ∧ nm l < 2 ^ l.length
  | [], _ => by decide
  | c :: r, h => by
    have ih := nm_in (l := r) fun b hb => h b (List.mem_cons_of_mem _ hb)
    have hp := two_pow_pos r.length
    rw [List.length_cons, Int.pow_succ]
    rw [nm_cons]
    rcases h c List.mem_cons_self with e | e <;> rw [e]
    · rw [show (48 : Int) - 48 = 0 by omega, Int.zero_mul]; omega
    · rw [show (49 : Int) - 48 = 1 by omega, Int.one_mul]; omega
theorem u8_lt {a b : UInt8} : (a < b) ↔ (a.toNat : Int) < b.toNat := by rw [UInt8.lt_iff_toNat_lt]; omega
theorem less_nm : ∀ {a b : List UInt8}, a.length = b.length → dig a → dig b → (Op.bytesLess a b = true ↔ nm a < nm b)
  | [], [], _, _, _ => by simp [Op.bytesLess, nm]
  | [], _ :: _, h, _, _ => by simp at h
  | _ :: _, [], h, _, _ => by simp at h
  | x :: a, y :: b, h, ha, hb => by
    have hl : a.length = b.length := by simpa using h
    have da : dig a := fun c hc => ha c (List.mem_cons_of_mem _ hc)
    have db : dig b := fun c hc => hb c (List.mem_cons_of_mem _ hc)
    have ih := less_nm hl da db
    have ia := nm_in da
    have ib := nm_in db
    rw [hl] at ia
    show (decide (x < y) || (x == y && Op.bytesLess a b)) = true ↔ _
    rw [Bool.or_eq_true, decide_eq_true_eq, Bool.and_eq_true, beq_iff_eq, ih, u8_lt, ← UInt8.toNat_inj]
    rw [nm_cons, nm_cons, hl]
    rcases ha x List.mem_cons_self with e | e <;> rcases hb y List.mem_cons_self with g | g <;> rw [e, g]
    · have : x.toNat = y.toNat := by omega
      omega
    · have : x.toNat ≠ y.toNat := by omega
      rw [show (49 : Int) - 48 = 1 by omega, show (48 : Int) - 48 = 0 by omega, Int.one_mul, Int.zero_mul]; omega
    · have : x.toNat ≠ y.toNat := by omega
      rw [show (49 : Int) - 48 = 1 by omega, show (48 : Int) - 48 = 0 by omega, Int.one_mul, Int.zero_mul]; omega
    · have : x.toNat = y.toNat := by omega
      omega
theorem nm_inj : ∀ {a b : List UInt8}, a.length = b.length → dig a → dig b → nm a = nm b → a = b
  | [], [], _, _, _, _ => rfl
  | [], _ :: _, h, _, _, _ => by simp at h
  | _ :: _, [], h, _, _, _ => by simp at h
  | x :: a, y :: b, h, ha, hb, hn => by
    have hl : a.length = b.length := by simpa using h
    have da : dig a := fun c hc => ha c (List.mem_cons_of_mem _ hc)
    have db : dig b := fun c hc => hb c (List.mem_cons_of_mem _ hc)
    have ia := nm_in da
    have ib := nm_in db
    rw [hl] at ia
    rw [nm_cons, nm_cons, hl] at hn
    have key : x.toNat = y.toNat ∧ nm a = nm b := by
      rcases ha x List.mem_cons_self with e | e <;> rcases hb y List.mem_cons_self with g | g <;> rw [e, g] at hn
      · omega
      · rw [show (49 : Int) - 48 = 1 by omega, show (48 : Int) - 48 = 0 by omega, Int.one_mul, Int.zero_mul] at hn; omega
      · rw [show (49 : Int) - 48 = 1 by omega, show (48 : Int) - 48 = 0 by omega, Int.one_mul, Int.zero_mul] at hn; omega
      · omega
    rw [UInt8.toNat_inj.1 key.1, nm_inj hl da db key.2]
theorem nm_pad (l : List UInt8) : ∀ k, nm (List.replicate k 48 ++ l) = nm l
  | 0 => rfl
  | k + 1 => by
    rw [List.replicate_succ, List.cons_append]
    rw [nm_cons, show (((48 : UInt8).toNat : Int) - 48) = 0 by decide, Int.zero_mul, nm_pad l k]; omega
/-- All unknown bits are 1, or 0. -/
def hi (l : List UInt8) : Int := nm (emap (bf 49) l)
def lo (l : List UInt8) : Int := nm (emap (bf 48) l)
abbrev chrs (l : List UInt8) : Prop := ∀ b ∈ l, chr b.toNat
theorem isV_chrs {l : List UInt8} (h : isV l) : chrs l := fun b hb => by
  obtain ⟨i, hi, rfl⟩ := List.getElem_of_mem hb
  have := (isV_chr.1 h).2 i hi
  rw [bat_get hi] at this; exact this
theorem dig_emap {l : List UInt8} (h : chrs l) {c : Int} (hcd : c = 48 ∨ c = 49) : dig (emap (bf c) l) := fun b hb => by
  obtain ⟨x, hx, rfl⟩ := List.mem_map.1 hb
  have := h x hx
  rw [b8_val (by unfold bf; split <;> omega)]
  unfold bf
  split <;> omega
theorem dig_bnd {l : List UInt8} (h : chrs l) {c : Int} (hcd : c = 48 ∨ c = 49) : dig (bnd c l) := fun b hb => by
  rcases List.mem_append.1 hb with hb | hb
  · rw [List.eq_of_mem_replicate hb]; exact .inl rfl
  · exact dig_emap h hcd b hb
theorem bnd_len {l : List UInt8} (h : l.length ≤ 128) (c : Int) : (bnd c l).length = 128 := by unfold bnd; rw [List.length_append, List.length_replicate, emap_len]; omega
theorem cmp_lt {a b : List UInt8} (ha : isV a) (hb : isV b) {c d : Int} (hc1 : c = 48 ∨ c = 49) (hd1 : d = 48 ∨ d = 49) : Op.bytesLess (bnd c a) (bnd d b) = true ↔ nm (emap (bf c) a) < nm (emap (bf d) b) := by
  rw [less_nm (by rw [bnd_len ha.2.1, bnd_len hb.2.1]) (dig_bnd (isV_chrs ha) hc1) (dig_bnd (isV_chrs hb) hd1)]
  unfold bnd
  rw [nm_pad, nm_pad]
theorem cmp_gt {a b : List UInt8} (ha : isV a) (hb : isV b) {c d : Int} (hc1 : c = 48 ∨ c = 49) (hd1 : d = 48 ∨ d = 49) : (!(Op.bytesLess (bnd c a) (bnd d b) || (bnd c a == bnd d b))) = true ↔ nm (emap (bf d) b) < nm (emap (bf c) a) := by
  have h1 := cmp_lt ha hb hc1 hd1
  have h2 : (bnd c a == bnd d b) = true ↔ nm (emap (bf c) a) = nm (emap (bf d) b) := by
    rw [beq_iff_eq]
    constructor
    · intro h
      have := congrArg nm h
      unfold bnd at this
      rwa [nm_pad, nm_pad] at this
    · intro h
      refine nm_inj (by rw [bnd_len ha.2.1, bnd_len hb.2.1]) (dig_bnd (isV_chrs ha) hc1) (dig_bnd (isV_chrs hb) hd1) ?_
      unfold bnd
      rwa [nm_pad, nm_pad]
  rw [Bool.not_eq_true', Bool.or_eq_false_iff, ← Bool.not_eq_true, ← Bool.not_eq_true, h1, h2]
  omega
theorem cmp_of {a b : List UInt8} (ha : isV a) (hb : isV b) : cmpR a b = if hi a < lo b then (-1, true) else if hi b < lo a then (1, true) else (0, decide (isK a) && decide (isK b)) := by
  have h1 := cmp_lt ha hb (c := 49) (d := 48) (.inr rfl) (.inl rfl)
  have h2 := cmp_gt ha hb (c := 48) (d := 49) (.inl rfl) (.inr rfl)
  unfold cmpR
  rw [if_neg (fun g => g ⟨ha, hb⟩)]
  by_cases e1 : hi a < lo b
  · rw [if_pos e1, if_pos (h1.2 e1)]
  · rw [if_neg e1, if_neg (fun g => e1 (h1.1 g))]
    by_cases e2 : hi b < lo a
    · rw [if_pos e2, if_pos (h2.2 e2)]
    · rw [if_neg e2, if_neg (fun g => e2 (h2.1 g))]
/-- How many bits are unknown. -/
def un : List UInt8 → Nat
  | [] => 0
  | c :: r => un r + if (c.toNat : Int) = 120 ∨ (c.toNat : Int) = 122 then 1 else 0
theorem un_cons (c : UInt8) (r : List UInt8) : un (c :: r) = un r + if (c.toNat : Int) = 120 ∨ (c.toNat : Int) = 122 then 1 else 0 := rfl
theorem un_cn {l : List UInt8} : un l = cn l 2 + cn l 3 := by
  induction l with
  | nil => rfl
  | cons c r ih =>
    rw [un_cons]
    unfold cn at *
    rw [List.countP_cons, List.countP_cons, ih]
    have : (cd c.toNat = 2 ↔ (c.toNat : Int) = 120) ∧ (cd c.toNat = 3 ↔ (c.toNat : Int) = 122) := by
      unfold cd; (repeat' split) <;> omega
    rw [show decide (cd c.toNat = 2) = decide ((c.toNat : Int) = 120) from decide_eq_decide.2 this.1, show decide (cd c.toNat = 3) = decide ((c.toNat : Int) = 122) from decide_eq_decide.2 this.2]
    by_cases e1 : (c.toNat : Int) = 120
    · have e2 : ¬ (c.toNat : Int) = 122 := by omega
      simp only [e1, e2, decide_true, decide_false, if_true, true_or]
      simp; omega
    · by_cases e2 : (c.toNat : Int) = 122
      · simp [e2]; omega
      · simp [e1, e2]
theorem isK_un {l : List UInt8} (h : isV l) : isK l ↔ un l = 0 := by rw [un_cn]; unfold isK; exact ⟨fun g => g.2, fun g => ⟨h, g⟩⟩
theorem emap_cons (F : Int → Int) (c : UInt8) (r : List UInt8) : emap F (c :: r) = b8 (F c.toNat) :: emap F r := rfl
theorem hi_cons {c : UInt8} {r : List UInt8} (h : chr c.toNat) : hi (c :: r) = (if (c.toNat : Int) = 48 then 0 else 2 ^ r.length) + hi r ∧ lo (c :: r) = (if (c.toNat : Int) = 49 then 2 ^ r.length else 0) + lo r := by
  unfold hi lo
  rw [emap_cons, emap_cons, nm_cons, nm_cons, emap_len, emap_len, b8_val (by unfold bf; split <;> omega), b8_val (by unfold bf; split <;> omega)]
  unfold bf
  rcases h with e | e | e | e <;> rw [e] <;> simp
theorem four {c : UInt8} (r : List UInt8) (h : chr c.toNat) :
    (hi (c :: r) = hi r ∧ lo (c :: r) = lo r ∧ un (c :: r) = un r ∧ ∀ x, vstep c.toNat x = (x.1 * 2, x.2)) ∨
    (hi (c :: r) = 2 ^ r.length + hi r ∧ lo (c :: r) = 2 ^ r.length + lo r ∧ un (c :: r) = un r ∧ ∀ x, vstep c.toNat x = (x.1 * 2 + 1, x.2)) ∨
    (hi (c :: r) = 2 ^ r.length + hi r ∧ lo (c :: r) = lo r ∧ un (c :: r) = un r + 1 ∧ ∀ x, vstep c.toNat x = (x.1 * 2 + x.2 % 2, x.2 / 2)) := by
  obtain ⟨e1, e2⟩ := hi_cons (r := r) h
  rw [e1, e2, un_cons]
  unfold vstep
  rcases h with e | e | e | e
  · exact .inl ⟨by rw [if_pos e, Int.zero_add], by rw [if_neg (by omega), Int.zero_add], by rw [if_neg (by omega)]; rfl, fun x => by rw [if_neg (by omega), if_neg (by omega)]⟩
  · exact .inr (.inl ⟨by rw [if_neg (by omega)], by rw [if_pos e], by rw [if_neg (by omega)]; rfl, fun x => by rw [if_pos e]⟩)
  · exact .inr (.inr ⟨by rw [if_neg (by omega)], by rw [if_neg (by omega), Int.zero_add], by rw [if_pos (by omega)], fun x => by rw [if_neg (by omega), if_pos (by omega)]⟩)
  · exact .inr (.inr ⟨by rw [if_neg (by omega)], by rw [if_neg (by omega), Int.zero_add], by rw [if_pos (by omega)], fun x => by rw [if_neg (by omega), if_pos (by omega)]⟩)
theorem vrun_in : ∀ {l : List UInt8} (n w : Int), chrs l → n * 2 ^ l.length + lo l ≤ (vrun l (n, w)).1 ∧ (vrun l (n, w)).1 ≤ n * 2 ^ l.length + hi l
  | [], n, w, _ => by
    show n * 2 ^ 0 + 0 ≤ n ∧ n ≤ n * 2 ^ 0 + 0
    rw [Int.pow_zero]; omega
  | c :: r, n, w, h => by
    have hr : chrs r := fun b hb => h b (List.mem_cons_of_mem _ hb)
    have hp := two_pow_pos r.length
    rw [List.length_cons, Int.pow_succ]
    show _ ≤ (vrun r (vstep c.toNat (n, w))).1 ∧ (vrun r (vstep c.toNat (n, w))).1 ≤ _
    have m1 : n * (2 ^ r.length * 2) = n * 2 * 2 ^ r.length := by rw [Int.mul_comm (2 ^ r.length) 2, Int.mul_assoc]
    rw [m1]
    rcases four r (h c List.mem_cons_self) with ⟨q1, q2, q3, q4⟩ | ⟨q1, q2, q3, q4⟩ | ⟨q1, q2, q3, q4⟩ <;> rw [q1, q2, q4] <;> dsimp only
    · exact vrun_in (n * 2) w hr
    · have := vrun_in (l := r) (n * 2 + 1) w hr
      rw [Int.add_mul, Int.one_mul] at this
      omega
    · have := vrun_in (l := r) (n * 2 + w % 2) (w / 2) hr
      rcases (show w % 2 = 0 ∨ w % 2 = 1 by omega) with g | g <;> rw [g, Int.add_mul] at this <;> rw [g]
      · rw [Int.zero_mul] at this; omega
      · rw [Int.one_mul] at this; omega
theorem vrun_hi : ∀ {l : List UInt8} (n r : Int), chrs l → vrun l (n, 2 ^ un l - 1 + 2 ^ un l * r) = (n * 2 ^ l.length + hi l, r)
  | [], n, r, _ => by
    show (n, 2 ^ 0 - 1 + 2 ^ 0 * r) = (n * 2 ^ 0 + 0, r)
    rw [Int.pow_zero]; congr 1 <;> omega
  | c :: l, n, r, h => by
    have hr : chrs l := fun b hb => h b (List.mem_cons_of_mem _ hb)
    rw [List.length_cons, Int.pow_succ]
    show vrun l (vstep c.toNat (n, _)) = _
    have m1 : n * (2 ^ l.length * 2) = n * 2 * 2 ^ l.length := by rw [Int.mul_comm (2 ^ l.length) 2, Int.mul_assoc]
    rw [m1]
    rcases four l (h c List.mem_cons_self) with ⟨q1, q2, q3, q4⟩ | ⟨q1, q2, q3, q4⟩ | ⟨q1, q2, q3, q4⟩ <;> rw [q1, q3, q4] <;> dsimp only
    · exact vrun_hi (n * 2) r hr
    · rw [vrun_hi (n * 2 + 1) r hr, Int.add_mul, Int.one_mul, Int.add_assoc]
    · obtain ⟨p, hp⟩ : ∃ p, (2 : Int) ^ un l = p := ⟨_, rfl⟩
      have q5 : (2 : Int) ^ (un l + 1) - 1 + 2 ^ (un l + 1) * r = 2 * (p - 1 + p * r) + 1 := by
        rw [Int.pow_succ, hp, Int.mul_comm p 2, Int.mul_assoc]; omega
      rw [q5, show (2 * (p - 1 + p * r) + 1) % 2 = 1 by omega, show (2 * (p - 1 + p * r) + 1) / 2 = p - 1 + p * r by omega, ← hp, vrun_hi (n * 2 + 1) r hr, Int.add_mul, Int.one_mul, Int.add_assoc]
theorem vrun_lo : ∀ {l : List UInt8} (n r : Int), chrs l → vrun l (n, 2 ^ un l * r) = (n * 2 ^ l.length + lo l, r)
  | [], n, r, _ => by
    show (n, 2 ^ 0 * r) = (n * 2 ^ 0 + 0, r)
    rw [Int.pow_zero]; congr 1 <;> omega
  | c :: l, n, r, h => by
    have hr : chrs l := fun b hb => h b (List.mem_cons_of_mem _ hb)
    rw [List.length_cons, Int.pow_succ]
    show vrun l (vstep c.toNat (n, _)) = _
    have m1 : n * (2 ^ l.length * 2) = n * 2 * 2 ^ l.length := by rw [Int.mul_comm (2 ^ l.length) 2, Int.mul_assoc]
    rw [m1]
    rcases four l (h c List.mem_cons_self) with ⟨q1, q2, q3, q4⟩ | ⟨q1, q2, q3, q4⟩ | ⟨q1, q2, q3, q4⟩ <;> rw [q2, q3, q4] <;> dsimp only
    · exact vrun_lo (n * 2) r hr
    · rw [vrun_lo (n * 2 + 1) r hr, Int.add_mul, Int.one_mul, Int.add_assoc]
    · obtain ⟨p, hp⟩ : ∃ p, (2 : Int) ^ un l = p := ⟨_, rfl⟩
      have q5 : (2 : Int) ^ (un l + 1) * r = 2 * (p * r) := by
        rw [Int.pow_succ, hp, Int.mul_comm p 2, Int.mul_assoc]
      rw [q5, show (2 * (p * r)) % 2 = 0 by omega, show (2 * (p * r)) / 2 = p * r by omega, ← hp, Int.add_zero, vrun_lo (n * 2) r hr]
theorem lo_hi {l : List UInt8} (h : chrs l) : lo l ≤ hi l := by
  have := vrun_in (l := l) 0 0 h; omega
theorem lo_eq_hi : ∀ {l : List UInt8}, chrs l → (lo l = hi l ↔ un l = 0)
  | [], _ => by decide
  | c :: l, h => by
    have hr : chrs l := fun b hb => h b (List.mem_cons_of_mem _ hb)
    have ih := lo_eq_hi hr
    have hle := lo_hi hr
    have hp := two_pow_pos l.length
    rcases four l (h c List.mem_cons_self) with ⟨q1, q2, q3, q4⟩ | ⟨q1, q2, q3, q4⟩ | ⟨q1, q2, q3, q4⟩ <;> rw [q1, q2, q3] <;> omega
end Go.Proofs.Ytoachkpkbgpmjaa
