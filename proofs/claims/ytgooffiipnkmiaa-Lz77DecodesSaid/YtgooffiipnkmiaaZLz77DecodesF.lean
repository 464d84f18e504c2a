/- Part 6 of the proof of the law Lz77Decodes: texts merged. No condition. -/
import Derived.Test.YtgooffiipnkmiaaZLz77DecodesE
section
set_option linter.unusedVariables false
set_option linter.unusedSimpArgs false
set_option maxRecDepth 4000
namespace Go.Proofs.Ytgooffiipnkmiaa
open Go.Gh Go.RowKit

/-- Costs: of a literal, of a copy, of a bit of a distance, of a bit of a length. -/
structure Cst where
  lit : Int
  cpy : Int
  dst : Int
  len : Int
abbrev csC (c : Cst) : List Value := [I c.lit, I c.cpy, I c.dst, I c.len]
abbrev csV (c : Cst) : Value := .agg ⟨csC c⟩
/-- A piece: length, distance, byte. -/
abbrev Pc := Int × Int × Int
abbrev pcC (t : Pc) : List Value := [I t.1, I t.2.1, .int .u8 t.2.2]
abbrev pcV (t : Pc) : Value := .agg ⟨pcC t⟩
theorem pcW (t : Pc) : (pcC t).length = 3 := rfl
@[simp] theorem len_pcs (l : List Pc) : (recs pcC l).length = 3 * l.length := by rw [recs_len pcW]; omega
abbrev one1 (n : Int) : Prop := 0 ≤ n ∧ n ≤ 1000
abbrev vC (c : Cst) : Prop := one1 c.lit ∧ one1 c.cpy ∧ one1 c.dst ∧ one1 c.len
/-- A valid piece. -/
abbrev vP (t : Pc) : Prop := (t.2.1 = 0 ∧ t.1 = 1) ∨ (1 ≤ t.2.1 ∧ t.2.1 ≤ 4096 ∧ 2 ≤ t.1 ∧ t.1 ≤ 273 ∧ t.2.2 = 0)
def iblen (n : Int) : Int := (blen n.toNat : Int)
theorem iblen_pos {n : Int} (h : 0 ≤ n ∧ n < 8192) : 0 ≤ iblen n ∧ iblen n ≤ 13 := by
  have := blen_le (n := n.toNat) (k := 13) (by omega)
  unfold iblen; omega
/-- The price of a valid piece. -/
def price (c : Cst) (t : Pc) : Int := if t.2.1 = 0 then c.lit else c.cpy + c.dst * iblen t.2.1 + c.len * iblen t.1
theorem mul_in {a b : Int} (ha : one1 a) (hb : 0 ≤ b ∧ b ≤ 13) : 0 ≤ a * b ∧ a * b ≤ 13000 := by
  have h1 := Int.mul_le_mul_of_nonneg_left hb.2 ha.1
  have h2 := Int.mul_nonneg ha.1 hb.1
  omega
theorem price_in {c : Cst} {t : Pc} (hc : vC c) (ht : vP t) : 0 ≤ price c t ∧ price c t ≤ 27000 := by
  obtain ⟨h1, h2, h3, h4⟩ := hc
  unfold price
  split
  · omega
  · rcases ht with ht | ht
    · omega
    · have := mul_in h3 (iblen_pos (n := t.2.1) (by omega))
      have := mul_in h4 (iblen_pos (n := t.1) (by omega))
      omega

theorem one_any (n : Int) (h : SH) : SRun Try.prog 95 [I n] h fun r q => r = B (decide (one1 n)) ∧ q = h := by
  refine w_body1 Try.func95 rfl rfl ?_
  repeat' (first | apply w_seq | apply w_region | apply o_nil | (apply o_g tyOk; exact rfl; exact rfl) | (apply o_want; exact rfl; exact rfl) | (apply o_skip; iterate 4 exact rfl) | (apply o_guardT; (iterate 3 exact rfl); all_goals intro hc) | apply thenS_normal | apply w_ret | ((with_reducible apply Sd.mk); (first | exact True.intro | omega | (constructor <;> first | omega | (unfold maxLen; omega)) | (unfold maxLen; omega))))
  all_goals (apply s_fin; (exact (show ResS _ _ _ _ [_] from ⟨rfl, trivial⟩)); (focus (refine ⟨?_, rfl⟩; show B _ = B _; congr 1; first | (rw [decide_eq_decide]; (try dsimp only at *); omega) | (symm; rw [decide_eq_false_iff_not]; (try dsimp only at *); omega))); (focus (repeat (first | with_reducible exact Take.nil | with_reducible apply Take.c | with_reducible apply Take.drop))))
theorem rValidC_any (c : Cst) (h : SH) : SRun Try.prog 59 [csV c] h fun r q => r = B (decide (vC c)) ∧ q = h := by
  obtain ⟨a, b, d, e⟩ := c
  refine w_body1 Try.func59 rfl rfl ?_
  repeat' (first | apply w_seq | apply w_region | apply o_nil | (apply o_g tyOk; exact rfl; exact rfl) | (apply o_load tyOk; (iterate 3 exact rfl); (focus (exact pk))) | (apply o_box (tt := tyT); iterate 5 exact rfl) | (apply o_call; exact rfl; exact rfl; (focus (first | exact rfl | assumption)); exact rfl; (focus (exact ⟨_, one_any _ _, by repeat (first | with_reducible exact Take.nil | with_reducible apply Take.c | with_reducible apply Take.drop)⟩)); rintro _ _ ⟨rfl, rfl⟩) | (apply o_want; exact rfl; exact rfl) | (apply o_skip; iterate 4 exact rfl) | (apply o_guardT; (iterate 3 exact rfl); all_goals intro hc) | apply thenS_normal | apply w_ret | ((with_reducible apply Sd.mk); (first | exact True.intro | omega | (constructor <;> first | omega | (unfold maxLen; omega)) | (unfold maxLen; omega))) | ((with_reducible apply Ln.mk); (first | rfl | exact ‹_› | omega | (simp ; first | done | omega))) | ((with_reducible apply Ce.mk); (first | rfl | exact ‹_› | exact cell_recZ (fun _ => rfl) (by omega) (by decide) rfl | exact cell_rec (fun _ => rfl) (by omega) (by decide) rfl | exact cell_bytes (by omega) | exact cell_mapZ (by omega) | exact cell_map (by omega))) | exact True.intro | intro A | exact rfl)
  all_goals (apply s_fin; (exact (show ResS _ _ _ _ [_] from ⟨rfl, trivial⟩)); (focus (refine ⟨?_, rfl⟩; show B _ = B _; congr 1; unfold vC; dsimp only; first | (rw [decide_eq_decide]; (try dsimp only at *); omega) | (symm; rw [decide_eq_false_iff_not]; (try dsimp only at *); omega))); (focus (repeat (first | with_reducible exact Take.nil | with_reducible apply Take.c | with_reducible apply Take.drop))))
theorem validC_any (c : Cst) (h : SH) : SRun Try.prog 55 [csV c] h fun r q => r = B (decide (vC c)) ∧ q = h := by
  obtain ⟨a, b, d, e⟩ := c
  refine w_body1 Try.func55 rfl rfl ?_
  repeat' (first | apply w_seq | apply w_region | apply o_nil | (apply o_g tyOk; exact rfl; exact rfl) | (apply o_load tyOk; (iterate 3 exact rfl); (focus (exact pk))) | (apply o_box (tt := tyT); iterate 5 exact rfl) | (apply o_buildSlice tyOk; (iterate 5 exact rfl); (focus (decide)); exact rfl; (focus (decide)); (focus (repeat (first | exact CatR.nil | exact CatR.last rfl | (apply CatR.one; exact rfl; exact rfl) | (apply CatR.agg; exact rfl)))); exact rfl) | apply thenS_normal | apply w_block | ((with_reducible apply Sd.mk); (first | exact True.intro | omega | (constructor <;> first | omega | (unfold maxLen; omega)) | (unfold maxLen; omega))) | ((with_reducible apply Ln.mk); (first | rfl | exact ‹_› | omega | (simp ; first | done | omega))) | ((with_reducible apply Ce.mk); (first | rfl | exact ‹_› | exact cell_recZ (fun _ => rfl) (by omega) (by decide) rfl | exact cell_rec (fun _ => rfl) (by omega) (by decide) rfl | exact cell_bytes (by omega) | exact cell_mapZ (by omega) | exact cell_map (by omega))) | exact True.intro | intro A | exact rfl)
  refine w_loop (S := Nat) (fun k => [(13, gsl A 0 (4 * 1) 4 1), (14, I 4), (15, I k)]) (fun _ => (A, ⟨[a, b, d, e].map (fun z => I z), false⟩) :: h) (fun k => k ≤ 4 ∧ ∀ i, i < k → one1 [a, b, d, e][i]!) (fun k => 4 - k) 0 ⟨by omega, by omega⟩ (by repeat' (first | exact trivial | refine ⟨rfl, ?_⟩ | refine ⟨congrArg some ?_, ?_⟩)) (by repeat (first | with_reducible exact Take.nil | with_reducible apply Take.c | with_reducible apply Take.drop)) ?_
  rintro k ⟨hk, hs⟩
  by_cases hkl : k < 4
  · have hl : k < [a, b, d, e].length := hkl
    have hall : (∀ i, i < 4 → one1 [a, b, d, e][i]!) ↔ one1 a ∧ one1 b ∧ one1 d ∧ one1 e :=
      ⟨fun g => ⟨g 0 (by omega), g 1 (by omega), g 2 (by omega), g 3 (by omega)⟩, fun g i hi => by match i, hi with | 0, _ => exact g.1 | 1, _ => exact g.2.1 | 2, _ => exact g.2.2.1 | 3, _ => exact g.2.2.2⟩
    repeat' (first | apply w_seq | apply w_region | apply o_nil | (apply o_g tyOk; exact rfl; exact rfl) | (apply o_ar tyOk; exact rfl; exact rfl) | (apply o_load tyOk; (iterate 3 exact rfl); (focus (exact pk))) | (apply o_want; exact rfl; exact rfl) | (apply o_skip; iterate 4 exact rfl) | (apply o_guardF; (iterate 3 exact rfl); all_goals intro hc) | (apply w_true; exact rfl) | (apply w_dT; exact rfl; (focus (first | exact ‹_› | with_reducible exact rfl | omega))) | (apply w_if; exact rfl; all_goals intro hc) | apply thenS_normal | apply thenS_ret | apply blockS_normal | apply blockS_ret | apply w_skip | apply w_ret | apply w_block | ((with_reducible apply Sd.mk); (first | exact True.intro | omega | (constructor <;> first | omega | (unfold maxLen; omega)) | (unfold maxLen; omega))) | ((with_reducible apply Ln.mk); (first | rfl | exact ‹_› | omega | (simp ; first | done | omega))) | ((with_reducible apply Wr.mk); (first | exact IntWalk.i64_in _ (by omega) | exact IntWalk.u8_in _ (by omega) | exact IntWalk.u32_in _ (by omega) | exact IntWalk.u64_in _ (by omega) | exact IntKind.wrap_u8 _ | exact IntKind.wrap_u32 _ | rfl)) | ((with_reducible apply Ce.mk); (first | rfl | exact ‹_› | exact cell_recZ (fun _ => rfl) (by omega) (by decide) rfl | exact cell_rec (fun _ => rfl) (by omega) (by decide) rfl | exact cell_bytes (by omega) | exact cell_mapZ (by omega) | exact cell_map (by omega))) | exact True.intro | exact rfl)
    all_goals first
      | (apply s_fin; (exact (show ResS _ _ _ _ [_] from ⟨rfl, trivial⟩)); (focus (refine ⟨?_, rfl⟩; show B _ = B _; congr 1; symm; rw [decide_eq_false_iff_not]; intro g; have := hall.2 g k hkl; omega)); (focus (repeat (first | with_reducible exact Take.nil | with_reducible apply Take.c | with_reducible apply Take.drop))))
      | exact ⟨k + 1, ⟨hkl, fun i hi => by
          by_cases e2 : i = k
          · subst e2; omega
          · exact hs i (by omega)⟩, by omega, (by repeat' (first | exact trivial | refine ⟨rfl, ?_⟩ | refine ⟨congrArg some ?_, ?_⟩)), (by repeat (first | with_reducible exact Take.nil | with_reducible apply Take.c | with_reducible apply Take.drop))⟩
  · repeat' (first | apply w_seq | apply w_region | apply o_nil | (apply o_g tyOk; exact rfl; exact rfl) | (apply w_dF; exact rfl; (focus (first | exact ‹_› | with_reducible exact rfl | omega))) | apply thenS_normal | apply thenS_exit | apply blockS_exit | apply w_ret | apply w_exit | ((with_reducible apply Sd.mk); (first | exact True.intro | omega | (constructor <;> first | omega | (unfold maxLen; omega)) | (unfold maxLen; omega))))
    (apply s_fin; (exact (show ResS _ _ _ _ [_] from ⟨rfl, trivial⟩)); (focus (refine ⟨?_, rfl⟩; show B _ = B _; congr 1; symm; rw [decide_eq_true_eq]; exact ⟨hs 0 (by omega), hs 1 (by omega), hs 2 (by omega), hs 3 (by omega)⟩)); (focus (repeat (first | with_reducible exact Take.nil | with_reducible apply Take.c | with_reducible apply Take.drop))))
theorem rIsPiece_any (t : Pc) (h : SH) : SRun Try.prog 96 [pcV t] h fun r q => r = B (decide (vP t)) ∧ q = h := by
  obtain ⟨a, b, d⟩ := t
  refine w_body1 Try.func96 rfl rfl ?_
  repeat' (first | apply w_seq | apply w_region | apply o_nil | (apply o_g tyOk; exact rfl; exact rfl) | (apply o_load tyOk; (iterate 3 exact rfl); (focus (exact pk))) | (apply o_box (tt := tyT); iterate 5 exact rfl) | (apply o_want; exact rfl; exact rfl) | (apply o_skip; iterate 4 exact rfl) | (apply o_guardT; (iterate 3 exact rfl); all_goals intro hc) | (apply w_if; exact rfl; all_goals intro hc) | apply thenS_normal | apply thenS_ret | apply w_skip | apply w_ret | ((with_reducible apply Sd.mk); (first | exact True.intro | omega | (constructor <;> first | omega | (unfold maxLen; omega)) | (unfold maxLen; omega))) | ((with_reducible apply Ln.mk); (first | rfl | exact ‹_› | omega | (simp ; first | done | omega))) | ((with_reducible apply Ce.mk); (first | rfl | exact ‹_› | exact cell_recZ (fun _ => rfl) (by omega) (by decide) rfl | exact cell_rec (fun _ => rfl) (by omega) (by decide) rfl | exact cell_bytes (by omega) | exact cell_mapZ (by omega) | exact cell_map (by omega))) | exact True.intro | intro A | exact rfl)
  all_goals (apply s_fin; (exact (show ResS _ _ _ _ [_] from ⟨rfl, trivial⟩)); (focus (refine ⟨?_, rfl⟩; show B _ = B _; congr 1; unfold vP; dsimp only; first | (rw [decide_eq_decide]; (try dsimp only at *); omega) | (symm; rw [decide_eq_false_iff_not]; (try dsimp only at *); omega))); (focus (repeat (first | with_reducible exact Take.nil | with_reducible apply Take.c | with_reducible apply Take.drop))))
theorem w_half (m : Nat) (h : m < 9223372036854775808) : IntKind.i64.wrap ((m : Int).tdiv 2) = ((m / 2 : Nat) : Int) := by
  rw [Int.tdiv_eq_ediv_of_nonneg (by omega), IntWalk.i64_in _ (by omega)]; omega
theorem rBits_any (n : Nat) (h : SH) (hn : n < 9223372036854775808) : SRun Try.prog 97 [I n] h fun r q => r = I (blen n) ∧ q = h := by
  refine w_body1 Try.func97 rfl rfl ?_
  repeat' (first | apply w_seq | apply w_region | apply o_nil | (apply o_g tyOk; exact rfl; exact rfl) | apply thenS_normal | apply w_block | ((with_reducible apply Sd.mk); (first | exact True.intro | omega | (constructor <;> first | omega | (unfold maxLen; omega)) | (unfold maxLen; omega))))
  refine w_loop (S := Nat × Nat) (fun x => [(0, I x.1), (3, I x.2)]) (fun _ => h) (fun x => x.1 ≤ n ∧ blen n = x.2 + blen x.1 ∧ x.2 ≤ 64) (fun x => x.1) (n, 0) ⟨Nat.le_refl _, by show blen n = 0 + blen n; omega, by omega⟩ (by repeat' (first | exact trivial | refine ⟨rfl, ?_⟩ | refine ⟨congrArg some ?_, ?_⟩)) (by repeat (first | with_reducible exact Take.nil | with_reducible apply Take.c | with_reducible apply Take.drop)) ?_
  rintro ⟨m, k⟩ ⟨hm, hk, hk2⟩
  dsimp only at hm hk hk2 ⊢
  repeat' (first | apply w_seq | apply w_region | apply o_nil | (apply o_g tyOk; exact rfl; exact rfl) | (apply o_ar tyOk; exact rfl; exact rfl) | (apply w_if; exact rfl; all_goals intro hc) | apply thenS_normal | apply thenS_exit | apply blockS_normal | apply blockS_exit | apply w_skip | apply w_ret | apply w_exit | apply w_block | ((with_reducible apply Sd.mk); (first | exact True.intro | omega | (constructor <;> first | omega | (unfold maxLen; omega)) | (unfold maxLen; omega))) | ((with_reducible apply Wr.mk); (first | exact w_half _ (by omega) | exact IntWalk.i64_in _ (by omega) | exact IntWalk.u8_in _ (by omega) | exact IntWalk.u32_in _ (by omega) | exact IntWalk.u64_in _ (by omega) | exact IntKind.wrap_u8 _ | exact IntKind.wrap_u32 _ | rfl)))
  · exact ⟨(m / 2, k + 1), ⟨by show m / 2 ≤ n; omega, by have := blen_half (n := m) (by omega); show blen n = k + 1 + blen (m / 2); omega, by
      have := blen_half (n := m) (by omega)
      have h3 := blen_le (n := n) (k := 63) (by omega)
      show k + 1 ≤ 64; omega⟩, by show m / 2 < m; omega, (by repeat' (first | exact trivial | refine ⟨rfl, ?_⟩ | refine ⟨congrArg some ?_, ?_⟩)), (by repeat (first | with_reducible exact Take.nil | with_reducible apply Take.c | with_reducible apply Take.drop))⟩
  · obtain rfl : m = 0 := by omega
    (apply s_fin; (exact (show ResS _ _ _ _ [_] from ⟨rfl, trivial⟩)); (focus (exact ⟨by show I k = I (blen n); rw [hk, blen_zero, Nat.add_zero], rfl⟩)); (focus (repeat (first | with_reducible exact Take.nil | with_reducible apply Take.c | with_reducible apply Take.drop))))
theorem vP_nat {t : Pc} (h : vP t) : ∃ (a b : Nat) (y : Int), t = ((a : Int), (b : Int), y) ∧ a ≤ 273 ∧ b ≤ 4096 := by
  obtain ⟨a, b, y⟩ := t
  have h' : (b = 0 ∧ a = 1) ∨ (1 ≤ b ∧ b ≤ 4096 ∧ 2 ≤ a ∧ a ≤ 273 ∧ y = 0) := h
  exact ⟨a.toNat, b.toNat, y, by rw [Int.toNat_of_nonneg (by omega), Int.toNat_of_nonneg (by omega)], by omega, by omega⟩
theorem price_nat (c : Cst) (a b : Nat) (y : Int) : price c ((a : Int), (b : Int), y) = if (b : Int) = 0 then c.lit else c.cpy + c.dst * (blen b : Int) + c.len * (blen a : Int) := rfl
theorem price_any (c : Cst) (t : Pc) (h : SH) (hc : vC c) (ht : vP t) : SRun Try.prog 57 [csV c, pcV t] h fun r q => r = I (price c t) ∧ q = h := by
  have hin := price_in hc ht
  obtain ⟨a, b, y, rfl, ha, hb⟩ := vP_nat ht
  rw [price_nat] at hin ⊢
  have m1 := mul_in hc.2.2.1 (b := (blen b : Int)) (by have := blen_le (n := b) (k := 13) (by omega); omega)
  have m2 := mul_in hc.2.2.2 (b := (blen a : Int)) (by have := blen_le (n := a) (k := 13) (by omega); omega)
  have h2 := hc.2.1
  show SRun _ _ [csV c, .agg ⟨[I a, I b, .int .u8 y]⟩] h _
  refine w_body2 Try.func57 rfl rfl ?_
  repeat' (first | apply w_seq | apply w_region | apply o_nil | (apply w_draw; (focus (kernel_rfl)); (focus (kernel_rfl))) | (apply o_g tyOk; exact rfl; exact rfl) | (apply o_ar tyOk; exact rfl; exact rfl) | (apply o_load tyOk; (iterate 3 exact rfl); (focus (exact pk))) | (apply o_box (tt := tyT); iterate 5 exact rfl) | (apply o_callD; (iterate 4 exact rfl); (focus (exact ⟨_, bLen_any b _ (by omega), by repeat (first | with_reducible exact Take.nil | with_reducible apply Take.c | with_reducible apply Take.drop)⟩)); (focus (exact fun _ _ h => h.1)); (focus ((repeat (first | exact Flat.c rfl | apply flat_tuple | apply flat_agg | exact FlatL.nil | apply FlatL.cons))))) | (apply o_callD; (iterate 4 exact rfl); (focus (exact ⟨_, bLen_any a _ (by omega), by repeat (first | with_reducible exact Take.nil | with_reducible apply Take.c | with_reducible apply Take.drop)⟩)); (focus (exact fun _ _ h => h.1)); (focus ((repeat (first | exact Flat.c rfl | apply flat_tuple | apply flat_agg | exact FlatL.nil | apply FlatL.cons))))) | (apply w_if; exact rfl; all_goals intro hc) | apply thenS_normal | apply thenS_ret | apply w_skip | apply w_ret | ((with_reducible apply Sd.mk); (first | exact True.intro | omega | (constructor <;> first | omega | (unfold maxLen; omega)) | (unfold maxLen; omega))) | ((with_reducible apply Ln.mk); (first | rfl | exact ‹_› | omega | (simp ; first | done | omega))) | ((with_reducible apply Wr.mk); (first | exact IntWalk.i64_in _ (by omega) | exact IntWalk.u8_in _ (by omega) | exact IntWalk.u32_in _ (by omega) | exact IntWalk.u64_in _ (by omega) | exact IntKind.wrap_u8 _ | exact IntKind.wrap_u32 _ | rfl)) | ((with_reducible apply Ce.mk); (first | rfl | exact ‹_› | exact cell_recZ (fun _ => rfl) (by omega) (by decide) rfl | exact cell_rec (fun _ => rfl) (by omega) (by decide) rfl | exact cell_bytes (by omega) | exact cell_mapZ (by omega) | exact cell_map (by omega))) | exact True.intro | intro A | exact rfl)
  · rw [if_pos hc]
    (apply s_fin; (exact (show ResS _ _ _ _ [_] from ⟨rfl, trivial⟩)); (focus (exact ⟨rfl, rfl⟩)); (focus (repeat (first | with_reducible exact Take.nil | with_reducible apply Take.c | with_reducible apply Take.drop))))
  · rw [if_neg hc]
    (apply s_fin; (exact (show ResS _ _ _ _ [_] from ⟨rfl, trivial⟩)); (focus (exact ⟨rfl, rfl⟩)); (focus (repeat (first | with_reducible exact Take.nil | with_reducible apply Take.c | with_reducible apply Take.drop))))
end Go.Proofs.Ytgooffiipnkmiaa
end
section
set_option linter.unusedVariables false
set_option linter.unusedSimpArgs false
set_option maxRecDepth 4000
namespace Go.Proofs.Ytgooffiipnkmiaa
open Go.Gh Go.RowKit

theorem rlzPrice_any (c : Cst) (t : Pc) (h : SH) : SRun Try.prog 61 [csV c, pcV t] h fun r q => r = I (if vC c ∧ vP t then price c t else 0) ∧ q = h := by
  by_cases hc0 : vC c
  · by_cases ht0 : vP t
    · rw [if_pos ⟨hc0, ht0⟩]
      have hin := price_in hc0 ht0
      have ht1 := ht0
      obtain ⟨a, b, y, rfl, ha, hb⟩ := vP_nat ht0
      rw [price_nat] at hin ⊢
      have m1 := mul_in hc0.2.2.1 (b := (blen b : Int)) (by have := blen_le (n := b) (k := 13) (by omega); omega)
      have m2 := mul_in hc0.2.2.2 (b := (blen a : Int)) (by have := blen_le (n := a) (k := 13) (by omega); omega)
      have h2 := hc0.2.1
      refine w_body2 Try.func61 rfl rfl ?_
      repeat' (first | apply w_seq | apply w_region | apply o_nil | (apply w_draw; (focus (kernel_rfl)); (focus (kernel_rfl))) | (apply o_g tyOk; exact rfl; exact rfl) | (apply o_ar tyOk; exact rfl; exact rfl) | (apply o_not; exact rfl; exact rfl) | (apply o_load tyOk; (iterate 3 exact rfl); (focus (exact pk))) | (apply o_loads tyOk; (iterate 3 exact rfl); (focus (exact pk))) | (apply o_box (tt := tyT); iterate 5 exact rfl) | (apply o_call; exact rfl; exact rfl; (focus (first | exact rfl | assumption)); exact rfl; (focus (exact ⟨_, rValidC_any c _, by repeat (first | with_reducible exact Take.nil | with_reducible apply Take.c | with_reducible apply Take.drop)⟩)); rintro _ _ ⟨rfl, rfl⟩) | (apply o_call; exact rfl; exact rfl; (focus (first | exact rfl | assumption)); exact rfl; (focus (exact ⟨_, rIsPiece_any _ _, by repeat (first | with_reducible exact Take.nil | with_reducible apply Take.c | with_reducible apply Take.drop)⟩)); rintro _ _ ⟨rfl, rfl⟩) | (apply o_callD; (iterate 4 exact rfl); (focus (exact ⟨_, rBits_any b _ (by omega), by repeat (first | with_reducible exact Take.nil | with_reducible apply Take.c | with_reducible apply Take.drop)⟩)); (focus (exact fun _ _ h => h.1)); (focus ((repeat (first | exact Flat.c rfl | apply flat_tuple | apply flat_agg | exact FlatL.nil | apply FlatL.cons))))) | (apply o_callD; (iterate 4 exact rfl); (focus (exact ⟨_, rBits_any a _ (by omega), by repeat (first | with_reducible exact Take.nil | with_reducible apply Take.c | with_reducible apply Take.drop)⟩)); (focus (exact fun _ _ h => h.1)); (focus ((repeat (first | exact Flat.c rfl | apply flat_tuple | apply flat_agg | exact FlatL.nil | apply FlatL.cons))))) | (apply o_want; exact rfl; exact rfl) | (apply o_gF; (iterate 3 exact rfl); (focus (first | exact ‹_› | with_reducible exact rfl | omega))) | (apply w_dF; exact rfl; (focus (first | exact ‹_› | with_reducible exact rfl | omega))) | (apply w_if; exact rfl; all_goals intro hc) | apply thenS_normal | apply thenS_ret | apply blockS_normal | apply blockS_ret | apply w_skip | apply w_ret | apply w_block | ((with_reducible apply Sd.mk); (first | exact True.intro | omega | (constructor <;> first | omega | (unfold maxLen; omega)) | (unfold maxLen; omega))) | ((with_reducible apply Ln.mk); (first | rfl | exact ‹_› | omega | (simp ; first | done | omega))) | ((with_reducible apply Wr.mk); (first | exact IntWalk.i64_in _ (by omega) | exact IntWalk.u8_in _ (by omega) | exact IntWalk.u32_in _ (by omega) | exact IntWalk.u64_in _ (by omega) | exact IntKind.wrap_u8 _ | exact IntKind.wrap_u32 _ | rfl)) | ((with_reducible apply Ce.mk); (first | rfl | exact ‹_› | exact cell_recZ (fun _ => rfl) (by omega) (by decide) rfl | exact cell_rec (fun _ => rfl) (by omega) (by decide) rfl | exact cell_bytes (by omega) | exact cell_mapZ (by omega) | exact cell_map (by omega))) | ((with_reducible apply Su.mk); (first | exact subAt_all | exact subAt_recZ (fun _ => rfl) (by omega) | exact subAt_rec (fun _ => rfl) (by omega))) | exact True.intro | intro A | exact rfl)
      all_goals first
        | (exfalso; simp_all; done)
        | (rw [if_pos hc]; (apply s_fin; (exact (show ResS _ _ _ _ [_] from ⟨rfl, trivial⟩)); (focus (exact ⟨rfl, rfl⟩)); (focus (repeat (first | with_reducible exact Take.nil | with_reducible apply Take.c | with_reducible apply Take.drop)))))
        | (rw [if_neg hc]; (apply s_fin; (exact (show ResS _ _ _ _ [_] from ⟨rfl, trivial⟩)); (focus (exact ⟨rfl, rfl⟩)); (focus (repeat (first | with_reducible exact Take.nil | with_reducible apply Take.c | with_reducible apply Take.drop)))))
    · refine w_body2 Try.func61 rfl rfl ?_
      repeat' (first | apply w_seq | apply w_region | apply o_nil | (apply o_g tyOk; exact rfl; exact rfl) | (apply o_not; exact rfl; exact rfl) | (apply o_loads tyOk; (iterate 3 exact rfl); (focus (exact pk))) | (apply o_box (tt := tyT); iterate 5 exact rfl) | (apply o_call; exact rfl; exact rfl; (focus (first | exact rfl | assumption)); exact rfl; (focus (exact ⟨_, rValidC_any c _, by repeat (first | with_reducible exact Take.nil | with_reducible apply Take.c | with_reducible apply Take.drop)⟩)); rintro _ _ ⟨rfl, rfl⟩) | (apply o_call; exact rfl; exact rfl; (focus (first | exact rfl | assumption)); exact rfl; (focus (exact ⟨_, rIsPiece_any t _, by repeat (first | with_reducible exact Take.nil | with_reducible apply Take.c | with_reducible apply Take.drop)⟩)); rintro _ _ ⟨rfl, rfl⟩) | (apply o_want; exact rfl; exact rfl) | (apply o_gF; (iterate 3 exact rfl); (focus (first | exact ‹_› | with_reducible exact rfl | omega))) | (apply w_dT; exact rfl; (focus (first | exact ‹_› | with_reducible exact rfl | omega))) | apply thenS_normal | apply thenS_ret | apply blockS_ret | apply w_ret | apply w_block | ((with_reducible apply Sd.mk); (first | exact True.intro | omega | (constructor <;> first | omega | (unfold maxLen; omega)) | (unfold maxLen; omega))) | ((with_reducible apply Ln.mk); (first | rfl | exact ‹_› | omega | (simp ; first | done | omega))) | ((with_reducible apply Su.mk); (first | exact subAt_all | exact subAt_recZ (fun _ => rfl) (by omega) | exact subAt_rec (fun _ => rfl) (by omega))) | exact True.intro | intro A | exact rfl)
      all_goals first
        | (apply s_fin; (exact (show ResS _ _ _ _ [_] from ⟨rfl, trivial⟩)); (focus (exact ⟨congrArg I (if_neg (fun g => ht0 g.2)).symm, rfl⟩)); (focus (repeat (first | with_reducible exact Take.nil | with_reducible apply Take.c | with_reducible apply Take.drop))))
        | (exfalso; simp_all; done)
  · refine w_body2 Try.func61 rfl rfl ?_
    repeat' (first | apply w_seq | apply w_region | apply o_nil | (apply o_g tyOk; exact rfl; exact rfl) | (apply o_not; exact rfl; exact rfl) | (apply o_loads tyOk; (iterate 3 exact rfl); (focus (exact pk))) | (apply o_box (tt := tyT); iterate 5 exact rfl) | (apply o_call; exact rfl; exact rfl; (focus (first | exact rfl | assumption)); exact rfl; (focus (exact ⟨_, rValidC_any c _, by repeat (first | with_reducible exact Take.nil | with_reducible apply Take.c | with_reducible apply Take.drop)⟩)); rintro _ _ ⟨rfl, rfl⟩) | (apply o_skip; iterate 4 exact rfl) | (apply o_sT; (iterate 3 exact rfl); (focus (first | exact ‹_› | with_reducible exact rfl | omega)); exact rfl) | (apply w_true; exact rfl) | apply thenS_normal | apply thenS_ret | apply blockS_ret | apply w_ret | apply w_block | ((with_reducible apply Sd.mk); (first | exact True.intro | omega | (constructor <;> first | omega | (unfold maxLen; omega)) | (unfold maxLen; omega))) | ((with_reducible apply Ln.mk); (first | rfl | exact ‹_› | omega | (simp ; first | done | omega))) | ((with_reducible apply Su.mk); (first | exact subAt_all | exact subAt_recZ (fun _ => rfl) (by omega) | exact subAt_rec (fun _ => rfl) (by omega))) | exact True.intro | intro A | exact rfl)
    all_goals first
      | (apply s_fin; (exact (show ResS _ _ _ _ [_] from ⟨rfl, trivial⟩)); (focus (exact ⟨congrArg I (if_neg (fun g => hc0 g.1)).symm, rfl⟩)); (focus (repeat (first | with_reducible exact Take.nil | with_reducible apply Take.c | with_reducible apply Take.drop))))
      | (exfalso; simp_all; done)
/-- The cost of pieces. -/
def costs (c : Cst) : List Pc → Int
  | [] => 0
  | t :: r => price c t + costs c r
abbrev vPs (l : List Pc) : Prop := ∀ t ∈ l, vP t
end Go.Proofs.Ytgooffiipnkmiaa
end
section
set_option linter.unusedVariables false
set_option linter.unusedSimpArgs false
set_option maxRecDepth 4000
namespace Go.Proofs.Ytgooffiipnkmiaa
open Go.Gh Go.RowKit

/-- `n` bytes from `d` bytes back, one after another. -/
def copyN (d : Nat) : Nat → List UInt8 → List UInt8
  | 0, o => o
  | n + 1, o => copyN d n (o ++ [o[o.length - d]!])
def byt (y : Int) : UInt8 := UInt8.ofNat y.toNat
theorem byt_nat {y : Int} (h : 0 ≤ y ∧ y ≤ 255) : ((byt y).toNat : Int) = y := by
  unfold byt
  rw [UInt8.toNat_ofNat', Nat.mod_eq_of_lt (by omega)]; omega
theorem byteV_byt {y : Int} (h : 0 ≤ y ∧ y ≤ 255) : Value.int .u8 y = byteV (byt y) := by
  show _ = Value.int .u8 _
  rw [byt_nat h]
def estp (o : List UInt8) (t : Pc) : List UInt8 := if t.2.1 = 0 then o ++ [byt t.2.2] else copyN t.2.1.toNat t.1.toNat o
theorem copyN_len (d : Nat) : ∀ (n : Nat) (o : List UInt8), (copyN d n o).length = o.length + n
  | 0, _ => rfl
  | n + 1, o => by rw [copyN, copyN_len d n]; simp; omega
abbrev bytesOk (l : List Pc) : Prop := ∀ t ∈ l, 0 ≤ t.2.2 ∧ t.2.2 ≤ 255
theorem bang_mem {α : Type} [Inhabited α] {l : List α} {k : Nat} (h : k < l.length) : l[k]! ∈ l := by rw [getElem!_pos l k h]; exact List.getElem_mem h
theorem estp_lit {t : Pc} (o : List UInt8) (h : t.2.1 = 0) : estp o t = o ++ [byt t.2.2] := if_pos h
theorem estp_cpy {t : Pc} (o : List UInt8) (h : t.2.1 ≠ 0) : estp o t = copyN t.2.1.toNat t.1.toNat o := if_neg h
end Go.Proofs.Ytgooffiipnkmiaa
end
section
set_option linter.unusedVariables false
set_option linter.unusedSimpArgs false
set_option maxRecDepth 4000
namespace Go.Proofs.Ytgooffiipnkmiaa
open Go.Gh Go.RowKit

/-- A step: cost, pieces, the first piece. -/
abbrev St := Int × Int × Pc
abbrev stC (s : St) : List Value := [I s.1, I s.2.1, I s.2.2.1, I s.2.2.2.1, .int .u8 s.2.2.2.2]
theorem stcW (s : St) : (stC s).length = 5 := rfl
@[simp] theorem len_stcs (l : List St) : (recs stC l).length = 5 * l.length := by rw [recs_len stcW]; omega
def nxt (c : Cst) (T : List St) (i : Nat) (t : Pc) : St := (T[i + t.1.toNat]!.1 + price c t, T[i + t.1.toNat]!.2.1 + 1, t)
abbrev sbet (x y : St) : Prop := x.1 < y.1 ∨ x.1 = y.1 ∧ x.2.1 < y.2.1
/-- One try. -/
def tryS (c : Cst) (i : Nat) (s : Bool × List St) (t : Pc) : Bool × List St :=
  if s.1 = false ∨ sbet (nxt c s.2 i t) s.2[i]! then (true, s.2.set i (nxt c s.2 i t)) else s
theorem tryS_len (c : Cst) (i : Nat) (s : Bool × List St) (t : Pc) : (tryS c i s t).2.length = s.2.length := by
  unfold tryS; split <;> simp
abbrev TB (n3 n8 n9 n10 A : Nat) (c : Cst) (i : Nat) (s : Bool × List St) (h : SH) : SH :=
  (n10, ⟨[B s.1], false⟩) :: (n9, ⟨[I i], false⟩) :: (n8, ⟨[gsl A 0 (s.2.length * 5) s.2.length 5], false⟩) :: (A, ⟨recs stC s.2, false⟩) :: (n3, ⟨csC c, false⟩) :: h
abbrev stOk (s : St) : Prop := 0 ≤ s.1 ∧ s.1 ≤ 27000 * 4097 ∧ 0 ≤ s.2.1 ∧ s.2.1 ≤ 4097
theorem put5 {a b c d e x y z : Value} : PutAt [a, b, c, d, e] 2 [x, y, z] [a, b, x, y, z] := ⟨by simp, rfl⟩
theorem try_any (c : Cst) (t : Pc) (n3 n8 n9 n10 A0 i : Nat) (s : Bool × List St) (h : SH) (hc : vC c) (ht : vP t) (hi : i + t.1.toNat < s.2.length) (hl : s.2.length ≤ 4097) (hT : stOk s.2[i + t.1.toNat]!) :
    SRun Try.prog 56 [pcV t, gptr n8 0 1, gptr n9 0 1, gptr n3 0 4, gptr n10 0 1] (TB n3 n8 n9 n10 A0 c i s h)
      fun r q => r = .tuple #[] ∧ q = TB n3 n8 n9 n10 A0 c i (tryS c i s t) h := by
  have hpr := price_in hc ht
  obtain ⟨a, b, y, rfl, ha, hb⟩ := vP_nat ht
  have hix : i + ((a : Int)).toNat = i + a := by rw [Int.toNat_natCast]
  dsimp only at hi hT
  rw [hix] at hi hT
  have hn : nxt c s.2 i ((a : Int), (b : Int), y) = (s.2[i + a]!.1 + price c ((a : Int), (b : Int), y), s.2[i + a]!.2.1 + 1, ((a : Int), (b : Int), y)) := by unfold nxt; dsimp only; rw [hix]
  obtain ⟨f, T⟩ := s
  dsimp only at hi hT hl hn ⊢
  show SRun _ _ [.agg ⟨[I (a : Int), I (b : Int), .int .u8 y]⟩, gptr n8 0 1, gptr n9 0 1, gptr n3 0 4, gptr n10 0 1]
    ((n10, ⟨[B f], false⟩) :: (n9, ⟨[I i], false⟩) :: (n8, ⟨[gsl A0 0 (T.length * 5) T.length 5], false⟩) :: (A0, ⟨recs stC T, false⟩) :: (n3, ⟨csC c, false⟩) :: h) _
  refine w_body5 Try.func56 rfl rfl ?_
  have hput : PutAt (recs stC T) (0 + ((i : Int)).toNat * 5) [I (T[i + a]!.1 + price c ((a : Int), (b : Int), y)), I (T[i + a]!.2.1 + 1), I (a : Int), I (b : Int), .int .u8 y] (recs stC (T.set i (nxt c T i ((a : Int), (b : Int), y)))) := by
    rw [hn]; exact putAt_recZ (x := (T[i + a]!.1 + price c ((a : Int), (b : Int), y), T[i + a]!.2.1 + 1, ((a : Int), (b : Int), y))) (fun _ => rfl) (by omega)
  have hset : (f = false ∨ (T[i + a]!.1 + price c ((a : Int), (b : Int), y) < T[i]!.1 ∨ T[i + a]!.1 + price c ((a : Int), (b : Int), y) = T[i]!.1 ∧ T[i + a]!.2.1 + 1 < T[i]!.2.1)) → tryS c i (f, T) ((a : Int), (b : Int), y) = (true, T.set i (nxt c T i ((a : Int), (b : Int), y))) := fun g => by
    unfold tryS; dsimp only; rw [if_pos (by rw [hn]; exact g)]
  have hno : ¬ (f = false ∨ (T[i + a]!.1 + price c ((a : Int), (b : Int), y) < T[i]!.1 ∨ T[i + a]!.1 + price c ((a : Int), (b : Int), y) = T[i]!.1 ∧ T[i + a]!.2.1 + 1 < T[i]!.2.1)) → tryS c i (f, T) ((a : Int), (b : Int), y) = (f, T) := fun g => by
    unfold tryS; dsimp only; rw [if_neg (by rw [hn]; exact g)]
  repeat' (first | apply w_seq | apply w_region | apply o_nil | (apply w_draw; (focus (kernel_rfl)); (focus (kernel_rfl))) | (apply o_g tyOk; exact rfl; exact rfl) | (apply o_ar tyOk; exact rfl; exact rfl) | (apply o_notB; exact rfl; exact rfl) | (apply o_load tyOk; (iterate 3 exact rfl); (focus (exact pk))) | (apply o_loads tyOk; (iterate 3 exact rfl); (focus (exact pk))) | (apply o_store tyOk; (iterate 4 exact rfl); (focus (exact up))) | (apply o_stores tyOk; (iterate 4 exact rfl); (focus (exact ⟨rfl⟩)); (focus (exact up))) | (apply o_alloc tyOk; iterate 5 exact rfl) | (apply o_box (tt := tyT); iterate 5 exact rfl) | (apply o_build tyOk; exact rfl; exact rfl; (focus (first | with_reducible exact pl98)); exact rfl; (focus (repeat (first | exact BuildR.nil | (apply BuildR.one; exact rfl; exact rfl; (first | (focus ((repeat (first | exact SetAt.zero | apply SetAt.succ)); done)) | exact setAt_bytes (by omega) (by omega) | exact setAt_mapZ (by omega) | exact setAt_map (by omega))) | (apply BuildR.agg; exact rfl; exact rfl; (first | exact putAt_all rfl | exact put5 | exact hput | exact putAt_recZ (fun _ => rfl) (by omega) | exact putAt_rec (fun _ => rfl) (by omega)))))); exact rfl) | (apply o_callD; (iterate 4 exact rfl); (focus (exact ⟨_, price_any c _ _ hc ht, by repeat (first | with_reducible exact Take.nil | with_reducible apply Take.c | with_reducible apply Take.drop)⟩)); (focus (exact fun _ _ h => h.1)); (focus ((repeat (first | exact Flat.c rfl | apply flat_tuple | apply flat_agg | exact FlatL.nil | apply FlatL.cons))))) | (apply o_want; exact rfl; exact rfl) | (apply o_skip; iterate 4 exact rfl) | (apply o_skip_undef; iterate 3 exact rfl) | (apply o_guardT; (iterate 3 exact rfl); all_goals intro hc) | (apply o_guardF; (iterate 3 exact rfl); all_goals intro hc) | (apply o_guardB; (iterate 3 exact rfl); all_goals intro hc) | (apply w_true; exact rfl) | (apply w_false; exact rfl) | (apply w_if; exact rfl; all_goals intro hc) | apply thenS_normal | apply w_skip | ((with_reducible apply Sd.mk); (first | exact True.intro | omega | (constructor <;> first | omega | (unfold maxLen; omega)) | (unfold maxLen; omega))) | ((with_reducible apply Ln.mk); (first | rfl | exact ‹_› | omega | (simp ; first | done | omega))) | ((with_reducible apply Wr.mk); (first | exact IntWalk.i64_in _ (by omega) | exact IntWalk.u8_in _ (by omega) | exact IntWalk.u32_in _ (by omega) | exact IntWalk.u64_in _ (by omega) | exact IntKind.wrap_u8 _ | exact IntKind.wrap_u32 _ | rfl)) | ((with_reducible apply Ce.mk); (first | rfl | exact ‹_› | exact cell_recZ (fun _ => rfl) (by omega) (by decide) rfl | exact cell_rec (fun _ => rfl) (by omega) (by decide) rfl | exact cell_bytes (by omega) | exact cell_mapZ (by omega) | exact cell_map (by omega))) | ((with_reducible apply Se.mk); (first | (focus ((repeat (first | exact SetAt.zero | apply SetAt.succ)); done)) | exact setAt_bytes (by omega) (by omega) | exact setAt_mapZ (by omega) | exact setAt_map (by omega))) | ((with_reducible apply Pu.mk); (first | exact putAt_all rfl | exact put5 | exact hput | exact putAt_recZ (fun _ => rfl) (by omega) | exact putAt_rec (fun _ => rfl) (by omega))) | ((with_reducible apply Su.mk); (first | exact subAt_all | exact subAt_recZ (fun _ => rfl) (by omega) | exact subAt_rec (fun _ => rfl) (by omega))) | exact True.intro | exact Or.inl rfl | apply And.intro | intro A | exact rfl)
  all_goals first
    | (rw [hset (by first | (left; simpa using hc) | (right; left; assumption) | (right; right; exact ⟨by assumption, by assumption⟩))]; (apply s_finN; (exact (show ResS _ _ _ _ [] from trivial)); (focus (exact ⟨rfl, rfl⟩)); (focus (repeat (first | with_reducible exact Take.nil | with_reducible apply Take.c | ((with_reducible apply Take.cE); (first | exact rfl | (apply blkE; (focus (first | exact rfl | exact recs_snocE rfl | exact map_snocE rfl | exact congrArg (fun v => [v]) (gslE rfl rfl (by first | rfl | exact ‹_› | omega | (simp ; first | done | omega)) (by first | rfl | exact ‹_› | omega | (simp ; first | done | omega)) rfl)))))) | with_reducible apply Take.drop)))))
    | (rw [hno (by rintro (g | g | g) <;> first | omega | simp_all)]; (apply s_finN; (exact (show ResS _ _ _ _ [] from trivial)); (focus (exact ⟨rfl, rfl⟩)); (focus (repeat (first | with_reducible exact Take.nil | with_reducible apply Take.c | with_reducible apply Take.drop)))))
end Go.Proofs.Ytgooffiipnkmiaa
end
section
set_option linter.unusedVariables false
set_option linter.unusedSimpArgs false
set_option maxRecDepth 4000
namespace Go.Proofs.Ytgooffiipnkmiaa
open Go.Gh Go.RowKit

abbrev vld (w m : Int) : Prop := 1 ≤ w ∧ w ≤ 4096 ∧ 2 ≤ m ∧ m ≤ 273

/-- How many bytes from i on are those from j on, at most m. -/
def lcp (l : List UInt8) (i j : Nat) : Nat → Nat
  | 0 => 0
  | m + 1 => if bat l i = bat l j then lcp l (i + 1) (j + 1) m + 1 else 0

theorem lcp_le (l : List UInt8) : ∀ (m i j : Nat), lcp l i j m ≤ m
  | 0, _, _ => Nat.le_refl _
  | m + 1, i, j => by
    unfold lcp; split
    · have := lcp_le l m (i + 1) (j + 1); omega
    · omega

theorem valid_any (x y : Int) (h : SH) : SRun Try.prog 86 [I x, I y] h fun r q => r = B (decide (vld x y)) ∧ q = h := by
  refine w_body2 Try.func86 rfl rfl ?_
  repeat' (first | apply w_seq | apply w_region | apply o_nil | (apply o_g tyOk; exact rfl; exact rfl) | (apply o_want; exact rfl; exact rfl) | (apply o_skip; iterate 4 exact rfl) | (apply o_guardT; (iterate 3 exact rfl); all_goals intro hc) | apply thenS_normal | apply w_ret | ((with_reducible apply Sd.mk); (first | exact True.intro | omega | (constructor <;> first | omega | (unfold maxLen; omega)) | (unfold maxLen; omega))))
  all_goals (apply s_fin; (exact (show ResS _ _ _ _ [_] from ⟨rfl, trivial⟩)); (focus (refine ⟨?_, rfl⟩; show B _ = B _; congr 1; unfold vld; first | (rw [decide_eq_decide]; omega) | (symm; rw [decide_eq_false_iff_not]; omega))); (focus (repeat (first | with_reducible exact Take.nil | with_reducible apply Take.c | with_reducible apply Take.drop))))
theorem rvalid_any (x y : Int) (h : SH) : SRun Try.prog 60 [I x, I y] h fun r q => r = B (decide (vld x y)) ∧ q = h := by
  refine w_body2 Try.func60 rfl rfl ?_
  repeat' (first | apply w_seq | apply w_region | apply o_nil | (apply o_g tyOk; exact rfl; exact rfl) | (apply o_want; exact rfl; exact rfl) | (apply o_skip; iterate 4 exact rfl) | (apply o_guardT; (iterate 3 exact rfl); all_goals intro hc) | apply thenS_normal | apply w_ret | ((with_reducible apply Sd.mk); (first | exact True.intro | omega | (constructor <;> first | omega | (unfold maxLen; omega)) | (unfold maxLen; omega))))
  all_goals (apply s_fin; (exact (show ResS _ _ _ _ [_] from ⟨rfl, trivial⟩)); (focus (refine ⟨?_, rfl⟩; show B _ = B _; congr 1; unfold vld; first | (rw [decide_eq_decide]; omega) | (symm; rw [decide_eq_false_iff_not]; omega))); (focus (repeat (first | with_reducible exact Take.nil | with_reducible apply Take.c | with_reducible apply Take.drop))))

theorem common_any (l : List UInt8) (i j m : Nat) (h : SH) (h1 : i + m ≤ l.length) (h2 : j + m ≤ l.length) (h5 : l.length ≤ 9223372036854775807) :
    SRun Try.prog 120 [S l, I i, I j, I m] h fun r q => r = I (lcp l i j m) ∧ q = h := by
  refine w_body4 Try.func120 rfl rfl ?_
  repeat' (first | apply w_seq | apply w_region | apply o_nil | (apply o_g tyOk; exact rfl; exact rfl) | apply thenS_normal | apply w_block | ((with_reducible apply Sd.mk); (first | exact True.intro | omega | (constructor <;> first | omega | (unfold maxLen; omega)) | (unfold maxLen; omega))))
  refine w_loop (S := Nat) (fun k => [(0, S l), (1, I i), (2, I j), (3, I m), (10, I m), (11, I k)]) (fun _ => h)
    (fun k => k ≤ m ∧ lcp l i j m = k + lcp l (i + k) (j + k) (m - k)) (fun k => m - k) 0 ⟨by omega, by simp⟩ (by repeat' (first | exact trivial | refine ⟨rfl, ?_⟩ | refine ⟨congrArg some ?_, ?_⟩)) (by repeat (first | with_reducible exact Take.nil | with_reducible apply Take.c | with_reducible apply Take.drop)) ?_
  rintro k ⟨hk, he⟩
  repeat' (first | apply w_seq | apply w_region | apply o_nil | (apply w_draw; (focus (kernel_rfl)); (focus (kernel_rfl))) | (apply o_g tyOk; exact rfl; exact rfl) | (apply o_ar tyOk; exact rfl; exact rfl) | (apply o_max; iterate 3 exact rfl) | (apply w_ifN; exact rfl; all_goals intro hc) | (apply w_if; exact rfl; all_goals intro hc) | apply thenS_normal | apply thenS_ret | apply thenS_exit | apply blockS_normal | apply blockS_ret | apply blockS_exit | apply w_skip | apply w_ret | apply w_exit | apply w_block | ((with_reducible apply Sd.mk); (first | exact True.intro | omega | (constructor <;> first | omega | (unfold maxLen; omega)) | (unfold maxLen; omega))) | ((with_reducible apply Wr.mk); (first | exact IntWalk.i64_in _ (by omega) | exact IntWalk.u8_in _ (by omega) | exact IntWalk.u32_in _ (by omega) | exact IntWalk.u64_in _ (by omega) | exact IntKind.wrap_u8 _ | exact IntKind.wrap_u32 _ | rfl)))
  · obtain ⟨q, hq⟩ : ∃ q, m - k = q + 1 := ⟨m - k - 1, by omega⟩
    rw [hq, lcp, if_neg (by push_cast; assumption)] at he
    (apply s_fin; (exact (show ResS _ _ _ _ [_] from ⟨rfl, trivial⟩)); (focus (exact ⟨by show I _ = I _; rw [he]; rfl, rfl⟩)); (focus (repeat (first | with_reducible exact Take.nil | with_reducible apply Take.c | with_reducible apply Take.drop))))
  · refine ⟨k + 1, ⟨by omega, ?_⟩, by omega, (by repeat' (first | exact trivial | refine ⟨rfl, ?_⟩ | refine ⟨congrArg some ?_, ?_⟩)), (by repeat (first | with_reducible exact Take.nil | with_reducible apply Take.c | with_reducible apply Take.drop))⟩
    obtain ⟨q, hq⟩ : ∃ q, m - k = q + 1 := ⟨m - k - 1, by omega⟩
    rw [hq, lcp, if_pos (by push_cast; assumption)] at he
    rw [he, show m - (k + 1) = q from by omega, show i + (k + 1) = i + k + 1 from by omega, show j + (k + 1) = j + k + 1 from by omega]
    omega
  · have : k = m := by omega
    subst this
    (apply s_fin; (exact (show ResS _ _ _ _ [_] from ⟨rfl, trivial⟩)); (focus (refine ⟨?_, rfl⟩; show I _ = I _; rw [he]; simp [lcp])); (focus (repeat (first | with_reducible exact Take.nil | with_reducible apply Take.c | with_reducible apply Take.drop))))

theorem common_int (l : List UInt8) (i j m : Int) (h : SH) (hi : 0 ≤ i) (hj : 0 ≤ j) (hm : 0 ≤ m) (h1 : i + m ≤ l.length) (h2 : j + m ≤ l.length) (h5 : l.length ≤ 9223372036854775807) :
    SRun Try.prog 120 [S l, I i, I j, I m] h fun r q => r = I (lcp l i.toNat j.toNat m.toNat) ∧ q = h := by
  obtain ⟨i, rfl⟩ := Int.eq_ofNat_of_zero_le hi
  obtain ⟨j, rfl⟩ := Int.eq_ofNat_of_zero_le hj
  obtain ⟨m, rfl⟩ := Int.eq_ofNat_of_zero_le hm
  exact common_any l i j m h (by omega) (by omega) h5

/-- Common of any two numbers. -/
def com (l : List UInt8) (i j : Int) : Nat := if 0 ≤ i ∧ 0 ≤ j ∧ i ≤ l.length ∧ j ≤ l.length then lcp l i.toNat j.toNat (l.length - max i j).toNat else 0

theorem rCommon_any (l : List UInt8) (i j : Int) (h : SH) (h5 : l.length ≤ 4611686018427387904) :
    SRun Try.prog 98 [S l, I i, I j] h fun r q => r = I (com l i j) ∧ q = h := by
  refine w_body3 Try.func98 rfl rfl ?_
  repeat' (first | apply w_seq | apply w_region | apply o_nil | (apply o_g tyOk; exact rfl; exact rfl) | (apply o_want; exact rfl; exact rfl) | (apply o_skip; iterate 4 exact rfl) | (apply o_guardF; (iterate 3 exact rfl); all_goals intro hc) | (apply w_true; exact rfl) | (apply w_if; exact rfl; all_goals intro hc) | apply thenS_normal | apply thenS_ret | apply w_skip | apply w_ret | apply w_block | ((with_reducible apply Sd.mk); (first | exact True.intro | omega | (constructor <;> first | omega | (unfold maxLen; omega)) | (unfold maxLen; omega))))
  all_goals first | (apply s_fin; (exact (show ResS _ _ _ _ [_] from ⟨rfl, trivial⟩)); (focus (refine ⟨?_, rfl⟩; show I _ = I _; unfold com; rw [if_neg (by omega)]; rfl)); (focus (repeat (first | with_reducible exact Take.nil | with_reducible apply Take.c | with_reducible apply Take.drop)))) | skip
  obtain ⟨i, rfl⟩ := Int.eq_ofNat_of_zero_le (show 0 ≤ i by omega)
  obtain ⟨j, rfl⟩ := Int.eq_ofNat_of_zero_le (show 0 ≤ j by omega)
  have hcom : com l i j = lcp l i j (l.length - max i j) := by
    unfold com; rw [if_pos (by omega)]; congr 1; omega
  refine w_loop (S := Nat) (fun k => [(0, S l), (1, I i), (2, I j), (7, I k)]) (fun _ => h)
    (fun k => i + k ≤ l.length ∧ j + k ≤ l.length ∧ com l i j = k + lcp l (i + k) (j + k) (l.length - max i j - k)) (fun k => l.length - k) 0 ⟨by omega, by omega, by rw [hcom]; simp⟩ (by repeat' (first | exact trivial | refine ⟨rfl, ?_⟩ | refine ⟨congrArg some ?_, ?_⟩)) (by repeat (first | with_reducible exact Take.nil | with_reducible apply Take.c | with_reducible apply Take.drop)) ?_
  rintro k ⟨hk1, hk2, he⟩
  repeat' (first | apply w_seq | apply w_region | apply o_nil | (apply w_draw; (focus (kernel_rfl)); (focus (kernel_rfl))) | (apply o_g tyOk; exact rfl; exact rfl) | (apply o_ar tyOk; exact rfl; exact rfl) | (apply o_want; exact rfl; exact rfl) | (apply o_skip; iterate 4 exact rfl) | (apply o_guardT; (iterate 3 exact rfl); all_goals intro hc) | (apply w_false; exact rfl) | (apply w_if; exact rfl; all_goals intro hc) | apply thenS_normal | apply thenS_exit | apply blockS_normal | apply blockS_exit | apply w_skip | apply w_ret | apply w_exit | apply w_block | ((with_reducible apply Sd.mk); (first | exact True.intro | omega | (constructor <;> first | omega | (unfold maxLen; omega)) | (unfold maxLen; omega))) | ((with_reducible apply Wr.mk); (first | exact IntWalk.i64_in _ (by omega) | exact IntWalk.u8_in _ (by omega) | exact IntWalk.u32_in _ (by omega) | exact IntWalk.u64_in _ (by omega) | exact IntKind.wrap_u8 _ | exact IntKind.wrap_u32 _ | rfl)))
  · refine ⟨k + 1, ⟨by omega, by omega, ?_⟩, by omega, (by repeat' (first | exact trivial | refine ⟨rfl, ?_⟩ | refine ⟨congrArg some ?_, ?_⟩)), (by repeat (first | with_reducible exact Take.nil | with_reducible apply Take.c | with_reducible apply Take.drop))⟩
    obtain ⟨q, hq⟩ : ∃ q, l.length - max i j - k = q + 1 := ⟨l.length - max i j - k - 1, by omega⟩
    rw [hq, lcp, if_pos (by push_cast; assumption)] at he
    rw [he, show l.length - max i j - (k + 1) = q from by omega, show i + (k + 1) = i + k + 1 from by omega, show j + (k + 1) = j + k + 1 from by omega]
    omega
  · obtain ⟨q, hq⟩ : ∃ q, l.length - max i j - k = q + 1 := ⟨l.length - max i j - k - 1, by omega⟩
    rw [hq, lcp, if_neg (by push_cast; assumption)] at he
    (apply s_fin; (exact (show ResS _ _ _ _ [_] from ⟨rfl, trivial⟩)); (focus (refine ⟨?_, rfl⟩; show I _ = I _; rw [he]; rfl)); (focus (repeat (first | with_reducible exact Take.nil | with_reducible apply Take.c | with_reducible apply Take.drop))))
  all_goals
    rw [show l.length - max i j - k = 0 from by omega] at he
    (apply s_fin; (exact (show ResS _ _ _ _ [_] from ⟨rfl, trivial⟩)); (focus (refine ⟨?_, rfl⟩; show I _ = I _; rw [he]; simp [lcp])); (focus (repeat (first | with_reducible exact Take.nil | with_reducible apply Take.c | with_reducible apply Take.drop))))

/-- The greatest length of an occurrence at a distance. -/
def atd (l : List UInt8) (i d m : Int) : Int := if d < 1 ∨ i < d then 0 else if min (com l (i - d) i : Int) m < 2 then 0 else min (com l (i - d) i : Int) m

theorem rAt_any (l : List UInt8) (i d m : Int) (h : SH) (h5 : l.length ≤ 4611686018427387904) (hi : -9223372036854775808 ≤ i ∧ i ≤ 9223372036854775807) :
    SRun Try.prog 62 [S l, I i, I d, I m] h fun r q => r = I (atd l i d m) ∧ q = h := by
  refine w_body4 Try.func62 rfl rfl ?_
  repeat' (first | apply w_seq | apply w_region | apply o_nil | (apply o_g tyOk; exact rfl; exact rfl) | (apply o_ar tyOk; exact rfl; exact rfl) | (apply o_min; iterate 3 exact rfl) | (apply o_call; exact rfl; exact rfl; (focus (first | exact rfl | assumption)); exact rfl; (focus (exact ⟨_, rCommon_any _ _ _ _ h5, by repeat (first | with_reducible exact Take.nil | with_reducible apply Take.c | with_reducible apply Take.drop)⟩)); rintro _ _ ⟨rfl, rfl⟩) | (apply o_want; exact rfl; exact rfl) | (apply o_skip; iterate 4 exact rfl) | (apply o_guardF; (iterate 3 exact rfl); all_goals intro hc) | (apply w_true; exact rfl) | (apply w_if; exact rfl; all_goals intro hc) | apply thenS_normal | apply thenS_ret | apply w_skip | apply w_ret | ((with_reducible apply Sd.mk); (first | exact True.intro | omega | (constructor <;> first | omega | (unfold maxLen; omega)) | (unfold maxLen; omega))) | ((with_reducible apply Wr.mk); (first | exact IntWalk.i64_in _ (by omega) | exact IntWalk.u8_in _ (by omega) | exact IntWalk.u32_in _ (by omega) | exact IntWalk.u64_in _ (by omega) | exact IntKind.wrap_u8 _ | exact IntKind.wrap_u32 _ | rfl)))
  all_goals (apply s_fin; (exact (show ResS _ _ _ _ [_] from ⟨rfl, trivial⟩)); (focus (refine ⟨?_, rfl⟩; show I _ = I _; unfold atd; congr 1; repeat' split <;> omega)); (focus (repeat (first | with_reducible exact Take.nil | with_reducible apply Take.c | with_reducible apply Take.drop))))

abbrev cpF (c : Int × Int) : List Value := [I c.1, I c.2]
theorem cpW (c : Int × Int) : (cpF c).length = 2 := rfl
@[simp] theorem len_cps (l : List (Int × Int)) : (recs cpF l).length = 2 * l.length := by rw [recs_len cpW]; omega
/-- A slice of copies in a block of its own. -/
abbrev cpS (A : Nat) (l : List (Int × Int)) : Value := gsl A 0 (2 * l.length) l.length 2
abbrev cpB (l : List (Int × Int)) (ro : Bool) : Blk := ⟨recs cpF l, ro⟩

/-- What is found up to a distance. -/
def rc (l : List UInt8) (i m : Int) : Nat → List (Int × Int) × Int
  | 0 => ([], 0)
  | d + 1 => if (rc l i m d).2 < atd l i (d + 1) m then ((rc l i m d).1 ++ [(atd l i (d + 1) m, (d : Int) + 1)], atd l i (d + 1) m) else rc l i m d

def rcands (l : List UInt8) (i w m : Int) : List (Int × Int) :=
  if vld w m ∧ 0 ≤ i ∧ i ≤ l.length ∧ l.length ≤ 4096 then (rc l i m (min w i).toNat).1 else []

end Go.Proofs.Ytgooffiipnkmiaa
end
section
set_option linter.unusedVariables false
set_option linter.unusedSimpArgs false
set_option maxRecDepth 4000
namespace Go.Proofs.Ytgooffiipnkmiaa
open Go.Gh Go.RowKit

abbrev BS := Nat × List (Int × Int)
def bgo (i : Nat) (w : Int) (m j : Nat) (s : BS) : Prop := ¬ (w < (i : Int) - j ∨ m ≤ s.1)
instance (i : Nat) (w : Int) (m j : Nat) (s : BS) : Decidable (bgo i w m j s) := by unfold bgo; infer_instance
def bup (l : List UInt8) (i m j : Nat) (s : BS) : BS := if s.1 < lcp l j i m then (lcp l j i m, s.2 ++ [((lcp l j i m : Int), (i : Int) - (j : Int))]) else s
def nbst (l : List UInt8) (i : Nat) (w : Int) (m j : Nat) (s : BS) : BS := if bgo i w m j s then bup l i m j s else s
def brun (l : List UInt8) (i : Nat) (w : Int) (m : Nat) : List Nat → BS → BS
  | [], s => s
  | j :: r, s => if bgo i w m j s then brun l i w m r (bup l i m j s) else s

theorem lcp_ne (l : List UInt8) : ∀ (m i j b : Nat), bat l (i + b : Nat) ≠ bat l (j + b : Nat) → lcp l i j m ≤ b
  | 0, _, _, _, _ => Nat.zero_le _
  | m + 1, i, j, b, h => by
    unfold lcp
    split
    · rename_i e
      cases b with
      | zero => exact absurd e h
      | succ b =>
        have := lcp_ne l m (i + 1) (j + 1) b (by rw [show i + 1 + b = i + (b + 1) by omega, show j + 1 + b = j + (b + 1) by omega]; exact h)
        omega
    · omega

/-- The boxes of a search, and the copies found. -/
inductive BH (l : List UInt8) (i : Nat) (w : Int) (m n5 n6 n7 n8 n11 n12 : Nat) (h : SH) : BS → SH → Prop
  | nil (best : Nat) : BH l i w m n5 n6 n7 n8 n11 n12 h (best, []) ((n12, ⟨[I best], false⟩) :: (n11, ⟨[.slice none 0 0], false⟩) :: (n8, ⟨[I m], false⟩) :: (n7, ⟨[I w], false⟩) :: (n6, ⟨[I i], false⟩) :: (n5, ⟨[S l], false⟩) :: h)
  | some (best : Nat) (cs : List (Int × Int)) (A : Nat) : BH l i w m n5 n6 n7 n8 n11 n12 h (best, cs)
      ((n12, ⟨[I best], false⟩) :: (n11, ⟨[cpS A cs], false⟩) :: (n8, ⟨[I m], false⟩) :: (n7, ⟨[I w], false⟩) :: (n6, ⟨[I i], false⟩) :: (n5, ⟨[S l], false⟩) :: (A, cpB cs false) :: h)

theorem BH.pick {l : List UInt8} {i : Nat} {w : Int} {m n5 n6 n7 n8 n11 n12 : Nat} {h h1 : SH} {s : BS} {p : SH} (b : BH l i w m n5 n6 n7 n8 n11 n12 h s p) {A : Nat} {g : Blk} (hp : Pick h A g h1) : ∃ p1, Pick p A g p1 := by
  cases b with
  | nil => exact ⟨_, hp.tail.tail.tail.tail.tail.tail⟩
  | some => exact ⟨_, hp.tail.tail.tail.tail.tail.tail.tail⟩

theorem bst_stop {l : List UInt8} {i : Nat} {w : Int} {m j : Nat} {s : BS} (h : ¬ bgo i w m j s) : nbst l i w m j s = s := if_neg h
theorem bst_same {l : List UInt8} {i : Nat} {w : Int} {m j : Nat} {s : BS} (h : lcp l j i m ≤ s.1) : nbst l i w m j s = s := by
  unfold nbst bup; split
  · rw [if_neg (by omega)]
  · rfl
theorem bst_new {l : List UInt8} {i : Nat} {w : Int} {m j best : Nat} {cs : List (Int × Int)} (hg : bgo i w m j (best, cs)) (h : best < lcp l j i m) : nbst l i w m j (best, cs) = (lcp l j i m, cs ++ [((lcp l j i m : Int), (i : Int) - (j : Int))]) := by
  unfold nbst bup; rw [if_pos hg, if_pos h]

theorem better1_any (l : List UInt8) (i : Nat) (w : Int) (m n5 n6 n7 n8 n11 n12 j : Nat) (h : SH) (s : BS) (p : SH) (hb : BH l i w m n5 n6 n7 n8 n11 n12 h s p) (h5 : l.length ≤ 4096) (hj : j < i) (him : i + m ≤ l.length) (hs : s.2.length ≤ 4096) (hw : -4611686018427387904 ≤ w) :
    SRun Try.prog 119 [I j, gptr n6 0 1, gptr n7 0 1, gptr n12 0 1, gptr n8 0 1, gptr n5 0 1, gptr n11 0 1] p
      fun r q => r = B (decide (bgo i w m j s)) ∧ BH l i w m n5 n6 n7 n8 n11 n12 h (nbst l i w m j s) q := by
  cases hb with
  | nil best =>
    refine w_body7 Try.func119 rfl rfl ?_
    repeat' (first | apply w_seq | apply w_region | apply o_nil | (apply w_draw; (focus (kernel_rfl)); (focus (kernel_rfl))) | (apply o_g tyOk; exact rfl; exact rfl) | (apply o_ar tyOk; exact rfl; exact rfl) | (apply o_load tyOk; (iterate 3 exact rfl); (focus (exact pk))) | (apply o_store tyOk; (iterate 4 exact rfl); (focus (exact up))) | (apply o_build tyOk; exact rfl; exact rfl; (focus (first | with_reducible exact pl82)); exact rfl; (focus (repeat (first | exact BuildR.nil | (apply BuildR.one; exact rfl; exact rfl; (first | (focus ((repeat (first | exact SetAt.zero | apply SetAt.succ)); done)) | exact setAt_bytes (by omega) (by omega) | exact setAt_mapZ (by omega) | exact setAt_map (by omega))) | (apply BuildR.agg; exact rfl; exact rfl; (first | exact putAt_all rfl | exact putAt_recZ (fun _ => rfl) (by omega) | exact putAt_rec (fun _ => rfl) (by omega)))))); exact rfl) | (apply o_buildSlice tyOk; (iterate 5 exact rfl); (focus (decide)); exact rfl; (focus (decide)); (focus (repeat (first | exact CatR.nil | exact CatR.last rfl | (apply CatR.one; exact rfl; exact rfl) | (apply CatR.agg; exact rfl)))); exact rfl) | (apply o_append_nil tyOk; (iterate 5 exact rfl); (focus (exact ⟨by decide⟩)); (focus (exact pk))) | (apply o_call; exact rfl; exact rfl; (focus (first | exact rfl | assumption)); exact rfl; (focus (exact ⟨_, common_int _ _ _ _ _ (by omega) (by omega) (by omega) (by omega) (by omega) (by omega), by repeat (first | with_reducible exact Take.nil | with_reducible apply Take.c | with_reducible apply Take.drop)⟩)); rintro _ _ ⟨rfl, rfl⟩) | (apply o_want; exact rfl; exact rfl) | (apply o_skip; iterate 4 exact rfl) | (apply o_guardF; (iterate 3 exact rfl); all_goals intro hc) | (apply w_true; exact rfl) | (apply w_ifN; exact rfl; all_goals intro hc) | (apply w_if; exact rfl; all_goals intro hc) | apply thenS_normal | apply thenS_ret | apply w_skip | apply w_ret | ((with_reducible apply Sd.mk); (first | exact True.intro | omega | (constructor <;> first | omega | (unfold maxLen; omega)) | (unfold maxLen; omega))) | ((with_reducible apply Ln.mk); (first | rfl | exact ‹_› | omega | (simp ; first | done | omega))) | ((with_reducible apply Wr.mk); (first | exact IntWalk.i64_in _ (by omega) | exact IntWalk.u8_in _ (by omega) | exact IntWalk.u32_in _ (by omega) | exact IntWalk.u64_in _ (by omega) | exact IntKind.wrap_u8 _ | exact IntKind.wrap_u32 _ | rfl)) | ((with_reducible apply Ce.mk); (first | rfl | exact ‹_› | exact cell_recZ (fun _ => rfl) (by omega) (by decide) rfl | exact cell_rec (fun _ => rfl) (by omega) (by decide) rfl | exact cell_bytes (by omega) | exact cell_mapZ (by omega) | exact cell_map (by omega))) | ((with_reducible apply Se.mk); (first | (focus ((repeat (first | exact SetAt.zero | apply SetAt.succ)); done)) | exact setAt_bytes (by omega) (by omega) | exact setAt_mapZ (by omega) | exact setAt_map (by omega))) | ((with_reducible apply Su.mk); (first | exact subAt_all | exact subAt_recZ (fun _ => rfl) (by omega) | exact subAt_rec (fun _ => rfl) (by omega))) | exact True.intro | intro A | exact rfl)
    · have hg : ¬ bgo i w m j (best, []) := fun h => h (.inr (by show m ≤ best; omega))
      (apply s_fin; (exact (show ResS _ _ _ _ [_] from ⟨rfl, trivial⟩)); (focus (rw [decide_eq_false hg, bst_stop hg]; exact ⟨rfl, .nil _⟩)); (focus (repeat (first | with_reducible exact Take.nil | with_reducible apply Take.c | with_reducible apply Take.drop))))
    · have hg : bgo i w m j (best, []) := by unfold bgo; show ¬ (_ ∨ m ≤ best); omega
      (apply s_fin; (exact (show ResS _ _ _ _ [_] from ⟨rfl, trivial⟩)); (focus (rw [decide_eq_true hg, bst_same (lcp_ne l m j i best (by push_cast; assumption))]; exact ⟨rfl, .nil _⟩)); (focus (repeat (first | with_reducible exact Take.nil | with_reducible apply Take.c | with_reducible apply Take.drop))))
    · have hg : bgo i w m j (best, []) := by unfold bgo; show ¬ (_ ∨ m ≤ best); omega
      have hlt : best < lcp l j i m := by exact_mod_cast hc
      (apply s_fin; (exact (show ResS _ _ _ _ [_] from ⟨rfl, trivial⟩)); (focus (rw [decide_eq_true hg, bst_new hg hlt]; exact ⟨rfl, .some _ [_] A⟩)); (focus (repeat (first | with_reducible exact Take.nil | with_reducible apply Take.c | ((with_reducible apply Take.cE); (first | exact rfl | (apply blkE; (focus (first | exact rfl | exact recs_snocE rfl | exact map_snocE rfl | exact congrArg (fun v => [v]) (gslE rfl rfl (by first | rfl | exact ‹_› | omega | (simp ; first | done | omega)) (by first | rfl | exact ‹_› | omega | (simp ; first | done | omega)) rfl)))))) | with_reducible apply Take.drop))))
    · have hg : bgo i w m j (best, []) := by unfold bgo; show ¬ (_ ∨ m ≤ best); omega
      have hle : lcp l j i m ≤ best := by have : ¬ best < lcp l j i m := by exact_mod_cast hc
                                          omega
      (apply s_fin; (exact (show ResS _ _ _ _ [_] from ⟨rfl, trivial⟩)); (focus (rw [decide_eq_true hg, bst_same hle]; exact ⟨rfl, .nil _⟩)); (focus (repeat (first | with_reducible exact Take.nil | with_reducible apply Take.c | with_reducible apply Take.drop))))
    · have hg : ¬ bgo i w m j (best, []) := fun h => h (.inl (by assumption))
      (apply s_fin; (exact (show ResS _ _ _ _ [_] from ⟨rfl, trivial⟩)); (focus (rw [decide_eq_false hg, bst_stop hg]; exact ⟨rfl, .nil _⟩)); (focus (repeat (first | with_reducible exact Take.nil | with_reducible apply Take.c | with_reducible apply Take.drop))))
  | some best cs Ac =>
    have hs' : cs.length ≤ 4096 := hs
    refine w_body7 Try.func119 rfl rfl ?_
    repeat' (first | apply w_seq | apply w_region | apply o_nil | (apply w_draw; (focus (kernel_rfl)); (focus (kernel_rfl))) | (apply o_g tyOk; exact rfl; exact rfl) | (apply o_ar tyOk; exact rfl; exact rfl) | (apply o_load tyOk; (iterate 3 exact rfl); (focus (exact pk))) | (apply o_store tyOk; (iterate 4 exact rfl); (focus (exact up))) | (apply o_build tyOk; exact rfl; exact rfl; (focus (first | with_reducible exact pl82)); exact rfl; (focus (repeat (first | exact BuildR.nil | (apply BuildR.one; exact rfl; exact rfl; (first | (focus ((repeat (first | exact SetAt.zero | apply SetAt.succ)); done)) | exact setAt_bytes (by omega) (by omega) | exact setAt_mapZ (by omega) | exact setAt_map (by omega))) | (apply BuildR.agg; exact rfl; exact rfl; (first | exact putAt_all rfl | exact putAt_recZ (fun _ => rfl) (by omega) | exact putAt_rec (fun _ => rfl) (by omega)))))); exact rfl) | (apply o_buildSlice tyOk; (iterate 5 exact rfl); (focus (decide)); exact rfl; (focus (decide)); (focus (repeat (first | exact CatR.nil | exact CatR.last rfl | (apply CatR.one; exact rfl; exact rfl) | (apply CatR.agg; exact rfl)))); exact rfl) | (apply o_append tyOk; (iterate 5 exact rfl); (focus (exact ⟨by decide⟩)); (focus (exact up)); (focus (exact pk))) | (apply o_call; exact rfl; exact rfl; (focus (first | exact rfl | assumption)); exact rfl; (focus (exact ⟨_, common_int _ _ _ _ _ (by omega) (by omega) (by omega) (by omega) (by omega) (by omega), by repeat (first | with_reducible exact Take.nil | with_reducible apply Take.c | with_reducible apply Take.drop)⟩)); rintro _ _ ⟨rfl, rfl⟩) | (apply o_want; exact rfl; exact rfl) | (apply o_skip; iterate 4 exact rfl) | (apply o_guardF; (iterate 3 exact rfl); all_goals intro hc) | (apply w_true; exact rfl) | (apply w_ifN; exact rfl; all_goals intro hc) | (apply w_if; exact rfl; all_goals intro hc) | apply thenS_normal | apply thenS_ret | apply w_skip | apply w_ret | ((with_reducible apply Sd.mk); (first | exact True.intro | omega | (constructor <;> first | omega | (unfold maxLen; omega)) | (unfold maxLen; omega))) | ((with_reducible apply Ln.mk); (first | rfl | exact ‹_› | omega | (simp ; first | done | omega))) | ((with_reducible apply Wr.mk); (first | exact IntWalk.i64_in _ (by omega) | exact IntWalk.u8_in _ (by omega) | exact IntWalk.u32_in _ (by omega) | exact IntWalk.u64_in _ (by omega) | exact IntKind.wrap_u8 _ | exact IntKind.wrap_u32 _ | rfl)) | ((with_reducible apply Ce.mk); (first | rfl | exact ‹_› | exact cell_recZ (fun _ => rfl) (by omega) (by decide) rfl | exact cell_rec (fun _ => rfl) (by omega) (by decide) rfl | exact cell_bytes (by omega) | exact cell_mapZ (by omega) | exact cell_map (by omega))) | ((with_reducible apply Se.mk); (first | (focus ((repeat (first | exact SetAt.zero | apply SetAt.succ)); done)) | exact setAt_bytes (by omega) (by omega) | exact setAt_mapZ (by omega) | exact setAt_map (by omega))) | ((with_reducible apply Su.mk); (first | exact subAt_all | exact subAt_recZ (fun _ => rfl) (by omega) | exact subAt_rec (fun _ => rfl) (by omega))) | exact True.intro | intro A | exact rfl)
    · have hg : ¬ bgo i w m j (best, cs) := fun h => h (.inr (by show m ≤ best; omega))
      (apply s_fin; (exact (show ResS _ _ _ _ [_] from ⟨rfl, trivial⟩)); (focus (rw [decide_eq_false hg, bst_stop hg]; exact ⟨rfl, .some _ _ Ac⟩)); (focus (repeat (first | with_reducible exact Take.nil | with_reducible apply Take.c | with_reducible apply Take.drop))))
    · have hg : bgo i w m j (best, cs) := by unfold bgo; show ¬ (_ ∨ m ≤ best); omega
      (apply s_fin; (exact (show ResS _ _ _ _ [_] from ⟨rfl, trivial⟩)); (focus (rw [decide_eq_true hg, bst_same (lcp_ne l m j i best (by push_cast; assumption))]; exact ⟨rfl, .some _ _ Ac⟩)); (focus (repeat (first | with_reducible exact Take.nil | with_reducible apply Take.c | with_reducible apply Take.drop))))
    · have hg : bgo i w m j (best, cs) := by unfold bgo; show ¬ (_ ∨ m ≤ best); omega
      have hlt : best < lcp l j i m := by exact_mod_cast hc
      (apply s_fin; (exact (show ResS _ _ _ _ [_] from ⟨rfl, trivial⟩)); (focus (rw [decide_eq_true hg, bst_new hg hlt]; exact ⟨rfl, .some _ _ Ac⟩)); (focus (repeat (first | with_reducible exact Take.nil | with_reducible apply Take.c | ((with_reducible apply Take.cE); (first | exact rfl | (apply blkE; (focus (first | exact rfl | exact recs_snocE rfl | exact map_snocE rfl | exact congrArg (fun v => [v]) (gslE rfl rfl (by first | rfl | exact ‹_› | omega | (simp ; first | done | omega)) (by first | rfl | exact ‹_› | omega | (simp ; first | done | omega)) rfl)))))) | with_reducible apply Take.drop))))
    · have hg : bgo i w m j (best, cs) := by unfold bgo; show ¬ (_ ∨ m ≤ best); omega
      have hle : lcp l j i m ≤ best := by have : ¬ best < lcp l j i m := by exact_mod_cast hc
                                          omega
      (apply s_fin; (exact (show ResS _ _ _ _ [_] from ⟨rfl, trivial⟩)); (focus (rw [decide_eq_true hg, bst_same hle]; exact ⟨rfl, .some _ _ Ac⟩)); (focus (repeat (first | with_reducible exact Take.nil | with_reducible apply Take.c | with_reducible apply Take.drop))))
    · have hg : ¬ bgo i w m j (best, cs) := fun h => h (.inl (by assumption))
      (apply s_fin; (exact (show ResS _ _ _ _ [_] from ⟨rfl, trivial⟩)); (focus (rw [decide_eq_false hg, bst_stop hg]; exact ⟨rfl, .some _ _ Ac⟩)); (focus (repeat (first | with_reducible exact Take.nil | with_reducible apply Take.c | with_reducible apply Take.drop))))

theorem brun_len {l : List UInt8} {i : Nat} {w : Int} {m : Nat} : ∀ {js : List Nat} {s : BS}, (brun l i w m js s).2.length ≤ s.2.length + js.length
  | [], s => by simp [brun]
  | j :: r, s => by
    unfold brun
    split
    · have h1 := brun_len (l := l) (i := i) (w := w) (m := m) (js := r) (s := bup l i m j s)
      have h2 : (bup l i m j s).2.length ≤ s.2.length + 1 := by unfold bup; split <;> simp
      simp only [List.length_cons]; omega
    · simp

/-- The positions before n, the nearest one first. -/
def down : Nat → List Nat
  | 0 => []
  | n + 1 => n :: down n
theorem down_len : ∀ n, (down n).length = n
  | 0 => rfl
  | n + 1 => by simp [down, down_len n]

/-- Calls of a function with blocks that its callee knows: the blocks of 'Candidates$1' and of the search. -/
theorem Candidates1_any (l : List UInt8) (i : Nat) (w : Int) (m n5 n6 n7 n8 n11 n12 n : Nat) (h : SH) (s : BS) (p : SH) (hb : BH l i w m n5 n6 n7 n8 n11 n12 ((n, ⟨[I i], false⟩) :: h) s p) (h5 : l.length ≤ 4096) (hi : i ≤ 4096) (him : i + m ≤ l.length) (hs : s.2.length = 0) (hw : -4611686018427387904 ≤ w) :
    SRun Try.prog 94 [.func (.func 119) ⟨[]⟩ ⟨[gptr n6 0 1, gptr n7 0 1, gptr n12 0 1, gptr n8 0 1, gptr n5 0 1, gptr n11 0 1]⟩, gptr n 0 1] p
      fun r q => BH l i w m n5 n6 n7 n8 n11 n12 ((n, ⟨[I i], false⟩) :: h) (brun l i w m (down i) s) q := by
  refine w_body2 Try.func94 rfl rfl ?_
  obtain ⟨p1, hp1⟩ := hb.pick Pick.head
  repeat' (first | apply w_seq | apply w_region | apply o_nil | (apply o_g tyOk; exact rfl; exact rfl) | (apply o_ar tyOk; exact rfl; exact rfl) | (apply o_load tyOk; (iterate 3 exact rfl); (focus (exact pk))) | apply thenS_normal | apply w_block | ((with_reducible apply Sd.mk); (first | exact True.intro | omega | (constructor <;> first | omega | (unfold maxLen; omega)) | (unfold maxLen; omega))) | ((with_reducible apply Ln.mk); (first | rfl | exact ‹_› | omega | (simp ; first | done | omega))) | ((with_reducible apply Wr.mk); (first | exact IntWalk.i64_in _ (by omega) | exact IntWalk.u8_in _ (by omega) | exact IntWalk.u32_in _ (by omega) | exact IntWalk.u64_in _ (by omega) | exact IntKind.wrap_u8 _ | exact IntKind.wrap_u32 _ | rfl)) | ((with_reducible apply Ce.mk); (first | rfl | exact ‹_› | exact cell_recZ (fun _ => rfl) (by omega) (by decide) rfl | exact cell_rec (fun _ => rfl) (by omega) (by decide) rfl | exact cell_bytes (by omega) | exact cell_mapZ (by omega) | exact cell_map (by omega))) | exact True.intro | exact rfl)
  refine w_loop (S := Nat × BS × SH) (fun x => [(0, .func (.func 119) ⟨[]⟩ ⟨[gptr n6 0 1, gptr n7 0 1, gptr n12 0 1, gptr n8 0 1, gptr n5 0 1, gptr n11 0 1]⟩), (1, gptr n 0 1), (3, I (x.1 - 1))]) (fun x => x.2.2)
    (fun x => x.1 ≤ i ∧ BH l i w m n5 n6 n7 n8 n11 n12 ((n, ⟨[I i], false⟩) :: h) x.2.1 x.2.2 ∧ brun l i w m (down i) s = brun l i w m (down x.1) x.2.1 ∧ x.2.1.2.length + x.1 ≤ 4096) (fun x => x.1) (i, s, p) ⟨Nat.le_refl _, hb, rfl, by show s.2.length + i ≤ _; omega⟩ (by repeat' (first | exact trivial | refine ⟨rfl, ?_⟩ | refine ⟨congrArg some ?_, ?_⟩)) (by repeat (first | with_reducible exact Take.nil | with_reducible apply Take.c | with_reducible apply Take.drop)) ?_
  rintro ⟨k, s1, p2⟩ ⟨hk, hb1, he, hl⟩
  simp only at hk hb1 he hl
  cases k with
  | zero =>
    repeat' (first | apply w_seq | apply w_region | apply o_nil | (apply o_g tyOk; exact rfl; exact rfl) | (apply o_skip; iterate 4 exact rfl) | (apply w_false; exact rfl) | apply thenS_normal | apply thenS_exit | apply blockS_exit | apply w_exit | ((with_reducible apply Sd.mk); (first | exact True.intro | omega | (constructor <;> first | omega | (unfold maxLen; omega)) | (unfold maxLen; omega))))
    (apply s_finN; (exact (show ResS _ _ _ _ [] from trivial)); (focus (rw [he]; exact hb1)); (focus (repeat (first | with_reducible exact Take.nil | with_reducible apply Take.c | with_reducible apply Take.drop))))
  | succ q =>
    have e1 : ((q + 1 : Nat) : Int) - 1 = q := by omega
    show SWp _ _ _ _ [_, _, (3, I (((q + 1 : Nat) : Int) - 1))] p2
    rw [e1]
    repeat' (first | apply w_seq | apply w_region | apply o_nil | (apply o_g tyOk; exact rfl; exact rfl) | (apply o_ar tyOk; exact rfl; exact rfl) | (apply o_call; exact rfl; exact rfl; (focus (first | exact rfl | assumption)); exact rfl; (focus (exact ⟨_, better1_any l i w m n5 n6 n7 n8 n11 n12 q _ s1 p2 hb1 h5 (by omega) him (by omega) hw, by repeat (first | with_reducible exact Take.nil | with_reducible apply Take.c | with_reducible apply Take.drop)⟩)); rintro _ _ ⟨rfl, hb2⟩) | (apply o_want; exact rfl; exact rfl) | (apply w_ifN; exact rfl; all_goals intro hc) | apply thenS_normal | apply thenS_exit | apply blockS_normal | apply blockS_exit | apply w_skip | apply w_exit | apply w_block | ((with_reducible apply Sd.mk); (first | exact True.intro | omega | (constructor <;> first | omega | (unfold maxLen; omega)) | (unfold maxLen; omega))) | ((with_reducible apply Wr.mk); (first | exact IntWalk.i64_in _ (by omega) | exact IntWalk.u8_in _ (by omega) | exact IntWalk.u32_in _ (by omega) | exact IntWalk.u64_in _ (by omega) | exact IntKind.wrap_u8 _ | exact IntKind.wrap_u32 _ | rfl)))
    · have hg : bgo i w m q s1 := hc
      refine ⟨(q, bup l i m q s1, _), ⟨by show q ≤ i; omega, by rw [← show nbst l i w m q s1 = bup l i m q s1 from if_pos hg]; exact hb2, ?_, ?_⟩, by show q < q + 1; omega, (by repeat' (first | exact trivial | refine ⟨rfl, ?_⟩ | refine ⟨congrArg some ?_, ?_⟩)), (by repeat (first | with_reducible exact Take.nil | with_reducible apply Take.c | with_reducible apply Take.drop))⟩
      · rw [he]; exact if_pos hg
      · have h2 : (bup l i m q s1).2.length ≤ s1.2.length + 1 := by unfold bup; split <;> simp
        show (bup l i m q s1).2.length + q ≤ 4096; omega
    · have hg : ¬ bgo i w m q s1 := fun h => h hc
      (apply s_finN; (exact (show ResS _ _ _ _ [] from trivial)); (focus (rw [he, show brun l i w m (down (q + 1)) s1 = s1 from if_neg hg, ← bst_stop hg]; exact hb2)); (focus (repeat (first | with_reducible exact Take.nil | with_reducible apply Take.c | with_reducible apply Take.drop))))

/-- What the search finds. -/
def bfind (l : List UInt8) (i : Nat) (w m : Int) (js : List Nat) : List (Int × Int) := (brun l i w (min m ((l.length : Int) - i)).toNat js (1, [])).2

/-- A slice of copies: nil if there are none. -/
def IsCs (h : SH) (cs : List (Int × Int)) (r : Value) (q : SH) : Prop := (cs = [] ∧ r = .slice none 0 0 ∧ q = h) ∨ ∃ A, r = cpS A cs ∧ q = (A, cpB cs false) :: h

theorem better_any (l : List UInt8) (i : Nat) (w m : Int) (js : List Nat) (f : FuncId) (fc : Array Value) (h : SH) (h5 : l.length ≤ 4096) (hi : i ≤ l.length) (hm : 0 ≤ m) (hm2 : m ≤ 4611686018427387904) (he : enters Try.prog f = true)
    (hit : ∀ n5 n6 n7 n8 n11 n12 p, BH l i w (min m ((l.length : Int) - i)).toNat n5 n6 n7 n8 n11 n12 h (1, []) p →
      SRun Try.prog f ((#[] : Array Value).toList ++ [.func (.func 119) ⟨[]⟩ ⟨[gptr n6 0 1, gptr n7 0 1, gptr n12 0 1, gptr n8 0 1, gptr n5 0 1, gptr n11 0 1]⟩] ++ fc.toList) p
        fun r q => BH l i w (min m ((l.length : Int) - i)).toNat n5 n6 n7 n8 n11 n12 h (brun l i w (min m ((l.length : Int) - i)).toNat js (1, [])) q) :
    SRun Try.prog 87 [S l, I i, I w, I m, .func (.func f) #[] fc] h (IsCs h (bfind l i w m js)) := by
  refine w_body5 Try.func87 rfl rfl ?_
  obtain ⟨mm, hmm⟩ : ∃ mm : Nat, min m ((l.length : Int) - i) = mm := ⟨(min m ((l.length : Int) - i)).toNat, by omega⟩
  repeat' (first | apply w_seq | apply w_region | apply o_nil | (apply o_g tyOk; exact rfl; exact rfl) | (apply o_ar tyOk; exact rfl; exact rfl) | (apply o_min; iterate 3 exact rfl) | (apply o_load tyOk; (iterate 3 exact rfl); (focus (exact pk))) | (apply o_store tyOk; (iterate 4 exact rfl); (focus (exact up))) | (apply o_alloc tyOk; iterate 5 exact rfl) | (apply o_box (tt := tyT); iterate 5 exact rfl) | (apply o_makeFunc; iterate 3 exact rfl) | apply thenS_normal | ((with_reducible apply Sd.mk); (first | exact True.intro | omega | (constructor <;> first | omega | (unfold maxLen; omega)) | (unfold maxLen; omega))) | ((with_reducible apply Ln.mk); (first | rfl | exact ‹_› | omega | (simp ; first | done | omega))) | ((with_reducible apply Wr.mk); (first | exact IntWalk.i64_in _ (by omega) | exact IntWalk.u8_in _ (by omega) | exact IntWalk.u32_in _ (by omega) | exact IntWalk.u64_in _ (by omega) | exact IntKind.wrap_u8 _ | exact IntKind.wrap_u32 _ | rfl)) | ((with_reducible apply Ce.mk); (first | rfl | exact ‹_› | exact cell_recZ (fun _ => rfl) (by omega) (by decide) rfl | exact cell_rec (fun _ => rfl) (by omega) (by decide) rfl | exact cell_bytes (by omega) | exact cell_mapZ (by omega) | exact cell_map (by omega))) | ((with_reducible apply Se.mk); (first | (focus ((repeat (first | exact SetAt.zero | apply SetAt.succ)); done)) | exact setAt_bytes (by omega) (by omega) | exact setAt_mapZ (by omega) | exact setAt_map (by omega))) | exact True.intro | intro A | exact rfl)
  rw [hmm] at hit ⊢
  simp only [Int.toNat_natCast] at hit
  have hbf : bfind l i w m js = (brun l i w mm js (1, [])).2 := by unfold bfind; rw [hmm]; rfl
  rw [hbf]
  (apply o_call; exact rfl; exact rfl; exact he; exact rfl; exact ⟨_, hit _ _ _ _ _ _ _ (.nil 1), Take.nil⟩)
  intro r q hb2
  generalize hs : brun l i w mm js (1, []) = s at hb2 ⊢
  cases hb2 with
  | nil best =>
    repeat' (first | apply w_seq | apply w_region | apply o_nil | (apply o_g tyOk; exact rfl; exact rfl) | (apply o_load tyOk; (iterate 3 exact rfl); (focus (exact pk))) | apply thenS_normal | apply w_ret | ((with_reducible apply Sd.mk); (first | exact True.intro | omega | (constructor <;> first | omega | (unfold maxLen; omega)) | (unfold maxLen; omega))) | ((with_reducible apply Ln.mk); (first | rfl | exact ‹_› | omega | (simp ; first | done | omega))) | ((with_reducible apply Ce.mk); (first | rfl | exact ‹_› | exact cell_recZ (fun _ => rfl) (by omega) (by decide) rfl | exact cell_rec (fun _ => rfl) (by omega) (by decide) rfl | exact cell_bytes (by omega) | exact cell_mapZ (by omega) | exact cell_map (by omega))) | exact True.intro | exact rfl)
    (apply s_fin; (exact (show ResS _ _ _ _ [_] from ⟨rfl, trivial⟩)); (focus (exact .inl ⟨rfl, rfl, rfl⟩)); (focus (repeat (first | with_reducible exact Take.nil | with_reducible apply Take.c | with_reducible apply Take.drop))))
  | some best cs A =>
    repeat' (first | apply w_seq | apply w_region | apply o_nil | (apply o_g tyOk; exact rfl; exact rfl) | (apply o_load tyOk; (iterate 3 exact rfl); (focus (exact pk))) | apply thenS_normal | apply w_ret | ((with_reducible apply Sd.mk); (first | exact True.intro | omega | (constructor <;> first | omega | (unfold maxLen; omega)) | (unfold maxLen; omega))) | ((with_reducible apply Ln.mk); (first | rfl | exact ‹_› | omega | (simp ; first | done | omega))) | ((with_reducible apply Ce.mk); (first | rfl | exact ‹_› | exact cell_recZ (fun _ => rfl) (by omega) (by decide) rfl | exact cell_rec (fun _ => rfl) (by omega) (by decide) rfl | exact cell_bytes (by omega) | exact cell_mapZ (by omega) | exact cell_map (by omega))) | exact True.intro | exact rfl)
    (apply s_fin; (exact (show ResS _ _ _ _ [_] from ⟨rfl, trivial⟩)); (focus (exact .inr ⟨A, rfl, rfl⟩)); (focus (repeat (first | with_reducible exact Take.nil | with_reducible apply Take.c | with_reducible apply Take.drop))))

/-- What Candidates finds. -/
def cands (l : List UInt8) (i w m : Int) : List (Int × Int) := if vld w m ∧ 0 ≤ i ∧ i ≤ l.length ∧ l.length ≤ 4096 then bfind l i.toNat w m (down i.toNat) else []

theorem Candidates_any (l : List UInt8) (i w m : Int) (h : SH) (h5 : l.length ≤ 4611686018427387904) :
    SRun Try.prog 58 [S l, I i, I w, I m] h (IsCs h (cands l i w m)) := by
  by_cases hc0 : vld w m ∧ 0 ≤ i ∧ i ≤ l.length ∧ l.length ≤ 4096
  · have hv := hc0.1
    obtain ⟨n, rfl⟩ := Int.eq_ofNat_of_zero_le hc0.2.1
    have hc1 := hc0.2.2
    have hcs : cands l n w m = bfind l n w m (down n) := if_pos hc0
    rw [hcs]
    refine w_body4 Try.func58 rfl rfl ?_
    clear hc0
    repeat' (first | apply w_seq | apply w_region | apply o_nil | (apply o_g tyOk; exact rfl; exact rfl) | (apply o_not; exact rfl; exact rfl) | (apply o_load tyOk; (iterate 3 exact rfl); (focus (exact pk))) | (apply o_box (tt := tyT); iterate 5 exact rfl) | (apply o_makeFunc; iterate 3 exact rfl) | (apply o_call; exact rfl; exact rfl; (focus (first | exact rfl | assumption)); exact rfl; (focus (exact ⟨_, valid_any _ _ _, by repeat (first | with_reducible exact Take.nil | with_reducible apply Take.c | with_reducible apply Take.drop)⟩)); rintro _ _ ⟨rfl, rfl⟩) | (apply o_call; exact rfl; exact rfl; (focus (first | exact rfl | assumption)); exact rfl; (focus (exact ⟨_, better_any l n w m (down n) _ _ _ (by omega) (by omega) (by omega) (by omega) rfl (fun n5 n6 n7 n8 n11 n12 p hb => Candidates1_any l n w _ n5 n6 n7 n8 n11 n12 _ _ (1, []) p hb (by omega) (by omega) (by omega) rfl (by omega)), by repeat (first | with_reducible exact Take.nil | with_reducible apply Take.c | with_reducible apply Take.drop)⟩)); rintro _ _ hq) | (apply o_want; exact rfl; exact rfl) | (apply o_gF; (iterate 3 exact rfl); (focus (first | exact ‹_› | with_reducible exact rfl | omega))) | (apply w_dF; exact rfl; (focus (first | exact ‹_› | with_reducible exact rfl | omega))) | apply thenS_normal | apply w_skip | apply w_ret | ((with_reducible apply Sd.mk); (first | exact True.intro | omega | (constructor <;> first | omega | (unfold maxLen; omega)) | (unfold maxLen; omega))) | ((with_reducible apply Ln.mk); (first | rfl | exact ‹_› | omega | (simp ; first | done | omega))) | ((with_reducible apply Ce.mk); (first | rfl | exact ‹_› | exact cell_recZ (fun _ => rfl) (by omega) (by decide) rfl | exact cell_rec (fun _ => rfl) (by omega) (by decide) rfl | exact cell_bytes (by omega) | exact cell_mapZ (by omega) | exact cell_map (by omega))) | exact True.intro | intro A | exact rfl)
    rcases hq with ⟨e, rfl, rfl⟩ | ⟨A', rfl, rfl⟩
    · (apply s_fin; (exact (show ResS _ _ _ _ [_] from ⟨rfl, trivial⟩)); (focus (exact .inl ⟨e, rfl, rfl⟩)); (focus (repeat (first | with_reducible exact Take.nil | with_reducible apply Take.c | with_reducible apply Take.drop))))
    · (apply s_fin; (exact (show ResS _ _ _ _ [_] from ⟨rfl, trivial⟩)); (focus (exact .inr ⟨A', rfl, rfl⟩)); (focus (repeat (first | with_reducible exact Take.nil | with_reducible apply Take.c | with_reducible apply Take.drop))))
  · have hcs : cands l i w m = [] := if_neg hc0
    rw [hcs]
    refine w_body4 Try.func58 rfl rfl ?_
    repeat' (first | apply w_seq | apply w_region | apply o_nil | (apply o_g tyOk; exact rfl; exact rfl) | (apply o_not; exact rfl; exact rfl) | (apply o_load tyOk; (iterate 3 exact rfl); (focus (exact pk))) | (apply o_box (tt := tyT); iterate 5 exact rfl) | (apply o_call; exact rfl; exact rfl; (focus (first | exact rfl | assumption)); exact rfl; (focus (exact ⟨_, valid_any _ _ _, by repeat (first | with_reducible exact Take.nil | with_reducible apply Take.c | with_reducible apply Take.drop)⟩)); rintro _ _ ⟨rfl, rfl⟩) | (apply o_want; exact rfl; exact rfl) | (apply o_skip; iterate 4 exact rfl) | (apply o_guardFN; (iterate 3 exact rfl); all_goals intro hc) | (apply o_guardF; (iterate 3 exact rfl); all_goals intro hc) | (apply w_true; exact rfl) | (apply w_dT; exact rfl; (focus (first | exact ‹_› | with_reducible exact rfl | omega))) | apply thenS_normal | apply thenS_ret | apply w_ret | ((with_reducible apply Sd.mk); (first | exact True.intro | omega | (constructor <;> first | omega | (unfold maxLen; omega)) | (unfold maxLen; omega))) | ((with_reducible apply Ln.mk); (first | rfl | exact ‹_› | omega | (simp ; first | done | omega))) | ((with_reducible apply Ce.mk); (first | rfl | exact ‹_› | exact cell_recZ (fun _ => rfl) (by omega) (by decide) rfl | exact cell_rec (fun _ => rfl) (by omega) (by decide) rfl | exact cell_bytes (by omega) | exact cell_mapZ (by omega) | exact cell_map (by omega))) | exact True.intro | intro A | exact rfl)
    all_goals first | (apply s_fin; (exact (show ResS _ _ _ _ [_] from ⟨rfl, trivial⟩)); (focus (exact .inl ⟨rfl, rfl, rfl⟩)); (focus (repeat (first | with_reducible exact Take.nil | with_reducible apply Take.c | with_reducible apply Take.drop)))) | exact absurd ⟨by assumption, by omega, by omega, by omega⟩ hc0

theorem cands_le (l : List UInt8) (i w m : Int) : (cands l i w m).length ≤ 4096 := by
  unfold cands
  split
  · unfold bfind
    have h1 := brun_len (l := l) (i := i.toNat) (w := w) (m := (min m ((l.length : Int) - i.toNat)).toNat) (js := down i.toNat) (s := (1, []))
    rw [down_len] at h1
    simp only [List.length_nil, Nat.zero_add] at h1
    omega
  · simp

end Go.Proofs.Ytgooffiipnkmiaa
end
section
set_option linter.unusedVariables false
set_option linter.unusedSimpArgs false
set_option maxRecDepth 4000
namespace Go.Proofs.Ytgooffiipnkmiaa
open Go.Gh Go.RowKit

theorem lcp_min (l : List UInt8) : ∀ (a b i j : Nat), lcp l i j (min a b) = min (lcp l i j a) b
  | 0, b, i, j => by simp [lcp]
  | a + 1, 0, i, j => by simp [lcp]
  | a + 1, b + 1, i, j => by
    rw [show min (a + 1) (b + 1) = min a b + 1 by omega]
    unfold lcp
    split
    · rw [lcp_min l a b (i + 1) (j + 1)]; omega
    · simp

/-- The length at a distance, of a position inside. -/
theorem atd_eq (l : List UInt8) (i d : Nat) (m : Int) (hd : 1 ≤ d) (hdi : d ≤ i) (hi : i ≤ l.length) (hm : 0 ≤ m) :
    atd l i d m = if lcp l (i - d) i (min m ((l.length : Int) - i)).toNat < 2 then 0 else (lcp l (i - d) i (min m ((l.length : Int) - i)).toNat : Int) := by
  have e : min (com l ((i : Int) - d) i : Int) m = (lcp l (i - d) i (min m ((l.length : Int) - i)).toNat : Int) := by
    unfold com
    rw [if_pos (by omega), show ((i : Int) - d).toNat = i - d by omega, show ((i : Int)).toNat = i by omega, show ((l.length : Int) - max ((i : Int) - d) i).toNat = l.length - i by omega]
    have := lcp_min l (l.length - i) m.toNat (i - d) i
    rw [show (min m ((l.length : Int) - i)).toNat = min (l.length - i) m.toNat by omega, this]
    omega
  unfold atd
  rw [if_neg (by omega), e]
  split
  · rw [if_pos (by omega)]
  · rw [if_neg (by omega)]

theorem rc_pos (l : List UInt8) (i m : Int) (hm : 0 ≤ m) : ∀ d, 0 ≤ (rc l i m d).2
  | 0 => Int.le_refl _
  | d + 1 => by
    have := rc_pos l i m hm d
    unfold rc; split
    · show 0 ≤ atd l i (d + 1) m; omega
    · exact this
theorem atd_range (l : List UInt8) (i d m : Int) : atd l i d m = 0 ∨ 2 ≤ atd l i d m := by unfold atd; repeat' split <;> omega

theorem rc_succ (l : List UInt8) (i m : Int) (d : Nat) : rc l i m (d + 1) = if (rc l i m d).2 < atd l i (d + 1) m then ((rc l i m d).1 ++ [(atd l i (d + 1) m, (d : Int) + 1)], atd l i (d + 1) m) else rc l i m d := rfl
/-- Nothing better can come. -/
theorem rc_stable (l : List UInt8) (i : Nat) (m : Int) (hi : i ≤ l.length) (hm : 0 ≤ m) (d : Nat) (h : min m ((l.length : Int) - i) ≤ max 1 (rc l i m d).2) : ∀ k, d + k ≤ i → rc l i m (d + k) = rc l i m d
  | 0, _ => rfl
  | k + 1, hk => by
    have ih := rc_stable l i m hi hm d h k (by omega)
    rw [show d + (k + 1) = d + k + 1 by omega]
    have hp := rc_pos l i m hm d
    have ha := atd_eq l i (d + k + 1) m (by omega) (by omega) hi hm
    have hle := lcp_le l (min m ((l.length : Int) - i)).toNat (i - (d + k + 1)) i
    have e : ((d + k : Nat) : Int) + 1 = ((d + k + 1 : Nat) : Int) := by omega
    rw [rc_succ, ih, e, ha, if_neg]
    split <;> omega

theorem brun_rc (l : List UInt8) (i : Nat) (w m : Int) (hi : i ≤ l.length) (hm : 2 ≤ m) (hw : 1 ≤ w) : ∀ (k : Nat) (s : BS), k ≤ i → ((i - k : Nat) : Int) ≤ w → s.2 = (rc l i m (i - k)).1 → (s.1 : Int) = max 1 (rc l i m (i - k)).2 →
    (brun l i w (min m ((l.length : Int) - i)).toNat (down k) s).2 = (rc l i m (min w i).toNat).1
  | 0, s, hk, hkw, h1, h2 => by
    show s.2 = _
    rw [h1, show (min w (i : Int)).toNat = i - 0 by omega]
  | k + 1, s, hk, hkw, h1, h2 => by
    have ha := atd_eq l i (i - k) m (by omega) (by omega) hi (by omega)
    rw [show i - (i - k) = k by omega] at ha
    have hstep : rc l i m (i - k) = if (rc l i m (i - (k + 1))).2 < atd l i (i - k : Nat) m then ((rc l i m (i - (k + 1))).1 ++ [(atd l i (i - k : Nat) m, ((i - k : Nat) : Int))], atd l i (i - k : Nat) m) else rc l i m (i - (k + 1)) := by
      have e : i - k = i - (k + 1) + 1 := by omega
      have e2 : ((i - (k + 1) : Nat) : Int) + 1 = ((i - k : Nat) : Int) := by omega
      rw [e, rc_succ, e2, e]
    have hp := rc_pos l i m (by omega) (i - (k + 1))
    by_cases hg : bgo i w (min m ((l.length : Int) - i)).toNat k s
    · show (if bgo i w (min m ((l.length : Int) - i)).toNat k s then brun l i w (min m ((l.length : Int) - i)).toNat (down k) (bup l i (min m ((l.length : Int) - i)).toNat k s) else s).2 = _
      rw [if_pos hg]
      have hg' : ¬ (w < (i : Int) - k ∨ (min m ((l.length : Int) - i)).toNat ≤ s.1) := hg
      refine brun_rc l i w m hi hm hw k _ (by omega) (by omega) ?_ ?_
      · unfold bup
        rw [hstep]
        split
        · rw [if_pos (by rw [ha, if_neg (by omega)]; omega), h1, ha, if_neg (by omega)]
          show _ ++ [(_, (i : Int) - (k : Int))] = _ ++ [(_, ((i - k : Nat) : Int))]
          rw [show ((i - k : Nat) : Int) = (i : Int) - k by omega]
        · rw [if_neg (by rw [ha]; split <;> omega)]; exact h1
      · unfold bup
        rw [hstep]
        split
        · rw [if_pos (by rw [ha, if_neg (by omega)]; omega), ha, if_neg (by omega)]
          show ((lcp l k i _ : Nat) : Int) = max 1 ((lcp l k i _ : Nat) : Int)
          omega
        · rw [if_neg (by rw [ha]; split <;> omega)]; exact h2
    · show (if bgo i w (min m ((l.length : Int) - i)).toNat k s then brun l i w (min m ((l.length : Int) - i)).toNat (down k) (bup l i (min m ((l.length : Int) - i)).toNat k s) else s).2 = _
      rw [if_neg hg]
      have hg' : w < (i : Int) - k ∨ (min m ((l.length : Int) - i)).toNat ≤ s.1 := Classical.not_not.1 hg
      rw [h1]
      by_cases hw2 : w < (i : Int) - k
      · rw [show (min w (i : Int)).toNat = i - (k + 1) by omega]
      · have := rc_stable l i m hi (by omega) (i - (k + 1)) (by omega) ((min w (i : Int)).toNat - (i - (k + 1))) (by omega)
        rw [show i - (k + 1) + ((min w (i : Int)).toNat - (i - (k + 1))) = (min w (i : Int)).toNat by omega] at this
        rw [this]

theorem cands_eq (l : List UInt8) (i w m : Int) : cands l i w m = rcands l i w m := by
  unfold cands rcands
  split
  · rename_i h
    obtain ⟨⟨h1, h2, h3, h4⟩, h5, h6, h7⟩ := h
    obtain ⟨i, rfl⟩ := Int.eq_ofNat_of_zero_le h5
    have := brun_rc l i w m (by omega) h3 h1 i (1, []) (Nat.le_refl _) (by omega) (by simp [rc]) (by simp only [Nat.sub_self, rc]; rfl)
    exact this
  · rfl

end Go.Proofs.Ytgooffiipnkmiaa
end
section
set_option linter.unusedVariables false
set_option linter.unusedSimpArgs false
set_option maxRecDepth 4000
namespace Go.Proofs.Ytgooffiipnkmiaa
open Go.Gh Go.RowKit

theorem rc_in (l : List UInt8) (i m : Int) : ∀ d, 0 ≤ (rc l i m d).2 ∧ ∀ c ∈ (rc l i m d).1, ∃ e : Nat, 1 ≤ e ∧ e ≤ d ∧ c = (atd l i e m, (e : Int)) ∧ 0 < c.1
  | 0 => ⟨Int.le_refl _, fun c h => nomatch h⟩
  | d + 1 => by
    obtain ⟨h1, h2⟩ := rc_in l i m d
    unfold rc
    split
    · rename_i hlt
      refine ⟨by show 0 ≤ atd l i (d + 1) m; omega, fun c hc => ?_⟩
      rcases List.mem_append.1 hc with hc | hc
      · obtain ⟨e, g1, g2, g3⟩ := h2 c hc
        exact ⟨e, g1, by omega, g3⟩
      · obtain rfl := List.mem_singleton.1 hc
        exact ⟨d + 1, by omega, Nat.le_refl _, by push_cast; rfl, by show 0 < atd l i (d + 1) m; omega⟩
    · exact ⟨h1, fun c hc => let ⟨e, g1, g2, g3⟩ := h2 c hc; ⟨e, g1, by omega, g3⟩⟩
theorem cands_in {l : List UInt8} {i : Nat} {w : Int} {c : Int × Int} (h : c ∈ cands l i w 273) : 2 ≤ c.1 ∧ c.1 ≤ 273 ∧ 1 ≤ c.2 ∧ c.2 ≤ 4096 ∧ (i : Int) + c.1 ≤ l.length := by
  rw [cands_eq] at h
  unfold rcands at h
  split at h
  · rename_i hv
    obtain ⟨e, h1, h2, rfl, h3⟩ := (rc_in l i 273 _).2 c h
    have hcm : (com l ((i : Int) - e) i : Int) ≤ (l.length : Int) - i := by
      have := lcp_le l (l.length - max ((i : Int) - e) i).toNat ((i : Int) - e).toNat (i : Int).toNat
      unfold com
      split <;> omega
    dsimp only at h3 ⊢
    unfold atd at h3 ⊢
    by_cases g1 : (e : Int) < 1 ∨ (i : Int) < e
    · rw [if_pos g1] at h3; omega
    · rw [if_neg g1] at h3 ⊢
      by_cases g2 : min (com l ((i : Int) - e) i : Int) 273 < 2
      · rw [if_pos g2] at h3; omega
      · rw [if_neg g2]; omega
  · cases h
/-- Pieces of a distance, from a length down to another. -/
def trN (d : Int) (lo : Nat) : Nat → List Pc
  | 0 => []
  | n + 1 => if lo < n + 1 then (((n + 1 : Nat) : Int), d, 0) :: trN d lo n else []
def shr (cs : List (Int × Int)) (k : Nat) : Nat := if 0 < k then cs[k - 1]!.1.toNat else 1
def trK (cs : List (Int × Int)) : Nat → List Pc
  | 0 => []
  | k + 1 => trN cs[k]!.2 (shr cs k) cs[k]!.1.toNat ++ trK cs k
def litP (l : List UInt8) (i : Nat) : Pc := (1, 0, bat l i)
def triesL (l : List UInt8) (i : Nat) (w : Int) : List Pc := trK (cands l i w 273) (cands l i w 273).length ++ [litP l i]
def runT (c : Cst) (i : Nat) (ts : List Pc) (s : Bool × List St) : Bool × List St := ts.foldl (tryS c i) s
def rowT (c : Cst) (l : List UInt8) (w : Int) (i : Nat) (T : List St) : List St := (runT c i (triesL l i w) (false, T)).2
def st0 : St := (0, 0, 0, 0, 0)
/-- The table when j places are done. -/
def parT (c : Cst) (l : List UInt8) (w : Int) : Nat → List St
  | 0 => List.replicate (l.length + 1) st0
  | j + 1 => rowT c l w (l.length - (j + 1)) (parT c l w j)
/-- The pieces of a table from a place on. -/
def walkT (T : List St) (n : Nat) : Nat → Nat → List Pc
  | 0, _ => []
  | f + 1, i => if i < n then T[i]!.2.2 :: walkT T n f (i + T[i]!.2.2.1.toNat) else []
def parse (c : Cst) (l : List UInt8) (w : Int) : List Pc × Int :=
  if vC c ∧ 1 ≤ w ∧ w ≤ 4096 then (if 4096 < l.length then ([], 9) else (walkT (parT c l w l.length) l.length l.length 0, 0)) else ([], 1)
theorem trN_in {d : Int} {lo : Nat} : ∀ {n : Nat} {t : Pc}, t ∈ trN d lo n → (lo : Int) < t.1 ∧ t.1 ≤ n ∧ t.2.1 = d ∧ t.2.2 = 0
  | 0, _, h => nomatch h
  | n + 1, t, h => by
    unfold trN at h
    split at h
    · rcases List.mem_cons.1 h with rfl | h
      · exact ⟨by show (lo : Int) < ((n + 1 : Nat) : Int); omega, Int.le_refl _, rfl, rfl⟩
      · have := trN_in h; exact ⟨this.1, by omega, this.2.2⟩
    · cases h
/-- What is tried at a place fits. -/
abbrev fits (l : List UInt8) (i : Nat) (t : Pc) : Prop := vP t ∧ (i : Int) + t.1 ≤ l.length ∧ 1 ≤ t.1
theorem shr_pos {l : List UInt8} {i : Nat} {w : Int} {k : Nat} (h : k < (cands l i w 273).length) : 1 ≤ shr (cands l i w 273) k := by
  unfold shr
  split
  · have := cands_in (bang_mem (show k - 1 < (cands l i w 273).length by omega)); omega
  · omega
theorem trN_fits {l : List UInt8} {i : Nat} {w : Int} {k : Nat} (h : k < (cands l i w 273).length) {t : Pc} (ht : t ∈ trN (cands l i w 273)[k]!.2 (shr (cands l i w 273) k) (cands l i w 273)[k]!.1.toNat) : fits l i t := by
  have h1 := cands_in (bang_mem h)
  have h2 := shr_pos h
  have h3 := trN_in ht
  exact ⟨.inr ⟨by omega, by omega, by omega, by omega, h3.2.2.2⟩, by omega, by omega⟩
theorem trK_fits {l : List UInt8} {i : Nat} {w : Int} : ∀ {k : Nat}, k ≤ (cands l i w 273).length → ∀ t ∈ trK (cands l i w 273) k, fits l i t
  | 0, _, _, h => nomatch h
  | k + 1, hk, t, h => by
    rcases List.mem_append.1 h with h | h
    · exact trN_fits (by omega) h
    · exact trK_fits (by omega) t h
theorem lit_fits {l : List UInt8} {i : Nat} (h : i < l.length) : fits l i (litP l i) := ⟨.inl ⟨rfl, rfl⟩, by show (i : Int) + 1 ≤ _; omega, Int.le_refl _⟩
/-- Every step of a table is small. -/
def TOk (n : Nat) (T : List St) : Prop := T.length = n + 1 ∧ ∀ j, j ≤ n → 0 ≤ T[j]!.1 ∧ T[j]!.1 ≤ 27000 * ((n : Int) - j) ∧ 0 ≤ T[j]!.2.1 ∧ T[j]!.2.1 ≤ (n : Int) - j
theorem lzset_bang {α : Type} [Inhabited α] {l : List α} {i j : Nat} {x : α} (h : i < l.length) : (l.set i x)[j]! = if j = i then x else l[j]! := by
  simp only [getElem!_def, List.getElem?_set]
  by_cases e : i = j
  · subst e; rw [if_pos rfl, if_pos h, if_pos rfl]
  · rw [if_neg e, if_neg (Ne.symm e)]
theorem tryS_ok {c : Cst} {l : List UInt8} {i : Nat} {s : Bool × List St} {t : Pc} (hc : vC c) (h : TOk l.length s.2) (ht : fits l i t) : TOk l.length (tryS c i s t).2 := by
  unfold tryS
  split
  · refine ⟨by rw [List.length_set]; exact h.1, fun j hj => ?_⟩
    rw [lzset_bang (by have := h.1; omega)]
    split
    · rename_i e; subst e
      have h1 := h.2 (j + t.1.toNat) (by omega)
      have h2 := price_in hc ht.1
      unfold nxt; dsimp only
      omega
    · exact h.2 j hj
  · exact h
theorem runT_ok {c : Cst} {l : List UInt8} {i : Nat} (hc : vC c) : ∀ {ts : List Pc} {s : Bool × List St}, TOk l.length s.2 → (∀ t ∈ ts, fits l i t) → TOk l.length (runT c i ts s).2
  | [], _, h, _ => h
  | t :: ts, s, h, ht => runT_ok hc (ts := ts) (tryS_ok hc h (ht t (by simp))) (fun x hx => ht x (by simp [hx]))
theorem runT_app (c : Cst) (i : Nat) (a b : List Pc) (s : Bool × List St) : runT c i (a ++ b) s = runT c i b (runT c i a s) := List.foldl_append ..
end Go.Proofs.Ytgooffiipnkmiaa
end
section
set_option linter.unusedVariables false
set_option linter.unusedSimpArgs false
set_option maxRecDepth 4000
namespace Go.Proofs.Ytgooffiipnkmiaa
open Go.Gh Go.RowKit

theorem tryS_at {c : Cst} {l : List UInt8} {i : Nat} {s : Bool × List St} {t : Pc} (hl : s.2.length = l.length + 1) (hi : i < l.length) (ht : fits l i t) (h : s.1 = true → fits l i s.2[i]!.2.2) : (tryS c i s t).1 = true ∧ fits l i (tryS c i s t).2[i]!.2.2 := by
  unfold tryS
  split
  · refine ⟨rfl, ?_⟩
    dsimp only
    rw [lzset_bang (by omega), if_pos rfl]; exact ht
  · rename_i hn
    have : s.1 = true := by cases hs : s.1 <;> simp_all
    exact ⟨this, h this⟩
theorem runT_at {c : Cst} {l : List UInt8} {i : Nat} (hi : i < l.length) : ∀ {ts : List Pc} {s : Bool × List St}, s.2.length = l.length + 1 → (∀ t ∈ ts, fits l i t) → (s.1 = true → fits l i s.2[i]!.2.2) → (s.1 = true ∨ ts ≠ []) → fits l i (runT c i ts s).2[i]!.2.2
  | [], s, _, _, h, h2 => by rcases h2 with h2 | h2; exact h h2; exact absurd rfl h2
  | t :: ts, s, hl, ht, h, _ => by
    have h1 := tryS_at (c := c) hl hi (ht t (by simp)) h
    exact runT_at hi (ts := ts) (s := tryS c i s t) (by rw [tryS_len]; exact hl) (fun x hx => ht x (by simp [hx])) (fun _ => h1.2) (.inl h1.1)
theorem tryS_else {c : Cst} {i j : Nat} {s : Bool × List St} {t : Pc} (h : j ≠ i) (hi : i < s.2.length) : (tryS c i s t).2[j]! = s.2[j]! := by
  unfold tryS; split
  · rw [lzset_bang hi, if_neg h]
  · rfl
theorem runT_else {c : Cst} {i j : Nat} (h : j ≠ i) : ∀ {ts : List Pc} {s : Bool × List St}, i < s.2.length → (runT c i ts s).2[j]! = s.2[j]!
  | [], _, _ => rfl
  | t :: ts, s, hi => by
    rw [← tryS_else (c := c) (t := t) h hi]
    exact runT_else h (ts := ts) (s := tryS c i s t) (by rw [tryS_len]; exact hi)
theorem triesL_fits {l : List UInt8} {i : Nat} {w : Int} (hi : i < l.length) : ∀ t ∈ triesL l i w, fits l i t := fun t ht => by
  rcases List.mem_append.1 ht with ht | ht
  · exact trK_fits (Nat.le_refl _) t ht
  · obtain rfl := List.mem_singleton.1 ht; exact lit_fits hi
theorem parT_ok {c : Cst} {l : List UInt8} {w : Int} (hc : vC c) : ∀ {j : Nat}, j ≤ l.length → TOk l.length (parT c l w j) ∧ ∀ i, l.length - j ≤ i → i < l.length → fits l i (parT c l w j)[i]!.2.2
  | 0, _ => ⟨⟨by simp [parT], fun j hj => by
      rw [show (parT c l w 0)[j]! = st0 by unfold parT; rw [getElem!_pos _ j (by simp; omega), List.getElem_replicate]]
      show 0 ≤ (0 : Int) ∧ (0 : Int) ≤ _ ∧ 0 ≤ (0 : Int) ∧ (0 : Int) ≤ _; omega⟩, fun i h1 h2 => by omega⟩
  | j + 1, hj => by
    obtain ⟨h1, h2⟩ := parT_ok hc (w := w) (show j ≤ l.length by omega)
    have hi : l.length - (j + 1) < l.length := by omega
    refine ⟨runT_ok hc (s := (false, _)) h1 (triesL_fits hi), fun i g1 g2 => ?_⟩
    by_cases e : i = l.length - (j + 1)
    · subst e
      exact runT_at hi (s := (false, _)) h1.1 (triesL_fits hi) (fun h => absurd h Bool.false_ne_true) (.inr (by unfold triesL; simp))
    · show fits l i (runT c (l.length - (j + 1)) _ (false, parT c l w j)).2[i]!.2.2
      rw [runT_else e (by show _ < (parT c l w j).length; have := h1.1; omega)]
      exact h2 i (by omega) g2
theorem validWindow_any (w : Int) (h : SH) : SRun Try.prog 45 [I w] h fun r q => r = B (decide (1 ≤ w ∧ w ≤ 4096)) ∧ q = h := by
  refine w_body1 Try.func45 rfl rfl ?_
  repeat' (first | apply w_seq | apply w_region | apply o_nil | (apply o_g tyOk; exact rfl; exact rfl) | (apply o_want; exact rfl; exact rfl) | (apply o_skip; iterate 4 exact rfl) | (apply o_guardT; (iterate 3 exact rfl); all_goals intro hc) | apply thenS_normal | apply w_ret | ((with_reducible apply Sd.mk); (first | exact True.intro | omega | (constructor <;> first | omega | (unfold maxLen; omega)) | (unfold maxLen; omega))))
  all_goals (apply s_fin; (exact (show ResS _ _ _ _ [_] from ⟨rfl, trivial⟩)); (focus (refine ⟨?_, rfl⟩; show B _ = B _; congr 1; first | (rw [decide_eq_decide]; omega) | (symm; rw [decide_eq_false_iff_not]; omega) | (symm; rw [decide_eq_true_eq]; omega))); (focus (repeat (first | with_reducible exact Take.nil | with_reducible apply Take.c | with_reducible apply Take.drop))))
theorem sub_pc {T : List St} {i : Nat} (hi : i < T.length) : SubAt (recs stC T) (0 + ((i : Int)).toNat * 5 + 2) (pcC T[i]!.2.2) := fun k v hk => by
  rw [Int.toNat_natCast, Nat.zero_add, Nat.add_assoc]
  have hk3 : k < 3 := (List.getElem?_eq_some_iff.1 hk).1
  rw [recs_get stcW hi (show 2 + k < 5 by omega)]
  match k, hk3 with
  | 0, _ => exact hk
  | 1, _ => exact hk
  | 2, _ => exact hk
theorem TOk.st {n j : Nat} {T : List St} (h : TOk n T) (hn : n ≤ 4096) (hj : j ≤ n) : stOk T[j]! := by
  have := h.2 j hj
  unfold stOk; omega
theorem parT_succ (c : Cst) (l : List UInt8) (w : Int) (j i : Nat) (hi : i = l.length - (j + 1)) : parT c l w (j + 1) = (tryS c i (runT c i (trK (cands l i w 273) (cands l i w 273).length) (false, parT c l w j)) (litP l i)).2 := by
  subst hi
  show (runT c _ (triesL l _ w) _).2 = _
  unfold triesL
  rw [runT_app]; rfl
abbrev PF (n3 n8 n9 n10 : Nat) : Value := .func (.func 56) ⟨[]⟩ ⟨[gptr n8 0 1, gptr n9 0 1, gptr n3 0 4, gptr n10 0 1]⟩
/-- Pieces that come back: none, or a block of their own. -/
def IsPs (h : SH) (ps : List Pc) (r : Value) (q : SH) : Prop := (ps = [] ∧ r = .slice none 0 0 ∧ q = h) ∨ ∃ A, r = gsl A 0 (3 * ps.length) ps.length 3 ∧ q = (A, ⟨recs pcC ps, false⟩) :: h
theorem Parse_any (c : Cst) (l : List UInt8) (w : Int) (h : SH) (hl : l.length ≤ 9223372036854775807) :
    SRun Try.prog 22 [csV c, S l, I w] h fun r q => ∃ v, r = .tuple #[v, I (parse c l w).2] ∧ IsPs h (parse c l w).1 v q := by
  by_cases hc0 : vC c
  · by_cases hw : 1 ≤ w ∧ w ≤ 4096
    · by_cases hn : l.length ≤ 4096
      · have hpz : (parT c l w 0).length = l.length + 1 := by simp [parT]
        have hzr : zrow (.agg ⟨[I 0, I 0, I 0, I 0, .int .u8 0]⟩) (((l.length : Int) + 1).toNat * 5) = recs stC (parT c l w 0) := by
          rw [show ((l.length : Int) + 1).toNat = l.length + 1 by omega]
          exact recs_zrow (f := stC) (w := 5) stcW (show 0 < 5 by omega) st0 rfl _
        refine w_body3 Try.func22 rfl rfl ?_
        repeat' (first | apply w_seq | apply w_region | apply o_nil | (apply o_g tyOk; exact rfl; exact rfl) | (apply o_ar tyOk; exact rfl; exact rfl) | (apply o_not; exact rfl; exact rfl) | (apply o_loads tyOk; (iterate 3 exact rfl); (focus (exact pk))) | (apply o_store tyOk; (iterate 4 exact rfl); (focus (exact up))) | (apply o_alloc tyOk; iterate 5 exact rfl) | (apply o_box (tt := tyT); iterate 5 exact rfl) | (apply o_makeSlice tyOk; (iterate 6 exact rfl); (focus (decide)); (focus (first | exact True.intro | omega | (constructor <;> first | omega | (unfold maxLen; omega)) | (unfold maxLen; omega))); (focus (first | exact hzr | rfl)); exact rfl) | (apply o_call; exact rfl; exact rfl; (focus (first | exact rfl | assumption)); exact rfl; (focus (exact ⟨_, validC_any c _, by repeat (first | with_reducible exact Take.nil | with_reducible apply Take.c | with_reducible apply Take.drop)⟩)); rintro _ _ ⟨rfl, rfl⟩) | (apply o_call; exact rfl; exact rfl; (focus (first | exact rfl | assumption)); exact rfl; (focus (exact ⟨_, validWindow_any w _, by repeat (first | with_reducible exact Take.nil | with_reducible apply Take.c | with_reducible apply Take.drop)⟩)); rintro _ _ ⟨rfl, rfl⟩) | (apply o_want; exact rfl; exact rfl) | (apply o_gF; (iterate 3 exact rfl); (focus (first | exact ‹_› | with_reducible exact rfl | omega))) | (apply w_dF; exact rfl; (focus (first | exact ‹_› | with_reducible exact rfl | omega))) | apply thenS_normal | apply w_skip | apply w_block | ((with_reducible apply Sd.mk); (first | exact True.intro | omega | (constructor <;> first | omega | (unfold maxLen; omega)) | (unfold maxLen; omega))) | ((with_reducible apply Ln.mk); (first | rfl | exact ‹_› | omega | (simp ; first | done | omega))) | ((with_reducible apply Wr.mk); (first | exact IntWalk.i64_in _ (by omega) | exact IntWalk.u8_in _ (by omega) | exact IntWalk.u32_in _ (by omega) | exact IntWalk.u64_in _ (by omega) | exact IntKind.wrap_u8 _ | exact IntKind.wrap_u32 _ | rfl)) | ((with_reducible apply Se.mk); (first | (focus ((repeat (first | exact SetAt.zero | apply SetAt.succ)); done)) | exact setAt_bytes (by omega) (by omega) | exact setAt_mapZ (by omega) | exact setAt_map (by omega))) | ((with_reducible apply Su.mk); (first | exact subAt_all | exact subAt_recZ (fun _ => rfl) (by omega) | exact subAt_rec (fun _ => rfl) (by omega))) | exact True.intro | intro A | exact rfl)
        rename_i n3 A0 n8
        obtain ⟨n9, rfl⟩ : ∃ n9, n9 = A := ⟨_, rfl⟩
        have hgl : gsl A0 0 (((l.length : Int) + 1).toNat * 5) ((l.length : Int) + 1).toNat 5 = gsl A0 0 ((parT c l w 0).length * 5) (parT c l w 0).length 5 := gslE rfl rfl (by omega) (by omega) rfl
        rw [hgl]
        refine w_loop (S := Nat × Nat) (fun x => [(1, S l), (2, I w), (3, gptr n3 0 4), (8, gptr n8 0 1), (9, gptr x.2 0 1)])
          (fun x => (x.2, ⟨[I ((l.length : Int) - x.1 - 1)], false⟩) :: (n8, ⟨[gsl A0 0 ((parT c l w x.1).length * 5) (parT c l w x.1).length 5], false⟩) :: (A0, ⟨recs stC (parT c l w x.1), false⟩) :: (n3, ⟨csC c, false⟩) :: h)
          (fun x => x.1 ≤ l.length) (fun x => l.length - x.1) (0, n9) (by simp) (by repeat' (first | exact trivial | refine ⟨rfl, ?_⟩ | refine ⟨congrArg some ?_, ?_⟩)) (by show Take ((n9, ⟨[I ((l.length : Int) - ((0 : Nat) : Int) - 1)], false⟩) :: _) _; rw [show (l.length : Int) - ((0 : Nat) : Int) - 1 = (l.length : Int) - 1 by omega]; exact (by repeat (first | with_reducible exact Take.nil | with_reducible apply Take.c | with_reducible apply Take.drop))) ?_
        rintro ⟨j, n9⟩ hj
        dsimp only at hj ⊢
        obtain ⟨⟨hTl, hT⟩, hF⟩ := parT_ok hc0 (w := w) hj
        by_cases hjl : j < l.length
        · obtain ⟨i, hi⟩ : ∃ i, i = l.length - (j + 1) := ⟨_, rfl⟩
          rw [show (l.length : Int) - j - 1 = (i : Int) by omega]
          have hil : i < l.length := by omega
          have hsu := parT_succ c l w j i hi
          have hfl := lit_fits hil
          repeat' (first | apply w_seq | apply w_region | apply o_nil | (apply o_g tyOk; exact rfl; exact rfl) | (apply o_load tyOk; (iterate 3 exact rfl); (focus (exact pk))) | (apply o_store tyOk; (iterate 4 exact rfl); (focus (exact up))) | (apply o_alloc tyOk; iterate 5 exact rfl) | (apply o_makeFunc; iterate 3 exact rfl) | (apply o_call; exact rfl; exact rfl; (focus (first | exact rfl | assumption)); exact rfl; (focus (exact ⟨_, Candidates_any l i w 273 _ (by omega), by repeat (first | with_reducible exact Take.nil | with_reducible apply Take.c | with_reducible apply Take.drop)⟩)); rintro _ _ hq) | (apply w_true; exact rfl) | apply thenS_normal | apply w_skip | apply w_block | ((with_reducible apply Sd.mk); (first | exact True.intro | omega | (constructor <;> first | omega | (unfold maxLen; omega)) | (unfold maxLen; omega))) | ((with_reducible apply Ln.mk); (first | rfl | exact ‹_› | omega | (simp ; first | done | omega))) | ((with_reducible apply Ce.mk); (first | rfl | exact ‹_› | exact cell_recZ (fun _ => rfl) (by omega) (by decide) rfl | exact cell_rec (fun _ => rfl) (by omega) (by decide) rfl | exact cell_bytes (by omega) | exact cell_mapZ (by omega) | exact cell_map (by omega))) | ((with_reducible apply Se.mk); (first | (focus ((repeat (first | exact SetAt.zero | apply SetAt.succ)); done)) | exact setAt_bytes (by omega) (by omega) | exact setAt_mapZ (by omega) | exact setAt_map (by omega))) | exact True.intro | intro A | exact rfl)
          obtain ⟨n10, rfl⟩ : ∃ n10, n10 = A := ⟨_, rfl⟩
          rename_i r0 q0
          have hq2 : ∃ h2, Take h2 h ∧ Has h2 (recs cpF (cands l i w 273)) 2 (cands l i w 273).length r0 ∧ Take q0 (TB n3 n8 n9 n10 A0 c i (false, parT c l w j) h2) := by
            rcases hq with ⟨e, rfl, rfl⟩ | ⟨A', rfl, rfl⟩
            · exact ⟨h, (by repeat (first | with_reducible exact Take.nil | with_reducible apply Take.c | with_reducible apply Take.drop)), ⟨none, 0, by rw [e]; rfl, fun g => absurd (by rw [e]; rfl) g⟩, (by repeat (first | with_reducible exact Take.nil | with_reducible apply Take.c | with_reducible apply Take.drop))⟩
            · exact ⟨(A', cpB (cands l i w 273) false) :: h, (by repeat (first | with_reducible exact Take.nil | with_reducible apply Take.c | with_reducible apply Take.drop)), ⟨_, _, rfl, fun _ => ⟨A', false, _, rfl, .head⟩⟩, (by repeat (first | with_reducible exact Take.nil | with_reducible apply Take.c | with_reducible apply Take.drop))⟩
          clear hq
          obtain ⟨h2, ht2, ⟨ad, fl, rfl, hcs⟩, ht3⟩ := hq2
          have hcl := cands_le l i w 273
          repeat' (first | apply o_nil | (apply o_g tyOk; exact rfl; exact rfl) | (apply o_ar tyOk; exact rfl; exact rfl) | apply thenS_normal | apply w_block | ((with_reducible apply Sd.mk); (first | exact True.intro | omega | (constructor <;> first | omega | (unfold maxLen; omega)) | (unfold maxLen; omega))) | ((with_reducible apply Wr.mk); (first | exact IntWalk.i64_in _ (by omega) | exact IntWalk.u8_in _ (by omega) | exact IntWalk.u32_in _ (by omega) | exact IntWalk.u64_in _ (by omega) | exact IntKind.wrap_u8 _ | exact IntKind.wrap_u32 _ | rfl)))
          refine w_loop (S := Nat × (Bool × List St)) (fun x => [(1, S l), (2, I w), (3, gptr n3 0 4), (8, gptr n8 0 1), (9, gptr n9 0 1), (11, PF n3 n8 n9 n10), (12, .slice ad (cands l i w 273).length fl), (13, I ((x.1 : Int) - 1))]) (fun x => TB n3 n8 n9 n10 A0 c i x.2 h2)
            (fun x => x.1 ≤ (cands l i w 273).length ∧ TOk l.length x.2.2 ∧ runT c i (trK (cands l i w 273) x.1) x.2 = runT c i (trK (cands l i w 273) (cands l i w 273).length) (false, parT c l w j)) (fun x => x.1)
            ((cands l i w 273).length, (false, parT c l w j)) ⟨Nat.le_refl _, ⟨hTl, hT⟩, rfl⟩ (by repeat' (first | exact trivial | refine ⟨rfl, ?_⟩ | refine ⟨congrArg some ?_, ?_⟩)) ht3 ?_
          rintro ⟨k, f, T⟩ ⟨hk, hTk, hrun⟩
          dsimp only at hk hTk hrun ⊢
          by_cases hk0 : 0 < k
          · obtain ⟨k, rfl⟩ : ∃ m, k = m + 1 := ⟨k - 1, by omega⟩
            rw [show (((k + 1 : Nat) : Int)) - 1 = (k : Int) by omega]
            obtain ⟨A', ro, h4, rfl, hp⟩ := hcs (by omega)
            have hci := cands_in (bang_mem (show k < (cands l i w 273).length by omega))
            repeat' ((fail_if_success (show SWp _ _ (Code.cond (Operand.tmp 53) _ _) _ _ _)); first | apply w_seq | apply w_region | apply o_nil | (apply o_g tyOk; exact rfl; exact rfl) | (apply w_true; exact rfl) | apply thenS_normal | apply w_skip | apply w_block | ((with_reducible apply Sd.mk); (first | exact True.intro | omega | (constructor <;> first | omega | (unfold maxLen; omega)) | (unfold maxLen; omega))))
            refine w_meet (S := Unit) (fun _ => [(1, S l), (2, I w), (3, gptr n3 0 4), (8, gptr n8 0 1), (9, gptr n9 0 1), (11, PF n3 n8 n9 n10), (12, .slice (some ⟨A', 0, some (2 * (cands l i w 273).length)⟩) (cands l i w 273).length fl), (13, I k), (14, I (shr (cands l i w 273) k))])
              (fun _ => TB n3 n8 n9 n10 A0 c i (f, T) h2) (fun _ => True) ?_ ?_
            · by_cases hk1 : 0 < k
              · have hs : (shr (cands l i w 273) k : Int) = (cands l i w 273)[k - 1]!.1 := by
                  have := cands_in (bang_mem (show k - 1 < (cands l i w 273).length by omega))
                  unfold shr; rw [if_pos hk1]; omega
                obtain ⟨m, rfl⟩ : ∃ m, k = m + 1 := ⟨k - 1, by omega⟩
                rw [Nat.add_sub_cancel] at hs
                repeat' (first | apply w_region | apply o_nil | (apply o_g tyOk; exact rfl; exact rfl) | (apply o_ar tyOk; exact rfl; exact rfl) | (apply o_load tyOk; (iterate 3 exact rfl); (focus (exact pk))) | (apply w_dT; exact rfl; (focus (first | exact ‹_› | with_reducible exact rfl | omega))) | apply thenS_normal | ((with_reducible apply Sd.mk); (first | exact True.intro | omega | (constructor <;> first | omega | (unfold maxLen; omega)) | (unfold maxLen; omega))) | ((with_reducible apply Ln.mk); (first | rfl | exact ‹_› | omega | (simp ; first | done | omega))) | ((with_reducible apply Wr.mk); (first | exact IntWalk.i64_in _ (by omega) | exact IntWalk.u8_in _ (by omega) | exact IntWalk.u32_in _ (by omega) | exact IntWalk.u64_in _ (by omega) | exact IntKind.wrap_u8 _ | exact IntKind.wrap_u32 _ | rfl)) | ((with_reducible apply Ce.mk); (first | rfl | exact ‹_› | exact cell_recZ (fun _ => rfl) (by omega) (by decide) rfl | exact cell_rec (fun _ => rfl) (by omega) (by decide) rfl | exact cell_bytes (by omega) | exact cell_mapZ (by omega) | exact cell_map (by omega))) | exact True.intro | exact rfl)
                rw [show (((m + 1 : Nat) : Int) - 1).toNat = m by omega, hs]
                exact ⟨(), trivial, (by repeat' (first | exact trivial | refine ⟨rfl, ?_⟩ | refine ⟨congrArg some ?_, ?_⟩)), (by repeat (first | with_reducible exact Take.nil | with_reducible apply Take.c | with_reducible apply Take.drop))⟩
              · have hs : (shr (cands l i w 273) k : Int) = 1 := by unfold shr; rw [if_neg hk1]; rfl
                repeat' (first | (apply w_dF; exact rfl; (focus (first | exact ‹_› | with_reducible exact rfl | omega))) | apply thenS_normal | apply w_skip)
                rw [hs]
                exact ⟨(), trivial, (by repeat' (first | exact trivial | refine ⟨rfl, ?_⟩ | refine ⟨congrArg some ?_, ?_⟩)), (by repeat (first | with_reducible exact Take.nil | with_reducible apply Take.c | with_reducible apply Take.drop))⟩
            · rintro _ _
              repeat' (first | apply w_seq | apply w_region | apply o_nil | (apply o_g tyOk; exact rfl; exact rfl) | (apply o_load tyOk; (iterate 3 exact rfl); (focus (exact pk))) | apply thenS_normal | apply w_block | ((with_reducible apply Sd.mk); (first | exact True.intro | omega | (constructor <;> first | omega | (unfold maxLen; omega)) | (unfold maxLen; omega))) | ((with_reducible apply Ln.mk); (first | rfl | exact ‹_› | omega | (simp ; first | done | omega))) | ((with_reducible apply Ce.mk); (first | rfl | exact ‹_› | exact cell_recZ (fun _ => rfl) (by omega) (by decide) rfl | exact cell_rec (fun _ => rfl) (by omega) (by decide) rfl | exact cell_bytes (by omega) | exact cell_mapZ (by omega) | exact cell_map (by omega))) | exact True.intro | exact rfl)
              obtain ⟨N, hN⟩ : ∃ N : Nat, (cands l i w 273)[k]!.1 = (N : Int) := ⟨_, (Int.toNat_of_nonneg (by omega)).symm⟩
              have hrun2 : runT c i (trN (cands l i w 273)[k]!.2 (shr (cands l i w 273) k) N ++ trK (cands l i w 273) k) (f, T) = runT c i (trK (cands l i w 273) (cands l i w 273).length) (false, parT c l w j) := by
                rw [← hrun, trK, hN, Int.toNat_natCast]
              rw [hN] at hci ⊢
              refine w_loop (S := Nat × (Bool × List St)) (fun x => [(1, S l), (2, I w), (3, gptr n3 0 4), (8, gptr n8 0 1), (9, gptr n9 0 1), (11, PF n3 n8 n9 n10), (12, .slice (some ⟨A', 0, some (2 * (cands l i w 273).length)⟩) (cands l i w 273).length fl), (13, I k), (14, I (shr (cands l i w 273) k)), (15, I x.1)]) (fun x => TB n3 n8 n9 n10 A0 c i x.2 h2)
                (fun x => x.1 ≤ N ∧ TOk l.length x.2.2 ∧ runT c i (trN (cands l i w 273)[k]!.2 (shr (cands l i w 273) k) x.1 ++ trK (cands l i w 273) k) x.2 = runT c i (trK (cands l i w 273) (cands l i w 273).length) (false, parT c l w j)) (fun x => x.1)
                (N, (f, T)) ⟨Nat.le_refl _, hTk, hrun2⟩ (by repeat' (first | exact trivial | refine ⟨rfl, ?_⟩ | refine ⟨congrArg some ?_, ?_⟩)) (by repeat (first | with_reducible exact Take.nil | with_reducible apply Take.c | with_reducible apply Take.drop)) ?_
              clear hrun2 hrun hTk
              rintro ⟨n, f, T⟩ ⟨hnN, hTk, hrun⟩
              dsimp only at hnN hTk hrun ⊢
              have hsp := shr_pos (l := l) (i := i) (w := w) (show k < (cands l i w 273).length by omega)
              by_cases hlo : shr (cands l i w 273) k < n
              · obtain ⟨n, rfl⟩ : ∃ m, n = m + 1 := ⟨n - 1, by omega⟩
                rw [trN, if_pos hlo, List.cons_append] at hrun
                have hft : fits l i (((n + 1 : Nat) : Int), (cands l i w 273)[k]!.2, 0) := ⟨.inr ⟨by dsimp only; omega, by dsimp only; omega, by dsimp only; omega, by dsimp only; omega, rfl⟩, by dsimp only; omega, by dsimp only; omega⟩
                have hst := hTk.st hn (show i + (n + 1) ≤ l.length by omega)
                have htl := hTk.1
                repeat' (first | apply w_seq | apply w_region | apply o_nil | (apply o_g tyOk; exact rfl; exact rfl) | (apply o_ar tyOk; exact rfl; exact rfl) | (apply o_load tyOk; (iterate 3 exact rfl); (focus (exact pk))) | (apply o_build tyOk; exact rfl; exact rfl; (focus (first | with_reducible exact pl38 | with_reducible exact pl71 | with_reducible exact pl82)); exact rfl; (focus (repeat (first | exact BuildR.nil | (apply BuildR.one; exact rfl; exact rfl; (first | (focus ((repeat (first | exact SetAt.zero | apply SetAt.succ)); done)) | exact setAt_bytes (by omega) (by omega) | exact setAt_mapZ (by omega) | exact setAt_map (by omega))) | (apply BuildR.agg; exact rfl; exact rfl; (first | exact putAt_all rfl | exact putAt_recZ (fun _ => rfl) (by omega) | exact putAt_rec (fun _ => rfl) (by omega)))))); exact rfl) | (apply o_call; exact rfl; exact rfl; (focus (first | exact rfl | assumption)); exact rfl; (focus (exact ⟨_, try_any c (((n + 1 : Nat) : Int), (cands l i w 273)[k]!.2, 0) n3 n8 n9 n10 A0 i (f, T) h2 hc0 hft.1 (by show i + (n + 1) < T.length; omega) (by show T.length ≤ 4097; omega) hst, by repeat (first | with_reducible exact Take.nil | with_reducible apply Take.c | with_reducible apply Take.drop)⟩)); rintro _ _ ⟨rfl, rfl⟩) | (apply w_dT; exact rfl; (focus (first | exact ‹_› | with_reducible exact rfl | omega))) | apply thenS_normal | apply blockS_normal | apply w_skip | apply w_block | ((with_reducible apply Sd.mk); (first | exact True.intro | omega | (constructor <;> first | omega | (unfold maxLen; omega)) | (unfold maxLen; omega))) | ((with_reducible apply Ln.mk); (first | rfl | exact ‹_› | omega | (simp ; first | done | omega))) | ((with_reducible apply Wr.mk); (first | exact IntWalk.i64_in _ (by omega) | exact IntWalk.u8_in _ (by omega) | exact IntWalk.u32_in _ (by omega) | exact IntWalk.u64_in _ (by omega) | exact IntKind.wrap_u8 _ | exact IntKind.wrap_u32 _ | rfl)) | ((with_reducible apply Ce.mk); (first | rfl | exact ‹_› | exact cell_recZ (fun _ => rfl) (by omega) (by decide) rfl | exact cell_rec (fun _ => rfl) (by omega) (by decide) rfl | exact cell_bytes (by omega) | exact cell_mapZ (by omega) | exact cell_map (by omega))) | exact True.intro | exact rfl)
                rw [show (((n + 1 : Nat) : Int)) - 1 = (n : Int) by omega]
                exact ⟨(n, tryS c i (f, T) (((n + 1 : Nat) : Int), (cands l i w 273)[k]!.2, 0)), ⟨by show n ≤ N; omega, tryS_ok (s := (f, T)) hc0 hTk hft, hrun⟩, Nat.lt_succ_self n, (by repeat' (first | exact trivial | refine ⟨rfl, ?_⟩ | refine ⟨congrArg some ?_, ?_⟩)), (by repeat (first | with_reducible exact Take.nil | with_reducible apply Take.c | with_reducible apply Take.drop))⟩
              · have hnil : trN (cands l i w 273)[k]!.2 (shr (cands l i w 273) k) n = [] := by
                  cases n with
                  | zero => rfl
                  | succ n => rw [trN, if_neg hlo]
                rw [hnil, List.nil_append] at hrun
                repeat' (first | apply w_seq | apply w_region | apply o_nil | (apply o_g tyOk; exact rfl; exact rfl) | (apply o_ar tyOk; exact rfl; exact rfl) | (apply w_dF; exact rfl; (focus (first | exact ‹_› | with_reducible exact rfl | omega))) | apply thenS_normal | apply thenS_exit | apply blockS_normal | apply blockS_exit | apply w_exit | ((with_reducible apply Sd.mk); (first | exact True.intro | omega | (constructor <;> first | omega | (unfold maxLen; omega)) | (unfold maxLen; omega))) | ((with_reducible apply Wr.mk); (first | exact IntWalk.i64_in _ (by omega) | exact IntWalk.u8_in _ (by omega) | exact IntWalk.u32_in _ (by omega) | exact IntWalk.u64_in _ (by omega) | exact IntKind.wrap_u8 _ | exact IntKind.wrap_u32 _ | rfl)))
                exact ⟨(k, (f, T)), ⟨by show k ≤ _; omega, hTk, hrun⟩, Nat.lt_succ_self k, (by repeat' (first | exact trivial | refine ⟨rfl, ?_⟩ | refine ⟨congrArg some ?_, ?_⟩)), (by repeat (first | with_reducible exact Take.nil | with_reducible apply Take.c | with_reducible apply Take.drop))⟩
          · obtain rfl : k = 0 := by omega
            have hrun2 : (f, T) = runT c i (trK (cands l i w 273) (cands l i w 273).length) (false, parT c l w j) := hrun
            rw [← hrun2] at hsu
            have htl := hTk.1
            have hst := hTk.st hn (show i + 1 ≤ l.length by omega)
            repeat' (first | apply w_seq | apply w_region | apply o_nil | (apply o_g tyOk; exact rfl; exact rfl) | (apply o_ar tyOk; exact rfl; exact rfl) | (apply o_load tyOk; (iterate 3 exact rfl); (focus (exact pk))) | (apply o_store tyOk; (iterate 4 exact rfl); (focus (exact up))) | (apply o_alloc tyOk; iterate 5 exact rfl) | (apply o_build tyOk; exact rfl; exact rfl; (focus (first | with_reducible exact pl38 | with_reducible exact pl71 | with_reducible exact pl82)); exact rfl; (focus (repeat (first | exact BuildR.nil | (apply BuildR.one; exact rfl; exact rfl; (first | (focus ((repeat (first | exact SetAt.zero | apply SetAt.succ)); done)) | exact setAt_bytes (by omega) (by omega) | exact setAt_mapZ (by omega) | exact setAt_map (by omega))) | (apply BuildR.agg; exact rfl; exact rfl; (first | exact putAt_all rfl | exact putAt_recZ (fun _ => rfl) (by omega) | exact putAt_rec (fun _ => rfl) (by omega)))))); exact rfl) | (apply o_call; exact rfl; exact rfl; (focus (first | exact rfl | assumption)); exact rfl; (focus (exact ⟨_, try_any c (litP l i) n3 n8 n9 n10 A0 i (f, T) h2 hc0 hfl.1 (by show i + 1 < T.length; omega) (by show T.length ≤ 4097; omega) hst, by repeat (first | with_reducible exact Take.nil | with_reducible apply Take.c | with_reducible apply Take.drop)⟩)); rintro _ _ ⟨rfl, rfl⟩) | (apply w_false; exact rfl) | apply thenS_normal | apply thenS_exit | apply blockS_normal | apply blockS_exit | apply w_exit | ((with_reducible apply Sd.mk); (first | exact True.intro | omega | (constructor <;> first | omega | (unfold maxLen; omega)) | (unfold maxLen; omega))) | ((with_reducible apply Ln.mk); (first | rfl | exact ‹_› | omega | (simp ; first | done | omega))) | ((with_reducible apply Wr.mk); (first | exact IntWalk.i64_in _ (by omega) | exact IntWalk.u8_in _ (by omega) | exact IntWalk.u32_in _ (by omega) | exact IntWalk.u64_in _ (by omega) | exact IntKind.wrap_u8 _ | exact IntKind.wrap_u32 _ | rfl)) | ((with_reducible apply Ce.mk); (first | rfl | exact ‹_› | exact cell_recZ (fun _ => rfl) (by omega) (by decide) rfl | exact cell_rec (fun _ => rfl) (by omega) (by decide) rfl | exact cell_bytes (by omega) | exact cell_mapZ (by omega) | exact cell_map (by omega))) | ((with_reducible apply Se.mk); (first | (focus ((repeat (first | exact SetAt.zero | apply SetAt.succ)); done)) | exact setAt_bytes (by omega) (by omega) | exact setAt_mapZ (by omega) | exact setAt_map (by omega))) | exact True.intro | intro A | exact rfl)
            refine ⟨(j + 1, A), by show j + 1 ≤ _; omega, by show l.length - (j + 1) < _; omega, (by repeat' (first | exact trivial | refine ⟨rfl, ?_⟩ | refine ⟨congrArg some ?_, ?_⟩)), ?_⟩
            dsimp only
            rw [hsu, show (l.length : Int) - ((j + 1 : Nat) : Int) - 1 = (i : Int) - 1 by omega]
            exact (by repeat (first | with_reducible exact Take.nil | exact ht2 | with_reducible apply Take.c | with_reducible apply Take.drop))
        · obtain rfl : j = l.length := by omega
          repeat' (first | apply w_seq | apply w_region | apply o_nil | (apply o_g tyOk; exact rfl; exact rfl) | (apply o_load tyOk; (iterate 3 exact rfl); (focus (exact pk))) | (apply w_dF; exact rfl; (focus (first | exact ‹_› | with_reducible exact rfl | omega))) | apply thenS_normal | apply thenS_exit | apply blockS_exit | apply w_exit | apply w_block | ((with_reducible apply Sd.mk); (first | exact True.intro | omega | (constructor <;> first | omega | (unfold maxLen; omega)) | (unfold maxLen; omega))) | ((with_reducible apply Ln.mk); (first | rfl | exact ‹_› | omega | (simp ; first | done | omega))) | ((with_reducible apply Ce.mk); (first | rfl | exact ‹_› | exact cell_recZ (fun _ => rfl) (by omega) (by decide) rfl | exact cell_rec (fun _ => rfl) (by omega) (by decide) rfl | exact cell_bytes (by omega) | exact cell_mapZ (by omega) | exact cell_map (by omega))) | exact True.intro | exact rfl)
          have hPF : ∀ i, i < l.length → fits l i (parT c l w l.length)[i]!.2.2 := fun i hi => hF i (by omega) hi
          have hTl2 : (parT c l w l.length).length = l.length + 1 := hTl
          have hpr : parse c l w = (walkT (parT c l w l.length) l.length l.length 0, 0) := by unfold parse; rw [if_pos ⟨hc0, hw⟩, if_neg (by omega)]
          rw [hpr]
          obtain ⟨T, hTe⟩ : ∃ T, T = parT c l w l.length := ⟨_, rfl⟩
          rw [← hTe] at hPF hTl2 ⊢
          obtain ⟨hB, hBe⟩ : ∃ hB, hB = (n8, (⟨[gsl A0 0 (T.length * 5) T.length 5], false⟩ : Blk)) :: (A0, ⟨recs stC T, false⟩) :: (n3, ⟨csC c, false⟩) :: h := ⟨_, rfl⟩
          refine w_loop (S := Nat × Nat × List Pc × Value × SH) (fun x => [(1, S l), (8, gptr n8 0 1), (16, x.2.2.2.1), (17, I x.1)]) (fun x => x.2.2.2.2)
            (fun x => x.1 ≤ l.length ∧ l.length ≤ x.2.1 + x.1 ∧ x.2.2.1 ++ walkT T l.length x.2.1 x.1 = walkT T l.length l.length 0 ∧ x.2.2.1.length ≤ x.1 ∧ IsPs hB x.2.2.1 x.2.2.2.1 x.2.2.2.2) (fun x => l.length - x.1)
            (0, l.length, [], _, _) ⟨by simp, by simp, rfl, by simp, .inl ⟨rfl, rfl, rfl⟩⟩ (by repeat' (first | exact trivial | refine ⟨rfl, ?_⟩ | refine ⟨congrArg some ?_, ?_⟩)) (by rw [hBe]; exact (by repeat (first | with_reducible exact Take.nil | with_reducible apply Take.c | with_reducible apply Take.drop))) ?_
          rintro ⟨i, f, ps, v, q⟩ ⟨hi, hif, hwk, hpl, hps⟩
          dsimp only at hi hif hwk hpl hps ⊢
          by_cases hil : i < l.length
          · obtain ⟨f, rfl⟩ : ∃ m, f = m + 1 := ⟨f - 1, by omega⟩
            rw [walkT, if_pos hil] at hwk
            have hft := hPF i hil
            have hsub := sub_pc (T := T) (i := i) (by omega)
            obtain ⟨m, hm⟩ : ∃ m : Nat, T[i]!.2.2.1 = (m : Int) := ⟨_, (Int.toNat_of_nonneg (by omega)).symm⟩
            rw [show T[i]!.2.2.1.toNat = m by omega] at hwk
            rcases hps with ⟨rfl, rfl, rfl⟩ | ⟨A2, rfl, rfl⟩
            · subst hBe
              repeat' (first | apply w_seq | apply w_region | apply o_nil | (apply o_g tyOk; exact rfl; exact rfl) | (apply o_ar tyOk; exact rfl; exact rfl) | (apply o_load tyOk; (iterate 3 exact rfl); (focus (exact pk))) | (apply o_loads tyOk; (iterate 3 exact rfl); (focus (exact pk))) | (apply o_buildSlice tyOk; (iterate 5 exact rfl); (focus (decide)); exact rfl; (focus (decide)); (focus (repeat (first | exact CatR.nil | exact CatR.last rfl | (apply CatR.one; exact rfl; exact rfl) | (apply CatR.agg; exact rfl)))); exact rfl) | (apply o_append_nil tyOk; (iterate 5 exact rfl); (focus (exact ⟨by decide⟩)); (focus (exact pk))) | (apply w_dT; exact rfl; (focus (first | exact ‹_› | with_reducible exact rfl | omega))) | apply thenS_normal | apply blockS_normal | apply w_skip | apply w_block | ((with_reducible apply Sd.mk); (first | exact True.intro | omega | (constructor <;> first | omega | (unfold maxLen; omega)) | (unfold maxLen; omega))) | ((with_reducible apply Ln.mk); (first | rfl | exact ‹_› | omega | (simp ; first | done | omega))) | ((with_reducible apply Wr.mk); (first | exact IntWalk.i64_in _ (by omega) | exact IntWalk.u8_in _ (by omega) | exact IntWalk.u32_in _ (by omega) | exact IntWalk.u64_in _ (by omega) | exact IntKind.wrap_u8 _ | exact IntKind.wrap_u32 _ | rfl)) | ((with_reducible apply Ce.mk); (first | rfl | exact ‹_› | exact cell_recZ (fun _ => rfl) (by omega) (by decide) rfl | exact cell_rec (fun _ => rfl) (by omega) (by decide) rfl | exact cell_bytes (by omega) | exact cell_mapZ (by omega) | exact cell_map (by omega))) | ((with_reducible apply Su.mk); (first | exact hsub | exact subAt_all | exact subAt_recZ (fun _ => rfl) (by omega) | exact subAt_rec (fun _ => rfl) (by omega))) | exact True.intro | intro A | exact rfl)
              rw [show (i : Int) + T[i]!.2.2.1 = ((i + m : Nat) : Int) by omega]
              exact ⟨(i + m, f, [T[i]!.2.2], gsl A 0 (3 * 1) 1 3, (A, ⟨recs pcC [T[i]!.2.2], false⟩) :: (n8, ⟨[gsl A0 0 (T.length * 5) T.length 5], false⟩) :: (A0, ⟨recs stC T, false⟩) :: (n3, ⟨csC c, false⟩) :: h), ⟨by show i + m ≤ l.length; omega, by show l.length ≤ f + (i + m); omega, hwk, by show 1 ≤ i + m; omega, .inr ⟨A, rfl, rfl⟩⟩, by show l.length - (i + m) < l.length - i; omega, (by repeat' (first | exact trivial | refine ⟨rfl, ?_⟩ | refine ⟨congrArg some ?_, ?_⟩)), (by repeat (first | with_reducible exact Take.nil | with_reducible apply Take.c | ((with_reducible apply Take.cE); (first | exact rfl | (apply blkE; (focus (first | exact rfl | exact recs_snocE rfl | exact map_snocE rfl | exact congrArg (fun v => [v]) (gslE rfl rfl (by first | rfl | exact ‹_› | omega | (simp ; first | done | omega)) (by first | rfl | exact ‹_› | omega | (simp ; first | done | omega)) rfl)))))) | with_reducible apply Take.drop))⟩
            · subst hBe
              repeat' (first | apply w_seq | apply w_region | apply o_nil | (apply o_g tyOk; exact rfl; exact rfl) | (apply o_ar tyOk; exact rfl; exact rfl) | (apply o_load tyOk; (iterate 3 exact rfl); (focus (exact pk))) | (apply o_loads tyOk; (iterate 3 exact rfl); (focus (exact pk))) | (apply o_buildSlice tyOk; (iterate 5 exact rfl); (focus (decide)); exact rfl; (focus (decide)); (focus (repeat (first | exact CatR.nil | exact CatR.last rfl | (apply CatR.one; exact rfl; exact rfl) | (apply CatR.agg; exact rfl)))); exact rfl) | (apply o_append tyOk; (iterate 5 exact rfl); (focus (exact ⟨by decide⟩)); (focus (exact up)); (focus (exact pk))) | (apply w_dT; exact rfl; (focus (first | exact ‹_› | with_reducible exact rfl | omega))) | apply thenS_normal | apply blockS_normal | apply w_skip | apply w_block | ((with_reducible apply Sd.mk); (first | exact True.intro | omega | (constructor <;> first | omega | (unfold maxLen; omega)) | (unfold maxLen; omega))) | ((with_reducible apply Ln.mk); (first | rfl | exact ‹_› | omega | (simp ; first | done | omega))) | ((with_reducible apply Wr.mk); (first | exact IntWalk.i64_in _ (by omega) | exact IntWalk.u8_in _ (by omega) | exact IntWalk.u32_in _ (by omega) | exact IntWalk.u64_in _ (by omega) | exact IntKind.wrap_u8 _ | exact IntKind.wrap_u32 _ | rfl)) | ((with_reducible apply Ce.mk); (first | rfl | exact ‹_› | exact cell_recZ (fun _ => rfl) (by omega) (by decide) rfl | exact cell_rec (fun _ => rfl) (by omega) (by decide) rfl | exact cell_bytes (by omega) | exact cell_mapZ (by omega) | exact cell_map (by omega))) | ((with_reducible apply Su.mk); (first | exact hsub | exact subAt_all | exact subAt_recZ (fun _ => rfl) (by omega) | exact subAt_rec (fun _ => rfl) (by omega))) | exact True.intro | intro A | exact rfl)
              rw [show (i : Int) + T[i]!.2.2.1 = ((i + m : Nat) : Int) by omega]
              exact ⟨(i + m, f, ps ++ [T[i]!.2.2], gsl A2 0 (3 * (ps ++ [T[i]!.2.2]).length) (ps ++ [T[i]!.2.2]).length 3, (A2, ⟨recs pcC (ps ++ [T[i]!.2.2]), false⟩) :: (n8, ⟨[gsl A0 0 (T.length * 5) T.length 5], false⟩) :: (A0, ⟨recs stC T, false⟩) :: (n3, ⟨csC c, false⟩) :: h), ⟨by show i + m ≤ l.length; omega, by show l.length ≤ f + (i + m); omega, by rw [List.append_assoc]; exact hwk, by show (ps ++ [_]).length ≤ i + m; rw [List.length_append, List.length_singleton]; omega, .inr ⟨A2, rfl, rfl⟩⟩, by show l.length - (i + m) < l.length - i; omega, ⟨rfl, rfl, congrArg some (gslE rfl rfl (by simp; try omega) (by simp) rfl), rfl, trivial⟩, (by repeat (first | with_reducible exact Take.nil | with_reducible apply Take.c | ((with_reducible apply Take.cE); (first | exact rfl | (apply blkE; (focus (first | exact rfl | exact recs_snocE rfl | exact map_snocE rfl | exact congrArg (fun v => [v]) (gslE rfl rfl (by first | rfl | exact ‹_› | omega | (simp ; first | done | omega)) (by first | rfl | exact ‹_› | omega | (simp ; first | done | omega)) rfl)))))) | with_reducible apply Take.drop))⟩
          · obtain rfl : i = l.length := by omega
            have hw0 : walkT T l.length f l.length = [] := by
              cases f with
              | zero => rfl
              | succ f => rw [walkT, if_neg (Nat.lt_irrefl _)]
            rw [hw0, List.append_nil] at hwk
            subst hwk
            rcases hps with ⟨e, rfl, rfl⟩ | ⟨A2, rfl, rfl⟩
            · subst hBe
              repeat' (first | apply w_seq | apply w_region | apply o_nil | (apply o_g tyOk; exact rfl; exact rfl) | (apply w_dF; exact rfl; (focus (first | exact ‹_› | with_reducible exact rfl | omega))) | apply thenS_normal | apply thenS_exit | apply blockS_exit | apply w_ret | apply w_exit | ((with_reducible apply Sd.mk); (first | exact True.intro | omega | (constructor <;> first | omega | (unfold maxLen; omega)) | (unfold maxLen; omega))))
              (apply s_fin; (exact (show ResS _ _ _ _ [_, _] from ⟨rfl, ⟨rfl, trivial⟩⟩)); (focus (exact ⟨_, rfl, .inl ⟨e, rfl, rfl⟩⟩)); (focus (repeat (first | with_reducible exact Take.nil | with_reducible apply Take.c | with_reducible apply Take.drop))))
            · subst hBe
              repeat' (first | apply w_seq | apply w_region | apply o_nil | (apply o_g tyOk; exact rfl; exact rfl) | (apply w_dF; exact rfl; (focus (first | exact ‹_› | with_reducible exact rfl | omega))) | apply thenS_normal | apply thenS_exit | apply blockS_exit | apply w_ret | apply w_exit | ((with_reducible apply Sd.mk); (first | exact True.intro | omega | (constructor <;> first | omega | (unfold maxLen; omega)) | (unfold maxLen; omega))))
              (apply s_fin; (exact (show ResS _ _ _ _ [_, _] from ⟨rfl, ⟨rfl, trivial⟩⟩)); (focus (exact ⟨_, rfl, .inr ⟨A2, rfl, rfl⟩⟩)); (focus (repeat (first | with_reducible exact Take.nil | with_reducible apply Take.c | with_reducible apply Take.drop))))
      · refine w_body3 Try.func22 rfl rfl ?_
        repeat' (first | apply w_seq | apply w_region | apply o_nil | (apply o_g tyOk; exact rfl; exact rfl) | (apply o_not; exact rfl; exact rfl) | (apply o_loads tyOk; (iterate 3 exact rfl); (focus (exact pk))) | (apply o_box (tt := tyT); iterate 5 exact rfl) | (apply o_call; exact rfl; exact rfl; (focus (first | exact rfl | assumption)); exact rfl; (focus (exact ⟨_, validC_any c _, by repeat (first | with_reducible exact Take.nil | with_reducible apply Take.c | with_reducible apply Take.drop)⟩)); rintro _ _ ⟨rfl, rfl⟩) | (apply o_call; exact rfl; exact rfl; (focus (first | exact rfl | assumption)); exact rfl; (focus (exact ⟨_, validWindow_any w _, by repeat (first | with_reducible exact Take.nil | with_reducible apply Take.c | with_reducible apply Take.drop)⟩)); rintro _ _ ⟨rfl, rfl⟩) | (apply o_want; exact rfl; exact rfl) | (apply o_gF; (iterate 3 exact rfl); (focus (first | exact ‹_› | with_reducible exact rfl | omega))) | (apply w_dT; exact rfl; (focus (first | exact ‹_› | with_reducible exact rfl | omega))) | (apply w_dF; exact rfl; (focus (first | exact ‹_› | with_reducible exact rfl | omega))) | apply thenS_normal | apply thenS_ret | apply w_skip | apply w_ret | ((with_reducible apply Sd.mk); (first | exact True.intro | omega | (constructor <;> first | omega | (unfold maxLen; omega)) | (unfold maxLen; omega))) | ((with_reducible apply Ln.mk); (first | rfl | exact ‹_› | omega | (simp ; first | done | omega))) | ((with_reducible apply Su.mk); (first | exact subAt_all | exact subAt_recZ (fun _ => rfl) (by omega) | exact subAt_rec (fun _ => rfl) (by omega))) | exact True.intro | intro A | exact rfl)
        all_goals first
          | (apply s_fin; (exact (show ResS _ _ _ _ [_, _] from ⟨rfl, ⟨rfl, trivial⟩⟩)); (focus (exact ⟨_, by unfold parse; rw [if_pos ⟨hc0, hw⟩, if_pos (by omega)]; rfl, .inl ⟨by unfold parse; rw [if_pos ⟨hc0, hw⟩, if_pos (by omega)], rfl, rfl⟩⟩)); (focus (repeat (first | with_reducible exact Take.nil | with_reducible apply Take.c | with_reducible apply Take.drop))))
          | (exfalso; omega)
          | (exfalso; simp_all; done)
    · refine w_body3 Try.func22 rfl rfl ?_
      repeat' (first | apply w_seq | apply w_region | apply o_nil | (apply o_g tyOk; exact rfl; exact rfl) | (apply o_not; exact rfl; exact rfl) | (apply o_loads tyOk; (iterate 3 exact rfl); (focus (exact pk))) | (apply o_box (tt := tyT); iterate 5 exact rfl) | (apply o_call; exact rfl; exact rfl; (focus (first | exact rfl | assumption)); exact rfl; (focus (exact ⟨_, validC_any c _, by repeat (first | with_reducible exact Take.nil | with_reducible apply Take.c | with_reducible apply Take.drop)⟩)); rintro _ _ ⟨rfl, rfl⟩) | (apply o_call; exact rfl; exact rfl; (focus (first | exact rfl | assumption)); exact rfl; (focus (exact ⟨_, validWindow_any w _, by repeat (first | with_reducible exact Take.nil | with_reducible apply Take.c | with_reducible apply Take.drop)⟩)); rintro _ _ ⟨rfl, rfl⟩) | (apply o_want; exact rfl; exact rfl) | (apply o_gF; (iterate 3 exact rfl); (focus (first | exact ‹_› | with_reducible exact rfl | omega))) | (apply w_dT; exact rfl; (focus (first | exact ‹_› | with_reducible exact rfl | omega))) | apply thenS_normal | apply thenS_ret | apply w_ret | ((with_reducible apply Sd.mk); (first | exact True.intro | omega | (constructor <;> first | omega | (unfold maxLen; omega)) | (unfold maxLen; omega))) | ((with_reducible apply Ln.mk); (first | rfl | exact ‹_› | omega | (simp ; first | done | omega))) | ((with_reducible apply Su.mk); (first | exact subAt_all | exact subAt_recZ (fun _ => rfl) (by omega) | exact subAt_rec (fun _ => rfl) (by omega))) | exact True.intro | intro A | exact rfl)
      all_goals first
        | (apply s_fin; (exact (show ResS _ _ _ _ [_, _] from ⟨rfl, ⟨rfl, trivial⟩⟩)); (focus (exact ⟨_, by unfold parse; rw [if_neg (fun g => hw g.2)]; rfl, .inl ⟨by unfold parse; rw [if_neg (fun g => hw g.2)], rfl, rfl⟩⟩)); (focus (repeat (first | with_reducible exact Take.nil | with_reducible apply Take.c | with_reducible apply Take.drop))))
        | (exfalso; simp_all; done)
  · refine w_body3 Try.func22 rfl rfl ?_
    repeat' (first | apply w_seq | apply w_region | apply o_nil | (apply o_g tyOk; exact rfl; exact rfl) | (apply o_not; exact rfl; exact rfl) | (apply o_loads tyOk; (iterate 3 exact rfl); (focus (exact pk))) | (apply o_box (tt := tyT); iterate 5 exact rfl) | (apply o_call; exact rfl; exact rfl; (focus (first | exact rfl | assumption)); exact rfl; (focus (exact ⟨_, validC_any c _, by repeat (first | with_reducible exact Take.nil | with_reducible apply Take.c | with_reducible apply Take.drop)⟩)); rintro _ _ ⟨rfl, rfl⟩) | (apply o_skip; iterate 4 exact rfl) | (apply o_sT; (iterate 3 exact rfl); (focus (first | exact ‹_› | with_reducible exact rfl | omega)); exact rfl) | (apply w_true; exact rfl) | apply thenS_normal | apply thenS_ret | apply w_ret | ((with_reducible apply Sd.mk); (first | exact True.intro | omega | (constructor <;> first | omega | (unfold maxLen; omega)) | (unfold maxLen; omega))) | ((with_reducible apply Ln.mk); (first | rfl | exact ‹_› | omega | (simp ; first | done | omega))) | ((with_reducible apply Su.mk); (first | exact subAt_all | exact subAt_recZ (fun _ => rfl) (by omega) | exact subAt_rec (fun _ => rfl) (by omega))) | exact True.intro | intro A | exact rfl)
    all_goals first
      | (apply s_fin; (exact (show ResS _ _ _ _ [_, _] from ⟨rfl, ⟨rfl, trivial⟩⟩)); (focus (exact ⟨_, by unfold parse; rw [if_neg (fun g => hc0 g.1)]; rfl, .inl ⟨by unfold parse; rw [if_neg (fun g => hc0 g.1)], rfl, rfl⟩⟩)); (focus (repeat (first | with_reducible exact Take.nil | with_reducible apply Take.c | with_reducible apply Take.drop))))
      | (exfalso; simp_all; done)
end Go.Proofs.Ytgooffiipnkmiaa
end
section
set_option linter.unusedVariables false
set_option linter.unusedSimpArgs false
set_option maxRecDepth 4000
namespace Go.Proofs.Ytgooffiipnkmiaa
open Go.Gh Go.RowKit

theorem srun_post {P : Program} {f : FuncId} {xs : List Value} {p : SH} {R : Value → SH → Prop} (k : SRun P f xs p fun r q => ∃ q', R r q' ∧ Take q q') : SRun P f xs p R := by
  unfold SRun at k ⊢
  intro H i
  exact (k H i).mono fun r H' ⟨q, ⟨q', g1, g2⟩, g3⟩ => ⟨q', g1, g3.le g2.le⟩
/-- The models: kind, bytes (and the byte before), lengths, distances. -/
structure Ms where
  K : List Int
  P : List Int
  c : Int
  L : List Int
  D : List Int
structure MsOk (x : Ms) : Prop where
  K : x.K.length = 2
  P : x.P.length = 2048
  c : 0 ≤ x.c ∧ x.c ≤ 255
  L : x.L.length = 64
  D : x.D.length = 64
def nu0 : List Int := List.replicate 64 1024
def by0 : List Int := List.replicate 2048 1024
def ms0 : Ms := ⟨List.replicate 2 1024, by0, 0, nu0, nu0⟩
theorem ms0_ok : MsOk ms0 := ⟨rfl, List.length_replicate, ⟨Int.le_refl _, by show (0 : Int) ≤ 255; decide⟩, List.length_replicate, List.length_replicate⟩
/-- Where the models lie. -/
structure Mad where
  k : Nat
  kn : Nat
  b : Nat
  bn : Nat
  l : Nat
  ln : Nat
  d : Nat
  dn : Nat
abbrev kiC (N : Nat) : List Value := [I 1, gsl N 0 2 2 0]
abbrev msB (a : Mad) (x : Ms) (h : SH) : SH := (a.k, ⟨kiC a.kn, false⟩) :: (a.kn, ⟨nodes x.K, false⟩) :: (a.b, ⟨byC a.bn x.c, false⟩) :: (a.bn, ⟨nodes x.P, false⟩) ::
  (a.l, ⟨numC a.ln, false⟩) :: (a.ln, ⟨nodes x.L, false⟩) :: (a.d, ⟨numC a.dn, false⟩) :: (a.dn, ⟨nodes x.D, false⟩) :: h
theorem Take.f2 {A B C D : Nat × Blk} {h : SH} : Take (A :: B :: C :: D :: h) (C :: D :: A :: B :: h) := .cons (.tail (.tail .head)) (.cons (.tail (.tail .head)) .nil)
theorem Take.f4 {A B C D E F : Nat × Blk} {h : SH} : Take (A :: B :: C :: D :: E :: F :: h) (E :: F :: A :: B :: C :: D :: h) := .cons (.tail (.tail (.tail (.tail .head)))) (.cons (.tail (.tail (.tail (.tail .head)))) .nil)
theorem Take.b4 {A B C D E F : Nat × Blk} {h : SH} : Take (E :: F :: A :: B :: C :: D :: h) (A :: B :: C :: D :: E :: F :: h) := .cons (.tail (.tail .head)) (.cons (.tail (.tail .head)) (.cons (.tail (.tail .head)) (.cons (.tail (.tail .head)) .nil)))
theorem Take.f6 {A B C D E F G H : Nat × Blk} {h : SH} : Take (A :: B :: C :: D :: E :: F :: G :: H :: h) (G :: H :: A :: B :: C :: D :: E :: F :: h) := .cons (.tail (.tail (.tail (.tail (.tail (.tail .head)))))) (.cons (.tail (.tail (.tail (.tail (.tail (.tail .head)))))) .nil)
theorem Take.b6 {A B C D E F G H : Nat × Blk} {h : SH} : Take (G :: H :: A :: B :: C :: D :: E :: F :: h) (A :: B :: C :: D :: E :: F :: G :: H :: h) := .cons (.tail (.tail .head)) (.cons (.tail (.tail .head)) (.cons (.tail (.tail .head)) (.cons (.tail (.tail .head)) (.cons (.tail (.tail .head)) (.cons (.tail (.tail .head)) .nil)))))
section
variable (a : Mad) (n m : Nat) (x : Ms) (e : Enc) (v : Int) (h p : SH) (hb : EncT n (msB a x h) none e p) (hx : MsOk x) (hok : EncOk m e) (hm : m + 400 ≤ 999000)
include hb hx hok hm
theorem kEncW : SRun Try.prog 28 [gptr a.k 0 2, gptr n 0 3, I v] p fun _ q => EncT n (msB a { x with K := (tenc v 1 x.K e 1).1 } h) none (tenc v 1 x.K e 1).2 q := by
  have := TreeEncodeT n a.k a.kn 0 2 2 1 m none (kiC a.kn) [] [] x.K e v ((a.b, ⟨byC a.bn x.c, false⟩) :: (a.bn, ⟨nodes x.P, false⟩) :: (a.l, ⟨numC a.ln, false⟩) :: (a.ln, ⟨nodes x.L, false⟩) :: (a.d, ⟨numC a.dn, false⟩) :: (a.dn, ⟨nodes x.D, false⟩) :: h) p
    (by rw [List.nil_append, List.append_nil]; exact hb) rfl rfl rfl rfl hx.K (by decide) hok (by omega)
  rw [List.nil_append, List.append_nil] at this
  exact this.mono fun _ _ g => g.2
theorem bEncW (hv : 0 ≤ v ∧ v ≤ 255) : SRun Try.prog 29 [gptr a.b 0 17, gptr n 0 3, Y v] p fun _ q => EncT n (msB a { x with P := (benc x.P x.c e v).1, c := v } h) none (benc x.P x.c e v).2 q := by
  obtain ⟨p', hb', tp⟩ := hb.re Take.f2
  exact srun_post (((BytesEncode_any n a.b a.bn m x.P x.c v e _ p' ⟨none, hb'⟩ hx.P hx.c hv hok (by omega)).take tp).mono fun _ q ⟨a', hb2⟩ => hb2.none'.re Take.f2)
theorem lEncW : SRun Try.prog 30 [gptr a.l 0 2, gptr n 0 3, I v] p fun _ q => EncT n (msB a { x with L := (nenc x.L e v).1 } h) none (nenc x.L e v).2 q := by
  obtain ⟨p', hb', tp⟩ := hb.re Take.f4
  exact srun_post (((NumEncodeT_any n a.l a.ln m x.L e v _ p' hb' hx.L hok (by omega)).take tp).mono fun _ q hb2 => hb2.re Take.b4)
theorem dEncW : SRun Try.prog 30 [gptr a.d 0 2, gptr n 0 3, I v] p fun _ q => EncT n (msB a { x with D := (nenc x.D e v).1 } h) none (nenc x.D e v).2 q := by
  obtain ⟨p', hb', tp⟩ := hb.re Take.f6
  exact srun_post (((NumEncodeT_any n a.d a.dn m x.D e v _ p' hb' hx.D hok (by omega)).take tp).mono fun _ q hb2 => hb2.re Take.b6)
end
section
variable (a : Mad) (n : Nat) (x : Ms) (d : Dec) (h : SH) (hx : MsOk x) (hok : DecOk d)
include hx hok
theorem kDecW : SRun Try.prog 76 [gptr a.k 0 2, gptr n 0 5] (decB n d :: msB a x h) fun r q => r = I (((tdec 1 x.K d 1).2.2 : Int) - 2) ∧ q = decB n (tdec 1 x.K d 1).2.1 :: msB a { x with K := (tdec 1 x.K d 1).1 } h := by
  have := TreeDecode_any n a.k a.kn 0 2 2 1 (kiC a.kn) [] [] x.K d ((a.b, ⟨byC a.bn x.c, false⟩) :: (a.bn, ⟨nodes x.P, false⟩) :: (a.l, ⟨numC a.ln, false⟩) :: (a.ln, ⟨nodes x.L, false⟩) :: (a.d, ⟨numC a.dn, false⟩) :: (a.dn, ⟨nodes x.D, false⟩) :: h) rfl rfl rfl rfl hx.K (by decide) hok
  rw [List.nil_append, List.append_nil, List.nil_append, List.append_nil] at this
  exact this
theorem bDecW : SRun Try.prog 77 [gptr a.b 0 17, gptr n 0 5] (decB n d :: msB a x h) fun r q => r = Y (bdec x.P x.c d).2.2 ∧ q = decB n (bdec x.P x.c d).2.1 :: msB a { x with P := (bdec x.P x.c d).1, c := (bdec x.P x.c d).2.2 } h :=
  srun_post (((BytesDecode_any n a.b a.bn x.P x.c d _ hx.P hx.c hok).take (.cons .head Take.f2)).mono fun _ q ⟨g1, g2⟩ => ⟨_, ⟨g1, rfl⟩, by rw [g2]; exact .cons .head Take.f2⟩)
theorem lDecW : SRun Try.prog 78 [gptr a.l 0 2, gptr n 0 5] (decB n d :: msB a x h) fun r q => r = I (ndec x.L d).2.2 ∧ q = decB n (ndec x.L d).2.1 :: msB a { x with L := (ndec x.L d).1 } h :=
  srun_post (((NumDecode_any n a.l a.ln x.L d _ hx.L hok).take (.cons .head Take.f4)).mono fun _ q ⟨g1, g2⟩ => ⟨_, ⟨g1, rfl⟩, by rw [g2]; exact .cons .head Take.b4⟩)
theorem dDecW : SRun Try.prog 78 [gptr a.d 0 2, gptr n 0 5] (decB n d :: msB a x h) fun r q => r = I (ndec x.D d).2.2 ∧ q = decB n (ndec x.D d).2.1 :: msB a { x with D := (ndec x.D d).1 } h :=
  srun_post (((NumDecode_any n a.d a.dn x.D d _ hx.D hok).take (.cons .head Take.f6)).mono fun _ q ⟨g1, g2⟩ => ⟨_, ⟨g1, rfl⟩, by rw [g2]; exact .cons .head Take.b6⟩)
end
abbrev setC (a : Mad) : List Value := [gptr a.k 0 2, gptr a.b 0 17, gptr a.l 0 2, gptr a.d 0 2]
theorem mk_set (k kn b bn l ln d dn : Nat) (K P L D : List Int) (h : SH) : ∃ a : Mad, Value.agg ⟨[gptr k 0 2, gptr b 0 17, gptr l 0 2, gptr d 0 2]⟩ = .agg ⟨setC a⟩ ∧
    ((k, (⟨kiC kn, false⟩ : Blk)) :: (kn, ⟨nodes K, false⟩) :: (b, ⟨byC bn 0, false⟩) :: (bn, ⟨nodes P, false⟩) :: (l, ⟨numC ln, false⟩) :: (ln, ⟨nodes L, false⟩) :: (d, ⟨numC dn, false⟩) :: (dn, ⟨nodes D, false⟩) :: h) = msB a ⟨K, P, 0, L, D⟩ h :=
  ⟨⟨k, kn, b, bn, l, ln, d, dn⟩, rfl, rfl⟩
theorem newSet_any (h : SH) : SRun Try.prog 25 [] h fun r q => ∃ a : Mad, r = .agg ⟨setC a⟩ ∧ q = msB a ms0 h := by
  have hT : ∀ h, SRun Try.prog 42 [I 1] h fun r q => ∃ T N, r = .tuple #[gptr T 0 2, I 0] ∧ q = (T, ⟨[I 1, gsl N 0 2 2 0], false⟩) :: (N, ⟨nodes (List.replicate 2 1024), false⟩) :: h := fun h => (NewTree_any 1 h).mono fun r q g => by
    rcases g with ⟨_, _, T, N, g1, g2⟩ | ⟨g, _⟩
    · exact ⟨T, N, g1, g2⟩
    · exact absurd ⟨by decide, by decide⟩ g
  have hB : ∀ h, SRun Try.prog 43 [] h fun r q => ∃ M N, r = gptr M 0 17 ∧ q = (M, ⟨byC N 0, false⟩) :: (N, ⟨nodes by0, false⟩) :: h := NewBytes_any
  have hI : ∀ h, SRun Try.prog 44 [] h fun r q => ∃ M N, r = gptr M 0 2 ∧ q = (M, ⟨numC N, false⟩) :: (N, ⟨nodes nu0, false⟩) :: h := NewNumbers_any
  unfold ms0
  generalize by0 = X at *
  generalize nu0 = Z at *
  generalize List.replicate 2 (1024 : Int) = Y at *
  refine w_body0 Try.func25 rfl rfl ?_
  repeat' (first | apply w_seq | apply w_region | apply o_nil | (apply o_g tyOk; exact rfl; exact rfl) | (apply o_stores tyOk; (iterate 4 exact rfl); (focus (exact ⟨rfl⟩)); (focus (exact up))) | (apply o_alloc tyOk; iterate 5 exact rfl) | (apply o_build tyOk; exact rfl; exact rfl; (focus (first | with_reducible exact pl7 | with_reducible exact pl8 | with_reducible exact pl52)); exact rfl; (focus (repeat (first | exact BuildR.nil | (apply BuildR.one; exact rfl; exact rfl; (first | (focus ((repeat (first | exact SetAt.zero | apply SetAt.succ)); done)) | exact setAt_bytes (by omega) (by omega) | exact setAt_mapZ (by omega) | exact setAt_map (by omega))) | (apply BuildR.agg; exact rfl; exact rfl; (first | exact putAt_all rfl | exact putAt_recZ (fun _ => rfl) (by omega) | exact putAt_rec (fun _ => rfl) (by omega)))))); exact rfl) | (apply o_call; exact rfl; exact rfl; (focus (first | exact rfl | assumption)); exact rfl; (focus (exact ⟨_, hT _, by repeat (first | with_reducible exact Take.nil | with_reducible apply Take.c | with_reducible apply Take.drop)⟩)); rintro _ _ ⟨T, N, rfl, rfl⟩) | (apply o_call; exact rfl; exact rfl; (focus (first | exact rfl | assumption)); exact rfl; (focus (exact ⟨_, hB _, by repeat (first | with_reducible exact Take.nil | with_reducible apply Take.c | with_reducible apply Take.drop)⟩)); rintro _ _ ⟨M1, N1, rfl, rfl⟩) | (apply o_call; exact rfl; exact rfl; (focus (first | exact rfl | assumption)); exact rfl; (focus (exact ⟨_, hI _, by repeat (first | with_reducible exact Take.nil | with_reducible apply Take.c | with_reducible apply Take.drop)⟩)); rintro _ _ ⟨M2, N2, rfl, rfl⟩) | apply thenS_normal | apply w_ret | ((with_reducible apply Sd.mk); (first | exact True.intro | omega | (constructor <;> first | omega | (unfold maxLen; omega)) | (unfold maxLen; omega))) | ((with_reducible apply Ln.mk); (first | rfl | exact ‹_› | omega | (simp ; first | done | omega))) | ((with_reducible apply Pu.mk); (first | exact putAt_all rfl | exact putAt_recZ (fun _ => rfl) (by omega) | exact putAt_rec (fun _ => rfl) (by omega))) | exact True.intro | intro A)
  rename_i M4 N4
  (apply s_fin; (exact (show ResS _ _ _ _ [_] from (res_cell tyOk rfl rfl rfl (by exact pk) (by first | rfl | exact ‹_› | omega | (simp ; first | done | omega)) (by first | rfl | exact ‹_› | omega | (simp ; first | done | omega)) trivial))); (focus (exact mk_set T N M1 N1 M4 N4 M2 N2 Y X Z Z h)); (focus (repeat (first | with_reducible exact Take.nil | with_reducible apply Take.c | with_reducible apply Take.drop))))
end Go.Proofs.Ytgooffiipnkmiaa
end
