/- BitvectorMix. -/
import Derived.Test.YtoachkpkbgpmjaaBvP
import Derived.Test.YtoachkpkbgpmjaaSlZ
set_option linter.unusedVariables false
set_option linter.unusedSimpArgs false
namespace Go.Proofs.Ytoachkpkbgpmjaa
open Go.Gh Go.RowKit

theorem rValid_any (w : Int) (l : List UInt8) (h : SH) (hl : l.length ≤ 9223372036854775807) : SRun Try.prog 28 [I w, S l] h fun r q => r = B (decide (isV l ∧ (l.length : Int) = w)) ∧ q = h := by
  refine w_body2 Try.func28 rfl rfl ?_
  repeat' (first | apply w_seq | apply w_region | apply o_nil | (apply o_g tyOk; exact rfl; exact rfl) | (apply o_eqs; exact rfl; exact rfl; exact rfl; (focus (kernel_rfl)); exact rfl; exact rfl; (focus (kernel_rfl)); exact rfl) | (apply o_call; exact rfl; exact rfl; (focus (first | exact rfl | assumption)); exact rfl; (focus (exact ⟨_, rIsValue_any _ _ hl, by repeat (first | with_reducible exact Take.nil | with_reducible apply Take.c | with_reducible apply Take.drop)⟩)); rintro _ _ ⟨rfl, rfl⟩) | (apply o_callN; exact rfl; exact rfl; exact rfl; (focus (exact ⟨_, rIsValue_any _ _ hl, by repeat (first | with_reducible exact Take.nil | with_reducible apply Take.c | with_reducible apply Take.drop)⟩)); rintro _ _ ⟨rfl, rfl⟩) | (apply o_want; exact rfl; exact rfl) | (apply o_skip; exact rfl; exact rfl; exact rfl; exact rfl) | (apply o_skip_undef; exact rfl; exact rfl; exact rfl) | (apply o_gT; exact rfl; exact rfl; exact rfl; (focus (first | exact ‹_› | with_reducible exact rfl | omega))) | (apply o_gF; exact rfl; exact rfl; exact rfl; (focus (first | exact ‹_› | with_reducible exact rfl | omega))) | (apply o_sF; exact rfl; exact rfl; exact rfl; (focus (first | exact ‹_› | with_reducible exact rfl | omega)); exact rfl) | (apply o_sT; exact rfl; exact rfl; exact rfl; (focus (first | exact ‹_› | with_reducible exact rfl | omega)); exact rfl) | (apply o_guardTN; exact rfl; exact rfl; exact rfl; all_goals intro hc) | (apply o_guardFN; exact rfl; exact rfl; exact rfl; all_goals intro hc) | (apply o_guardT; exact rfl; exact rfl; exact rfl; all_goals intro hc) | (apply o_guardF; exact rfl; exact rfl; exact rfl; all_goals intro hc) | (apply o_guardB; exact rfl; exact rfl; exact rfl; all_goals intro hc) | (apply w_true; exact rfl) | (apply w_false; exact rfl) | (apply w_dT; exact rfl; (focus (first | exact ‹_› | with_reducible exact rfl | omega))) | (apply w_dF; exact rfl; (focus (first | exact ‹_› | with_reducible exact rfl | omega))) | (apply w_ifN; exact rfl; all_goals intro hc) | (apply w_if; exact rfl; all_goals intro hc) | (apply w_ifB; exact rfl; all_goals intro hc) | apply thenS_normal | apply thenS_ret | apply thenS_exit | apply blockS_normal | apply blockS_ret | apply blockS_exit | apply w_skip | apply w_ret | apply w_exit | apply w_block | apply scopeS_normal | apply scopeS_ret | apply scopeS_exit | apply w_scope | (apply blockS_exit_ne; exact rfl) | ((with_reducible apply Sd.mk); (first | exact True.intro | omega | (constructor <;> first | omega | (unfold maxLen; omega)) | (unfold maxLen; omega))) | exact True.intro | exact rfl)
  all_goals (apply s_fin; (exact (show ResS _ _ _ _ [_] from ⟨rfl, trivial⟩)); (focus (exact ⟨by show B _ = B _; simp [*], rfl⟩)); (focus (repeat (first | with_reducible exact Take.nil | with_reducible apply Take.c | ((with_reducible apply Take.cE); (first | exact rfl | (apply blkE; (focus (first | exact rfl | exact recs_snocE rfl | exact map_snocE rfl | exact congrArg (fun v => [v]) (gslE rfl rfl (by first | rfl | exact ‹_› | omega | (simp ; first | done | omega)) (by first | rfl | exact ‹_› | omega | (simp ; first | done | omega)) rfl)))))) | with_reducible apply Take.drop))))
theorem Valid_any (w : Int) (l : List UInt8) (h : SH) (hl : l.length ≤ 9223372036854775807) : SRun Try.prog 47 [I w, S l] h fun r q => r = B (decide (isV l ∧ (l.length : Int) = w)) ∧ q = h := by
  refine w_body2 Try.func47 rfl rfl ?_
  repeat' (first | apply w_seq | apply w_region | apply o_nil | (apply o_g tyOk; exact rfl; exact rfl) | (apply o_eqs; exact rfl; exact rfl; exact rfl; (focus (kernel_rfl)); exact rfl; exact rfl; (focus (kernel_rfl)); exact rfl) | (apply o_call; exact rfl; exact rfl; (focus (first | exact rfl | assumption)); exact rfl; (focus (exact ⟨_, is_any _ _ hl, by repeat (first | with_reducible exact Take.nil | with_reducible apply Take.c | with_reducible apply Take.drop)⟩)); rintro _ _ ⟨rfl, rfl⟩) | (apply o_callN; exact rfl; exact rfl; exact rfl; (focus (exact ⟨_, is_any _ _ hl, by repeat (first | with_reducible exact Take.nil | with_reducible apply Take.c | with_reducible apply Take.drop)⟩)); rintro _ _ ⟨rfl, rfl⟩) | (apply o_want; exact rfl; exact rfl) | (apply o_skip; exact rfl; exact rfl; exact rfl; exact rfl) | (apply o_skip_undef; exact rfl; exact rfl; exact rfl) | (apply o_gT; exact rfl; exact rfl; exact rfl; (focus (first | exact ‹_› | with_reducible exact rfl | omega))) | (apply o_gF; exact rfl; exact rfl; exact rfl; (focus (first | exact ‹_› | with_reducible exact rfl | omega))) | (apply o_sF; exact rfl; exact rfl; exact rfl; (focus (first | exact ‹_› | with_reducible exact rfl | omega)); exact rfl) | (apply o_sT; exact rfl; exact rfl; exact rfl; (focus (first | exact ‹_› | with_reducible exact rfl | omega)); exact rfl) | (apply o_guardTN; exact rfl; exact rfl; exact rfl; all_goals intro hc) | (apply o_guardFN; exact rfl; exact rfl; exact rfl; all_goals intro hc) | (apply o_guardT; exact rfl; exact rfl; exact rfl; all_goals intro hc) | (apply o_guardF; exact rfl; exact rfl; exact rfl; all_goals intro hc) | (apply o_guardB; exact rfl; exact rfl; exact rfl; all_goals intro hc) | (apply w_true; exact rfl) | (apply w_false; exact rfl) | (apply w_dT; exact rfl; (focus (first | exact ‹_› | with_reducible exact rfl | omega))) | (apply w_dF; exact rfl; (focus (first | exact ‹_› | with_reducible exact rfl | omega))) | (apply w_ifN; exact rfl; all_goals intro hc) | (apply w_if; exact rfl; all_goals intro hc) | (apply w_ifB; exact rfl; all_goals intro hc) | apply thenS_normal | apply thenS_ret | apply thenS_exit | apply blockS_normal | apply blockS_ret | apply blockS_exit | apply w_skip | apply w_ret | apply w_exit | apply w_block | apply scopeS_normal | apply scopeS_ret | apply scopeS_exit | apply w_scope | (apply blockS_exit_ne; exact rfl) | ((with_reducible apply Sd.mk); (first | exact True.intro | omega | (constructor <;> first | omega | (unfold maxLen; omega)) | (unfold maxLen; omega))) | exact True.intro | exact rfl)
  all_goals (apply s_fin; (exact (show ResS _ _ _ _ [_] from ⟨rfl, trivial⟩)); (focus (exact ⟨by show B _ = B _; simp [*], rfl⟩)); (focus (repeat (first | with_reducible exact Take.nil | with_reducible apply Take.c | ((with_reducible apply Take.cE); (first | exact rfl | (apply blkE; (focus (first | exact rfl | exact recs_snocE rfl | exact map_snocE rfl | exact congrArg (fun v => [v]) (gslE rfl rfl (by first | rfl | exact ‹_› | omega | (simp ; first | done | omega)) (by first | rfl | exact ‹_› | omega | (simp ; first | done | omega)) rfl)))))) | with_reducible apply Take.drop))))
theorem ext_bat {a b : List UInt8} (h : a.length = b.length) (he : ∀ i : Nat, i < a.length → bat a (i : Int) = bat b (i : Int)) : a = b := by
  refine List.ext_getElem h fun i h1 h2 => ?_
  have := he i h1
  rw [bat_get h1, bat_get h2] at this
  exact UInt8.toNat_inj.1 (by omega)
theorem bat_zmap (F : Int → Int → Int) {a b : List UInt8} {i : Nat} (ha : i < a.length) (hb : i < b.length) (hF : 0 ≤ F (bat a (i : Int)) (bat b (i : Int)) ∧ F (bat a (i : Int)) (bat b (i : Int)) < 256) : bat (zmap F a b) (i : Int) = F (bat a (i : Int)) (bat b (i : Int)) := by
  rw [bat_get (show i < (zmap F a b).length by unfold zmap; rw [List.length_zipWith]; omega), bat_get ha, bat_get hb] at *
  simp only [zmap, List.getElem_zipWith]
  exact b8_val hF
abbrev chr (c : Int) : Prop := c = 48 ∨ c = 49 ∨ c = 120 ∨ c = 122
theorem mxc_sym (x y : Int) : mxc x y = mxc y x := by unfold mxc; rw [Int.add_comm (cd x), Int.add_comm (cd x / 2)]
theorem mxc_facts {x y : Int} (hx : chr x) (hy : chr y) : chr (mxc x y) ∧ mxc x (mxc x y) = y ∧ mxc x x = 48 ∧ fpc (mxc (pl0 x) (pl0 y)) (mxc (pl1 x) (pl1 y)) = mxc x y ∧ (pl0 x = 48 ∨ pl0 x = 49) ∧ (pl1 x = 48 ∨ pl1 x = 49)
    ∧ (mxc (pl0 x) (pl0 y) = 48 ∨ mxc (pl0 x) (pl0 y) = 49) ∧ (mxc (pl1 x) (pl1 y) = 48 ∨ mxc (pl1 x) (pl1 y) = 49) := by
  rcases hx with rfl | rfl | rfl | rfl <;> rcases hy with rfl | rfl | rfl | rfl <;> decide
theorem mxc_in (x y : Int) : 0 ≤ mxc x y ∧ mxc x y < 256 := ch_in _
theorem fpc_in (x y : Int) : 0 ≤ fpc x y ∧ fpc x y < 256 := ch_in _
theorem isV_chr {l : List UInt8} : isV l ↔ (1 ≤ l.length ∧ l.length ≤ 128) ∧ ∀ i : Nat, i < l.length → chr (bat l (i : Int)) := by
  unfold isV
  constructor
  · rintro ⟨h1, h2, h3⟩; exact ⟨⟨h1, h2⟩, fun i hi => cd_ge.1 (h3 i hi)⟩
  · rintro ⟨⟨h1, h2⟩, h3⟩; exact ⟨h1, h2, fun i hi => cd_ge.2 (h3 i hi)⟩
theorem mx_V {a b : List UInt8} (ha : isV a) (hb : isV b) (hl : a.length = b.length) : isV (zmap mxc a b) := by
  obtain ⟨h1, h2⟩ := isV_chr.1 ha
  obtain ⟨h3, h4⟩ := isV_chr.1 hb
  have hz := zmap_len mxc hl
  rw [isV_chr, hz]
  refine ⟨h1, fun i hi => ?_⟩
  rw [bat_zmap mxc hi (by omega) (mxc_in _ _)]
  exact (mxc_facts (h2 i hi) (h4 i (by omega))).1
theorem mx_of {a b : List UInt8} (ha : isV a) (hb : isV b) (hl : a.length = b.length) : mxR a b = (zmap mxc a b, 0) := by
  unfold mxR; rw [if_neg (fun g => g ⟨ha, hb⟩), if_neg (fun g => g hl)]
theorem mx_comm (a b : List UInt8) : zmap mxc a b = zmap mxc b a := by
  unfold zmap
  rw [List.zipWith_comm]
  congr 1
  funext x y
  rw [mxc_sym]
theorem mx_back {a b : List UInt8} (ha : isV a) (hb : isV b) (hl : a.length = b.length) : zmap mxc a (zmap mxc a b) = b := by
  obtain ⟨h1, h2⟩ := isV_chr.1 ha
  obtain ⟨h3, h4⟩ := isV_chr.1 hb
  have hz := zmap_len mxc hl
  have hz2 := zmap_len mxc (show a.length = (zmap mxc a b).length by omega)
  refine ext_bat (by omega) fun i hi => ?_
  rw [bat_zmap mxc (by omega) (by omega) (mxc_in _ _), bat_zmap mxc (by omega) (by omega) (mxc_in _ _)]
  exact (mxc_facts (h2 i (by omega)) (h4 i (by omega))).2.1
theorem bat_replicate {n i : Nat} {c : Int} (h : i < n) (hc : 0 ≤ c ∧ c < 256) : bat (List.replicate n (b8 c)) (i : Int) = c := by
  rw [bat_get (by simpa using h), List.getElem_replicate, b8_val hc]
theorem mx_zero {a : List UInt8} (ha : isV a) : zmap mxc a a = allR a.length 48 := by
  obtain ⟨h1, h2⟩ := isV_chr.1 ha
  have hz := zmap_len mxc (rfl : a.length = a.length)
  rw [show allR a.length 48 = List.replicate a.length (b8 48) from if_pos ⟨by omega, by omega, by decide⟩]
  refine ext_bat (by rw [hz, List.length_replicate]) fun i hi => ?_
  rw [bat_zmap mxc (by omega) (by omega) (mxc_in _ _), bat_replicate (by omega) (by decide)]
  exact (mxc_facts (h2 i (by omega)) (h2 i (by omega))).2.2.1
theorem pl_K {a : List UInt8} (ha : isV a) (F : Int → Int) (hF : ∀ x, chr x → F x = 48 ∨ F x = 49) : isK (emap F a) := by
  obtain ⟨h1, h2⟩ := isV_chr.1 ha
  have hb : ∀ i : Nat, i < (emap F a).length → bat (emap F a) (i : Int) = 48 ∨ bat (emap F a) (i : Int) = 49 := fun i hi => by
    rw [emap_len] at hi
    have := hF _ (h2 i hi)
    rw [bat_emap F a i hi (by omega)]
    exact this
  rw [isK_iff]
  exact ⟨isV_chr.2 ⟨by rw [emap_len]; exact h1, fun i hi => by have := hb i hi; unfold chr; omega⟩, hb⟩
theorem mx_planes {a b : List UInt8} (ha : isV a) (hb : isV b) (hl : a.length = b.length) :
    isK (zmap mxc (emap pl0 a) (emap pl0 b)) ∧ isK (zmap mxc (emap pl1 a) (emap pl1 b)) ∧ zmap fpc (zmap mxc (emap pl0 a) (emap pl0 b)) (zmap mxc (emap pl1 a) (emap pl1 b)) = zmap mxc a b := by
  obtain ⟨h1, h2⟩ := isV_chr.1 ha
  obtain ⟨h3, h4⟩ := isV_chr.1 hb
  have l0 := zmap_len mxc (show (emap pl0 a).length = (emap pl0 b).length by rw [emap_len, emap_len]; exact hl)
  have l1 := zmap_len mxc (show (emap pl1 a).length = (emap pl1 b).length by rw [emap_len, emap_len]; exact hl)
  have lz := zmap_len mxc hl
  have e0 := emap_len pl0 a
  have e1 := emap_len pl1 a
  have e2 := emap_len pl0 b
  have e3 := emap_len pl1 b
  have b0 : ∀ i : Nat, i < a.length → bat (zmap mxc (emap pl0 a) (emap pl0 b)) (i : Int) = mxc (pl0 (bat a i)) (pl0 (bat b i)) := fun i hi => by
    rw [bat_zmap mxc (by omega) (by omega) (mxc_in _ _), bat_emap _ _ _ (by omega) (pl0_in _), bat_emap _ _ _ (by omega) (pl0_in _)]
  have b1 : ∀ i : Nat, i < a.length → bat (zmap mxc (emap pl1 a) (emap pl1 b)) (i : Int) = mxc (pl1 (bat a i)) (pl1 (bat b i)) := fun i hi => by
    rw [bat_zmap mxc (by omega) (by omega) (mxc_in _ _), bat_emap _ _ _ (by omega) (pl1_in _), bat_emap _ _ _ (by omega) (pl1_in _)]
  refine ⟨?_, ?_, ?_⟩
  · rw [isK_iff]
    have hq : ∀ i : Nat, i < (zmap mxc (emap pl0 a) (emap pl0 b)).length → bat (zmap mxc (emap pl0 a) (emap pl0 b)) (i : Int) = 48 ∨ bat (zmap mxc (emap pl0 a) (emap pl0 b)) (i : Int) = 49 := fun i hi => by
      rw [b0 i (by omega)]; exact (mxc_facts (h2 i (by omega)) (h4 i (by omega))).2.2.2.2.2.2.1
    exact ⟨isV_chr.2 ⟨by omega, fun i hi => by have := hq i hi; unfold chr; omega⟩, hq⟩
  · rw [isK_iff]
    have hq : ∀ i : Nat, i < (zmap mxc (emap pl1 a) (emap pl1 b)).length → bat (zmap mxc (emap pl1 a) (emap pl1 b)) (i : Int) = 48 ∨ bat (zmap mxc (emap pl1 a) (emap pl1 b)) (i : Int) = 49 := fun i hi => by
      rw [b1 i (by omega)]; exact (mxc_facts (h2 i (by omega)) (h4 i (by omega))).2.2.2.2.2.2.2
    exact ⟨isV_chr.2 ⟨by omega, fun i hi => by have := hq i hi; unfold chr; omega⟩, hq⟩
  · have lf := zmap_len fpc (show (zmap mxc (emap pl0 a) (emap pl0 b)).length = (zmap mxc (emap pl1 a) (emap pl1 b)).length by omega)
    refine ext_bat (by omega) fun i hi => ?_
    rw [bat_zmap fpc (by omega) (by omega) (fpc_in _ _), b0 i (by omega), b1 i (by omega), bat_zmap mxc (by omega) (by omega) (mxc_in _ _)]
    exact (mxc_facts (h2 i (by omega)) (h4 i (by omega))).2.2.2.1
theorem MixL_any (a b : List UInt8) (hla : a.length ≤ 9223372036854775807) (hlb : b.length ≤ 9223372036854775807) : SRun Try.prog 7 [S a, S b] [] fun r q => r = B true := by
  by_cases hv : isV a ∧ isV b ∧ b.length = a.length
  · obtain ⟨va, vb, hl⟩ := hv
    have vm := mx_V va vb hl.symm
    have lm := zmap_len mxc hl.symm
    have h128 := va.2.1
    have M : ∀ x y h, isV x → isV y → x.length = y.length → SRun Try.prog 29 [S x, S y] h fun r q => r = .tuple #[S (zmap mxc x y), I 0] ∧ q = h := fun x y h hx hy hxy => by
      have := Mix_any x y h (by have := hx.2.1; omega) (by have := hy.2.1; omega)
      rw [mx_of hx hy hxy] at this; exact this
    have m1 := fun h => M a b h va vb hl.symm
    have m2 := fun h => M b a h vb va hl
    have m3 := fun h => M a (zmap mxc a b) h va vm lm.symm
    have m4 := fun h => M a a h va va rfl
    rw [← mx_comm a b] at m2
    rw [mx_back va vb hl.symm] at m3
    rw [mx_zero va] at m4
    have hA := fun h => All_any a.length 48 h (by decide)
    have ka0 := pl_K va pl0 (fun x hx => (mxc_facts hx hx).2.2.2.2.1)
    have ka1 := pl_K va pl1 (fun x hx => (mxc_facts hx hx).2.2.2.2.2.1)
    have kb0 := pl_K vb pl0 (fun x hx => (mxc_facts hx hx).2.2.2.2.1)
    have kb1 := pl_K vb pl1 (fun x hx => (mxc_facts hx hx).2.2.2.2.2.1)
    have p1 := fun h => Planes_any a h hla
    have p2 := fun h => Planes_any b h hlb
    rw [show plR pl0 a = emap pl0 a from if_pos va, show plR pl1 a = emap pl1 a from if_pos va] at p1
    rw [show plR pl0 b = emap pl0 b from if_pos vb, show plR pl1 b = emap pl1 b from if_pos vb] at p2
    have m5 := fun h => M (emap pl0 a) (emap pl0 b) h ka0.1 kb0.1 (by rw [emap_len, emap_len]; exact hl.symm)
    have m6 := fun h => M (emap pl1 a) (emap pl1 b) h ka1.1 kb1.1 (by rw [emap_len, emap_len]; exact hl.symm)
    obtain ⟨k0, k1, hp⟩ := mx_planes va vb hl.symm
    have l0 : (zmap mxc (emap pl0 a) (emap pl0 b)).length = a.length := by rw [zmap_len _ (by rw [emap_len, emap_len]; exact hl.symm), emap_len]
    have l1 : (zmap mxc (emap pl1 a) (emap pl1 b)).length = a.length := by rw [zmap_len _ (by rw [emap_len, emap_len]; exact hl.symm), emap_len]
    have f1 := fun h => FromPlanes_any (zmap mxc (emap pl0 a) (emap pl0 b)) (zmap mxc (emap pl1 a) (emap pl1 b)) h (by omega) (by omega)
    rw [show fpR (zmap mxc (emap pl0 a) (emap pl0 b)) (zmap mxc (emap pl1 a) (emap pl1 b)) = (zmap mxc a b, 0) by unfold fpR; rw [if_neg (fun g => g ⟨k0, k1⟩), if_neg (fun g => g (by omega)), hp]] at f1
    dsimp only at f1
    have r1 := fun h => rIsValue_any a h hla
    have r2 := fun h => rValid_any a.length b h hlb
    rw [decide_eq_true va] at r1
    rw [decide_eq_true ⟨vb, by omega⟩] at r2
    clear M k0 k1 hp l0 l1 ka0 ka1 kb0 kb1 vm lm
    generalize zmap mxc (emap pl0 a) (emap pl0 b) = X0 at *
    generalize zmap mxc (emap pl1 a) (emap pl1 b) = X1 at *
    generalize emap pl0 a = A0 at *
    generalize emap pl1 a = A1 at *
    generalize emap pl0 b = B0 at *
    generalize emap pl1 b = B1 at *
    generalize zmap mxc a b = X at *
    generalize allR a.length 48 = Z at *
    refine w_body2 Try.func7 rfl rfl ?_
    repeat' (first | apply w_seq | apply w_region | apply o_nil | (apply o_g tyOk; exact rfl; exact rfl) | (apply o_not; exact rfl; exact rfl) | (apply o_notB; exact rfl; exact rfl) | (apply o_eqs; exact rfl; exact rfl; exact rfl; (focus (kernel_rfl)); exact rfl; exact rfl; (focus (kernel_rfl)); exact rfl) | (apply o_neqs; exact rfl; exact rfl; exact rfl; (focus (kernel_rfl)); exact rfl; exact rfl; (focus (kernel_rfl)); exact rfl) | (apply o_call; exact rfl; exact rfl; (focus (first | exact rfl | assumption)); exact rfl; (focus (exact ⟨_, awake_any _, by repeat (first | with_reducible exact Take.nil | with_reducible apply Take.c | with_reducible apply Take.drop)⟩)); rintro _ _ ⟨rfl, rfl⟩) | (apply o_callN; exact rfl; exact rfl; exact rfl; (focus (exact ⟨_, awake_any _, by repeat (first | with_reducible exact Take.nil | with_reducible apply Take.c | with_reducible apply Take.drop)⟩)); rintro _ _ ⟨rfl, rfl⟩) | (apply o_call; exact rfl; exact rfl; (focus (first | exact rfl | assumption)); exact rfl; (focus (exact ⟨_, r1 _, by repeat (first | with_reducible exact Take.nil | with_reducible apply Take.c | with_reducible apply Take.drop)⟩)); rintro _ _ ⟨rfl, rfl⟩) | (apply o_callN; exact rfl; exact rfl; exact rfl; (focus (exact ⟨_, r1 _, by repeat (first | with_reducible exact Take.nil | with_reducible apply Take.c | with_reducible apply Take.drop)⟩)); rintro _ _ ⟨rfl, rfl⟩) | (apply o_call; exact rfl; exact rfl; (focus (first | exact rfl | assumption)); exact rfl; (focus (exact ⟨_, r2 _, by repeat (first | with_reducible exact Take.nil | with_reducible apply Take.c | with_reducible apply Take.drop)⟩)); rintro _ _ ⟨rfl, rfl⟩) | (apply o_callN; exact rfl; exact rfl; exact rfl; (focus (exact ⟨_, r2 _, by repeat (first | with_reducible exact Take.nil | with_reducible apply Take.c | with_reducible apply Take.drop)⟩)); rintro _ _ ⟨rfl, rfl⟩) | (apply o_call; exact rfl; exact rfl; (focus (first | exact rfl | assumption)); exact rfl; (focus (exact ⟨_, m1 _, by repeat (first | with_reducible exact Take.nil | with_reducible apply Take.c | with_reducible apply Take.drop)⟩)); rintro _ _ ⟨rfl, rfl⟩) | (apply o_callN; exact rfl; exact rfl; exact rfl; (focus (exact ⟨_, m1 _, by repeat (first | with_reducible exact Take.nil | with_reducible apply Take.c | with_reducible apply Take.drop)⟩)); rintro _ _ ⟨rfl, rfl⟩) | (apply o_call; exact rfl; exact rfl; (focus (first | exact rfl | assumption)); exact rfl; (focus (exact ⟨_, m2 _, by repeat (first | with_reducible exact Take.nil | with_reducible apply Take.c | with_reducible apply Take.drop)⟩)); rintro _ _ ⟨rfl, rfl⟩) | (apply o_callN; exact rfl; exact rfl; exact rfl; (focus (exact ⟨_, m2 _, by repeat (first | with_reducible exact Take.nil | with_reducible apply Take.c | with_reducible apply Take.drop)⟩)); rintro _ _ ⟨rfl, rfl⟩) | (apply o_call; exact rfl; exact rfl; (focus (first | exact rfl | assumption)); exact rfl; (focus (exact ⟨_, m3 _, by repeat (first | with_reducible exact Take.nil | with_reducible apply Take.c | with_reducible apply Take.drop)⟩)); rintro _ _ ⟨rfl, rfl⟩) | (apply o_callN; exact rfl; exact rfl; exact rfl; (focus (exact ⟨_, m3 _, by repeat (first | with_reducible exact Take.nil | with_reducible apply Take.c | with_reducible apply Take.drop)⟩)); rintro _ _ ⟨rfl, rfl⟩) | (apply o_call; exact rfl; exact rfl; (focus (first | exact rfl | assumption)); exact rfl; (focus (exact ⟨_, m4 _, by repeat (first | with_reducible exact Take.nil | with_reducible apply Take.c | with_reducible apply Take.drop)⟩)); rintro _ _ ⟨rfl, rfl⟩) | (apply o_callN; exact rfl; exact rfl; exact rfl; (focus (exact ⟨_, m4 _, by repeat (first | with_reducible exact Take.nil | with_reducible apply Take.c | with_reducible apply Take.drop)⟩)); rintro _ _ ⟨rfl, rfl⟩) | (apply o_call; exact rfl; exact rfl; (focus (first | exact rfl | assumption)); exact rfl; (focus (exact ⟨_, m5 _, by repeat (first | with_reducible exact Take.nil | with_reducible apply Take.c | with_reducible apply Take.drop)⟩)); rintro _ _ ⟨rfl, rfl⟩) | (apply o_callN; exact rfl; exact rfl; exact rfl; (focus (exact ⟨_, m5 _, by repeat (first | with_reducible exact Take.nil | with_reducible apply Take.c | with_reducible apply Take.drop)⟩)); rintro _ _ ⟨rfl, rfl⟩) | (apply o_call; exact rfl; exact rfl; (focus (first | exact rfl | assumption)); exact rfl; (focus (exact ⟨_, m6 _, by repeat (first | with_reducible exact Take.nil | with_reducible apply Take.c | with_reducible apply Take.drop)⟩)); rintro _ _ ⟨rfl, rfl⟩) | (apply o_callN; exact rfl; exact rfl; exact rfl; (focus (exact ⟨_, m6 _, by repeat (first | with_reducible exact Take.nil | with_reducible apply Take.c | with_reducible apply Take.drop)⟩)); rintro _ _ ⟨rfl, rfl⟩) | (apply o_call; exact rfl; exact rfl; (focus (first | exact rfl | assumption)); exact rfl; (focus (exact ⟨_, hA _, by repeat (first | with_reducible exact Take.nil | with_reducible apply Take.c | with_reducible apply Take.drop)⟩)); rintro _ _ ⟨rfl, rfl⟩) | (apply o_callN; exact rfl; exact rfl; exact rfl; (focus (exact ⟨_, hA _, by repeat (first | with_reducible exact Take.nil | with_reducible apply Take.c | with_reducible apply Take.drop)⟩)); rintro _ _ ⟨rfl, rfl⟩) | (apply o_call; exact rfl; exact rfl; (focus (first | exact rfl | assumption)); exact rfl; (focus (exact ⟨_, p1 _, by repeat (first | with_reducible exact Take.nil | with_reducible apply Take.c | with_reducible apply Take.drop)⟩)); rintro _ _ ⟨rfl, rfl⟩) | (apply o_callN; exact rfl; exact rfl; exact rfl; (focus (exact ⟨_, p1 _, by repeat (first | with_reducible exact Take.nil | with_reducible apply Take.c | with_reducible apply Take.drop)⟩)); rintro _ _ ⟨rfl, rfl⟩) | (apply o_call; exact rfl; exact rfl; (focus (first | exact rfl | assumption)); exact rfl; (focus (exact ⟨_, p2 _, by repeat (first | with_reducible exact Take.nil | with_reducible apply Take.c | with_reducible apply Take.drop)⟩)); rintro _ _ ⟨rfl, rfl⟩) | (apply o_callN; exact rfl; exact rfl; exact rfl; (focus (exact ⟨_, p2 _, by repeat (first | with_reducible exact Take.nil | with_reducible apply Take.c | with_reducible apply Take.drop)⟩)); rintro _ _ ⟨rfl, rfl⟩) | (apply o_call; exact rfl; exact rfl; (focus (first | exact rfl | assumption)); exact rfl; (focus (exact ⟨_, f1 _, by repeat (first | with_reducible exact Take.nil | with_reducible apply Take.c | with_reducible apply Take.drop)⟩)); rintro _ _ ⟨rfl, rfl⟩) | (apply o_callN; exact rfl; exact rfl; exact rfl; (focus (exact ⟨_, f1 _, by repeat (first | with_reducible exact Take.nil | with_reducible apply Take.c | with_reducible apply Take.drop)⟩)); rintro _ _ ⟨rfl, rfl⟩) | (apply o_want; exact rfl; exact rfl) | (apply o_skip; exact rfl; exact rfl; exact rfl; exact rfl) | (apply o_skip_undef; exact rfl; exact rfl; exact rfl) | (apply o_gT; exact rfl; exact rfl; exact rfl; (focus (first | exact ‹_› | with_reducible exact rfl | omega))) | (apply o_gF; exact rfl; exact rfl; exact rfl; (focus (first | exact ‹_› | with_reducible exact rfl | omega))) | (apply o_sF; exact rfl; exact rfl; exact rfl; (focus (first | exact ‹_› | with_reducible exact rfl | omega)); exact rfl) | (apply o_sT; exact rfl; exact rfl; exact rfl; (focus (first | exact ‹_› | with_reducible exact rfl | omega)); exact rfl) | (apply o_guardTN; exact rfl; exact rfl; exact rfl; all_goals intro hc) | (apply o_guardFN; exact rfl; exact rfl; exact rfl; all_goals intro hc) | (apply o_guardT; exact rfl; exact rfl; exact rfl; all_goals intro hc) | (apply o_guardF; exact rfl; exact rfl; exact rfl; all_goals intro hc) | (apply o_guardB; exact rfl; exact rfl; exact rfl; all_goals intro hc) | (apply w_true; exact rfl) | (apply w_false; exact rfl) | (apply w_dT; exact rfl; (focus (first | exact ‹_› | with_reducible exact rfl | omega))) | (apply w_dF; exact rfl; (focus (first | exact ‹_› | with_reducible exact rfl | omega))) | (apply w_ifN; exact rfl; all_goals intro hc) | (apply w_if; exact rfl; all_goals intro hc) | (apply w_ifB; exact rfl; all_goals intro hc) | apply thenS_normal | apply thenS_ret | apply thenS_exit | apply blockS_normal | apply blockS_ret | apply blockS_exit | apply w_skip | apply w_ret | apply w_exit | apply w_block | apply scopeS_normal | apply scopeS_ret | apply scopeS_exit | apply w_scope | (apply blockS_exit_ne; exact rfl) | ((with_reducible apply Sd.mk); (first | exact True.intro | omega | (constructor <;> first | omega | (unfold maxLen; omega)) | (unfold maxLen; omega))) | exact True.intro | exact rfl)
    all_goals first
      | contradiction
      | (exfalso; omega)
      | (apply s_fin; (exact (show ResS _ _ _ _ [_] from ⟨rfl, trivial⟩)); (focus (show B _ = B true; simp)); (focus (repeat (first | with_reducible exact Take.nil | with_reducible apply Take.c | ((with_reducible apply Take.cE); (first | exact rfl | (apply blkE; (focus (first | exact rfl | exact recs_snocE rfl | exact map_snocE rfl | exact congrArg (fun v => [v]) (gslE rfl rfl (by first | rfl | exact ‹_› | omega | (simp ; first | done | omega)) (by first | rfl | exact ‹_› | omega | (simp ; first | done | omega)) rfl)))))) | with_reducible apply Take.drop))))
      | trace_state
  · refine w_body2 Try.func7 rfl rfl ?_
    repeat' ((fail_if_success (show SWp _ _ (Code.seq (Code.region 5 _ _) _) _ _ _)); (fail_if_success (show SWp _ _ (Code.region 5 _ _) _ _ _)); first | apply w_seq | apply w_region | apply o_nil | (apply o_g tyOk; exact rfl; exact rfl) | (apply o_not; exact rfl; exact rfl) | (apply o_notB; exact rfl; exact rfl) | (apply o_eqs; exact rfl; exact rfl; exact rfl; (focus (kernel_rfl)); exact rfl; exact rfl; (focus (kernel_rfl)); exact rfl) | (apply o_neqs; exact rfl; exact rfl; exact rfl; (focus (kernel_rfl)); exact rfl; exact rfl; (focus (kernel_rfl)); exact rfl) | (apply o_call; exact rfl; exact rfl; (focus (first | exact rfl | assumption)); exact rfl; (focus (exact ⟨_, awake_any _, by repeat (first | with_reducible exact Take.nil | with_reducible apply Take.c | with_reducible apply Take.drop)⟩)); rintro _ _ ⟨rfl, rfl⟩) | (apply o_callN; exact rfl; exact rfl; exact rfl; (focus (exact ⟨_, awake_any _, by repeat (first | with_reducible exact Take.nil | with_reducible apply Take.c | with_reducible apply Take.drop)⟩)); rintro _ _ ⟨rfl, rfl⟩) | (apply o_call; exact rfl; exact rfl; (focus (first | exact rfl | assumption)); exact rfl; (focus (exact ⟨_, rIsValue_any a _ hla, by repeat (first | with_reducible exact Take.nil | with_reducible apply Take.c | with_reducible apply Take.drop)⟩)); rintro _ _ ⟨rfl, rfl⟩) | (apply o_callN; exact rfl; exact rfl; exact rfl; (focus (exact ⟨_, rIsValue_any a _ hla, by repeat (first | with_reducible exact Take.nil | with_reducible apply Take.c | with_reducible apply Take.drop)⟩)); rintro _ _ ⟨rfl, rfl⟩) | (apply o_call; exact rfl; exact rfl; (focus (first | exact rfl | assumption)); exact rfl; (focus (exact ⟨_, rValid_any _ b _ hlb, by repeat (first | with_reducible exact Take.nil | with_reducible apply Take.c | with_reducible apply Take.drop)⟩)); rintro _ _ ⟨rfl, rfl⟩) | (apply o_callN; exact rfl; exact rfl; exact rfl; (focus (exact ⟨_, rValid_any _ b _ hlb, by repeat (first | with_reducible exact Take.nil | with_reducible apply Take.c | with_reducible apply Take.drop)⟩)); rintro _ _ ⟨rfl, rfl⟩) | (apply o_want; exact rfl; exact rfl) | (apply o_skip; exact rfl; exact rfl; exact rfl; exact rfl) | (apply o_skip_undef; exact rfl; exact rfl; exact rfl) | (apply o_gT; exact rfl; exact rfl; exact rfl; (focus (first | exact ‹_› | with_reducible exact rfl | omega))) | (apply o_gF; exact rfl; exact rfl; exact rfl; (focus (first | exact ‹_› | with_reducible exact rfl | omega))) | (apply o_sF; exact rfl; exact rfl; exact rfl; (focus (first | exact ‹_› | with_reducible exact rfl | omega)); exact rfl) | (apply o_sT; exact rfl; exact rfl; exact rfl; (focus (first | exact ‹_› | with_reducible exact rfl | omega)); exact rfl) | (apply o_guardTN; exact rfl; exact rfl; exact rfl; all_goals intro hc) | (apply o_guardFN; exact rfl; exact rfl; exact rfl; all_goals intro hc) | (apply o_guardT; exact rfl; exact rfl; exact rfl; all_goals intro hc) | (apply o_guardF; exact rfl; exact rfl; exact rfl; all_goals intro hc) | (apply o_guardB; exact rfl; exact rfl; exact rfl; all_goals intro hc) | (apply w_true; exact rfl) | (apply w_false; exact rfl) | (apply w_dT; exact rfl; (focus (first | exact ‹_› | with_reducible exact rfl | omega))) | (apply w_dF; exact rfl; (focus (first | exact ‹_› | with_reducible exact rfl | omega))) | (apply w_ifN; exact rfl; all_goals intro hc) | (apply w_if; exact rfl; all_goals intro hc) | (apply w_ifB; exact rfl; all_goals intro hc) | apply thenS_normal | apply thenS_ret | apply thenS_exit | apply blockS_normal | apply blockS_ret | apply blockS_exit | apply w_skip | apply w_ret | apply w_exit | apply w_block | apply scopeS_normal | apply scopeS_ret | apply scopeS_exit | apply w_scope | (apply blockS_exit_ne; exact rfl) | ((with_reducible apply Sd.mk); (first | exact True.intro | omega | (constructor <;> first | omega | (unfold maxLen; omega)) | (unfold maxLen; omega))) | exact True.intro | exact rfl)
    all_goals first
      | (apply s_fin; (exact (show ResS _ _ _ _ [_] from ⟨rfl, trivial⟩)); (focus (exact rfl)); (focus (repeat (first | with_reducible exact Take.nil | with_reducible apply Take.c | ((with_reducible apply Take.cE); (first | exact rfl | (apply blkE; (focus (first | exact rfl | exact recs_snocE rfl | exact map_snocE rfl | exact congrArg (fun v => [v]) (gslE rfl rfl (by first | rfl | exact ‹_› | omega | (simp ; first | done | omega)) (by first | rfl | exact ‹_› | omega | (simp ; first | done | omega)) rfl)))))) | with_reducible apply Take.drop))))
      | (exfalso; have g := (by assumption : isV b ∧ _); exact hv ⟨by assumption, g.1, by omega⟩)
      | trace_state
end Go.Proofs.Ytoachkpkbgpmjaa
