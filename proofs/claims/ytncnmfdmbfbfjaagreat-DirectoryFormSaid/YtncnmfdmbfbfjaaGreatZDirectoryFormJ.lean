/- Part 10 of the proof of the law DirectoryForm: texts merged. No condition. -/
import Derived.Test.YtncnmfdmbfbfjaaGreatZDirectoryFormI
section
set_option linter.unusedVariables false
set_option linter.unusedSimpArgs false
set_option maxRecDepth 4000
namespace Go.Proofs.YtncnmfdmbfbfjaaGreat
open Go.Gh Go.RowKit

/-- A reader: rest, error. -/
abbrev Rdr := List UInt8 × Int
def rdS (s : Rdr) (m : Int) : Int × Rdr := if s.2 ≠ 0 then (0, s) else rdN s.1 m
theorem rdS_len (s : Rdr) (m : Int) : (rdS s m).2.1.length ≤ s.1.length := by
  unfold rdS
  split
  · exact Nat.le_refl _
  · exact (rdN_ok s.1 m).1
theorem rdN_in {l : List UInt8} {m : Int} (hm : 0 ≤ m) : 0 ≤ (rdN l m).1 ∧ (rdN l m).1 ≤ m := by
  unfold rdN
  split
  · exact ⟨Int.le_refl _, hm⟩
  · split
    · exact ⟨Int.le_refl _, hm⟩
    · dsimp only; omega
theorem rdS_in (s : Rdr) {m : Int} (hm : 0 ≤ m) : 0 ≤ (rdS s m).1 ∧ (rdS s m).1 ≤ m := by
  unfold rdS
  split
  · exact ⟨Int.le_refl _, hm⟩
  · exact rdN_in hm
theorem readE_any (n : Nat) (l : List UInt8) (e m : Int) (h : SH) (he : e ≠ 0) : SRun Tryz.prog 60 [gptr n 0 2, .func (.func 61) ⟨[]⟩ ⟨[]⟩, I 0, I m] (rdB n l e :: h) fun r q =>
    r = I 0 ∧ q = rdB n l e :: h := by
  refine w_body4 Tryz.func60 rfl rfl ?_
  repeat' (first | apply w_seq | apply w_region | apply o_nil | (apply o_g tyOk; exact rfl; exact rfl) | (apply o_load tyOk; (iterate 3 exact rfl); (focus (exact pk))) | (apply w_dT; exact rfl; (focus (first | exact ‹_›))) | apply thenS_normal | apply thenS_ret | apply w_ret | ((with_reducible apply Sd.mk); (first | exact True.intro)) | ((with_reducible apply Ln.mk); (first | rfl)) | ((with_reducible apply Ce.mk); (first | rfl)) | exact True.intro | exact rfl)
  all_goals first
    | contradiction
    | (exfalso; omega)
    | (apply s_fin; (exact (show ResS _ _ _ _ [_] from ⟨rfl, trivial⟩)); (focus (exact ⟨rfl, rfl⟩)); (focus (repeat (first | with_reducible exact Take.nil | with_reducible apply Take.c | with_reducible apply Take.drop))))
    | trace_state
theorem rNum_any (n : Nat) (s : Rdr) (m : Int) (h : SH) (hl : s.1.length ≤ 1000000) : SRun Tryz.prog 41 [gptr n 0 2, I m] (rdB n s.1 s.2 :: h) fun r q =>
    r = I (rdS s m).1 ∧ q = rdB n (rdS s m).2.1 (rdS s m).2.2 :: h := by
  obtain ⟨l, e⟩ := s
  by_cases he : e = 0
  · subst he
    have := rNumber_any n l m h hl
    unfold rdS
    rw [if_neg (fun k => k rfl)]
    exact this
  · have hR := readE_any n l e m h he
    unfold rdS
    rw [if_pos he]
    dsimp only
    refine w_body2 Tryz.func41 rfl rfl ?_
    repeat' (first | apply w_seq | apply w_region | apply o_nil | (apply o_g tyOk; exact rfl; exact rfl) | (apply o_call; exact rfl; exact rfl; (focus (first | exact rfl)); exact rfl; (focus (exact ⟨_, hR, by repeat (first | with_reducible exact Take.nil)⟩)); rintro _ _ ⟨rfl, rfl⟩) | apply thenS_normal | apply w_ret | ((with_reducible apply Sd.mk); (first | exact True.intro)))
    all_goals first
      | (apply s_fin; (exact (show ResS _ _ _ _ [_] from ⟨rfl, trivial⟩)); (focus (exact ⟨rfl, rfl⟩)); (focus (repeat (first | with_reducible exact Take.nil | with_reducible apply Take.c | with_reducible apply Take.drop))))
      | trace_state
/-- An extent is read. -/
def exR (s : Rdr) : Ex3 × Rdr := (((rdS s 1024).1, (rdS (rdS s 1024).2 16384).1, (rdS (rdS (rdS s 1024).2 16384).2 4294967295).1), (rdS (rdS (rdS s 1024).2 16384).2 4294967295).2)
theorem exR_len (s : Rdr) : (exR s).2.1.length ≤ s.1.length := by
  have h1 := rdS_len s 1024
  have h2 := rdS_len (rdS s 1024).2 16384
  have h3 := rdS_len (rdS (rdS s 1024).2 16384).2 4294967295
  unfold exR
  dsimp only
  omega
theorem extent_any (n : Nat) (s : Rdr) (h : SH) (hl : s.1.length ≤ 1000000) : SRun Tryz.prog 40 [gptr n 0 2] (rdB n s.1 s.2 :: h) fun r q =>
    r = .agg ⟨exF (exR s).1⟩ ∧ q = rdB n (exR s).2.1 (exR s).2.2 :: h := by
  unfold exR
  dsimp only
  have b1 := rdS_len s 1024
  have r1 := fun h => rNum_any n s 1024 h hl
  generalize rdS s 1024 = V1 at *
  obtain ⟨v1, s1⟩ := V1
  dsimp only at *
  have b2 := rdS_len s1 16384
  have r2 := fun h => rNum_any n s1 16384 h (by omega)
  generalize rdS s1 16384 = V2 at *
  obtain ⟨v2, s2⟩ := V2
  dsimp only at *
  have r3 := fun h => rNum_any n s2 4294967295 h (by omega)
  generalize rdS s2 4294967295 = V3 at *
  obtain ⟨v3, s3⟩ := V3
  dsimp only at *
  obtain ⟨l0, e0⟩ := s
  obtain ⟨l1, e1⟩ := s1
  obtain ⟨l2, e2⟩ := s2
  obtain ⟨l3, e3⟩ := s3
  dsimp only at *
  refine w_body1 Tryz.func40 rfl rfl ?_
  repeat' (first | apply w_seq | apply w_region | apply o_nil | (apply o_g tyOk; exact rfl; exact rfl) | (apply o_stores tyOk; (iterate 4 exact rfl); (focus (exact ⟨rfl⟩)); (focus (exact up))) | (apply o_alloc tyOk; iterate 5 exact rfl) | (apply o_build tyOk; exact rfl; exact rfl; (focus (first | with_reducible exact pl23)); exact rfl; (focus (repeat (first | exact BuildR.nil | (apply BuildR.one; exact rfl; exact rfl; (first | (focus ((repeat (first | exact SetAt.zero | apply SetAt.succ)); done))))))); exact rfl) | (apply o_call; exact rfl; exact rfl; (focus (first | exact rfl)); exact rfl; (focus (exact ⟨_, r1 _, by repeat (first | with_reducible exact Take.nil | with_reducible apply Take.c)⟩)); rintro _ _ ⟨rfl, rfl⟩) | (apply o_call; exact rfl; exact rfl; (focus (first | exact rfl)); exact rfl; (focus (exact ⟨_, r2 _, by repeat (first | with_reducible exact Take.nil)⟩)); rintro _ _ ⟨rfl, rfl⟩) | (apply o_call; exact rfl; exact rfl; (focus (first | exact rfl)); exact rfl; (focus (exact ⟨_, r3 _, by repeat (first | with_reducible exact Take.nil)⟩)); rintro _ _ ⟨rfl, rfl⟩) | apply thenS_normal | apply w_ret | ((with_reducible apply Sd.mk); (first | exact True.intro)) | ((with_reducible apply Ln.mk); (first | rfl)) | ((with_reducible apply Pu.mk); (first | exact putAt_all rfl)) | exact True.intro | intro A)
  all_goals first
    | (apply s_fin; (exact (show ResS _ _ _ _ [_] from (res_cell tyOk rfl rfl rfl (by exact pk) (by first | rfl | exact ‹_› | omega | (simp ; first | done | omega)) (by first | rfl | exact ‹_› | omega | (simp ; first | done | omega)) trivial))); (focus (exact ⟨rfl, rfl⟩)); (focus (repeat (first | with_reducible exact Take.nil | with_reducible apply Take.c | with_reducible apply Take.drop))))
    | trace_state
/-- An entry is read. -/
def enR (a : Int) (s : Rdr) : Eny × Rdr :=
  ((a, a + (rdS s 1099511627777).1, (rdS (rdS s 1099511627777).2 2).1, (rdS (rdS (rdS s 1099511627777).2 2).2 1099511627776).1, (exR (rdS (rdS (rdS s 1099511627777).2 2).2 1099511627776).2).1), (exR (rdS (rdS (rdS s 1099511627777).2 2).2 1099511627776).2).2)
def ensR : Nat → Int → Rdr → List Eny × Rdr
  | 0, _, s => ([], s)
  | n + 1, a, s => ((enR a s).1 :: (ensR n (enR a s).1.2.1 (enR a s).2).1, (ensR n (enR a s).1.2.1 (enR a s).2).2)
/-- A directory is read. -/
def dirR (c : List UInt8) : Ex3 × List Eny × Rdr := ((exR (c, 0)).1, ensR (rdS (exR (c, 0)).2 32).1.toNat (-1) (rdS (exR (c, 0)).2 32).2)
def ddC (c : List UInt8) : Option (Ex3 × List Eny) := if rend (dirR c).2.2.1 (dirR c).2.2.2 = 0 ∧ dvl (dirR c).1 (dirR c).2.1 then some ((dirR c).1, (dirR c).2.1) else none
/-- What Decode gives. -/
def decD (d : List UInt8) : Option (Ex3 × List Eny) := if 16384 < d.length then none else
  match prs d with
  | none => none
  | some (k, c, n, _) => if n = d.length ∧ k = 7 then ddC c else none
/-- A slice of entries that grows. -/
inductive EnO (h : SH) : List Eny → Value → SH → Prop
  | nil : EnO h [] (.slice none 0 0) h
  | some (A : Nat) (l : List Eny) : EnO h l (gsl A 0 (7 * l.length) l.length 7) ((A, ⟨recs enF l, false⟩) :: h)
theorem EnO.has {h q : SH} {l : List Eny} {v : Value} (g : EnO h l v q) : Has q (recs enF l) 7 l.length v ∧ Take q h := by
  cases g with
  | nil => exact ⟨⟨none, 0, rfl, fun k => absurd rfl k⟩, .nil⟩
  | some A l => exact ⟨⟨_, _, rfl, fun _ => ⟨A, false, h, rfl, .head⟩⟩, .drop .nil⟩
theorem EnO.ofc {h : SH} {A n k : Nat} {l : List Eny} {c : List Value} (hc : c = recs enF l) (hn : l.length = n) (hk : k = 7 * n) : EnO h l (gsl A 0 k n 7) ((A, ⟨c, false⟩) :: h) := by
  subst hc hn hk; exact .some A l
theorem putAt_h4 {a b c d x y z : Value} : PutAt [a, b, c, d] 0 [x, y, z] [x, y, z, d] := ⟨by show 0 + 3 ≤ 4; omega, rfl⟩
theorem putAt_e7 {a b c d e f g x y z : Value} : PutAt [a, b, c, d, e, f, g] 4 [x, y, z] [a, b, c, d, x, y, z] := ⟨Nat.le_refl 7, rfl⟩
theorem ensR_len : ∀ (n : Nat) (a : Int) (s : Rdr), (ensR n a s).1.length = n
  | 0, _, _ => rfl
  | n + 1, a, s => by show (ensR n _ _).1.length + 1 = n + 1; rw [ensR_len n]
/-- What Decode returns. -/
def DecR (o : Option (Ex3 × List Eny)) (h : SH) (r : Value) (q : SH) : Prop := match o with
  | none => r = .tuple #[drV (0, 0, 0) (.slice none 0 0), I 12] ∧ q = h
  | some (d, l) => ∃ v, r = .tuple #[drV d v, I 0] ∧ EnO h l v q
theorem DDecode_any (D : List UInt8) (h : SH) (hl : D.length ≤ 9223372036854775807) : SRun Tryz.prog 19 [S D] h fun r q => DecR (decD D) h r q := by
  obtain ⟨R, hR⟩ : ∃ R, decD D = R := ⟨_, rfl⟩
  rw [hR]
  unfold decD at hR
  by_cases hb : 16384 < D.length
  · rw [if_pos hb] at hR
    subst hR
    refine w_body1 Tryz.func19 rfl rfl ?_
    repeat' ((fail_if_success (show SWp _ _ (Code.seq (Code.region 3 _ _) _) _ _ _)); (fail_if_success (show SWp _ _ (Code.region 3 _ _) _ _ _)); first | apply w_seq | apply w_region | apply o_nil | (apply o_g tyOk; exact rfl; exact rfl) | (apply o_stores tyOk; (iterate 4 exact rfl); (focus (exact ⟨rfl⟩)); (focus (exact up))) | (apply o_alloc tyOk; iterate 5 exact rfl) | (apply o_build tyOk; exact rfl; exact rfl; (focus (first | with_reducible exact pl26)); exact rfl; (focus (repeat (first | exact BuildR.nil))); exact rfl) | (apply w_dT; exact rfl; (focus (first | omega))) | apply thenS_normal | apply thenS_ret | apply w_ret | ((with_reducible apply Sd.mk); (first | exact True.intro)) | ((with_reducible apply Ln.mk); (first | rfl)) | ((with_reducible apply Pu.mk); (first | exact putAt_all rfl)) | exact True.intro | intro A)
    all_goals first
      | (exfalso; omega)
      | (apply s_fin; (exact (show ResS _ _ _ _ [_, _] from (res_cell tyOk rfl rfl rfl (by exact pk) (by first | rfl | exact ‹_› | omega | (simp ; first | done | omega)) (by first | rfl | exact ‹_› | omega | (simp ; first | done | omega)) ⟨rfl, trivial⟩))); (focus (exact ⟨rfl, rfl⟩)); (focus (repeat (first | with_reducible exact Take.nil | with_reducible apply Take.c | with_reducible apply Take.drop))))
      | trace_state
  rw [if_neg hb] at hR
  have hU := fun h => Unwrap_any D h (by omega)
  cases hp : prs D with
  | none =>
    rw [hp] at hR hU
    dsimp only at hR
    subst hR
    have hU : ∀ h, SRun Tryz.prog 38 [S D] h fun r q => r = .tuple ⟨[frV 0 [], I 0, I 12]⟩ ∧ q = h := hU
    refine w_body1 Tryz.func19 rfl rfl ?_
    repeat' ((fail_if_success (show SWp _ _ (Code.seq (Code.region 6 _ _) _) _ _ _)); (fail_if_success (show SWp _ _ (Code.region 6 _ _) _ _ _)); first | apply w_seq | apply w_region | apply o_nil | (apply o_g tyOk; exact rfl; exact rfl) | (apply o_stores tyOk; (iterate 4 exact rfl); (focus (exact ⟨rfl⟩)); (focus (exact up))) | (apply o_alloc tyOk; iterate 5 exact rfl) | (apply o_build tyOk; exact rfl; exact rfl; (focus (first | with_reducible exact pl26)); exact rfl; (focus (repeat (first | exact BuildR.nil))); exact rfl) | (apply o_call; exact rfl; exact rfl; (focus (first | exact rfl)); exact rfl; (focus (exact ⟨_, hU _, by repeat (first | with_reducible exact Take.nil)⟩)); rintro _ _ ⟨rfl, rfl⟩) | (apply o_skip; iterate 4 exact rfl) | (apply w_true; exact rfl) | (apply w_dF; exact rfl; (focus (first | omega))) | apply thenS_normal | apply thenS_ret | apply w_skip | apply w_ret | ((with_reducible apply Sd.mk); (first | exact True.intro)) | ((with_reducible apply Ln.mk); (first | rfl)) | ((with_reducible apply Pu.mk); (first | exact putAt_all rfl)) | exact True.intro | intro A)
    all_goals first
      | (exfalso; omega)
      | (apply s_fin; (exact (show ResS _ _ _ _ [_, _] from (res_cell tyOk rfl rfl rfl (by exact pk) (by first | rfl | exact ‹_› | omega | (simp ; first | done | omega)) (by first | rfl | exact ‹_› | omega | (simp ; first | done | omega)) ⟨rfl, trivial⟩))); (focus (exact ⟨rfl, rfl⟩)); (focus (repeat (first | with_reducible exact Take.nil | with_reducible apply Take.c | with_reducible apply Take.drop))))
      | trace_state
  | some V =>
    obtain ⟨k, c, n, sb⟩ := V
    obtain ⟨w1, w2, _⟩ := prs_ok hp
    rw [hp] at hR hU
    dsimp only at hR
    have hU : ∀ h, SRun Tryz.prog 38 [S D] h fun r q => r = .tuple ⟨[frV k c, I n, I 0]⟩ ∧ q = h := hU
    by_cases hk : n = D.length ∧ k = 7
    · rw [if_pos hk] at hR
      obtain ⟨hk1, rfl⟩ := hk
      have hcl : c.length ≤ 1000000 := by
        by_cases g : c.length ≤ 1000000
        · exact g
        · exfalso
          unfold wrp at w1
          rw [if_neg (by omega), if_pos (by omega)] at w1
          exact absurd (show (9 : Int) = 0 from congrArg Prod.snd w1) (by decide)
      unfold ddC dirR at hR
      dsimp only at hR
      have x1 := fun n h => extent_any n (c, 0) h hcl
      have b1 := exR_len (c, 0)
      generalize exR (c, 0) = X at *
      obtain ⟨⟨d1, d2, d3⟩, s0⟩ := X
      dsimp only at *
      have x2 := fun n h => rNum_any n s0 32 h (by omega)
      have b2 := rdS_len s0 32
      have b3 := rdS_in s0 (m := 32) (by decide)
      generalize rdS s0 32 = Y at *
      obtain ⟨cnt, s1⟩ := Y
      dsimp only at *
      obtain ⟨N, rfl⟩ := Int.eq_ofNat_of_zero_le b3.1
      rw [Int.toNat_natCast] at hR
      obtain ⟨l0, e0⟩ := s0
      dsimp only at *
      have x1 : ∀ n h, SRun Tryz.prog 40 [gptr n 0 2] (rdB n c 0 :: h) fun r q => r = .agg ⟨[I d1, I d2, I d3]⟩ ∧ q = rdB n l0 e0 :: h := x1
      obtain ⟨EE, hEE⟩ : ∃ E, ensR N (-1) s1 = E := ⟨_, rfl⟩
      have hEl : EE.1.length = N := by rw [← hEE]; exact ensR_len _ _ _
      rw [hEE] at hR
      have hU : ∀ h, SRun Tryz.prog 38 [S D] h fun r q => r = .tuple ⟨[.agg ⟨[I 7, S c]⟩, I n, I 0]⟩ ∧ q = h := hU
      refine w_body1 Tryz.func19 rfl rfl ?_
      repeat' (first | apply w_seq | apply w_region | apply o_nil | (apply o_g tyOk; exact rfl; exact rfl) | (apply o_load tyOk; (iterate 3 exact rfl); (focus (exact pk))) | (apply o_stores tyOk; (iterate 4 exact rfl); (focus (exact ⟨rfl⟩)); (focus (exact up))) | (apply o_alloc tyOk; iterate 5 exact rfl) | (apply o_build tyOk; exact rfl; exact rfl; (focus (first | with_reducible exact pl26)); exact rfl; (focus (repeat (first | exact BuildR.nil | (apply BuildR.agg; exact rfl; exact rfl; (first | exact putAt_h4))))); exact rfl) | (apply o_call; exact rfl; exact rfl; (focus (first | exact rfl)); exact rfl; (focus (exact ⟨_, hU _, by repeat (first | with_reducible exact Take.nil)⟩)); rintro _ _ ⟨rfl, rfl⟩) | (apply o_call; exact rfl; exact rfl; (focus (first | exact rfl)); exact rfl; (focus (exact ⟨_, NewReader_any _ _, by repeat (first | with_reducible exact Take.nil)⟩)); rintro _ _ ⟨nr, rfl, rfl⟩) | (apply o_call; exact rfl; exact rfl; (focus (first | exact rfl)); exact rfl; (focus (exact ⟨_, x1 _ _, by repeat (first | with_reducible exact Take.nil)⟩)); rintro _ _ ⟨rfl, rfl⟩) | (apply o_call; exact rfl; exact rfl; (focus (first | exact rfl)); exact rfl; (focus (exact ⟨_, x2 _ _, by repeat (first | with_reducible exact Take.nil | with_reducible apply Take.c)⟩)); rintro _ _ ⟨rfl, rfl⟩) | (apply o_want; exact rfl; exact rfl) | (apply o_gF; (iterate 3 exact rfl); (focus (first | omega))) | (apply w_false; exact rfl) | (apply w_dF; exact rfl; (focus (first | omega))) | apply thenS_normal | apply w_skip | apply w_block | ((with_reducible apply Sd.mk); (first | exact True.intro)) | ((with_reducible apply Ln.mk); (first | rfl)) | ((with_reducible apply Ce.mk); (first | rfl)) | ((with_reducible apply Pu.mk); (first | exact putAt_all rfl)) | exact True.intro | intro A | exact rfl)
      all_goals first | contradiction | (exfalso; omega) | skip
      rename_i A2 A4
      revert A; intro A8
      refine w_loop (S := Nat × Int × Rdr × List Eny × Value × SH) (fun s => [(2, gptr A2 0 4), (7, gptr nr 0 2), (8, gptr A8 0 4), (9, I s.2.1), (42, I N), (43, I s.1)])
        (fun s => (A8, ⟨[I d1, I d2, I d3, s.2.2.2.2.1], false⟩) :: rdB nr s.2.2.1.1 s.2.2.1.2 :: (A2, ⟨[I 0, I 0, I 0, .slice none 0 0], false⟩) :: s.2.2.2.2.2)
        (fun s => s.1 ≤ N ∧ -1 ≤ s.2.1 ∧ s.2.1 ≤ (s.1 : Int) * 1099511627777 ∧ s.2.2.1.1.length ≤ 1000000 ∧ EnO h s.2.2.2.1 s.2.2.2.2.1 s.2.2.2.2.2 ∧ s.2.2.2.1.length = s.1 ∧ (s.2.2.2.1 ++ (ensR (N - s.1) s.2.1 s.2.2.1).1, (ensR (N - s.1) s.2.1 s.2.2.1).2) = EE)
        (fun s => N - s.1) (0, -1, s1, [], .slice none 0 0, h) ⟨Nat.zero_le _, Int.le_refl _, by show (-1 : Int) ≤ ((0 : Nat) : Int) * 1099511627777; omega, by show s1.1.length ≤ _; omega, .nil, rfl, by rw [← hEE]; rfl⟩ (by repeat' (first | exact trivial | refine ⟨rfl, ?_⟩ | refine ⟨congrArg some ?_, ?_⟩)) (by repeat (first | with_reducible exact Take.nil | with_reducible apply Take.c | with_reducible apply Take.drop)) ?_
      rintro ⟨i, a, ⟨l1, e1⟩, o, v, q⟩ ⟨hi, ha1, ha2, hsl, hg, hol, he⟩
      dsimp only at hi ha1 ha2 hsl hg hol he ⊢
      by_cases hil : i < N
      · have hN2 : N - i = (N - (i + 1)) + 1 := by omega
        rw [hN2] at he
        have he : (o ++ ((enR a (l1, e1)).1 :: (ensR (N - (i + 1)) (enR a (l1, e1)).1.2.1 (enR a (l1, e1)).2).1), (ensR (N - (i + 1)) (enR a (l1, e1)).1.2.1 (enR a (l1, e1)).2).2) = EE := he
        unfold enR at he
        dsimp only at he
        have y1 := fun h => rNum_any nr (l1, e1) 1099511627777 h hsl
        have c1 := rdS_len (l1, e1) 1099511627777
        have k1 := rdS_in (l1, e1) (m := 1099511627777) (by decide)
        generalize rdS (l1, e1) 1099511627777 = V1 at *
        obtain ⟨z1, l2, e2⟩ := V1
        dsimp only at *
        have y2 := fun h => rNum_any nr (l2, e2) 2 h (by show l2.length ≤ _; omega)
        have c2 := rdS_len (l2, e2) 2
        generalize rdS (l2, e2) 2 = V2 at *
        obtain ⟨z2, l3, e3⟩ := V2
        dsimp only at *
        have y3 := fun h => rNum_any nr (l3, e3) 1099511627776 h (by show l3.length ≤ _; omega)
        have c3 := rdS_len (l3, e3) 1099511627776
        generalize rdS (l3, e3) 1099511627776 = V3 at *
        obtain ⟨z3, l4, e4⟩ := V3
        dsimp only at *
        have y4 := fun h => extent_any nr (l4, e4) h (by show l4.length ≤ _; omega)
        have c4 := exR_len (l4, e4)
        generalize exR (l4, e4) = X4 at *
        obtain ⟨⟨p1, p2, p3⟩, l5, e5⟩ := X4
        dsimp only at *
        have y4 : ∀ h, SRun Tryz.prog 40 [gptr nr 0 2] (rdB nr l4 e4 :: h) fun r q => r = .agg ⟨[I p1, I p2, I p3]⟩ ∧ q = rdB nr l5 e5 :: h := y4
        have hst : (o ++ [(a, a + z1, z2, z3, p1, p2, p3)]).length = i + 1 := by rw [List.length_append, hol]; rfl
        rw [List.append_cons] at he
        have hob := en_len o
        cases hg with
        | nil =>
          repeat' (first | apply w_seq | apply w_region | apply o_nil | (apply w_draw; (focus (kernel_rfl)); (focus (kernel_rfl))) | (apply o_g tyOk; exact rfl; exact rfl) | (apply o_ar tyOk; exact rfl; exact rfl) | (apply o_load tyOk; (iterate 3 exact rfl); (focus (exact pk))) | (apply o_loads tyOk; (iterate 3 exact rfl); (focus (exact pk))) | (apply o_store tyOk; (iterate 4 exact rfl); (focus (exact up))) | (apply o_stores tyOk; (iterate 4 exact rfl); (focus (exact ⟨rfl⟩)); (focus (exact up))) | (apply o_alloc tyOk; iterate 5 exact rfl) | (apply o_build tyOk; exact rfl; exact rfl; (focus (first | with_reducible exact pl48)); exact rfl; (focus (repeat (first | exact BuildR.nil | (apply BuildR.one; exact rfl; exact rfl; (first | (focus ((repeat (first | exact SetAt.zero)); done))))))); exact rfl) | (apply o_buildSlice tyOk; (iterate 5 exact rfl); (focus (decide)); exact rfl; (focus (decide)); (focus (repeat (first | exact CatR.last rfl))); exact rfl) | (apply o_append_nil tyOk; (iterate 5 exact rfl); (focus (exact ⟨by decide⟩)); (focus (exact pk))) | (apply o_call; exact rfl; exact rfl; (focus (first | exact rfl)); exact rfl; (focus (exact ⟨_, y1 _, by repeat (first | with_reducible exact Take.nil | with_reducible apply Take.c)⟩)); rintro _ _ ⟨rfl, rfl⟩) | (apply o_call; exact rfl; exact rfl; (focus (first | exact rfl)); exact rfl; (focus (exact ⟨_, y2 _, by repeat (first | with_reducible exact Take.nil)⟩)); rintro _ _ ⟨rfl, rfl⟩) | (apply o_call; exact rfl; exact rfl; (focus (first | exact rfl)); exact rfl; (focus (exact ⟨_, y3 _, by repeat (first | with_reducible exact Take.nil)⟩)); rintro _ _ ⟨rfl, rfl⟩) | (apply o_call; exact rfl; exact rfl; (focus (first | exact rfl)); exact rfl; (focus (exact ⟨_, y4 _, by repeat (first | with_reducible exact Take.nil)⟩)); rintro _ _ ⟨rfl, rfl⟩) | (apply w_dT; exact rfl; (focus (first | omega))) | apply thenS_normal | apply blockS_normal | apply w_skip | apply w_block | ((with_reducible apply Sd.mk); (first | exact True.intro | (constructor <;> first | omega | (unfold maxLen; omega)))) | ((with_reducible apply Ln.mk); (first | rfl)) | ((with_reducible apply Wr.mk); (first | exact IntWalk.i64_in _ (by omega))) | ((with_reducible apply Ce.mk); (first | rfl)) | ((with_reducible apply Se.mk); (first | (focus ((repeat (first | exact SetAt.zero | apply SetAt.succ)); done)))) | ((with_reducible apply Pu.mk); (first | exact putAt_all rfl | exact putAt_e7)) | ((with_reducible apply Su.mk); (first | exact subAt_all)) | exact True.intro | refine Rc.mk ⟨_, _, pk, ?_⟩ | exact Or.inl rfl | refine Or.inr (And.intro ?_ ?_) | apply And.intro | apply Or.inr | intro A | exact rfl)
          all_goals first
            | (exfalso; omega)
            | exact ⟨(i + 1, a + z1, (l5, e5), [(a, a + z1, z2, z3, p1, p2, p3)], _, (_, ⟨[I a, I (a + z1), I z2, I z3, I p1, I p2, I p3], false⟩) :: h), ⟨hil, by show -1 ≤ a + z1; omega, by show a + z1 ≤ ((i + 1 : Nat) : Int) * 1099511627777; omega, by show l5.length ≤ _; omega, .ofc (n := 1) (k := 7) rfl rfl rfl, hst, he⟩, by show N - (i + 1) < N - i; omega, (by repeat' (first | exact trivial | refine ⟨rfl, ?_⟩ | refine ⟨congrArg some ?_, ?_⟩)), (by repeat (first | with_reducible exact Take.nil | with_reducible apply Take.c | with_reducible apply Take.drop))⟩
            | trace_state
        | some A1 _ =>
          repeat' (first | apply w_seq | apply w_region | apply o_nil | (apply w_draw; (focus (kernel_rfl)); (focus (kernel_rfl))) | (apply o_g tyOk; exact rfl; exact rfl) | (apply o_ar tyOk; exact rfl; exact rfl) | (apply o_load tyOk; (iterate 3 exact rfl); (focus (exact pk))) | (apply o_loads tyOk; (iterate 3 exact rfl); (focus (exact pk))) | (apply o_store tyOk; (iterate 4 exact rfl); (focus (exact up))) | (apply o_stores tyOk; (iterate 4 exact rfl); (focus (exact ⟨rfl⟩)); (focus (exact up))) | (apply o_alloc tyOk; iterate 5 exact rfl) | (apply o_build tyOk; exact rfl; exact rfl; (focus (first | with_reducible exact pl48)); exact rfl; (focus (repeat (first | exact BuildR.nil | (apply BuildR.one; exact rfl; exact rfl; (first | (focus ((repeat (first | exact SetAt.zero)); done))))))); exact rfl) | (apply o_buildSlice tyOk; (iterate 5 exact rfl); (focus (decide)); exact rfl; (focus (decide)); (focus (repeat (first | exact CatR.last rfl))); exact rfl) | (apply o_append tyOk; (iterate 5 exact rfl); (focus (exact ⟨by decide⟩)); (focus (exact up)); (focus (exact pk))) | (apply o_call; exact rfl; exact rfl; (focus (first | exact rfl)); exact rfl; (focus (exact ⟨_, y1 _, by repeat (first | with_reducible exact Take.nil | with_reducible apply Take.c)⟩)); rintro _ _ ⟨rfl, rfl⟩) | (apply o_call; exact rfl; exact rfl; (focus (first | exact rfl)); exact rfl; (focus (exact ⟨_, y2 _, by repeat (first | with_reducible exact Take.nil)⟩)); rintro _ _ ⟨rfl, rfl⟩) | (apply o_call; exact rfl; exact rfl; (focus (first | exact rfl)); exact rfl; (focus (exact ⟨_, y3 _, by repeat (first | with_reducible exact Take.nil)⟩)); rintro _ _ ⟨rfl, rfl⟩) | (apply o_call; exact rfl; exact rfl; (focus (first | exact rfl)); exact rfl; (focus (exact ⟨_, y4 _, by repeat (first | with_reducible exact Take.nil)⟩)); rintro _ _ ⟨rfl, rfl⟩) | (apply w_dT; exact rfl; (focus (first | omega))) | apply thenS_normal | apply blockS_normal | apply w_skip | apply w_block | ((with_reducible apply Sd.mk); (first | exact True.intro | (constructor <;> first | omega | (unfold maxLen; omega)))) | ((with_reducible apply Ln.mk); (first | rfl | omega)) | ((with_reducible apply Wr.mk); (first | exact IntWalk.i64_in _ (by omega))) | ((with_reducible apply Ce.mk); (first | rfl)) | ((with_reducible apply Se.mk); (first | (focus ((repeat (first | exact SetAt.zero | apply SetAt.succ)); done)))) | ((with_reducible apply Pu.mk); (first | exact putAt_all rfl | exact putAt_e7)) | ((with_reducible apply Su.mk); (first | exact subAt_all)) | exact True.intro | refine Rc.mk ⟨_, _, pk, ?_⟩ | exact Or.inl rfl | refine Or.inr (And.intro ?_ ?_) | apply And.intro | apply Or.inr | intro A | exact rfl)
          all_goals first
            | (exfalso; omega)
            | exact ⟨(i + 1, a + z1, (l5, e5), o ++ [(a, a + z1, z2, z3, p1, p2, p3)], _, (A1, ⟨recs enF o ++ [I a, I (a + z1), I z2, I z3, I p1, I p2, I p3], false⟩) :: h), ⟨hil, by show -1 ≤ a + z1; omega, by show a + z1 ≤ ((i + 1 : Nat) : Int) * 1099511627777; omega, by show l5.length ≤ _; omega, .ofc (n := o.length + 1) (k := 7 * o.length + 1 * 7) (recs_snocE rfl) (by simp) (by omega), hst, he⟩, by show N - (i + 1) < N - i; omega, (by repeat' (first | exact trivial | refine ⟨rfl, ?_⟩ | refine ⟨congrArg some ?_, ?_⟩)), (by repeat (first | with_reducible exact Take.nil | with_reducible apply Take.c | with_reducible apply Take.drop))⟩
            | trace_state
      · obtain rfl : i = N := by omega
        rw [Nat.sub_self] at he
        have he : (o ++ [], l1, e1) = EE := he
        rw [List.append_nil] at he
        subst he
        dsimp only at hR hEl
        have hE := fun h => vEnd_any nr l1 e1 h
        have hV := fun h hv => DValid_any (d1, d2, d3) o v h hv (by omega)
        have hV : ∀ h, Has h (recs enF o) 7 o.length v → SRun Tryz.prog 13 [.agg ⟨[I d1, I d2, I d3, v]⟩] h fun r q => r = B (decide (dvl (d1, d2, d3) o)) ∧ q = h := hV
        by_cases hr : rend l1 e1 = 0 ∧ dvl (d1, d2, d3) o
        · rw [if_pos hr] at hR
          subst hR
          rw [hr.1] at hE
          rw [decide_eq_true hr.2] at hV
          have hh1 := hg.has.1
          cases hg with
          | nil =>
            repeat' (first | apply w_seq | apply w_region | apply o_nil | (apply o_g tyOk; exact rfl; exact rfl) | (apply o_notB; exact rfl; exact rfl) | (apply o_loads tyOk; (iterate 3 exact rfl); (focus (exact pk))) | (apply o_stores tyOk; (iterate 4 exact rfl); (focus (exact ⟨rfl⟩)); (focus (exact up))) | (apply o_call; exact rfl; exact rfl; (focus (first | exact rfl)); exact rfl; (focus (exact ⟨_, hE _, by repeat (first | with_reducible exact Take.nil | with_reducible apply Take.c)⟩)); rintro _ _ ⟨rfl, rfl⟩) | (apply o_call; exact rfl; exact rfl; (focus (first | exact rfl)); exact rfl; (focus (exact ⟨_, hV _ (hh1.re (.drop (.drop (.drop .nil)))), by repeat (first | with_reducible exact Take.nil)⟩)); rintro _ _ ⟨rfl, rfl⟩) | (apply o_want; exact rfl; exact rfl) | (apply w_false; exact rfl) | (apply w_dF; exact rfl; (focus (first | omega))) | apply thenS_normal | apply thenS_exit | apply blockS_exit | apply w_skip | apply w_ret | apply w_exit | ((with_reducible apply Sd.mk); (first | exact True.intro)) | ((with_reducible apply Ln.mk); (first | rfl)) | ((with_reducible apply Pu.mk); (first | exact putAt_all rfl)) | ((with_reducible apply Su.mk); (first | exact subAt_all)) | exact True.intro | exact rfl)
            all_goals first
              | contradiction
              | (exfalso; omega)
              | (apply s_fin; (exact (show ResS _ _ _ _ [_, _] from (res_cell tyOk rfl rfl rfl (by exact pk) (by first | rfl | exact ‹_› | omega | (simp ; first | done | omega)) (by first | rfl | exact ‹_› | omega | (simp ; first | done | omega)) ⟨rfl, trivial⟩))); (focus (exact ⟨_, rfl, .nil⟩)); (focus (repeat (first | with_reducible exact Take.nil | with_reducible apply Take.c | with_reducible apply Take.drop))))
              | trace_state
          | some A1 _ =>
            repeat' (first | apply w_seq | apply w_region | apply o_nil | (apply o_g tyOk; exact rfl; exact rfl) | (apply o_notB; exact rfl; exact rfl) | (apply o_loads tyOk; (iterate 3 exact rfl); (focus (exact pk))) | (apply o_stores tyOk; (iterate 4 exact rfl); (focus (exact ⟨rfl⟩)); (focus (exact up))) | (apply o_call; exact rfl; exact rfl; (focus (first | exact rfl)); exact rfl; (focus (exact ⟨_, hE _, by repeat (first | with_reducible exact Take.nil | with_reducible apply Take.c)⟩)); rintro _ _ ⟨rfl, rfl⟩) | (apply o_call; exact rfl; exact rfl; (focus (first | exact rfl)); exact rfl; (focus (exact ⟨_, hV _ (hh1.re (.drop (.drop (.drop .nil)))), by repeat (first | with_reducible exact Take.nil)⟩)); rintro _ _ ⟨rfl, rfl⟩) | (apply o_want; exact rfl; exact rfl) | (apply w_false; exact rfl) | (apply w_dF; exact rfl; (focus (first | omega))) | apply thenS_normal | apply thenS_exit | apply blockS_exit | apply w_skip | apply w_ret | apply w_exit | ((with_reducible apply Sd.mk); (first | exact True.intro)) | ((with_reducible apply Ln.mk); (first | rfl)) | ((with_reducible apply Pu.mk); (first | exact putAt_all rfl)) | ((with_reducible apply Su.mk); (first | exact subAt_all)) | exact True.intro | exact rfl)
            all_goals first
              | contradiction
              | (exfalso; omega)
              | (apply s_fin; (exact (show ResS _ _ _ _ [_, _] from (res_cell tyOk rfl rfl rfl (by exact pk) (by first | rfl | exact ‹_› | omega | (simp ; first | done | omega)) (by first | rfl | exact ‹_› | omega | (simp ; first | done | omega)) ⟨rfl, trivial⟩))); (focus (exact ⟨_, rfl, .some A1 o⟩)); (focus (repeat (first | with_reducible exact Take.nil | with_reducible apply Take.c | with_reducible apply Take.drop))))
              | trace_state
        · rw [if_neg hr] at hR
          subst hR
          by_cases hr1 : rend l1 e1 = 0
          · rw [hr1] at hE
            rw [decide_eq_false (fun k => hr ⟨hr1, k⟩)] at hV
            repeat' (first | apply w_seq | apply w_region | apply o_nil | (apply o_g tyOk; exact rfl; exact rfl) | (apply o_notB; exact rfl; exact rfl) | (apply o_loads tyOk; (iterate 3 exact rfl); (focus (exact pk))) | (apply o_stores tyOk; (iterate 4 exact rfl); (focus (exact ⟨rfl⟩)); (focus (exact up))) | (apply o_build tyOk; exact rfl; exact rfl; (focus (first | with_reducible exact pl26)); exact rfl; (focus (repeat (first | exact BuildR.nil))); exact rfl) | (apply o_call; exact rfl; exact rfl; (focus (first | exact rfl)); exact rfl; (focus (exact ⟨_, hE _, by repeat (first | with_reducible exact Take.nil | with_reducible apply Take.c)⟩)); rintro _ _ ⟨rfl, rfl⟩) | (apply o_call; exact rfl; exact rfl; (focus (first | exact rfl)); exact rfl; (focus (exact ⟨_, hV _ (hg.has.1.re (.drop (.drop (.drop .nil)))), by repeat (first | with_reducible exact Take.nil)⟩)); rintro _ _ ⟨rfl, rfl⟩) | (apply o_want; exact rfl; exact rfl) | (apply w_true; exact rfl) | (apply w_dF; exact rfl; (focus (first | omega))) | apply thenS_normal | apply thenS_ret | apply thenS_exit | apply blockS_exit | apply w_ret | apply w_exit | ((with_reducible apply Sd.mk); (first | exact True.intro)) | ((with_reducible apply Ln.mk); (first | rfl)) | ((with_reducible apply Pu.mk); (first | exact putAt_all rfl)) | ((with_reducible apply Su.mk); (first | exact subAt_all)) | exact True.intro | exact rfl)
            all_goals first
              | contradiction
              | (exfalso; omega)
              | (apply s_fin; (exact (show ResS _ _ _ _ [_, _] from (res_cell tyOk rfl rfl rfl (by exact pk) (by first | rfl | exact ‹_› | omega | (simp ; first | done | omega)) (by first | rfl | exact ‹_› | omega | (simp ; first | done | omega)) ⟨rfl, trivial⟩))); (focus (exact ⟨rfl, rfl⟩)); (focus (repeat (first | with_reducible exact Take.nil | exact hg.has.2 | with_reducible apply Take.c | with_reducible apply Take.drop))))
              | trace_state
          · generalize rend l1 e1 = re at *
            repeat' (first | apply w_seq | apply w_region | apply o_nil | (apply o_g tyOk; exact rfl; exact rfl) | (apply o_stores tyOk; (iterate 4 exact rfl); (focus (exact ⟨rfl⟩)); (focus (exact up))) | (apply o_build tyOk; exact rfl; exact rfl; (focus (first | with_reducible exact pl26)); exact rfl; (focus (repeat (first | exact BuildR.nil))); exact rfl) | (apply o_call; exact rfl; exact rfl; (focus (first | exact rfl)); exact rfl; (focus (exact ⟨_, hE _, by repeat (first | with_reducible exact Take.nil | with_reducible apply Take.c)⟩)); rintro _ _ ⟨rfl, rfl⟩) | (apply o_skip; iterate 4 exact rfl) | (apply o_sT; (iterate 3 exact rfl); (focus (first | exact ‹_›)); exact rfl) | (apply w_true; exact rfl) | (apply w_dF; exact rfl; (focus (first | omega))) | apply thenS_normal | apply thenS_ret | apply thenS_exit | apply blockS_exit | apply w_ret | apply w_exit | ((with_reducible apply Sd.mk); (first | exact True.intro)) | ((with_reducible apply Ln.mk); (first | rfl)) | ((with_reducible apply Pu.mk); (first | exact putAt_all rfl)) | exact True.intro)
            all_goals first
              | contradiction
              | (exfalso; omega)
              | (apply s_fin; (exact (show ResS _ _ _ _ [_, _] from (res_cell tyOk rfl rfl rfl (by exact pk) (by first | rfl | exact ‹_› | omega | (simp ; first | done | omega)) (by first | rfl | exact ‹_› | omega | (simp ; first | done | omega)) ⟨rfl, trivial⟩))); (focus (exact ⟨rfl, rfl⟩)); (focus (repeat (first | with_reducible exact Take.nil | exact hg.has.2 | with_reducible apply Take.c | with_reducible apply Take.drop))))
              | trace_state
    · rw [if_neg hk] at hR
      subst hR
      refine w_body1 Tryz.func19 rfl rfl ?_
      repeat' ((fail_if_success (show SWp _ _ (Code.seq (Code.region 6 _ _) _) _ _ _)); (fail_if_success (show SWp _ _ (Code.region 6 _ _) _ _ _)); first | apply w_seq | apply w_region | apply o_nil | (apply o_g tyOk; exact rfl; exact rfl) | (apply o_load tyOk; (iterate 3 exact rfl); (focus (exact pk))) | (apply o_stores tyOk; (iterate 4 exact rfl); (focus (exact ⟨rfl⟩)); (focus (exact up))) | (apply o_alloc tyOk; iterate 5 exact rfl) | (apply o_build tyOk; exact rfl; exact rfl; (focus (first | with_reducible exact pl26)); exact rfl; (focus (repeat (first | exact BuildR.nil))); exact rfl) | (apply o_call; exact rfl; exact rfl; (focus (first | exact rfl)); exact rfl; (focus (exact ⟨_, hU _, by repeat (first | with_reducible exact Take.nil)⟩)); rintro _ _ ⟨rfl, rfl⟩) | (apply o_want; exact rfl; exact rfl) | (apply o_skip; iterate 4 exact rfl) | (apply o_guardFN; (iterate 3 exact rfl); all_goals intro hc) | (apply w_true; exact rfl) | (apply w_dT; exact rfl; (focus (first | omega))) | (apply w_dF; exact rfl; (focus (first | omega))) | apply thenS_normal | apply thenS_ret | apply w_skip | apply w_ret | ((with_reducible apply Sd.mk); (first | exact True.intro)) | ((with_reducible apply Ln.mk); (first | rfl)) | ((with_reducible apply Ce.mk); (first | rfl)) | ((with_reducible apply Pu.mk); (first | exact putAt_all rfl)) | exact True.intro | intro A | exact rfl)
      all_goals first
        | (exfalso; omega)
        | (apply s_fin; (exact (show ResS _ _ _ _ [_, _] from (res_cell tyOk rfl rfl rfl (by exact pk) (by first | rfl | exact ‹_› | omega | (simp ; first | done | omega)) (by first | rfl | exact ‹_› | omega | (simp ; first | done | omega)) ⟨rfl, trivial⟩))); (focus (exact ⟨rfl, rfl⟩)); (focus (repeat (first | with_reducible exact Take.nil | with_reducible apply Take.c | with_reducible apply Take.drop))))
        | trace_state
end Go.Proofs.YtncnmfdmbfbfjaaGreat
end
section
set_option linter.unusedVariables false
set_option linter.unusedSimpArgs false
set_option maxRecDepth 4000
namespace Go.Proofs.YtncnmfdmbfbfjaaGreat
open Go.Gh Go.RowKit

/-- The head of a number. -/
theorem vhd_fin : ∀ k : Nat, k < 9 → ∀ m : Nat, m < 128 → (k < 8 → m < 2 ^ (7 - k)) → (k = 8 → m = 0) → vhd k (m : Int) = 256 - 2 ^ (8 - k) + (m : Int) ∧ 256 - 2 ^ (8 - k) + (m : Int) < 256 := by decide +kernel
theorem vbe_div : ∀ (k : Nat) (m : Int) (T : List UInt8), (vbe k m T).2 = m / 256 ^ k
  | 0, m, T => by show m = m / 256 ^ 0; rw [Int.pow_zero, Int.ediv_one]
  | k + 1, m, T => by
    show (vbe k (m / 256) (b8 (m % 256) :: T)).2 = _
    rw [vbe_div k, Int.pow_succ, Int.mul_comm, Int.ediv_ediv_of_nonneg (by decide)]
theorem vks_lt {n : Int} (f k : Nat) : vks n f k < k + f → n < vbnd (vks n f k + 1) := by
  induction f generalizing k with
  | zero => intro h; exact absurd h (Nat.lt_irrefl _)
  | succ f ih =>
    intro h
    by_cases g : vbnd (k + 1) ≤ n
    · rw [show vks n (f + 1) k = vks n f (k + 1) from if_pos g] at h ⊢
      exact ih (k + 1) (by omega)
    · rw [show vks n (f + 1) k = k from if_neg g]
      omega
theorem vbnd_step : ∀ k : Nat, k < 8 → vbnd (k + 1) = vbnd k + 2 ^ (7 - k) * 256 ^ k := by decide
theorem vhd_num {n : Int} (h0 : 0 ≤ n) (h : n ≤ 9223372036854775807) : vhd (vk n) (vbe (vk n) (n - vbnd (vk n)) []).2 = 256 - 2 ^ (8 - vk n) + (vbe (vk n) (n - vbnd (vk n)) []).2 ∧
    0 ≤ (vbe (vk n) (n - vbnd (vk n)) []).2 ∧ 256 - 2 ^ (8 - vk n) + (vbe (vk n) (n - vbnd (vk n)) []).2 < 256 ∧ (vbe (vk n) (n - vbnd (vk n)) []).2 < 128 := by
  obtain ⟨hk1, hk2⟩ := vk_ok h0
  have hlt : vk n < 8 → n < vbnd (vk n + 1) := fun g => vks_lt (n := n) 8 0 (by show vk n < 0 + 8; omega)
  rw [vbe_div]
  generalize hK : vk n = K at *
  have hm0 : 0 ≤ (n - vbnd K) / 256 ^ K := Int.ediv_nonneg (by omega) (Int.le_of_lt (Int.pow_pos (by decide)))
  have hmk : K < 8 → (n - vbnd K) / 256 ^ K < 2 ^ (7 - K) := fun g => by
    have := hlt g
    rw [vbnd_step K g] at this
    exact Int.ediv_lt_of_lt_mul (Int.pow_pos (by decide)) (by omega)
  have hm8 : K = 8 → (n - vbnd K) / 256 ^ K = 0 := fun g => by
    subst g
    exact Int.ediv_eq_zero_of_lt (by omega) (by have := (vbnd_in 8 (by decide)).1; have : (256 : Int) ^ 8 = 18446744073709551616 := rfl; omega)
  obtain ⟨m, hm⟩ := Int.eq_ofNat_of_zero_le hm0
  rw [hm] at hmk hm8 ⊢
  have hmk' : K < 8 → m < 2 ^ (7 - K) := fun g => by have := hmk g; have e : ((2 : Int) ^ (7 - K)) = ((2 ^ (7 - K) : Nat) : Int) := by simp
                                                     omega
  have hm128 : m < 128 := by
    by_cases g : K < 8
    · have := hmk' g
      have h2 : 2 ^ (7 - K) ≤ 2 ^ 7 := Nat.pow_le_pow_right (by decide) (by omega)
      have h3 : (2 ^ 7 : Nat) = 128 := rfl
      omega
    · have := hm8 (by omega); omega
  obtain ⟨g1, g2⟩ := vhd_fin K (by omega) m hm128 hmk' (fun g => by have := hm8 g; omega)
  exact ⟨g1, by omega, g2, by omega⟩
end Go.Proofs.YtncnmfdmbfbfjaaGreat
end
section
set_option linter.unusedVariables false
set_option linter.unusedSimpArgs false
set_option maxRecDepth 4000
namespace Go.Proofs.YtncnmfdmbfbfjaaGreat
open Go.Gh Go.RowKit

theorem batC_cons (x : UInt8) (r : List UInt8) (i : Nat) : bat (x :: r) ((i + 1 : Nat) : Int) = bat r (i : Int) := by
  unfold bat; rw [Int.toNat_natCast, Int.toNat_natCast]; rfl
theorem batC_left {l r : List UInt8} {k : Nat} (h : k < l.length) : bat (l ++ r) (k : Int) = bat l (k : Int) := by
  unfold bat
  rw [Int.toNat_natCast, List.getD_eq_getElem?_getD, List.getD_eq_getElem?_getD, List.getElem?_append_left h]
theorem batC_right (l r : List UInt8) (k : Nat) : bat (l ++ r) ((l.length + k : Nat) : Int) = bat r (k : Int) := by
  unfold bat
  rw [Int.toNat_natCast, Int.toNat_natCast, List.getD_eq_getElem?_getD, List.getD_eq_getElem?_getD, List.getElem?_append_right (by omega), Nat.add_sub_cancel_left]
theorem vbe_app : ∀ (k : Nat) (m : Int) (T : List UInt8), (vbe k m T).1 = (vbe k m []).1 ++ T
  | 0, _, _ => rfl
  | k + 1, m, T => by
    show (vbe k (m / 256) (b8 (m % 256) :: T)).1 = (vbe k (m / 256) [b8 (m % 256)]).1 ++ T
    rw [vbe_app k _ (b8 (m % 256) :: T), vbe_app k _ [b8 (m % 256)], List.append_assoc]; rfl
theorem vbe_snoc (k : Nat) (m : Int) : (vbe (k + 1) m []).1 = (vbe k (m / 256) []).1 ++ [b8 (m % 256)] := vbe_app k (m / 256) [b8 (m % 256)]
theorem vbl (k : Nat) (m : Int) : (vbe k m []).1.length = k := by rw [vbe_len]; rfl
theorem vacc_snoc (l : List UInt8) : ∀ (k i : Nat) (v : Int), vacc l (k + 1) i v = vacc l k i v * 256 + bat l ((i + k : Nat) : Int)
  | 0, _, _ => rfl
  | k + 1, i, v => by
    show vacc l (k + 1) (i + 1) (v * 256 + bat l (i : Int)) = vacc l k (i + 1) (v * 256 + bat l (i : Int)) * 256 + _
    rw [vacc_snoc l k (i + 1), show i + 1 + k = i + (k + 1) by omega]
theorem vacc_vbe {l : List UInt8} {i : Nat} {v : Int} : ∀ (k : Nat) (m : Int), (∀ j, j < k → bat l ((i + j : Nat) : Int) = bat (vbe k m []).1 (j : Int)) → vacc l k i v = (v - m / 256 ^ k) * 256 ^ k + m
  | 0, m, _ => by show v = (v - m / 256 ^ 0) * 256 ^ 0 + m; rw [Int.pow_zero, Int.ediv_one]; omega
  | k + 1, m, h => by
    have hl := vbl k (m / 256)
    have h1 : vacc l k i v = (v - m / 256 / 256 ^ k) * 256 ^ k + m / 256 := vacc_vbe k (m / 256) fun j hj => by
      rw [h j (by omega), vbe_snoc, batC_left (by omega)]
    have h2 : bat l ((i + k : Nat) : Int) = m % 256 := by
      rw [h k (by omega), vbe_snoc]
      have := batC_right (vbe k (m / 256) []).1 [b8 (m % 256)] 0
      rw [hl] at this
      rw [show ((k : Nat) : Int) = ((k + 0 : Nat) : Int) by omega, this]
      show ((b8 (m % 256)).toNat : Int) = m % 256
      exact b8_val (by omega)
    have h3 : m / 256 / 256 ^ k = m / 256 ^ (k + 1) := by
      rw [Int.ediv_ediv_of_nonneg (by decide), Int.pow_succ, Int.mul_comm]
    rw [vacc_snoc, h1, h2, h3, Int.pow_succ]
    generalize m / (256 ^ k * 256) = D
    generalize (256 : Int) ^ k = p
    have h4 : ((v - D) * p + m / 256) * 256 + m % 256 = (v - D) * p * 256 + (m / 256 * 256 + m % 256) := by rw [Int.add_mul, Int.add_assoc]
    rw [h4, Int.mul_assoc, show m / 256 * 256 + m % 256 = m by omega]
theorem vk_lt {n : Int} (h : vk n < 8) : n < vbnd (vk n + 1) := vks_lt (n := n) 8 0 (by show vk n < 0 + 8; omega)
theorem hdr_fin : ∀ k : Nat, k < 9 → ∀ m : Nat, m < 128 → (k < 8 → m < 2 ^ (7 - k)) → (k = 8 → m = 0) → vlead (256 - 2 ^ (8 - k) + (m : Int)) 8 0 = k ∧ vlow (256 - 2 ^ (8 - k) + (m : Int)) k = m := by decide +kernel
theorem vhd_top {n : Int} (h0 : 0 ≤ n) (h : n ≤ 9223372036854775807) : ∃ m : Nat, (vbe (vk n) (n - vbnd (vk n)) []).2 = (m : Int) ∧ m < 128 ∧ (vk n < 8 → m < 2 ^ (7 - vk n)) ∧ (vk n = 8 → m = 0) := by
  obtain ⟨hk1, hk2⟩ := vk_ok h0
  have hlt := vk_lt (n := n)
  obtain ⟨_, g2, _, g4⟩ := vhd_num h0 h
  obtain ⟨m, hm⟩ := Int.eq_ofNat_of_zero_le g2
  rw [hm] at g4
  refine ⟨m, hm, by omega, fun g => ?_, fun g => ?_⟩
  · have h1 := hlt g
    rw [vbnd_step _ g] at h1
    have h2 : (n - vbnd (vk n)) / 256 ^ vk n < 2 ^ (7 - vk n) := Int.ediv_lt_of_lt_mul (Int.pow_pos (by decide)) (by omega)
    rw [vbe_div] at hm
    rw [hm] at h2
    have e : ((2 : Int) ^ (7 - vk n)) = ((2 ^ (7 - vk n) : Nat) : Int) := by simp
    omega
  · rw [vbe_div, g] at hm
    rw [g] at hk1
    have h8 := (vbnd_in 8 (by decide)).1
    have : (n - vbnd 8) / 256 ^ 8 = 0 := Int.ediv_eq_zero_of_lt (by omega) (by have : (256 : Int) ^ 8 = 18446744073709551616 := rfl; omega)
    omega
theorem vnum_cons {n : Int} (h0 : 0 ≤ n) : vnum n = b8 (vhd (vk n) (vbe (vk n) (n - vbnd (vk n)) []).2) :: (vbe (vk n) (n - vbnd (vk n)) []).1 := if_neg (by omega)
/-- A number that is written lies in front. -/
theorem vpeekA_num {n : Int} (h0 : 0 ≤ n) (h : n ≤ 9223372036854775807) (r : List UInt8) : vpeek (vnum n ++ r) = (n, ((vnum n).length : Int), true) := by
  obtain ⟨hk1, hk2⟩ := vk_ok h0
  obtain ⟨m, hm, hm1, hm2, hm3⟩ := vhd_top h0 h
  obtain ⟨g1, g2⟩ := hdr_fin (vk n) (by omega) m hm1 hm2 hm3
  obtain ⟨v1, v2⟩ := vhd_fin (vk n) (by omega) m hm1 hm2 hm3
  have hlen := vnum_len h0
  have hl : (vnum n ++ r).length = vk n + 1 + r.length := by rw [List.length_append, hlen]
  have hb0 : bat (vnum n ++ r) 0 = 256 - 2 ^ (8 - vk n) + (m : Int) := by
    rw [vnum_cons h0, hm, List.cons_append]
    show ((b8 (vhd (vk n) (m : Int))).toNat : Int) = _
    rw [b8_val (vhd_in _ _), v1]
  have hva : vacc (vnum n ++ r) (vk n) 1 (m : Int) = n - vbnd (vk n) := by
    rw [vacc_vbe (vk n) (n - vbnd (vk n)), ← vbe_div (vk n) (n - vbnd (vk n)) [], hm]
    · rw [Int.sub_self, Int.zero_mul, Int.zero_add]
    · intro j hj
      rw [vnum_cons h0, List.cons_append, Nat.add_comm 1 j, batC_cons, batC_left (by rw [vbl]; exact hj)]
  unfold vpeek
  rw [if_neg (by omega), hb0, g1, if_neg (by omega), g2, hva, if_neg (by omega), hlen]
  congr 1
  · omega
theorem rdA_num {n m : Int} (h0 : 0 ≤ n) (h1 : n ≤ m) (h : n ≤ 9223372036854775807) (r : List UInt8) : rdN (vnum n ++ r) m = (n, r, 0) := by
  unfold rdN
  rw [vpeekA_num h0 h]
  dsimp only
  rw [if_neg (by decide), if_neg (by omega), Int.toNat_natCast, List.drop_left]
end Go.Proofs.YtncnmfdmbfbfjaaGreat
end
section
set_option linter.unusedVariables false
set_option linter.unusedSimpArgs false
set_option maxRecDepth 4000
namespace Go.Proofs.YtncnmfdmbfbfjaaGreat
open Go.Gh Go.RowKit

theorem rdS_num {n m : Int} (h0 : 0 ≤ n) (h1 : n ≤ m) (h : n ≤ 9223372036854775807) (r : List UInt8) : rdS (vnum n ++ r, 0) m = (n, r, 0) := by
  unfold rdS
  rw [if_neg (fun k => k rfl)]
  exact rdA_num h0 h1 h r
theorem exR_num {x : Ex3} (hf : fit x) (r : List UInt8) : exR (numT (exN x) ++ r, 0) = (x, r, 0) := by
  obtain ⟨a, b, c⟩ := x
  have h1 := hf.1; have h2 := hf.2.1; have h3 := hf.2.2.1; have h4 := hf.2.2.2.1; have h5 := hf.2.2.2.2.1; have h6 := hf.2.2.2.2.2.1
  dsimp only at h1 h2 h3 h4 h5 h6
  have e : numT (exN (a, b, c)) ++ r = vnum a ++ (vnum b ++ (vnum c ++ r)) := by simp [numT, exN]
  rw [e]
  unfold exR
  rw [rdS_num (by omega) (by omega) (by omega)]
  dsimp only
  rw [rdS_num (by omega) (by omega) (by omega)]
  dsimp only
  rw [rdS_num (by omega) (by omega) (by omega)]
theorem enR_num {a : Int} {e : Eny} (ha : -1 ≤ a) (he : eok a e) (hf : fit (plc e)) (r : List UInt8) : enR a (numT (enN e) ++ r, 0) = (e, r, 0) := by
  obtain ⟨x1, x2, x3, x4, p⟩ := e
  obtain ⟨h1, h2, h3, h4⟩ := he
  unfold lvl at h4
  dsimp only at h1 h2 h3 h4
  have e : numT (enN (x1, x2, x3, x4, p)) ++ r = vnum (x2 - x1) ++ (vnum x3 ++ (vnum x4 ++ (numT (exN p) ++ r))) := by simp [numT, enN, exN]
  rw [e]
  unfold enR
  rw [rdS_num (by omega) (by omega) (by omega)]
  dsimp only
  rw [rdS_num (by omega) (by omega) (by omega)]
  dsimp only
  rw [rdS_num (by omega) (by omega) (by omega)]
  dsimp only
  rw [exR_num hf]
  dsimp only
  rw [h1, show a + (x2 - a) = x2 by omega]
theorem ensR_num : ∀ (l : List Eny) (a : Int) (r : List UInt8), -1 ≤ a → cmb a l → ensR l.length a ((l.flatMap fun e => numT (enN e)) ++ r, 0) = (l, r, 0)
  | [], _, _, _, _ => rfl
  | e :: l, a, r, ha, h => by
    obtain ⟨⟨h1, h2⟩, h3⟩ := cmb_cons.1 h
    have hn := enR_num ha h1 h2 ((l.flatMap fun e => numT (enN e)) ++ r)
    have ih := ensR_num l e.2.1 r (by have := h1.1; have := h1.2.1; omega) h3
    rw [List.flatMap_cons, List.append_assoc]
    show ((enR a _).1 :: (ensR l.length (enR a _).1.2.1 (enR a _).2).1, (ensR l.length (enR a _).1.2.1 (enR a _).2).2) = _
    rw [hn]
    dsimp only
    rw [ih]
theorem decC_txt {d : Ex3} {l : List Eny} (h : dvl d l) : ddC (txtD d l) = some (d, l) := by
  have e : txtD d l = numT (exN d) ++ (vnum l.length ++ ((l.flatMap fun e => numT (enN e)) ++ [])) := by
    unfold txtD; simp [numT]
  have hd : dirR (txtD d l) = (d, l, [], 0) := by
    have h32 := h.1
    rw [e]
    unfold dirR
    rw [exR_num h.2.1.1]
    dsimp only
    rw [rdS_num (by omega) (by omega) (by omega)]
    dsimp only
    rw [Int.toNat_natCast, ensR_num l (-1) [] (by omega) ⟨h.2.2.1, h.2.1.2⟩]
  unfold ddC
  rw [hd]
  dsimp only
  rw [if_pos ⟨by unfold rend; rw [if_neg (fun k => k.2 rfl)], h⟩]
theorem wrp7 {c : List UInt8} (h : c.length ≤ 4096) : (wrp 7 c).2 = 0 := by
  unfold wrp
  rw [if_neg (by omega), if_neg (by omega)]
/-- What Encode gives is read again. -/
theorem decD_enc {d : Ex3} {l : List Eny} (h : dvl d l) : decD (encD d l).1 = some (d, l) ∧ (encD d l).2 = 0 ∧ (encD d l).1.length ≤ 4120 ∧ 7 ≤ (encD d l).1.length := by
  have hl := txtD_le (d := d) h.1
  have hw := wrp7 (c := txtD d l) (by omega)
  have e : encD d l = wrp 7 (txtD d l) := if_pos h
  have hp := prs_wrp hw []
  rw [List.append_nil] at hp
  have hk := prs_ok hp
  have h1 := wrp_1 7 (txtD d l)
  rw [e]
  refine ⟨?_, hw, h1, hk.2.2.1⟩
  unfold decD
  rw [if_neg (by omega), hp]
  dsimp only
  rw [if_pos ⟨rfl, rfl⟩, decC_txt h]
end Go.Proofs.YtncnmfdmbfbfjaaGreat
end
section
set_option linter.unusedVariables false
set_option linter.unusedSimpArgs false
set_option maxRecDepth 4000
namespace Go.Proofs.YtncnmfdmbfbfjaaGreat
open Go.Gh Go.RowKit

theorem DRegions_any (d : Ex3) (l : List Eny) (v : Value) (h : SH) (hv : Has h (recs enF l) 7 l.length v) (hl : l.length ≤ 1000) (hd : dvl d l) :
    SRun Tryz.prog 15 [drV d v] h fun r q => ∃ A, r = gsl A 0 ((rgs d l).length * 2) (rgs d l).length 2 ∧ q = (A, ⟨recs prF (rgs d l), false⟩) :: h := by
  have hV := fun h hv => DValid_any d l v h hv hl
  rw [decide_eq_true hd] at hV
  have hG := fun h hv => regions_any d l v h hv hl hd.2.1.1 hd.2.1.2
  obtain ⟨ad, fl, rfl, hh⟩ := id hv
  generalize rgs d l = R at *
  obtain ⟨d1, d2, d3⟩ := d
  have hV : ∀ h, Has h (recs enF l) 7 l.length (.slice ad l.length fl) → SRun Tryz.prog 13 [.agg ⟨[I d1, I d2, I d3, .slice ad l.length fl]⟩] h fun r q => r = B true ∧ q = h := hV
  have hG : ∀ h, Has h (recs enF l) 7 l.length (.slice ad l.length fl) → SRun Tryz.prog 33 [.agg ⟨[I d1, I d2, I d3, .slice ad l.length fl]⟩] h fun r q => ∃ A, r = gsl A 0 (R.length * 2) R.length 2 ∧ q = (A, ⟨recs prF R, false⟩) :: h := hG
  show SRun _ _ [.agg ⟨[I d1, I d2, I d3, .slice ad l.length fl]⟩] h _
  refine w_body1 Tryz.func15 rfl rfl ?_
  repeat' (first | apply w_seq | apply w_region | apply o_nil | (apply o_g tyOk; exact rfl; exact rfl) | (apply o_notB; exact rfl; exact rfl) | (apply o_loads tyOk; (iterate 3 exact rfl); (focus (exact pk))) | (apply o_box (tt := tyT); iterate 5 exact rfl) | (apply o_call; exact rfl; exact rfl; (focus (first | exact rfl)); exact rfl; (focus (exact ⟨_, hV _ (hv.re (.drop .nil)), by repeat (first | with_reducible exact Take.nil)⟩)); rintro _ _ ⟨rfl, rfl⟩) | (apply o_call; exact rfl; exact rfl; (focus (first | exact rfl)); exact rfl; (focus (exact ⟨_, hG _ (hv.re (.drop .nil)), by repeat (first | with_reducible exact Take.nil)⟩)); rintro _ _ ⟨A2, rfl, rfl⟩) | (apply w_false; exact rfl) | apply thenS_normal | apply w_skip | apply w_ret | ((with_reducible apply Sd.mk); (first | exact True.intro)) | ((with_reducible apply Ln.mk); (first | rfl)) | ((with_reducible apply Su.mk); (first | exact subAt_all)) | exact True.intro | intro A | exact rfl)
  all_goals first
    | contradiction
    | (apply s_fin; (exact (show ResS _ _ _ _ [_] from ⟨rfl, trivial⟩)); (focus (exact ⟨A2, rfl, rfl⟩)); (focus (repeat (first | with_reducible exact Take.nil | with_reducible apply Take.c | with_reducible apply Take.drop))))
    | trace_state
theorem DRegions_no (d : Ex3) (l : List Eny) (v : Value) (h : SH) (hv : Has h (recs enF l) 7 l.length v) (hl : l.length ≤ 1000) (hd : ¬ dvl d l) :
    SRun Tryz.prog 15 [drV d v] h fun r q => r = .slice none 0 0 ∧ q = h := by
  have hV := fun h hv => DValid_any d l v h hv hl
  rw [decide_eq_false hd] at hV
  obtain ⟨ad, fl, rfl, hh⟩ := id hv
  obtain ⟨d1, d2, d3⟩ := d
  have hV : ∀ h, Has h (recs enF l) 7 l.length (.slice ad l.length fl) → SRun Tryz.prog 13 [.agg ⟨[I d1, I d2, I d3, .slice ad l.length fl]⟩] h fun r q => r = B false ∧ q = h := hV
  show SRun _ _ [.agg ⟨[I d1, I d2, I d3, .slice ad l.length fl]⟩] h _
  refine w_body1 Tryz.func15 rfl rfl ?_
  repeat' ((fail_if_success (show SWp _ _ (Code.seq (Code.region 3 _ _) _) _ _ _)); (fail_if_success (show SWp _ _ (Code.region 3 _ _) _ _ _)); first | apply w_seq | apply w_region | apply o_nil | (apply o_g tyOk; exact rfl; exact rfl) | (apply o_notB; exact rfl; exact rfl) | (apply o_loads tyOk; (iterate 3 exact rfl); (focus (exact pk))) | (apply o_box (tt := tyT); iterate 5 exact rfl) | (apply o_call; exact rfl; exact rfl; (focus (first | exact rfl)); exact rfl; (focus (exact ⟨_, hV _ (hv.re (.drop .nil)), by repeat (first | with_reducible exact Take.nil)⟩)); rintro _ _ ⟨rfl, rfl⟩) | (apply w_true; exact rfl) | apply thenS_normal | apply thenS_ret | apply w_ret | ((with_reducible apply Sd.mk); (first | exact True.intro)) | ((with_reducible apply Ln.mk); (first | rfl)) | ((with_reducible apply Su.mk); (first | exact subAt_all)) | exact True.intro | intro A | exact rfl)
  all_goals first
    | contradiction
    | (apply s_fin; (exact (show ResS _ _ _ _ [_] from ⟨rfl, trivial⟩)); (focus (exact ⟨rfl, rfl⟩)); (focus (repeat (first | with_reducible exact Take.nil | with_reducible apply Take.c | with_reducible apply Take.drop))))
    | trace_state
theorem rDRegions_any (d : Ex3) (l : List Eny) (v : Value) (h : SH) (hv : Has h (recs enF l) 7 l.length v) (hl : l.length ≤ 1000) (hd : dvl d l) :
    SRun Tryz.prog 16 [drV d v] h fun r q => ∃ A, r = gsl A 0 ((rgs d l).length * 2) (rgs d l).length 2 ∧ q = (A, ⟨recs prF (rgs d l), false⟩) :: h := by
  have hV := fun h hv => rDValid_any d l v h hv hl
  rw [decide_eq_true hd] at hV
  have hG := fun h hv => rregions_any d l v h hv hl
  rw [decide_eq_true hd.2.1, rrgs_fit hd.2.1] at hG
  obtain ⟨ad, fl, rfl, hh⟩ := id hv
  generalize rgs d l = R at *
  obtain ⟨d1, d2, d3⟩ := d
  have hV : ∀ h, Has h (recs enF l) 7 l.length (.slice ad l.length fl) → SRun Tryz.prog 11 [.agg ⟨[I d1, I d2, I d3, .slice ad l.length fl]⟩] h fun r q => r = B true ∧ q = h := hV
  have hG : ∀ h, Has h (recs enF l) 7 l.length (.slice ad l.length fl) → SRun Tryz.prog 29 [.agg ⟨[I d1, I d2, I d3, .slice ad l.length fl]⟩] h fun r q => ∃ A, r = .tuple #[gsl A 0 (R.length * 2) R.length 2, B true] ∧ q = (A, ⟨recs prF R, false⟩) :: h := hG
  show SRun _ _ [.agg ⟨[I d1, I d2, I d3, .slice ad l.length fl]⟩] h _
  refine w_body1 Tryz.func16 rfl rfl ?_
  repeat' (first | apply w_seq | apply w_region | apply o_nil | (apply o_g tyOk; exact rfl; exact rfl) | (apply o_notB; exact rfl; exact rfl) | (apply o_loads tyOk; (iterate 3 exact rfl); (focus (exact pk))) | (apply o_box (tt := tyT); iterate 5 exact rfl) | (apply o_call; exact rfl; exact rfl; (focus (first | exact rfl)); exact rfl; (focus (exact ⟨_, hV _ (hv.re (.drop .nil)), by repeat (first | with_reducible exact Take.nil)⟩)); rintro _ _ ⟨rfl, rfl⟩) | (apply o_call; exact rfl; exact rfl; (focus (first | exact rfl)); exact rfl; (focus (exact ⟨_, hG _ (hv.re (.drop .nil)), by repeat (first | with_reducible exact Take.nil)⟩)); rintro _ _ ⟨A2, rfl, rfl⟩) | (apply w_false; exact rfl) | apply thenS_normal | apply w_skip | apply w_ret | ((with_reducible apply Sd.mk); (first | exact True.intro)) | ((with_reducible apply Ln.mk); (first | rfl)) | ((with_reducible apply Su.mk); (first | exact subAt_all)) | exact True.intro | intro A | exact rfl)
  all_goals first
    | contradiction
    | (apply s_fin; (exact (show ResS _ _ _ _ [_] from ⟨rfl, trivial⟩)); (focus (exact ⟨A2, rfl, rfl⟩)); (focus (repeat (first | with_reducible exact Take.nil | with_reducible apply Take.c | with_reducible apply Take.drop))))
    | trace_state
theorem rDRegions_no (d : Ex3) (l : List Eny) (v : Value) (h : SH) (hv : Has h (recs enF l) 7 l.length v) (hl : l.length ≤ 1000) (hd : ¬ dvl d l) :
    SRun Tryz.prog 16 [drV d v] h fun r q => r = .slice none 0 0 ∧ q = h := by
  have hV := fun h hv => rDValid_any d l v h hv hl
  rw [decide_eq_false hd] at hV
  obtain ⟨ad, fl, rfl, hh⟩ := id hv
  obtain ⟨d1, d2, d3⟩ := d
  have hV : ∀ h, Has h (recs enF l) 7 l.length (.slice ad l.length fl) → SRun Tryz.prog 11 [.agg ⟨[I d1, I d2, I d3, .slice ad l.length fl]⟩] h fun r q => r = B false ∧ q = h := hV
  show SRun _ _ [.agg ⟨[I d1, I d2, I d3, .slice ad l.length fl]⟩] h _
  refine w_body1 Tryz.func16 rfl rfl ?_
  repeat' ((fail_if_success (show SWp _ _ (Code.seq (Code.region 3 _ _) _) _ _ _)); (fail_if_success (show SWp _ _ (Code.region 3 _ _) _ _ _)); first | apply w_seq | apply w_region | apply o_nil | (apply o_g tyOk; exact rfl; exact rfl) | (apply o_notB; exact rfl; exact rfl) | (apply o_loads tyOk; (iterate 3 exact rfl); (focus (exact pk))) | (apply o_box (tt := tyT); iterate 5 exact rfl) | (apply o_call; exact rfl; exact rfl; (focus (first | exact rfl)); exact rfl; (focus (exact ⟨_, hV _ (hv.re (.drop .nil)), by repeat (first | with_reducible exact Take.nil)⟩)); rintro _ _ ⟨rfl, rfl⟩) | (apply w_true; exact rfl) | apply thenS_normal | apply thenS_ret | apply w_ret | ((with_reducible apply Sd.mk); (first | exact True.intro)) | ((with_reducible apply Ln.mk); (first | rfl)) | ((with_reducible apply Su.mk); (first | exact subAt_all)) | exact True.intro | intro A | exact rfl)
  all_goals first
    | contradiction
    | (apply s_fin; (exact (show ResS _ _ _ _ [_] from ⟨rfl, trivial⟩)); (focus (exact ⟨rfl, rfl⟩)); (focus (repeat (first | with_reducible exact Take.nil | with_reducible apply Take.c | with_reducible apply Take.drop))))
    | trace_state
theorem EnO.sl {h q : SH} {l : List Eny} {v : Value} (g : EnO h l v q) : ∃ ad fl, v = .slice ad l.length fl := by
  obtain ⟨ad, fl, e, _⟩ := g.has.1; exact ⟨ad, fl, e⟩
set_option maxRecDepth 8000
/-- The example. -/
abbrev dX : Ex3 := (4, 100, 0)
abbrev lX : List Eny := [(-1, 9, 0, 0, 6, 1, 0), (9, 20, 0, 0, 7, 64, 0)]
abbrev cX : List Value := [I (-1), I 9, I 0, I 0, I 6, I 1, I 0, I 9, I 20, I 0, I 0, I 7, I 64, I 0]
theorem dvlX : dvl dX lX := by decide +kernel
theorem hasX {h h1 : SH} {A : Nat} (p : Pick h A ⟨cX, false⟩ h1) : Has h (recs enF lX) 7 lX.length (gsl A 0 14 2 7) := ⟨_, _, rfl, fun _ => ⟨A, _, _, rfl, p⟩⟩
theorem awakeD_any (h : SH) : SRun Tryz.prog 10 [] h fun r q => r = B true ∧ q = h := by
  obtain ⟨p1, p2, p3, p4⟩ := decD_enc dvlX
  have e1 : ∀ (A : Nat) (h h1 : SH), Pick h A ⟨cX, false⟩ h1 → SRun Tryz.prog 12 [.agg ⟨[I 4, I 100, I 0, gsl A 0 14 2 7]⟩] h fun r q => r = .tuple #[S (encD dX lX).1, I 0] ∧ q = h := fun A h h1 p => by
    have := DEncode_any dX lX _ h (hasX p) (by decide); rwa [p2] at this
  have e2 : ∀ h, SRun Tryz.prog 19 [S (encD dX lX).1] h fun r q => ∃ A, r = .tuple #[.agg ⟨[I 4, I 100, I 0, gsl A 0 14 2 7]⟩, I 0] ∧ q = (A, ⟨cX, false⟩) :: h := fun h =>
    (DDecode_any (encD dX lX).1 h (by omega)).mono fun r q k => by
      rw [p1] at k
      obtain ⟨v, k1, k2⟩ := k
      cases k2 with
      | some A _ => exact ⟨A, k1, rfl⟩
  have e3 : ∀ (A : Nat) (h h1 : SH), Pick h A ⟨cX, false⟩ h1 → SRun Tryz.prog 22 [.agg ⟨[I 4, I 100, I 0, gsl A 0 14 2 7]⟩, I 10] h fun r q => r = .tuple #[I 1, B true] ∧ q = h := fun A h h1 p => Find_any dX lX 10 _ h (hasX p) (by decide)
  have e4 : ∀ (A : Nat) (h h1 : SH), Pick h A ⟨cX, false⟩ h1 → SRun Tryz.prog 13 [.agg ⟨[I 4, I 100, I 0, gsl A 0 14 2 7]⟩] h fun r q => r = B true ∧ q = h := fun A h h1 p => by
    have := DValid_any dX lX _ h (hasX p) (by decide); rwa [decide_eq_true dvlX] at this
  have e5 : ∀ (A A2 : Nat) (h h1 h2 : SH), Pick h A ⟨cX, false⟩ h1 → Pick h A2 ⟨cX, false⟩ h2 → SRun Tryz.prog 21 [.agg ⟨[I 4, I 100, I 0, gsl A 0 14 2 7]⟩, .agg ⟨[I 4, I 100, I 0, gsl A2 0 14 2 7]⟩] h fun r q => r = B true ∧ q = h := fun A A2 h h1 h2 p k => by
    have := rDSame_any dX dX lX lX _ _ h (hasX p) (hasX k) (by decide) (by decide); rwa [decide_eq_true ⟨rfl, rfl⟩] at this
  have e6 : ∀ (A : Nat) (h h1 : SH), Pick h A ⟨cX, false⟩ h1 → SRun Tryz.prog 24 [.agg ⟨[I 4, I 100, I 0, gsl A 0 14 2 7]⟩] h fun r q => r = I 20 ∧ q = h := fun A h h1 p => DEnd_any dX lX _ h (hasX p) (by decide)
  have e7 : ∀ (A : Nat) (h h1 : SH), Pick h A ⟨cX, false⟩ h1 → SRun Tryz.prog 15 [.agg ⟨[I 4, I 100, I 0, gsl A 0 14 2 7]⟩] h fun r q => ∃ A, r = gsl A 0 6 3 2 ∧ q = (A, ⟨recs prF (rgs dX lX), false⟩) :: h := fun A h h1 p => DRegions_any dX lX _ h (hasX p) (by decide) dvlX
  have e8 : ∀ (A A2 : Nat) (h h1 h2 : SH), Pick h A ⟨cX, false⟩ h1 → Pick h A2 ⟨cX, false⟩ h2 → SRun Tryz.prog 20 [.agg ⟨[I 4, I 100, I 0, gsl A 0 14 2 7]⟩, .agg ⟨[I 4, I 100, I 0, gsl A2 0 14 2 7]⟩] h fun r q => r = B true ∧ q = h := fun A A2 h h1 h2 p k => by
    have := DSame_any dX dX lX lX _ _ h (hasX p) (hasX k) (by decide) (by decide); rwa [decide_eq_true ⟨rfl, rfl⟩] at this
  have hne : (encD dX lX).1 ≠ [] := fun k => by rw [k] at p4; exact absurd p4 (by decide)
  generalize (encD dX lX).1 = T at *
  refine w_body0 Tryz.func10 rfl rfl ?_
  repeat' (first | apply w_seq | apply w_region | apply o_nil | (apply o_g tyOk; exact rfl; exact rfl) | (apply o_loads tyOk; (iterate 3 exact rfl); (focus (exact pk))) | (apply o_stores tyOk; (iterate 4 exact rfl); (focus (exact ⟨rfl⟩)); (focus (exact up))) | (apply o_alloc tyOk; iterate 5 exact rfl) | (apply o_build tyOk; exact rfl; exact rfl; (focus (first | with_reducible exact pl23 | with_reducible exact pl26 | with_reducible exact pl48)); exact rfl; (focus (repeat (first | exact BuildR.nil | (apply BuildR.one; exact rfl; exact rfl; (first | (focus ((repeat (first | exact SetAt.zero | apply SetAt.succ)); done)))) | (apply BuildR.agg; exact rfl; exact rfl; (first | exact putAt_h4 | exact putAt_e7))))); exact rfl) | (apply o_buildSlice tyOk; (iterate 5 exact rfl); (focus (decide)); exact rfl; (focus (decide)); (focus (repeat (first | exact CatR.last rfl | (apply CatR.agg; exact rfl)))); exact rfl) | (apply o_call; exact rfl; exact rfl; (focus (first | exact rfl)); exact rfl; (focus (exact ⟨_, e1 _ _ _ pk, by repeat (first | with_reducible exact Take.nil)⟩)); rintro _ _ ⟨rfl, rfl⟩) | (apply o_call; exact rfl; exact rfl; (focus (first | exact rfl)); exact rfl; (focus (exact ⟨_, e2 _, by repeat (first | with_reducible exact Take.nil)⟩)); rintro _ _ ⟨A9, rfl, rfl⟩) | (apply o_call; exact rfl; exact rfl; (focus (first | exact rfl)); exact rfl; (focus (exact ⟨_, e3 _ _ _ pk, by repeat (first | with_reducible exact Take.nil)⟩)); rintro _ _ ⟨rfl, rfl⟩) | (apply o_call; exact rfl; exact rfl; (focus (first | exact rfl)); exact rfl; (focus (exact ⟨_, e4 _ _ _ pk, by repeat (first | with_reducible exact Take.nil)⟩)); rintro _ _ ⟨rfl, rfl⟩) | (apply o_call; exact rfl; exact rfl; (focus (first | exact rfl)); exact rfl; (focus (exact ⟨_, e5 _ _ _ _ _ pk pk, by repeat (first | with_reducible exact Take.nil)⟩)); rintro _ _ ⟨rfl, rfl⟩) | (apply o_call; exact rfl; exact rfl; (focus (first | exact rfl)); exact rfl; (focus (exact ⟨_, e6 _ _ _ pk, by repeat (first | with_reducible exact Take.nil)⟩)); rintro _ _ ⟨rfl, rfl⟩) | (apply o_call; exact rfl; exact rfl; (focus (first | exact rfl)); exact rfl; (focus (exact ⟨_, e7 _ _ _ pk, by repeat (first | with_reducible exact Take.nil)⟩)); rintro _ _ ⟨A8, rfl, rfl⟩) | (apply o_call; exact rfl; exact rfl; (focus (first | exact rfl)); exact rfl; (focus (exact ⟨_, e8 _ _ _ _ _ pk pk, by repeat (first | with_reducible exact Take.nil)⟩)); rintro _ _ ⟨rfl, rfl⟩) | (apply o_want; exact rfl; exact rfl) | (apply o_gT; (iterate 3 exact rfl); (focus (first | omega))) | apply thenS_normal | apply w_ret | ((with_reducible apply Sd.mk); (first | exact True.intro)) | ((with_reducible apply Ln.mk); (first | rfl)) | ((with_reducible apply Pu.mk); (first | exact putAt_all rfl)) | ((with_reducible apply Su.mk); (first | exact subAt_all)) | exact True.intro | intro A | exact rfl)
  all_goals first
    | contradiction
    | (exfalso; exact ‹¬ _› hne)
    | (apply s_fin; (exact (show ResS _ _ _ _ [_] from ⟨rfl, trivial⟩)); (focus (exact ⟨rfl, rfl⟩)); (focus (repeat (first | with_reducible exact Take.nil | with_reducible apply Take.c | with_reducible apply Take.drop))))
    | trace_state
abbrev okX (x : Ex3) : Prop := (Lit.int .i64 x.1).wf = true ∧ (Lit.int .i64 x.2.1).wf = true ∧ (Lit.int .i64 x.2.2).wf = true
abbrev okY (x : Eny) : Prop := (Lit.int .i64 x.1).wf = true ∧ (Lit.int .i64 x.2.1).wf = true ∧ (Lit.int .i64 x.2.2.1).wf = true ∧ (Lit.int .i64 x.2.2.2.1).wf = true ∧ okX x.2.2.2.2
end Go.Proofs.YtncnmfdmbfbfjaaGreat
end
section
set_option linter.unusedVariables false
set_option linter.unusedSimpArgs false
set_option maxRecDepth 4000
namespace Go.Proofs.YtncnmfdmbfbfjaaGreat
open Go.Gh Go.RowKit
set_option maxRecDepth 8000

theorem hasRg {q h1 : SH} {A : Nat} {R : List Rg} (p : Pick q A ⟨recs prF R, false⟩ h1) : Has q (recs prF R) 2 R.length (gsl A 0 (R.length * 2) R.length 2) := ⟨_, _, rfl, fun _ => ⟨A, _, _, by rw [Nat.mul_comm], p⟩⟩
set_option maxHeartbeats 4000000 in
theorem FormD_any (d : Ex3) (l : List Eny) (v : Value) (h : SH) (_ : okX d) (hv : Has h (recs enF l) 7 l.length v) (_ : ∀ x ∈ l, okY x) (_ : l.length ≤ maxLen) :
    SRun Tryz.prog 3 [drV d v] h fun r q => r = B true := by
  obtain ⟨ad, fl, rfl, hh⟩ := id hv
  have hvl := hv.lock
  by_cases hl : l.length ≤ 40
  · have hV := fun h hv => DValid_any d l (.slice ad l.length fl) h hv (by omega)
    have hV2 := fun h hv => rDValid_any d l (.slice ad l.length fl) h hv (by omega)
    have hE := fun h hv => DEncode_any d l (.slice ad l.length fl) h hv (by omega)
    by_cases hd : dvl d l
    · rw [decide_eq_true hd] at hV hV2
      have hR := fun h hv => DRegions_any d l (.slice ad l.length fl) h hv (by omega) hd
      have hR2 := fun h hv => rDRegions_any d l (.slice ad l.length fl) h hv (by omega) hd
      have hT := fun h hv => text_any d l (.slice ad l.length fl) h hv hd
      have htl := txtD_le (d := d) hd.1
      have hw := wrp7 (c := txtD d l) (by omega)
      have hW := fun h => Wrap_any 7 (txtD d l) h (by omega)
      have hec : encD d l = wrp 7 (txtD d l) := if_pos hd
      have hrl : (rgs d l).length ≤ 100 := by have := hd.1; simp [rgs]; omega
      rw [hec] at hE
      rw [hw] at hE hW
      have hS := fun (v w : Value) (h : SH) hv hw => Same_any (rgs d l) (rgs d l) v w h hv hw (by omega) (by omega)
      rw [decide_eq_true rfl] at hS
      generalize (wrp 7 (txtD d l)).1 = T at *
      generalize txtD d l = X at *
      generalize rgs d l = R at *
      obtain ⟨d1, d2, d3⟩ := d
      have hV : ∀ h, Has h (recs enF l) 7 l.length (.slice ad l.length fl) → SRun Tryz.prog 13 [.agg ⟨[I d1, I d2, I d3, .slice ad l.length fl]⟩] h fun r q => r = B true ∧ q = h := hV
      have hV2 : ∀ h, Has h (recs enF l) 7 l.length (.slice ad l.length fl) → SRun Tryz.prog 11 [.agg ⟨[I d1, I d2, I d3, .slice ad l.length fl]⟩] h fun r q => r = B true ∧ q = h := hV2
      have hE : ∀ h, Has h (recs enF l) 7 l.length (.slice ad l.length fl) → SRun Tryz.prog 12 [.agg ⟨[I d1, I d2, I d3, .slice ad l.length fl]⟩] h fun r q => r = .tuple #[S T, I 0] ∧ q = h := hE
      have hR : ∀ h, Has h (recs enF l) 7 l.length (.slice ad l.length fl) → SRun Tryz.prog 15 [.agg ⟨[I d1, I d2, I d3, .slice ad l.length fl]⟩] h fun r q => ∃ A, r = gsl A 0 (R.length * 2) R.length 2 ∧ q = (A, ⟨recs prF R, false⟩) :: h := hR
      have hR2 : ∀ h, Has h (recs enF l) 7 l.length (.slice ad l.length fl) → SRun Tryz.prog 16 [.agg ⟨[I d1, I d2, I d3, .slice ad l.length fl]⟩] h fun r q => ∃ A, r = gsl A 0 (R.length * 2) R.length 2 ∧ q = (A, ⟨recs prF R, false⟩) :: h := hR2
      have hT : ∀ h, Has h (recs enF l) 7 l.length (.slice ad l.length fl) → SRun Tryz.prog 18 [.agg ⟨[I d1, I d2, I d3, .slice ad l.length fl]⟩] h fun r q => r = S X ∧ q = h := hT
      have hW : ∀ h, SRun Tryz.prog 17 [.agg ⟨[I 7, S X]⟩] h fun r q => r = .tuple #[S T, I 0] ∧ q = h := hW
      show SRun _ _ [.agg ⟨[I d1, I d2, I d3, .slice ad l.length fl]⟩] h _
      refine w_body1 Tryz.func3 rfl rfl ?_
      repeat' (first | apply w_seq | apply w_region | apply o_nil | (apply w_draw; (focus (kernel_rfl)); (focus (kernel_rfl))) | (apply o_g tyOk; exact rfl; exact rfl) | (apply o_notB; exact rfl; exact rfl) | (apply o_load tyOk; (iterate 3 exact rfl); (focus (exact pk))) | (apply o_loads tyOk; (iterate 3 exact rfl); (focus (exact pk))) | (apply o_box (tt := tyT); iterate 5 exact rfl) | (apply o_build tyOk; exact rfl; exact rfl; (focus (first | with_reducible exact pl38)); exact rfl; (focus (repeat (first | exact BuildR.nil | (apply BuildR.one; exact rfl; exact rfl; (first | (focus ((repeat (first | exact SetAt.zero | apply SetAt.succ)); done))))))); exact rfl) | (apply o_call; exact rfl; exact rfl; (focus (first | exact rfl)); exact rfl; (focus (exact ⟨_, awakeD_any _, by repeat (first | with_reducible exact Take.nil)⟩)); rintro _ _ ⟨rfl, rfl⟩) | (apply o_call; exact rfl; exact rfl; (focus (first | exact rfl)); exact rfl; (focus (exact ⟨_, hV2 _ (hv.re (.drop .nil)), by repeat (first | with_reducible exact Take.nil)⟩)); rintro _ _ ⟨rfl, rfl⟩) | (apply o_call; exact rfl; exact rfl; (focus (first | exact rfl)); exact rfl; (focus (exact ⟨_, hE _ (hv.re (.drop .nil)), by repeat (first | with_reducible exact Take.nil)⟩)); rintro _ _ ⟨rfl, rfl⟩) | (apply o_callD; (iterate 4 exact rfl); (focus (exact ⟨_, hV (lockS h) hvl, by repeat (first | with_reducible exact Take.nil | with_reducible apply take_lock | with_reducible apply Take.drop)⟩)); (focus (exact fun _ _ h => h.1)); (focus ((repeat (first | exact Flat.c rfl))))) | (apply o_callE1; (iterate 4 exact rfl); (focus (exact ⟨hR _ (hv.re (.drop .nil)), by repeat (first | with_reducible exact Take.nil)⟩)); (focus ((intro _; (first | exact List.Perm.refl _)))); (focus ((intro A1 A2 ρ D e1 d1 hρ hD; refine ⟨?_, ?_⟩; (focus (repeat (first | (apply VR.slc'; (focus (first | exact e1)); (focus (first | exact d1)))))); (focus (repeat (first | ((apply SHR.same); (focus (intro x hx; (repeat (first | exact hx)); done))) | (apply SHR.cons; (focus (first | exact e1)); (focus (repeat (first | ((apply VRs.const); (focus (first | exact recs_const (fun _ v hv => by simp only [List.mem_cons, List.not_mem_nil, or_false] at hv; rcases hv with rfl | rfl | rfl | rfl | rfl <;> rfl))))))))))))))) | (apply o_callE1; (iterate 4 exact rfl); (focus (exact ⟨hR2 _ (hv.re (.drop (.drop .nil))), by repeat (first | with_reducible exact Take.nil)⟩)); (focus ((intro _; (first | exact List.Perm.refl _)))); (focus ((intro A1 A2 ρ D e1 d1 hρ hD; refine ⟨?_, ?_⟩; (focus (repeat (first | (apply VR.slc'; (focus (first | exact e1)); (focus (first | exact d1)))))); (focus (repeat (first | ((apply SHR.same); (focus (intro x hx; (repeat (first | exact hx)); done))) | (apply SHR.cons; (focus (first | exact e1)); (focus (repeat (first | ((apply VRs.const); (focus (first | exact recs_const (fun _ v hv => by simp only [List.mem_cons, List.not_mem_nil, or_false] at hv; rcases hv with rfl | rfl | rfl | rfl | rfl <;> rfl))))))))))))))) | (apply o_callD; (iterate 4 exact rfl); (focus (exact ⟨_, hS _ _ _ (hasRg (.tail .head)).lock (hasRg .head).lock, by repeat (first | with_reducible exact Take.nil)⟩)); (focus (exact fun _ _ h => h.1)); (focus ((repeat (first | exact Flat.c rfl))))) | (apply o_call; exact rfl; exact rfl; (focus (first | exact rfl)); exact rfl; (focus (exact ⟨_, hT _ (hv.re (.drop .nil)), by repeat (first | with_reducible exact Take.nil | with_reducible apply Take.drop)⟩)); rintro _ _ ⟨rfl, rfl⟩) | (apply o_call; exact rfl; exact rfl; (focus (first | exact rfl)); exact rfl; (focus (exact ⟨_, hW _, by repeat (first | with_reducible exact Take.nil)⟩)); rintro _ _ ⟨rfl, rfl⟩) | (apply o_want; exact rfl; exact rfl) | (apply w_false; exact rfl) | (apply w_dF; exact rfl; (focus (first | omega))) | apply thenS_normal | apply w_skip | apply w_ret | ((with_reducible apply Sd.mk); (first | exact True.intro)) | ((with_reducible apply Ln.mk); (first | rfl)) | ((with_reducible apply Ce.mk); (first | rfl)) | ((with_reducible apply Su.mk); (first | exact subAt_all)) | exact True.intro | refine Rc.mk ⟨_, _, pk, ?_⟩ | exact Or.inl rfl | refine Or.inr (And.intro ?_ ?_) | apply And.intro | intro A | exact rfl)
      all_goals first
        | contradiction
        | (exfalso; omega)
        | (apply s_fin; (exact (show ResS _ _ _ _ [_] from ⟨rfl, trivial⟩)); (focus (show B _ = B true; simp)); (focus (repeat (first | with_reducible exact Take.nil | with_reducible apply Take.c | with_reducible apply Take.drop))))
        | (apply s_fin; (exact (show ResS _ _ _ _ [_] from ⟨rfl, trivial⟩)); (focus (exact rfl)); (focus (repeat (first | with_reducible exact Take.nil | with_reducible apply Take.c | with_reducible apply Take.drop))))
        | trace_state
    · rw [decide_eq_false hd] at hV hV2
      have hR := fun h hv => DRegions_no d l (.slice ad l.length fl) h hv (by omega) hd
      have hR2 := fun h hv => rDRegions_no d l (.slice ad l.length fl) h hv (by omega) hd
      rw [show encD d l = ([], 1) from if_neg hd] at hE
      have hS := fun h => Same_any [] [] (.slice none 0 0) (.slice none 0 0) h ⟨none, 0, rfl, fun k => absurd rfl k⟩ ⟨none, 0, rfl, fun k => absurd rfl k⟩ (by decide) (by decide)
      rw [decide_eq_true rfl] at hS
      obtain ⟨d1, d2, d3⟩ := d
      have hV : ∀ h, Has h (recs enF l) 7 l.length (.slice ad l.length fl) → SRun Tryz.prog 13 [.agg ⟨[I d1, I d2, I d3, .slice ad l.length fl]⟩] h fun r q => r = B false ∧ q = h := hV
      have hV2 : ∀ h, Has h (recs enF l) 7 l.length (.slice ad l.length fl) → SRun Tryz.prog 11 [.agg ⟨[I d1, I d2, I d3, .slice ad l.length fl]⟩] h fun r q => r = B false ∧ q = h := hV2
      have hE : ∀ h, Has h (recs enF l) 7 l.length (.slice ad l.length fl) → SRun Tryz.prog 12 [.agg ⟨[I d1, I d2, I d3, .slice ad l.length fl]⟩] h fun r q => r = .tuple #[S [], I 1] ∧ q = h := hE
      have hR : ∀ h, Has h (recs enF l) 7 l.length (.slice ad l.length fl) → SRun Tryz.prog 15 [.agg ⟨[I d1, I d2, I d3, .slice ad l.length fl]⟩] h fun r q => r = .slice none 0 0 ∧ q = h := hR
      have hR2 : ∀ h, Has h (recs enF l) 7 l.length (.slice ad l.length fl) → SRun Tryz.prog 16 [.agg ⟨[I d1, I d2, I d3, .slice ad l.length fl]⟩] h fun r q => r = .slice none 0 0 ∧ q = h := hR2
      show SRun _ _ [.agg ⟨[I d1, I d2, I d3, .slice ad l.length fl]⟩] h _
      refine w_body1 Tryz.func3 rfl rfl ?_
      repeat' (first | apply w_seq | apply w_region | apply o_nil | (apply w_draw; (focus (kernel_rfl)); (focus (kernel_rfl))) | (apply o_g tyOk; exact rfl; exact rfl) | (apply o_notB; exact rfl; exact rfl) | (apply o_load tyOk; (iterate 3 exact rfl); (focus (exact pk))) | (apply o_loads tyOk; (iterate 3 exact rfl); (focus (exact pk))) | (apply o_box (tt := tyT); iterate 5 exact rfl) | (apply o_call; exact rfl; exact rfl; (focus (first | exact rfl)); exact rfl; (focus (exact ⟨_, awakeD_any _, by repeat (first | with_reducible exact Take.nil)⟩)); rintro _ _ ⟨rfl, rfl⟩) | (apply o_call; exact rfl; exact rfl; (focus (first | exact rfl)); exact rfl; (focus (exact ⟨_, hV2 _ (hv.re (.drop .nil)), by repeat (first | with_reducible exact Take.nil)⟩)); rintro _ _ ⟨rfl, rfl⟩) | (apply o_call; exact rfl; exact rfl; (focus (first | exact rfl)); exact rfl; (focus (exact ⟨_, hE _ (hv.re (.drop .nil)), by repeat (first | with_reducible exact Take.nil)⟩)); rintro _ _ ⟨rfl, rfl⟩) | (apply o_callD; (iterate 4 exact rfl); (focus (exact ⟨_, hV (lockS h) hvl, by repeat (first | with_reducible exact Take.nil | with_reducible apply take_lock | with_reducible apply Take.drop)⟩)); (focus (exact fun _ _ h => h.1)); (focus ((repeat (first | exact Flat.c rfl))))) | (apply o_callD; (iterate 4 exact rfl); (focus (exact ⟨_, hR (lockS h) hvl, by repeat (first | with_reducible exact Take.nil | with_reducible apply take_lock | with_reducible apply Take.drop)⟩)); (focus (exact fun _ _ h => h.1)); (focus ((repeat (first | exact Flat.c rfl))))) | (apply o_callD; (iterate 4 exact rfl); (focus (exact ⟨_, hR2 (lockS h) hvl, by repeat (first | with_reducible exact Take.nil | with_reducible apply take_lock | with_reducible apply Take.drop)⟩)); (focus (exact fun _ _ h => h.1)); (focus ((repeat (first | exact Flat.c rfl))))) | (apply o_callD; (iterate 4 exact rfl); (focus (exact ⟨_, hS (lockS h), by repeat (first | with_reducible exact Take.nil | with_reducible apply take_lock | with_reducible apply Take.drop)⟩)); (focus (exact fun _ _ h => h.1)); (focus ((repeat (first | exact Flat.c rfl))))) | (apply o_want; exact rfl; exact rfl) | (apply w_true; exact rfl) | (apply w_false; exact rfl) | (apply w_dF; exact rfl; (focus (first | omega))) | apply thenS_normal | apply thenS_ret | apply w_skip | apply w_ret | ((with_reducible apply Sd.mk); (first | exact True.intro)) | ((with_reducible apply Ln.mk); (first | rfl)) | ((with_reducible apply Ce.mk); (first | rfl)) | ((with_reducible apply Su.mk); (first | exact subAt_all)) | exact True.intro | intro A | exact rfl)
      all_goals first
        | contradiction
        | (exfalso; omega)
        | (apply s_fin; (exact (show ResS _ _ _ _ [_] from ⟨rfl, trivial⟩)); (focus (show B _ = B true; simp)); (focus (repeat (first | with_reducible exact Take.nil | with_reducible apply Take.c | with_reducible apply Take.drop))))
        | (apply s_fin; (exact (show ResS _ _ _ _ [_] from ⟨rfl, trivial⟩)); (focus (exact rfl)); (focus (repeat (first | with_reducible exact Take.nil | with_reducible apply Take.c | with_reducible apply Take.drop))))
        | trace_state
  · obtain ⟨d1, d2, d3⟩ := d
    show SRun _ _ [.agg ⟨[I d1, I d2, I d3, .slice ad l.length fl]⟩] h _
    refine w_body1 Tryz.func3 rfl rfl ?_
    repeat' ((fail_if_success (show SWp _ _ (Code.seq (Code.region 5 _ _) _) _ _ _)); (fail_if_success (show SWp _ _ (Code.region 5 _ _) _ _ _)); first | apply w_seq | apply w_region | apply o_nil | (apply o_g tyOk; exact rfl; exact rfl) | (apply o_notB; exact rfl; exact rfl) | (apply o_load tyOk; (iterate 3 exact rfl); (focus (exact pk))) | (apply o_box (tt := tyT); iterate 5 exact rfl) | (apply o_call; exact rfl; exact rfl; (focus (first | exact rfl)); exact rfl; (focus (exact ⟨_, awakeD_any _, by repeat (first | with_reducible exact Take.nil)⟩)); rintro _ _ ⟨rfl, rfl⟩) | (apply w_false; exact rfl) | (apply w_dT; exact rfl; (focus (first | omega))) | apply thenS_normal | apply thenS_ret | apply w_skip | apply w_ret | ((with_reducible apply Sd.mk); (first | exact True.intro)) | ((with_reducible apply Ln.mk); (first | rfl)) | ((with_reducible apply Ce.mk); (first | rfl)) | exact True.intro | intro A | exact rfl)
    all_goals first
      | contradiction
      | (exfalso; omega)
      | (apply s_fin; (exact (show ResS _ _ _ _ [_] from ⟨rfl, trivial⟩)); (focus (exact rfl)); (focus (repeat (first | with_reducible exact Take.nil | with_reducible apply Take.c | with_reducible apply Take.drop))))
      | trace_state
end Go.Proofs.YtncnmfdmbfbfjaaGreat
end
