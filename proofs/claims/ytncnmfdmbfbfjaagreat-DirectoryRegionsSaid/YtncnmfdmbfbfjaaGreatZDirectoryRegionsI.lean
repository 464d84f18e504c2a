/- Part 9 of the proof of the law DirectoryRegions: texts merged. No condition. -/
import Derived.Test.YtncnmfdmbfbfjaaGreatZDirectoryRegionsH
section
set_option linter.unusedVariables false
set_option linter.unusedSimpArgs false
set_option maxRecDepth 4000
namespace Go.Proofs.YtncnmfdmbfbfjaaGreat
open Go.Gh Go.RowKit

/-- The bytes of numbers. -/
def numT (L : List Int) : List UInt8 := L.flatMap vnum
theorem numT_snoc (L : List Int) (x : Int) : numT (L ++ [x]) = numT L ++ vnum x := by simp [numT]
theorem vnum_le (n : Int) : (vnum n).length ≤ 9 := by
  unfold vnum
  split
  · exact Nat.zero_le _
  · rename_i h
    have h1 := (vk_ok (n := n) (by omega)).2
    have : ∀ (k : Nat) (m : Int) (T : List UInt8), (vbe k m T).1.length = k + T.length := by
      intro k
      induction k with
      | zero => intro m T; show T.length = 0 + T.length; omega
      | succ k ih => intro m T; unfold vbe; rw [ih]; simp only [List.length_cons]; omega
    rw [List.length_cons, this]
    simp only [List.length_nil]
    omega
theorem numT_le (L : List Int) : (numT L).length ≤ 9 * L.length := by
  induction L with
  | nil => exact Nat.zero_le _
  | cons x r ih =>
    have h1 := vnum_le x
    have h2 : numT (x :: r) = vnum x ++ numT r := rfl
    rw [h2, List.length_append, List.length_cons]
    omega
abbrev iv1 (z : Int) : Value := I z
theorem numbers_any (L : List Int) (v : Value) (h : SH) (hv : Has h (L.map iv1) 1 L.length v) (hl : L.length ≤ 1000) (hx : ∀ x ∈ L, x ≤ 9223372036854775807) :
    SRun Tryz.prog 31 [v] h fun r q => r = S (numT L) ∧ q = h := by
  obtain ⟨ad, fl, rfl, hh⟩ := hv
  refine w_body1 Tryz.func31 rfl rfl ?_
  repeat' (first | apply w_seq | apply w_region | apply o_nil | (apply o_g tyOk; exact rfl; exact rfl) | apply thenS_normal | apply w_block | ((with_reducible apply Sd.mk); (first | exact True.intro)))
  refine w_loop (S := Nat) (fun i => [(3, S (numT (L.take i))), (6, .slice ad L.length fl), (7, I L.length), (8, I i)]) (fun _ => h) (fun i => i ≤ L.length) (fun i => L.length - i) 0 (Nat.zero_le _) (by repeat' (first | exact trivial | refine ⟨rfl, ?_⟩ | refine ⟨congrArg some ?_, ?_⟩)) (by repeat (first | with_reducible exact Take.nil | with_reducible apply Take.c | with_reducible apply Take.drop)) ?_
  rintro i hi
  by_cases hil : i < L.length
  · obtain ⟨A', ro, hx1, rfl, hp⟩ := hh (by omega)
    have htb := stake_bang hil
    have hN := fun h => Number_any L[i]! h (hx _ (sbang_mem hil))
    have hml : (L.map iv1).length = L.length := List.length_map ..
    have hcell : (L.map iv1)[0 + ((i : Int)).toNat * 1]? = some (I L[i]!) := cell_mapZ hil
    generalize L[i]! = x at *
    have hb1 := numT_le (L.take i)
    have hb2 := vnum_le x
    have hb3 : (L.take i).length ≤ 1000 := by rw [List.length_take]; omega
    have hns : numT (L.take (i + 1)) = numT (L.take i) ++ vnum x := by rw [htb, numT_snoc]
    repeat' (first | apply w_seq | apply w_region | apply o_nil | (apply o_g tyOk; exact rfl; exact rfl) | (apply o_ar tyOk; exact rfl; exact rfl) | (apply o_load tyOk; (iterate 3 exact rfl); (focus (exact pk))) | (apply o_call; exact rfl; exact rfl; (focus (first | exact rfl)); exact rfl; (focus (exact ⟨_, hN _, by repeat (first | with_reducible exact Take.nil)⟩)); rintro _ _ ⟨rfl, rfl⟩) | (apply w_dT; exact rfl; (focus (first | omega))) | apply thenS_normal | apply blockS_normal | apply w_skip | apply w_block | ((with_reducible apply Sd.mk); (first | exact True.intro | omega)) | ((with_reducible apply Ln.mk); (first | (simp [hml]; first | done | omega))) | ((with_reducible apply Wr.mk); (first | exact IntWalk.i64_in _ (by omega))) | ((with_reducible apply Ce.mk); (first | exact hcell)) | exact True.intro | exact rfl)
    all_goals first
      | (exfalso; omega)
      | exact ⟨i + 1, hil, by show L.length - (i + 1) < L.length - i; omega, by rw [hns]; exact (by repeat' (first | exact trivial | refine ⟨rfl, ?_⟩ | refine ⟨congrArg some ?_, ?_⟩)), (by repeat (first | with_reducible exact Take.nil | with_reducible apply Take.c | with_reducible apply Take.drop))⟩
      | trace_state
  · obtain rfl : i = L.length := by omega
    rw [List.take_length]
    repeat' (first | apply w_seq | apply w_region | apply o_nil | (apply o_g tyOk; exact rfl; exact rfl) | (apply w_dF; exact rfl; (focus (first | omega))) | apply thenS_normal | apply thenS_exit | apply blockS_exit | apply w_ret | apply w_exit | ((with_reducible apply Sd.mk); (first | exact True.intro)))
    all_goals first
      | (exfalso; omega)
      | (apply s_fin; (exact (show ResS _ _ _ _ [_] from ⟨rfl, trivial⟩)); (focus (exact ⟨rfl, rfl⟩)); (focus (repeat (first | with_reducible exact Take.nil | with_reducible apply Take.c | with_reducible apply Take.drop))))
      | trace_state
/-- The numbers of an entry. -/
def enN (e : Eny) : List Int := [e.2.1 - e.1, e.2.2.1, e.2.2.2.1, e.2.2.2.2.1, e.2.2.2.2.2.1, e.2.2.2.2.2.2]
def exN (x : Ex3) : List Int := [x.1, x.2.1, x.2.2]
def txtD (d : Ex3) (l : List Eny) : List UInt8 := numT (exN d ++ [(l.length : Int)]) ++ l.flatMap fun e => numT (enN e)
theorem ents_in : ∀ {l : List Eny} {a : Int}, -1 ≤ a → ents a l → ∀ e ∈ l, -1 ≤ e.1 ∧ e.1 < e.2.1 ∧ e.2.1 ≤ 1099511627776 ∧ lvl e
  | [], _, _, _, e, he => by cases he
  | x :: r, a, ha, h, e, he => by
    obtain ⟨⟨h1, h2, h3, h4⟩, h5⟩ := h
    rcases List.mem_cons.1 he with rfl | he
    · exact ⟨by omega, h2, h3, h4⟩
    · exact ents_in (l := r) (by omega) h5 e he
theorem fmT_le : ∀ l : List Eny, (l.flatMap fun e => numT (enN e)).length ≤ 54 * l.length := by
  intro l
  induction l with
  | nil => exact Nat.zero_le _
  | cons e r ih =>
    have g1 := numT_le (enN e)
    have g2 : (enN e).length = 6 := rfl
    rw [List.flatMap_cons, List.length_append, List.length_cons]
    omega
theorem txtD_le {d : Ex3} {l : List Eny} (h : l.length ≤ 32) : (txtD d l).length ≤ 1764 := by
  have h1 := numT_le (exN d ++ [(l.length : Int)])
  have h2 : (exN d ++ [(l.length : Int)]).length = 4 := rfl
  have h4 := fmT_le l
  unfold txtD
  rw [List.length_append]
  omega
/-- What Encode gives. -/
def encD (d : Ex3) (l : List Eny) : List UInt8 × Int := if dvl d l then wrp 7 (txtD d l) else ([], 1)
theorem DEncode_any (d : Ex3) (l : List Eny) (v : Value) (h : SH) (hv : Has h (recs enF l) 7 l.length v) (hl : l.length ≤ 1000) :
    SRun Tryz.prog 12 [drV d v] h fun r q => r = .tuple #[S (encD d l).1, I (encD d l).2] ∧ q = h := by
  have hV := fun h hv => DValid_any d l v h hv hl
  obtain ⟨ad, fl, rfl, hh⟩ := id hv
  have hlb := en_len l
  unfold encD
  by_cases hd : dvl d l
  · rw [if_pos hd]
    rw [decide_eq_true hd] at hV
    have hW := fun h => Wrap_any 7 (txtD d l) h (by have := txtD_le (d := d) hd.1; omega)
    generalize wrp 7 (txtD d l) = T at *
    have hin := ents_in (by omega) hd.2.2.1
    have hft := hd.2.1.2
    have hfd := hd.2.1.1
    have htx : txtD d l = numT (exN d ++ [(l.length : Int)]) ++ (l.take l.length).flatMap fun e => numT (enN e) := by rw [List.take_length]; rfl
    obtain ⟨d1, d2, d3⟩ := d
    have hf1 := hfd.1; have hf2 := hfd.2.1; have hf3 := hfd.2.2.1; have hf4 := hfd.2.2.2.1; have hf5 := hfd.2.2.2.2.1; have hf6 := hfd.2.2.2.2.2.1
    dsimp only at hf1 hf2 hf3 hf4 hf5 hf6
    have hV : ∀ h, Has h (recs enF l) 7 l.length (.slice ad l.length fl) → SRun Tryz.prog 13 [.agg ⟨[I d1, I d2, I d3, .slice ad l.length fl]⟩] h fun r q => r = B true ∧ q = h := hV
    show SRun _ _ [.agg ⟨[I d1, I d2, I d3, .slice ad l.length fl]⟩] h _
    have hN1 : ∀ (A : Nat) (h : SH), SRun Tryz.prog 31 [gsl A 0 4 4 1] ((A, ⟨[I d1, I d2, I d3, I l.length], false⟩) :: h) fun r q => r = S (numT (exN (d1, d2, d3) ++ [(l.length : Int)])) ∧ q = (A, ⟨[I d1, I d2, I d3, I l.length], false⟩) :: h := fun A h =>
      numbers_any (exN (d1, d2, d3) ++ [(l.length : Int)]) (gsl A 0 4 4 1) _ ⟨_, _, rfl, fun _ => ⟨A, _, _, rfl, .head⟩⟩ (by show 4 ≤ 1000; omega) (fun x hx => by
        have hx : x = d1 ∨ x = d2 ∨ x = d3 ∨ x = (l.length : Int) := by simpa [exN] using hx
        omega)
    refine w_body1 Tryz.func12 rfl rfl ?_
    repeat' (first | apply w_seq | apply w_region | apply o_nil | (apply o_g tyOk; exact rfl; exact rfl) | (apply o_notB; exact rfl; exact rfl) | (apply o_load tyOk; (iterate 3 exact rfl); (focus (exact pk))) | (apply o_loads tyOk; (iterate 3 exact rfl); (focus (exact pk))) | (apply o_box (tt := tyT); iterate 5 exact rfl) | (apply o_buildSlice tyOk; (iterate 5 exact rfl); (focus (decide)); exact rfl; (focus (decide)); (focus (repeat (first | exact CatR.nil | (apply CatR.one; exact rfl; exact rfl)))); exact rfl) | (apply o_call; exact rfl; exact rfl; (focus (first | exact rfl)); exact rfl; (focus (exact ⟨_, hV _ (hv.re (.drop .nil)), by repeat (first | with_reducible exact Take.nil)⟩)); rintro _ _ ⟨rfl, rfl⟩) | (apply o_call; exact rfl; exact rfl; (focus (first | exact rfl)); exact rfl; (focus (exact ⟨_, hN1 _ _, by repeat (first | with_reducible exact Take.nil)⟩)); rintro _ _ ⟨rfl, rfl⟩) | (apply w_false; exact rfl) | apply thenS_normal | apply w_skip | apply w_block | ((with_reducible apply Sd.mk); (first | exact True.intro)) | ((with_reducible apply Ln.mk); (first | rfl)) | ((with_reducible apply Ce.mk); (first | rfl)) | ((with_reducible apply Su.mk); (first | exact subAt_all)) | exact True.intro | intro A | exact rfl)
    all_goals first | contradiction | (exfalso; omega) | skip
    refine w_loop (S := Nat) (fun i => [(4, S (numT (exN (d1, d2, d3) ++ [(l.length : Int)]) ++ (l.take i).flatMap fun e => numT (enN e))), (25, .slice ad l.length fl), (26, I l.length), (27, I i)]) (fun _ => h)
      (fun i => i ≤ l.length) (fun i => l.length - i) 0 (Nat.zero_le _) (by rw [List.take_zero, List.flatMap_nil, List.append_nil]; exact (by repeat' (first | exact trivial | refine ⟨rfl, ?_⟩ | refine ⟨congrArg some ?_, ?_⟩))) (by repeat (first | with_reducible exact Take.nil | with_reducible apply Take.c | with_reducible apply Take.drop)) ?_
    rintro i hi
    by_cases hil : i < l.length
    · obtain ⟨A', ro, hx1, rfl, hp⟩ := hh (by omega)
      have htb := stake_bang hil
      have hmem := sbang_mem hil
      have hi1 := hin _ hmem
      have hi2 := hft _ hmem
      obtain ⟨x, hx⟩ : ∃ x, x = l[i]! := ⟨_, rfl⟩
      rw [← hx] at htb hi1 hi2
      obtain ⟨x1, x2, x3, x4, y1, y2, y3⟩ := x
      have hsub : SubAt (recs enF l) (0 + ((i : Int)).toNat * 7) [I x1, I x2, I x3, I x4, I y1, I y2, I y3] := by rw [show [I x1, I x2, I x3, I x4, I y1, I y2, I y3] = enF l[i]! by rw [← hx]]; exact subAt_recZ (fun _ => rfl) hil
      unfold lvl at hi1
      unfold fit at hi2
      dsimp only [plc] at hi1 hi2
      have hw : x2 - x1 ≤ 9223372036854775807 ∧ -9223372036854775808 ≤ x2 - x1 := by omega
      have hN2 : ∀ (A : Nat) (h : SH), SRun Tryz.prog 31 [gsl A 0 6 6 1] ((A, ⟨[I (x2 - x1), I x3, I x4, I y1, I y2, I y3], false⟩) :: h) fun r q => r = S (numT (enN (x1, x2, x3, x4, y1, y2, y3))) ∧ q = (A, ⟨[I (x2 - x1), I x3, I x4, I y1, I y2, I y3], false⟩) :: h := fun A h =>
        numbers_any (enN (x1, x2, x3, x4, y1, y2, y3)) (gsl A 0 6 6 1) _ ⟨_, _, rfl, fun _ => ⟨A, _, _, rfl, .head⟩⟩ (by show 6 ≤ 1000; omega) (fun x hx => by
          have hx : x = x2 - x1 ∨ x = x3 ∨ x = x4 ∨ x = y1 ∨ x = y2 ∨ x = y3 := by simpa [enN] using hx
          omega)
      have hb1 := numT_le (exN (d1, d2, d3) ++ [(l.length : Int)])
      have hb2 := fmT_le (l.take i)
      have hb3 : (l.take i).length ≤ 1000 := by rw [List.length_take]; omega
      have hb4 := numT_le (enN (x1, x2, x3, x4, y1, y2, y3))
      have hb5 : (exN (d1, d2, d3) ++ [(l.length : Int)]).length = 4 := rfl
      have hb6 : (enN (x1, x2, x3, x4, y1, y2, y3)).length = 6 := rfl
      have hfm : (l.take (i + 1)).flatMap (fun e => numT (enN e)) = (l.take i).flatMap (fun e => numT (enN e)) ++ numT (enN (x1, x2, x3, x4, y1, y2, y3)) := by rw [htb, List.flatMap_append]; simp
      repeat' (first | apply w_seq | apply w_region | apply o_nil | (apply o_g tyOk; exact rfl; exact rfl) | (apply o_ar tyOk; exact rfl; exact rfl) | (apply o_load tyOk; (iterate 3 exact rfl); (focus (exact pk))) | (apply o_loads tyOk; (iterate 3 exact rfl); (focus (exact pk))) | (apply o_stores tyOk; (iterate 4 exact rfl); (focus (exact ⟨rfl⟩)); (focus (exact up))) | (apply o_alloc tyOk; iterate 5 exact rfl) | (apply o_buildSlice tyOk; (iterate 5 exact rfl); (focus (decide)); exact rfl; (focus (decide)); (focus (repeat (first | exact CatR.nil | (apply CatR.one; exact rfl; exact rfl)))); exact rfl) | (apply o_call; exact rfl; exact rfl; (focus (first | exact rfl)); exact rfl; (focus (exact ⟨_, hN2 _ _, by repeat (first | with_reducible exact Take.nil)⟩)); rintro _ _ ⟨rfl, rfl⟩) | (apply w_dT; exact rfl; (focus (first | omega))) | apply thenS_normal | apply blockS_normal | apply w_skip | apply w_block | ((with_reducible apply Sd.mk); (first | exact True.intro | omega | (simp only [List.length_append]; omega))) | ((with_reducible apply Ln.mk); (first | rfl | omega)) | ((with_reducible apply Wr.mk); (first | exact IntWalk.i64_in _ (by omega))) | ((with_reducible apply Ce.mk); (first | rfl)) | ((with_reducible apply Pu.mk); (first | exact putAt_all rfl)) | ((with_reducible apply Su.mk); (first | exact hsub)) | exact True.intro | intro A | exact rfl)
      all_goals first
        | (exfalso; omega)
        | exact ⟨i + 1, hil, by show l.length - (i + 1) < l.length - i; omega, by rw [hfm, ← List.append_assoc]; exact (by repeat' (first | exact trivial | refine ⟨rfl, ?_⟩ | refine ⟨congrArg some ?_, ?_⟩)), (by repeat (first | with_reducible exact Take.nil | with_reducible apply Take.c | with_reducible apply Take.drop))⟩
        | trace_state
    · obtain rfl : i = l.length := by omega
      rw [← htx]
      have hW : ∀ h, SRun Tryz.prog 17 [.agg ⟨[I 7, S (txtD (d1, d2, d3) l)]⟩] h fun r q => r = .tuple #[S T.1, I T.2] ∧ q = h := hW
      repeat' (first | apply w_seq | apply w_region | apply o_nil | (apply o_g tyOk; exact rfl; exact rfl) | (apply o_build tyOk; exact rfl; exact rfl; (focus (first | with_reducible exact pl38)); exact rfl; (focus (repeat (first | exact BuildR.nil | (apply BuildR.one; exact rfl; exact rfl; (first | (focus ((repeat (first | exact SetAt.zero | apply SetAt.succ)); done))))))); exact rfl) | (apply o_call; exact rfl; exact rfl; (focus (first | exact rfl)); exact rfl; (focus (exact ⟨_, hW _, by repeat (first | with_reducible exact Take.nil)⟩)); rintro _ _ ⟨rfl, rfl⟩) | (apply w_dF; exact rfl; (focus (first | omega))) | apply thenS_normal | apply thenS_exit | apply blockS_exit | apply w_ret | apply w_exit | ((with_reducible apply Sd.mk); (first | exact True.intro)))
      all_goals first
        | (exfalso; omega)
        | (apply s_fin; (exact (show ResS _ _ _ _ [_, _] from ⟨rfl, ⟨rfl, trivial⟩⟩)); (focus (exact ⟨rfl, rfl⟩)); (focus (repeat (first | with_reducible exact Take.nil | with_reducible apply Take.c | with_reducible apply Take.drop))))
        | trace_state
  · rw [if_neg hd]
    rw [decide_eq_false hd] at hV
    obtain ⟨d1, d2, d3⟩ := d
    have hV : ∀ h, Has h (recs enF l) 7 l.length (.slice ad l.length fl) → SRun Tryz.prog 13 [.agg ⟨[I d1, I d2, I d3, .slice ad l.length fl]⟩] h fun r q => r = B false ∧ q = h := hV
    show SRun _ _ [.agg ⟨[I d1, I d2, I d3, .slice ad l.length fl]⟩] h _
    refine w_body1 Tryz.func12 rfl rfl ?_
    repeat' ((fail_if_success (show SWp _ _ (Code.seq (Code.region 3 _ _) _) _ _ _)); (fail_if_success (show SWp _ _ (Code.region 3 _ _) _ _ _)); first | apply w_seq | apply w_region | apply o_nil | (apply o_g tyOk; exact rfl; exact rfl) | (apply o_notB; exact rfl; exact rfl) | (apply o_loads tyOk; (iterate 3 exact rfl); (focus (exact pk))) | (apply o_box (tt := tyT); iterate 5 exact rfl) | (apply o_call; exact rfl; exact rfl; (focus (first | exact rfl)); exact rfl; (focus (exact ⟨_, hV _ (hv.re (.drop .nil)), by repeat (first | with_reducible exact Take.nil)⟩)); rintro _ _ ⟨rfl, rfl⟩) | (apply w_true; exact rfl) | apply thenS_normal | apply thenS_ret | apply w_ret | ((with_reducible apply Sd.mk); (first | exact True.intro)) | ((with_reducible apply Ln.mk); (first | rfl)) | ((with_reducible apply Su.mk); (first | exact subAt_all)) | exact True.intro | intro A | exact rfl)
    all_goals first
      | contradiction
      | (exfalso; omega)
      | (apply s_fin; (exact (show ResS _ _ _ _ [_, _] from ⟨rfl, ⟨rfl, trivial⟩⟩)); (focus (exact ⟨rfl, rfl⟩)); (focus (repeat (first | with_reducible exact Take.nil | with_reducible apply Take.c | with_reducible apply Take.drop))))
      | trace_state
end Go.Proofs.YtncnmfdmbfbfjaaGreat
end
section
set_option linter.unusedVariables false
set_option linter.unusedSimpArgs false
set_option maxRecDepth 4000
namespace Go.Proofs.YtncnmfdmbfbfjaaGreat
open Go.Gh Go.RowKit

theorem lead_fin : ∀ f : Nat, f < 256 → (f < 128 → vlead (f : Int) 8 0 = 0 ∧ vlow (f : Int) 0 = f) ∧ (128 ≤ f → f < 192 → vlead (f : Int) 8 0 = 1 ∧ vlow (f : Int) 1 = (f : Int) - 128) ∧ (192 ≤ f → 2 ≤ vlead (f : Int) 8 0) := by decide +kernel
theorem hd_fin : ∀ m : Nat, m < 128 → vhd 0 (m : Int) = m ∧ (m < 64 → vhd 1 (m : Int) = 128 + (m : Int)) := by decide +kernel
theorem vbnd0 : vbnd 0 = 0 := rfl
theorem vbnd1 : vbnd 1 = 128 := by decide
theorem vbnd2 : vbnd 2 = 16512 := by decide
theorem vk_lo {n : Int} (h : n < 128) : vk n = 0 := by
  show (if vbnd 1 ≤ n then vks n 7 1 else 0) = 0
  rw [vbnd1, if_neg (by omega)]
theorem vk_hi {n : Int} (h : 128 ≤ n) (h2 : n < 16512) : vk n = 1 := by
  show (if vbnd 1 ≤ n then (if vbnd 2 ≤ n then vks n 6 2 else 1) else 0) = 1
  rw [vbnd1, vbnd2, if_pos h, if_neg (by omega)]
theorem vnum_lo {n : Int} (h0 : 0 ≤ n) (h : n < 128) : vnum n = [b8 n] := by
  obtain ⟨m, rfl⟩ := Int.eq_ofNat_of_zero_le h0
  unfold vnum
  rw [if_neg (by omega), vk_lo h, vbnd0, Int.sub_zero]
  show [b8 (vhd 0 (m : Int))] = _
  rw [(hd_fin m (by omega)).1]
theorem vnum_hi {n : Int} (h0 : 128 ≤ n) (h : n < 16512) : vnum n = [b8 (128 + (n - 128) / 256), b8 ((n - 128) % 256)] := by
  unfold vnum
  rw [if_neg (by omega), vk_hi h0 h, vbnd1]
  show [b8 (vhd 1 ((n - 128) / 256)), b8 ((n - 128) % 256)] = _
  obtain ⟨m, hm⟩ := Int.eq_ofNat_of_zero_le (show 0 ≤ (n - 128) / 256 by omega)
  rw [hm, (hd_fin m (by omega)).2 (by omega)]
theorem bat_zero (x : UInt8) (r : List UInt8) : bat (x :: r) 0 = x.toNat := rfl
theorem vpeek_lo {x : UInt8} {r : List UInt8} (h : x.toNat < 128) : vpeek (x :: r) = ((x.toNat : Int), 1, true) := by
  have hl := (lead_fin x.toNat (by omega)).1 h
  unfold vpeek
  rw [if_neg (by simp), bat_zero, hl.1, if_neg (by simp), hl.2, vbnd0]
  rw [show vacc (x :: r) 0 1 (x.toNat : Int) = x.toNat from rfl, if_neg (by omega), Int.add_zero]
  rfl
theorem vpeek_hi {x y : UInt8} {r : List UInt8} (h : 128 ≤ x.toNat) (h2 : x.toNat < 192) : vpeek (x :: y :: r) = (((x.toNat : Int) - 128) * 256 + y.toNat + 128, 2, true) := by
  have hl := (lead_fin x.toNat (by omega)).2.1 h h2
  have hy := y.toNat_lt
  unfold vpeek
  rw [if_neg (by simp), bat_zero, hl.1, if_neg (by simp), hl.2, vbnd1]
  rw [show vacc (x :: y :: r) 1 1 ((x.toNat : Int) - 128) = ((x.toNat : Int) - 128) * 256 + y.toNat from rfl, if_neg (by omega)]
  rfl
theorem vpeek_num {n : Int} (h0 : 0 ≤ n) (h : n ≤ 4096) (r : List UInt8) : vpeek (vnum n ++ r) = (n, ((vnum n).length : Int), true) := by
  by_cases h1 : n < 128
  · rw [vnum_lo h0 h1]
    have := b8_val (n := n) (by omega)
    show vpeek (b8 n :: r) = _
    rw [vpeek_lo (by omega), this]
    rfl
  · rw [vnum_hi (by omega) (by omega)]
    have e1 := b8_val (n := 128 + (n - 128) / 256) (by omega)
    have e2 := b8_val (n := (n - 128) % 256) (by omega)
    show vpeek (b8 (128 + (n - 128) / 256) :: b8 ((n - 128) % 256) :: r) = _
    rw [vpeek_hi (by omega) (by omega), e1, e2]
    have : (128 + (n - 128) / 256 - 128) * 256 + (n - 128) % 256 + 128 = n := by omega
    rw [this]
    rfl
theorem rdN_num {n : Int} (h0 : 0 ≤ n) (h : n ≤ 4096) (r : List UInt8) : rdN (vnum n ++ r) 4096 = (n, r, 0) := by
  unfold rdN
  rw [vpeek_num h0 h]
  dsimp only
  rw [if_neg (by decide), if_neg (by omega), Int.toNat_natCast, List.drop_left]
end Go.Proofs.YtncnmfdmbfbfjaaGreat
end
section
set_option linter.unusedVariables false
set_option linter.unusedSimpArgs false
set_option maxRecDepth 4000
namespace Go.Proofs.YtncnmfdmbfbfjaaGreat
open Go.Gh Go.RowKit

theorem wst_in {n : Nat} {s : Ms × Enc} {t : Pc} (hok : EncOk n s.2) (hi : InB s.2) : Within s.2 (wst s t).2 ∧ InB (wst s t).2 := by
  unfold wst
  split
  · have h1 := tenc_ok (v := 0) (k := 1) (t := s.1.K) (j := 1) hok
    have g1 := tenc_in (v := 0) 1 (t := s.1.K) (j := 1) hok hi
    have g2 := benc_in (P := s.1.P) (c := s.1.c) (v := t.2.2) h1.1 g1.2
    exact ⟨g1.1.trans g2.1, g2.2⟩
  · have h1 := tenc_ok (v := 1) (k := 1) (t := s.1.K) (j := 1) hok
    have h2 := nenc_ok (t := s.1.L) h1.1 (t.1 - 2)
    have g1 := tenc_in (v := 1) 1 (t := s.1.K) (j := 1) hok hi
    have g2 := nenc_in (t := s.1.L) (v := t.1 - 2) h1.1 g1.2
    have g3 := nenc_in (t := s.1.D) (v := t.2.1 - 1) h2.1 g2.2
    exact ⟨(g1.1.trans g2.1).trans g3.1, g3.2⟩
theorem wrun_in (l : List Pc) : ∀ {n : Nat} {s : Ms × Enc}, MsOk s.1 → EncOk n s.2 → InB s.2 → (∀ t ∈ l, vPb t) → Within s.2 (wrun l s).2 ∧ InB (wrun l s).2 := by
  induction l with
  | nil => intro n s _ _ hi _; exact ⟨.refl _, hi⟩
  | cons t r ih =>
    intro n s hx hok hi ht
    have h1 := wst_ok hx hok (ht t (by simp))
    have g1 := wst_in (t := t) hok hi
    have g2 := ih h1.1 h1.2 g1.2 (fun u hu => ht u (by simp [hu]))
    rw [wrun_cons]
    exact ⟨g1.1.trans g2.1, g2.2⟩
theorem wst_read {D : List UInt8} {f : Enc} {n : Nat} {s : Ms × Enc} {d : Dec} {t : Pc} (hf : Beh D f) (sy : Syn D s.2 d) (hok : EncOk n s.2) (hi : InB s.2) (ht : vPb t) (w : Within (wst s t).2 f) :
    Syn D (wst s t).2 (zrd s.1 d).d ∧ (zrd s.1 d).x = (wst s t).1 ∧ (zrd s.1 d).t = t ∧ ((zrd s.1 d).lit = true ↔ t.2.1 = 0) ∧ (zrd s.1 d).d.full = d.full := by
  obtain ⟨hv, hy⟩ := ht
  obtain ⟨a, b, y⟩ := t
  dsimp only at hv hy
  unfold wst at w ⊢
  dsimp only at w ⊢
  by_cases h0 : b = 0
  · have ha : a = 1 := by rcases hv with g | g <;> (dsimp only at g; omega)
    subst h0 ha
    rw [if_pos rfl] at w ⊢
    dsimp only at w ⊢
    have h1 := tenc_ok (v := 0) (k := 1) (t := s.1.K) (j := 1) hok
    have g1 := tenc_in (v := 0) 1 (t := s.1.K) (j := 1) hok hi
    have g2 := benc_in (P := s.1.P) (c := s.1.c) (v := y) h1.1 g1.2
    obtain ⟨k1, k2, k3⟩ := tenc_read (v := 0) hf 1 (t := s.1.K) (j := 1) sy hok hi (g2.1.trans w)
    obtain ⟨m1, m2, m3⟩ := benc_read hf k1 h1.1 g1.2 (P := s.1.P) (c := s.1.c) (v := y) w
    have hj : (tdec 1 s.1.K d 1).2.2 = 2 := by
      have e : (2 : Int) ^ 1 * ((1 : Nat) : Int) + 0 % 2 ^ 1 = 2 := by decide
      rw [e] at k3; omega
    have hfu := tdec_full 1 (t := s.1.K) (d := d) (j := 1)
    have hfu2 := bdec_full (P := s.1.P) (c := s.1.c) (d := (tdec 1 s.1.K d 1).2.1)
    have hyy : y % 256 = y := by omega
    unfold zrd
    rw [if_pos hj]
    dsimp only
    rw [m2, m3, k2, hyy]
    exact ⟨m1, rfl, rfl, ⟨fun _ => rfl, fun _ => rfl⟩, hfu2.trans hfu⟩
  · have hg : 1 ≤ b ∧ b ≤ 4096 ∧ 2 ≤ a ∧ a ≤ 273 ∧ y = 0 := by rcases hv with g | g <;> (dsimp only at g; omega)
    rw [if_neg h0] at w ⊢
    dsimp only at w ⊢
    have h1 := tenc_ok (v := 1) (k := 1) (t := s.1.K) (j := 1) hok
    have h2 := nenc_ok (t := s.1.L) h1.1 (a - 2)
    have g1 := tenc_in (v := 1) 1 (t := s.1.K) (j := 1) hok hi
    have g2 := nenc_in (t := s.1.L) (v := a - 2) h1.1 g1.2
    have g3 := nenc_in (t := s.1.D) (v := b - 1) h2.1 g2.2
    obtain ⟨k1, k2, k3⟩ := tenc_read (v := 1) hf 1 (t := s.1.K) (j := 1) sy hok hi ((g2.1.trans g3.1).trans w)
    obtain ⟨m1, m2, m3⟩ := nenc_read hf k1 h1.1 g1.2 (t := s.1.L) (v := a - 2) (g3.1.trans w)
    obtain ⟨p1, p2, p3⟩ := nenc_read hf m1 h2.1 g2.2 (t := s.1.D) (v := b - 1) w
    have hj : ¬ (tdec 1 s.1.K d 1).2.2 = 2 := by
      have e : (2 : Int) ^ 1 * ((1 : Nat) : Int) + 1 % 2 ^ 1 = 3 := by decide
      rw [e] at k3; omega
    have hfu := tdec_full 1 (t := s.1.K) (d := d) (j := 1)
    have hfu2 := ndec_full (t := s.1.L) (d := (tdec 1 s.1.K d 1).2.1)
    have hfu3 := ndec_full (t := s.1.D) (d := (ndec s.1.L (tdec 1 s.1.K d 1).2.1).2.1)
    rw [show ncut (a - 2) = a - 2 from if_neg (by omega)] at m3
    rw [show ncut (b - 1) = b - 1 from if_neg (by omega)] at p3
    unfold zrd
    rw [if_neg hj]
    dsimp only
    rw [p2, p3, m2, m3, k2, Int.sub_add_cancel, Int.sub_add_cancel, hg.2.2.2.2]
    exact ⟨p1, rfl, rfl, ⟨fun g => (by cases g), fun g => absurd g h0⟩, (hfu3.trans hfu2).trans hfu⟩
/-- Pieces that make bytes of n bytes. -/
def Fit (n : Nat) : List UInt8 → List Pc → Prop
  | o, [] => o.length = n
  | o, t :: r => o.length < n ∧ (t.2.1 = 0 ∨ okC n o t) ∧ Fit n (estp o t) r
theorem rdP_read {D : List UInt8} {f : Enc} {n : Nat} (hf : Beh D f) (ps : List Pc) : ∀ {m k : Nat} {s : Ms × Enc} {d : Dec} {o : List UInt8}, MsOk s.1 → EncOk m s.2 → InB s.2 → Syn D s.2 d → Fit n o ps → (∀ t ∈ ps, vPb t) → Within (wrun ps s).2 f → n - o.length ≤ k →
    ∃ d', rdP n k s.1 d o = some (ps, d') ∧ Syn D (wrun ps s).2 d' ∧ d'.full = d.full := by
  induction ps with
  | nil => intro m k s d o _ _ _ sy hfit _ _ _; exact ⟨d, rdP_end (by have : o.length = n := hfit; omega), sy, rfl⟩
  | cons t r ih =>
    intro m k s d o hx hok hi sy hfit ht w hk
    obtain ⟨f1, f2, f3⟩ := hfit
    have h1 := wst_ok hx hok (ht t (by simp))
    have g1 := wst_in (t := t) hok hi
    have htr : ∀ u ∈ r, vPb u := fun u hu => ht u (by simp [hu])
    have g2 := wrun_in r h1.1 h1.2 g1.2 htr
    rw [wrun_cons] at w ⊢
    obtain ⟨q1, q2, q3, q4, q5⟩ := wst_read hf sy hok hi (ht t (by simp)) (g2.1.trans w)
    obtain ⟨k', rfl, e⟩ := rdP_go (x := s.1) (d := d) f1 hk
    have hlen : o.length + 1 ≤ (estp o t).length := by
      have hv := (ht t (by simp)).1
      have := estp_len (o := o) hv
      rcases hv with g | g <;> omega
    obtain ⟨d', e1, e2, e3⟩ := ih (k := k') (o := estp o t) h1.1 h1.2 g1.2 q1 f3 htr w (by omega)
    rw [e, q3, q2, e1, if_pos (f2.imp q4.2 id)]
    exact ⟨d', rfl, e2, e3.trans q5⟩
theorem cov_fit {l : List UInt8} {w : Int} (hw : w ≤ 4096) : ∀ {ps : List Pc} {i : Nat}, i ≤ l.length → Cov l w i ps → Fit l.length (l.take i) ps ∧ exps ps (l.take i) = l
  | [], i, _, h => by
    obtain rfl : i = l.length := h
    rw [List.take_length]; exact ⟨rfl, rfl⟩
  | t :: r, i, hi, h => by
    have hl : (l.take i).length = i := by rw [List.length_take]; omega
    have hf := h.1.fits hw
    have hest : estp (l.take i) t = l.take (i + t.1.toNat) ∧ (t.2.1 = 0 ∨ okC l.length (l.take i) t) := by
      rcases h.1 with ⟨hil, rfl⟩ | ⟨n, d, rfl, h1, h2, h3, h4, h5, h6, h7⟩
      · refine ⟨?_, .inl (litP_at l i)⟩
        unfold estp
        rw [if_pos (litP_at l i)]
        show l.take i ++ [byt (bat l i)] = l.take (i + 1)
        rw [byt_bat hil, List.take_append_getElem hil]
      · refine ⟨?_, .inr (by unfold okC; rw [hl]; dsimp only; omega)⟩
        unfold estp
        rw [if_neg (by show ¬ (d : Int) = 0; omega)]
        show copyN (d : Int).toNat (n : Int).toNat _ = l.take (i + (n : Int).toNat)
        rw [Int.toNat_natCast, Int.toNat_natCast]
        exact copyN_take h3 n i h5 h6 h7
    have hn := cov_fit hw (ps := r) (i := i + t.1.toNat) (by omega) h.2
    refine ⟨⟨by rw [hl]; omega, hest.2, by rw [hest.1]; exact hn.1⟩, ?_⟩
    show exps r (estp (l.take i) t) = l
    rw [hest.1]; exact hn.2
theorem rstp_miss {x : Ms} {d : Dec} (h : (zrd x d).d.missing = false) : d.missing = false := by
  unfold zrd at h
  split at h
  · exact tdec_miss 1 (bdec_miss h)
  · exact tdec_miss 1 (ndec_miss (ndec_miss h).1).1
theorem rstp_ext {x : Ms} {d : Dec} {c : UInt8} (h : (zrd x d).d.missing = false) : zrd x (ext d c) = ⟨(zrd x d).x, ext (zrd x d).d c, (zrd x d).lit, (zrd x d).t⟩ := by
  unfold zrd at h ⊢
  by_cases hj : (tdec 1 x.K d 1).2.2 = 2
  · rw [if_pos hj] at h ⊢
    have h1 := tdec_ext (c := c) 1 (t := x.K) (j := 1) (bdec_miss h)
    have h2 := bdec_ext (x := c) h
    rw [h1]
    dsimp only
    rw [if_pos hj, h2]
  · rw [if_neg hj] at h ⊢
    have h1 := tdec_ext (c := c) 1 (t := x.K) (j := 1) (ndec_miss (ndec_miss h).1).1
    have h2 := ndec_ext (x := c) (ndec_miss h).1
    have h3 := ndec_ext (x := c) h
    rw [h1]
    dsimp only
    rw [if_neg hj, h2]
    dsimp only
    rw [h3]
theorem rdP_miss {n : Nat} : ∀ {f : Nat} {x : Ms} {d : Dec} {o : List UInt8} {r : List Pc × Dec}, rdP n f x d o = some r → r.2.missing = false → d.missing = false
  | 0, x, d, o, r, h, hm => by obtain rfl := Option.some.inj h; exact hm
  | f + 1, x, d, o, r, h, hm => by
    by_cases hlt : o.length < n
    · rw [show rdP n (f + 1) x d o = _ from if_pos hlt] at h
      split at h
      · obtain ⟨r', e1, rfl⟩ := Option.map_eq_some_iff.1 h
        exact rstp_miss (rdP_miss e1 hm)
      · cases h
    · rw [rdP_end hlt] at h
      obtain rfl := Option.some.inj h; exact hm
theorem rdP_ext {n : Nat} {c : UInt8} : ∀ {f : Nat} {x : Ms} {d : Dec} {o : List UInt8} {r : List Pc × Dec}, rdP n f x d o = some r → r.2.missing = false → rdP n f x (ext d c) o = some (r.1, ext r.2 c)
  | 0, x, d, o, r, h, hm => by obtain rfl := Option.some.inj h; rfl
  | f + 1, x, d, o, r, h, hm => by
    by_cases hlt : o.length < n
    · rw [show rdP n (f + 1) x d o = _ from if_pos hlt] at h
      rw [show rdP n (f + 1) x (ext d c) o = _ from if_pos hlt]
      split at h
      · rename_i hg
        obtain ⟨r', e1, rfl⟩ := Option.map_eq_some_iff.1 h
        have hm1 := rdP_miss e1 hm
        rw [rstp_ext hm1]
        dsimp only
        rw [if_pos hg, rdP_ext e1 hm]
        rfl
      · cases h
    · rw [rdP_end hlt] at h ⊢
      obtain rfl := Option.some.inj h; rfl
/-- What is written as pieces is read. -/
theorem lzR_wrt {l : List UInt8} {w : Int} {ps : List Pc} (hw : w ≤ 4096) (hc : Cov l w 0 ps) : ∃ d', rdP l.length l.length ms0 (dnew (fin (wrun ps zs0).2)) [] = some (ps, d') ∧ dend d' = 0 ∧ (∀ c, rdP l.length l.length ms0 (dnew (fin (wrun ps zs0).2 ++ [c])) [] = some (ps, ext d' c)) ∧ exps ps [] = l := by
  have hv := cov_vPb hw hc
  have h1 := wrun_ok (s := zs0) ms0_ok encZ_ok hv
  have h2 := wrun_in ps (s := zs0) ms0_ok encZ_ok e00_InB hv
  have hfit := cov_fit hw (Nat.zero_le _) hc
  rw [List.take_zero] at hfit
  obtain ⟨d', e1, e2, e3⟩ := rdP_read (n := l.length) (Beh.fin h1.2) ps (k := l.length) (s := zs0) (o := []) ms0_ok encZ_ok e00_InB (start_syn h1.2 h2.1) hfit.1 hv (.refl _) (Nat.sub_le _ _)
  have hend := inv_end h1.2.low e2 (e3.trans (start_full h1.2 h2.1))
  obtain ⟨k1, _⟩ := dend_zero hend
  refine ⟨d', e1, hend, fun c => ?_, hfit.2⟩
  rw [dnew_ext (by rw [fin_len]; omega)]
  exact rdP_ext e1 k1
end Go.Proofs.YtncnmfdmbfbfjaaGreat
end
section
set_option linter.unusedVariables false
set_option linter.unusedSimpArgs false
set_option maxRecDepth 4000
namespace Go.Proofs.YtncnmfdmbfbfjaaGreat
open Go.Gh Go.RowKit

theorem lzE_ne {l : List UInt8} (hl : l.length ≤ 4096) (h0 : l ≠ []) : lzE l = (wrt l.length (pcs l), 0) := by unfold lzE; rw [if_neg (by omega), if_neg h0]
/-- A text that is written as some pieces. -/
theorem lzD_wrt {l : List UInt8} {w : Int} {ps : List Pc} (hl : l.length ≤ 4096) (hw : w ≤ 4096) (hc : Cov l w 0 ps) (most : Int) :
    lzD (wrt l.length ps) most = (if most < l.length then ([], 2) else if lzE l = (wrt l.length ps, 0) then (l, 0) else ([], 12)) ∧
    ∀ c, lzD (wrt l.length ps ++ [c]) most = (if most < l.length then ([], 2) else if lzE l = (wrt l.length ps ++ [c], 0) then (l, 0) else ([], 12)) := by
  obtain ⟨d', e1, e2, e3, e4⟩ := lzR_wrt hw hc
  have k1 : lzR (fin (wrun ps zs0).2) l.length = (l, true) := by unfold lzR; rw [e1]; dsimp only; rw [e4]
  have k2 : ∀ c, lzR (fin (wrun ps zs0).2 ++ [c]) l.length = (l, true) := fun c => by unfold lzR; rw [e3 c]; dsimp only; rw [e4]
  have key : ∀ (R : List UInt8), lzR R l.length = (l, true) → lzD (vnum l.length ++ R) most = (if most < l.length then ([], 2) else if lzE l = (vnum l.length ++ R, 0) then (l, 0) else ([], 12)) := fun R hR => by
    unfold lzD
    rw [rdN_num (by omega) (by omega)]
    dsimp only
    rw [Int.toNat_natCast, hR]
    dsimp only
    rw [if_neg (by decide)]
    by_cases h : most < (l.length : Int)
    · rw [if_pos h, if_pos h]
    · rw [if_neg h, if_neg h, if_neg (by decide)]
  refine ⟨key _ k1, fun c => ?_⟩
  unfold wrt
  rw [List.append_assoc]
  exact key _ (k2 c)
end Go.Proofs.YtncnmfdmbfbfjaaGreat
end
section
set_option linter.unusedVariables false
set_option linter.unusedSimpArgs false
set_option maxRecDepth 4000
namespace Go.Proofs.YtncnmfdmbfbfjaaGreat
open Go.Gh Go.RowKit

/-- The content of a frame with a body. -/
def bdy (d b : List UInt8) : Option (List UInt8) := if 16 ≤ bat d 1 then (if (lzD b 4096).2 = 0 then some (lzD b 4096).1 else none) else some b
/-- The frame at the front: kind, content, size, whether it is compressed. -/
def prs (d : List UInt8) : Option (Int × List UInt8 × Nat × Bool) :=
  if d.length < 2 ∨ bat d 0 ≠ 165 ∨ 32 ≤ bat d 1 then none else
  match txt (d.drop 2) with
  | none => none
  | some (b, r) => if r.length < 4 then none else if (opn (d.take (d.length - (r.length - 4)))).2 ≠ 0 then none else
    match bdy d b with
    | none => none
    | some c => if wrp (bat d 1 % 16) c = (d.take (d.length - (r.length - 4)), 0) then some (bat d 1 % 16, c, d.length - (r.length - 4), decide (16 ≤ bat d 1)) else none
def prV : Option (Int × List UInt8 × Nat × Bool) → Value
  | none => .tuple ⟨[frV 0 [], I 0, B false, B false]⟩
  | some (k, c, n, s) => .tuple ⟨[frV k c, I n, B s, B true]⟩
theorem txt_len {l b r : List UInt8} (h : txt l = some (b, r)) : b.length ≤ 4096 ∧ r.length ≤ l.length := by
  obtain ⟨k1, k2⟩ := rdN_ok l 4096
  unfold txt at h
  split at h
  · rename_i g
    have := k2 g.1
    obtain ⟨rfl, rfl⟩ := Prod.mk.inj (Option.some.inj h)
    rw [List.length_take, List.length_drop]
    exact ⟨by omega, by omega⟩
  · cases h
theorem lzD_le {b : List UInt8} (hb : b.length ≤ 1000000) (m : Int) : (lzD b m).1.length ≤ 4096 := by
  have h1 := rdN_ok b 4096
  unfold lzD
  split
  · exact Nat.zero_le _
  · rename_i g0
    have h2 := h1.2 (Classical.byContradiction g0)
    split
    · exact Nat.zero_le _
    · split
      · exact Nat.zero_le _
      · rename_i g
        split
        · have := lzR_len (l := (rdN b 4096).2.1) (n := (rdN b 4096).1.toNat) (by omega) (by simpa using g)
          show (lzR _ _).1.length ≤ 4096
          omega
        · exact Nat.zero_le _
theorem none_any (h : SH) : SRun Tryz.prog 77 [] h fun r q => r = prV none ∧ q = h := by
  refine w_body0 Tryz.func77 rfl rfl ?_
  repeat' (first | apply w_seq | apply w_region | apply o_nil | (apply o_g tyOk; exact rfl; exact rfl) | (apply o_stores tyOk; (iterate 4 exact rfl); (focus (exact ⟨rfl⟩)); (focus (exact up))) | (apply o_alloc tyOk; iterate 5 exact rfl) | (apply o_build tyOk; exact rfl; exact rfl; (focus (first | with_reducible exact pl38)); exact rfl; (focus (repeat (first | exact BuildR.nil))); exact rfl) | apply thenS_normal | apply w_ret | ((with_reducible apply Sd.mk); (first | exact True.intro)) | ((with_reducible apply Ln.mk); (first | rfl)) | ((with_reducible apply Pu.mk); (first | exact putAt_all rfl)) | exact True.intro | intro A)
  (apply s_fin; (exact (show ResS _ _ _ _ [_, _, _, _] from (res_cell tyOk rfl rfl rfl (by exact pk) (by first | rfl | exact ‹_› | omega | (simp ; first | done | omega)) (by first | rfl | exact ‹_› | omega | (simp ; first | done | omega)) ⟨rfl, ⟨rfl, ⟨rfl, trivial⟩⟩⟩))); (focus (exact ⟨rfl, rfl⟩)); (focus (repeat (first | with_reducible exact Take.nil | with_reducible apply Take.c | with_reducible apply Take.drop))))
set_option maxHeartbeats 4000000 in
theorem parse_any (d : List UInt8) (h : SH) (hl : d.length ≤ 1000000) : SRun Tryz.prog 59 [S d] h fun r q => r = prV (prs d) ∧ q = h := by
  obtain ⟨R, hR⟩ : ∃ R, prs d = R := ⟨_, rfl⟩
  rw [hR]
  unfold prs at hR
  have hn : ∀ h, SRun Tryz.prog 77 [] h fun r q => r = .tuple ⟨[frV 0 [], I 0, B false, B false]⟩ ∧ q = h := none_any
  have hb0 := bat_255 d 0
  have hb1 := bat_255 d 1
  by_cases h1 : d.length < 2 ∨ bat d 0 ≠ 165 ∨ 32 ≤ bat d 1
  · rw [if_pos h1] at hR
    subst hR
    by_cases g1 : d.length < 2
    · refine w_body1 Tryz.func59 rfl rfl ?_
      repeat' (first | apply w_seq | apply w_region | apply o_nil | (apply o_g tyOk; exact rfl; exact rfl) | (apply o_stores tyOk; (iterate 4 exact rfl); (focus (exact ⟨rfl⟩)); (focus (exact up))) | (apply o_alloc tyOk; iterate 5 exact rfl) | (apply o_call; exact rfl; exact rfl; (focus (first | exact rfl)); exact rfl; (focus (exact ⟨_, hn _, by repeat (first | with_reducible exact Take.nil)⟩)); rintro _ _ ⟨rfl, rfl⟩) | (apply o_skip; iterate 4 exact rfl) | (apply o_sT; (iterate 3 exact rfl); (focus (first | omega)); exact rfl) | (apply w_true; exact rfl) | apply thenS_normal | apply thenS_ret | apply w_ret | ((with_reducible apply Sd.mk); (first | exact True.intro)) | ((with_reducible apply Ln.mk); (first | rfl)) | ((with_reducible apply Pu.mk); (first | exact putAt_all rfl)) | exact True.intro | intro A)
      all_goals first
        | (exfalso; omega)
        | (apply s_fin; (exact (show ResS _ _ _ _ [_, _, _, _] from (res_cell tyOk rfl rfl rfl (by exact pk) (by first | rfl | exact ‹_› | omega | (simp ; first | done | omega)) (by first | rfl | exact ‹_› | omega | (simp ; first | done | omega)) ⟨rfl, ⟨rfl, ⟨rfl, trivial⟩⟩⟩))); (focus (exact ⟨rfl, rfl⟩)); (focus (repeat (first | with_reducible exact Take.nil | with_reducible apply Take.c | with_reducible apply Take.drop))))
        | trace_state
    by_cases g2 : bat d 0 = 165
    · refine w_body1 Tryz.func59 rfl rfl ?_
      repeat' (first | apply w_seq | apply w_region | apply o_nil | (apply o_g tyOk; exact rfl; exact rfl) | (apply o_stores tyOk; (iterate 4 exact rfl); (focus (exact ⟨rfl⟩)); (focus (exact up))) | (apply o_alloc tyOk; iterate 5 exact rfl) | (apply o_call; exact rfl; exact rfl; (focus (first | exact rfl)); exact rfl; (focus (exact ⟨_, hn _, by repeat (first | with_reducible exact Take.nil)⟩)); rintro _ _ ⟨rfl, rfl⟩) | (apply o_want; exact rfl; exact rfl) | (apply o_gF; (iterate 3 exact rfl); (focus (first | omega))) | (apply w_dT; exact rfl; (focus (first | omega))) | apply thenS_normal | apply thenS_ret | apply w_ret | ((with_reducible apply Sd.mk); (first | exact True.intro | omega)) | ((with_reducible apply Ln.mk); (first | rfl)) | ((with_reducible apply Pu.mk); (first | exact putAt_all rfl)) | exact True.intro | intro A)
      all_goals first
        | (exfalso; omega)
        | (apply s_fin; (exact (show ResS _ _ _ _ [_, _, _, _] from (res_cell tyOk rfl rfl rfl (by exact pk) (by first | rfl | exact ‹_› | omega | (simp ; first | done | omega)) (by first | rfl | exact ‹_› | omega | (simp ; first | done | omega)) ⟨rfl, ⟨rfl, ⟨rfl, trivial⟩⟩⟩))); (focus (exact ⟨rfl, rfl⟩)); (focus (repeat (first | with_reducible exact Take.nil | with_reducible apply Take.c | with_reducible apply Take.drop))))
        | trace_state
    · refine w_body1 Tryz.func59 rfl rfl ?_
      repeat' (first | apply w_seq | apply w_region | apply o_nil | (apply o_g tyOk; exact rfl; exact rfl) | (apply o_stores tyOk; (iterate 4 exact rfl); (focus (exact ⟨rfl⟩)); (focus (exact up))) | (apply o_alloc tyOk; iterate 5 exact rfl) | (apply o_call; exact rfl; exact rfl; (focus (first | exact rfl)); exact rfl; (focus (exact ⟨_, hn _, by repeat (first | with_reducible exact Take.nil)⟩)); rintro _ _ ⟨rfl, rfl⟩) | (apply o_want; exact rfl; exact rfl) | (apply o_skip; iterate 4 exact rfl) | (apply o_gF; (iterate 3 exact rfl); (focus (first | omega))) | (apply o_sT; (iterate 3 exact rfl); (focus (first | omega)); exact rfl) | (apply w_true; exact rfl) | apply thenS_normal | apply thenS_ret | apply w_ret | ((with_reducible apply Sd.mk); (first | exact True.intro | omega)) | ((with_reducible apply Ln.mk); (first | rfl)) | ((with_reducible apply Pu.mk); (first | exact putAt_all rfl)) | exact True.intro | intro A)
      all_goals first
        | (exfalso; omega)
        | (apply s_fin; (exact (show ResS _ _ _ _ [_, _, _, _] from (res_cell tyOk rfl rfl rfl (by exact pk) (by first | rfl | exact ‹_› | omega | (simp ; first | done | omega)) (by first | rfl | exact ‹_› | omega | (simp ; first | done | omega)) ⟨rfl, ⟨rfl, ⟨rfl, trivial⟩⟩⟩))); (focus (exact ⟨rfl, rfl⟩)); (focus (repeat (first | with_reducible exact Take.nil | with_reducible apply Take.c | with_reducible apply Take.drop))))
        | trace_state
  rw [if_neg h1] at hR
  have hd2 : (d.drop 2).length ≤ 1000000 := by rw [List.length_drop]; omega
  have hX := fun n h => rText_any n (d.drop 2) h hd2
  have hK := fun n l e h hl => rTakeG_any n l e 4 h hl
  obtain ⟨T, hT⟩ : ∃ T, txt (d.drop 2) = T := ⟨_, rfl⟩
  have htl := fun b r (g : txt (d.drop 2) = some (b, r)) => txt_len g
  unfold txtR at hX
  rw [hT] at hR hX htl
  cases T with
  | none =>
    dsimp only at hR hX
    subst hR
    have hK2 : ∀ n e h, e ≠ 0 → SRun Tryz.prog 79 [gptr n 0 2, I 4] (rdB n (d.drop 2) e :: h) fun r q => r = S [] ∧ q = rdB n (d.drop 2) e :: h := fun n e h he => by
      have := hK n (d.drop 2) e h hd2
      rw [show tkR (d.drop 2) e 4 = ([], d.drop 2, e) from if_pos he] at this
      exact this
    refine w_body1 Tryz.func59 rfl rfl ?_
    repeat' (first | apply w_seq | apply w_region | apply o_nil | (apply o_g tyOk; exact rfl; exact rfl) | (apply o_stores tyOk; (iterate 4 exact rfl); (focus (exact ⟨rfl⟩)); (focus (exact up))) | (apply o_alloc tyOk; iterate 5 exact rfl) | (apply o_call; exact rfl; exact rfl; (focus (first | exact rfl)); exact rfl; (focus (exact ⟨_, hn _, by repeat (first | with_reducible exact Take.nil)⟩)); rintro _ _ ⟨rfl, rfl⟩) | (apply o_call; exact rfl; exact rfl; (focus (first | exact rfl)); exact rfl; (focus (exact ⟨_, NewReader_any _ _, by repeat (first | with_reducible exact Take.nil)⟩)); rintro _ _ ⟨n, rfl, rfl⟩) | (apply o_call; exact rfl; exact rfl; (focus (first | exact rfl)); exact rfl; (focus (exact ⟨_, hX _ _, by repeat (first | with_reducible exact Take.nil | with_reducible apply Take.c)⟩)); rintro _ _ ⟨e, he, rfl, rfl⟩) | (apply o_call; exact rfl; exact rfl; (focus (first | exact rfl)); exact rfl; (focus (exact ⟨_, hK2 _ _ _ he, by repeat (first | with_reducible exact Take.nil)⟩)); rintro _ _ ⟨rfl, rfl⟩) | (apply o_call; exact rfl; exact rfl; (focus (first | exact rfl)); exact rfl; (focus (exact ⟨_, rErr_any _ _ _ _, by repeat (first | with_reducible exact Take.nil)⟩)); rintro _ _ ⟨rfl, rfl⟩) | (apply o_want; exact rfl; exact rfl) | (apply o_gF; (iterate 3 exact rfl); (focus (first | omega))) | (apply w_dT; exact rfl; (focus (first | exact ‹_›))) | (apply w_dF; exact rfl; (focus (first | omega))) | apply thenS_normal | apply thenS_ret | apply w_skip | apply w_ret | ((with_reducible apply Sd.mk); (first | exact True.intro | omega)) | ((with_reducible apply Ln.mk); (first | rfl)) | ((with_reducible apply Pu.mk); (first | exact putAt_all rfl)) | exact True.intro | intro A)
    all_goals first
      | (exfalso; omega)
      | contradiction
      | (apply s_fin; (exact (show ResS _ _ _ _ [_, _, _, _] from (res_cell tyOk rfl rfl rfl (by exact pk) (by first | rfl | exact ‹_› | omega | (simp ; first | done | omega)) (by first | rfl | exact ‹_› | omega | (simp ; first | done | omega)) ⟨rfl, ⟨rfl, ⟨rfl, trivial⟩⟩⟩))); (focus (exact ⟨rfl, rfl⟩)); (focus (repeat (first | with_reducible exact Take.nil | with_reducible apply Take.c | with_reducible apply Take.drop))))
      | trace_state
  | some T =>
    obtain ⟨b, r⟩ := T
    dsimp only at hR hX
    obtain ⟨hbl, hrl⟩ := htl b r rfl
    rw [List.length_drop] at hrl
    by_cases h4 : r.length < 4
    · rw [if_pos h4] at hR
      subst hR
      have hK2 : ∀ n h, SRun Tryz.prog 79 [gptr n 0 2, I 4] (rdB n r 0 :: h) fun r' q => r' = S [] ∧ q = rdB n r 12 :: h := fun n h => by
        have := hK n r 0 h (by omega)
        rw [show tkR r 0 4 = ([], r, 12) by unfold tkR; rw [if_neg (fun k => k rfl), if_neg (by omega), if_pos (by omega)]] at this
        exact this
      refine w_body1 Tryz.func59 rfl rfl ?_
      repeat' (first | apply w_seq | apply w_region | apply o_nil | (apply o_g tyOk; exact rfl; exact rfl) | (apply o_stores tyOk; (iterate 4 exact rfl); (focus (exact ⟨rfl⟩)); (focus (exact up))) | (apply o_alloc tyOk; iterate 5 exact rfl) | (apply o_call; exact rfl; exact rfl; (focus (first | exact rfl)); exact rfl; (focus (exact ⟨_, hn _, by repeat (first | with_reducible exact Take.nil)⟩)); rintro _ _ ⟨rfl, rfl⟩) | (apply o_call; exact rfl; exact rfl; (focus (first | exact rfl)); exact rfl; (focus (exact ⟨_, NewReader_any _ _, by repeat (first | with_reducible exact Take.nil)⟩)); rintro _ _ ⟨n, rfl, rfl⟩) | (apply o_call; exact rfl; exact rfl; (focus (first | exact rfl)); exact rfl; (focus (exact ⟨_, hX _ _, by repeat (first | with_reducible exact Take.nil | with_reducible apply Take.c)⟩)); rintro _ _ ⟨rfl, rfl⟩) | (apply o_call; exact rfl; exact rfl; (focus (first | exact rfl)); exact rfl; (focus (exact ⟨_, hK2 _ _, by repeat (first | with_reducible exact Take.nil)⟩)); rintro _ _ ⟨rfl, rfl⟩) | (apply o_call; exact rfl; exact rfl; (focus (first | exact rfl)); exact rfl; (focus (exact ⟨_, rErr_any _ _ _ _, by repeat (first | with_reducible exact Take.nil)⟩)); rintro _ _ ⟨rfl, rfl⟩) | (apply o_want; exact rfl; exact rfl) | (apply o_gF; (iterate 3 exact rfl); (focus (first | omega))) | (apply w_true; exact rfl) | (apply w_dF; exact rfl; (focus (first | omega))) | apply thenS_normal | apply thenS_ret | apply w_skip | apply w_ret | ((with_reducible apply Sd.mk); (first | exact True.intro | omega)) | ((with_reducible apply Ln.mk); (first | rfl)) | ((with_reducible apply Pu.mk); (first | exact putAt_all rfl)) | exact True.intro | intro A)
      all_goals first
        | (exfalso; omega)
        | contradiction
        | (apply s_fin; (exact (show ResS _ _ _ _ [_, _, _, _] from (res_cell tyOk rfl rfl rfl (by exact pk) (by first | rfl | exact ‹_› | omega | (simp ; first | done | omega)) (by first | rfl | exact ‹_› | omega | (simp ; first | done | omega)) ⟨rfl, ⟨rfl, ⟨rfl, trivial⟩⟩⟩))); (focus (exact ⟨rfl, rfl⟩)); (focus (repeat (first | with_reducible exact Take.nil | with_reducible apply Take.c | with_reducible apply Take.drop))))
        | trace_state
    rw [if_neg h4] at hR
    have hK2 : ∀ n h, SRun Tryz.prog 79 [gptr n 0 2, I 4] (rdB n r 0 :: h) fun r' q => r' = S (r.take 4) ∧ q = rdB n (r.drop 4) 0 :: h := fun n h => by
      have := hK n r 0 h (by omega)
      rw [show tkR r 0 4 = (r.take 4, r.drop 4, 0) by unfold tkR; rw [if_neg (fun k => k rfl), if_neg (by omega), if_neg (by omega)]; rfl] at this
      exact this
    have hr4 : (r.drop 4).length = r.length - 4 := List.length_drop ..
    have hN : ((d.length : Int) - ((r.drop 4).length : Int)).toNat = d.length - (r.length - 4) := by omega
    have hNi : (d.length : Int) - ((r.drop 4).length : Int) = ((d.length - (r.length - 4) : Nat) : Int) := by omega
    rw [← hN] at hR
    have hO := fun h => Open_any (d.take ((d.length : Int) - ((r.drop 4).length : Int)).toNat) h (by rw [List.length_take]; omega)
    generalize opn (d.take ((d.length : Int) - ((r.drop 4).length : Int)).toNat) = O at *
    obtain ⟨o1, o2⟩ := O
    dsimp only at hR hO
    by_cases ho : o2 = 0
    · subst ho
      rw [if_neg (fun k => k rfl)] at hR
      have hr16 : (bat d 1).tmod 16 = bat d 1 % 16 := Int.tmod_eq_emod_of_nonneg hb1.1
      unfold bdy at hR
      by_cases hs : 16 ≤ bat d 1
      · rw [if_pos hs] at hR
        have hD := fun h => Decode_any' b 4096 h (by omega)
        have hle := lzD_le (b := b) (by omega) 4096
        obtain ⟨⟨c, e⟩, hc⟩ : ∃ V, lzD b 4096 = V := ⟨_, rfl⟩
        rw [hc] at hR hD hle
        dsimp only at hR hD hle
        by_cases he : e = 0
        · subst he
          rw [if_pos rfl] at hR
          dsimp only at hR
          have hW := fun h => Wrap_any (bat d 1 % 16) c h (by omega)
          obtain ⟨⟨w, e⟩, hw⟩ : ∃ V, wrp (bat d 1 % 16) c = V := ⟨_, rfl⟩
          rw [hw] at hR hW
          dsimp only at hW
          by_cases hq : e = 0 ∧ w = d.take ((d.length : Int) - ((r.drop 4).length : Int)).toNat
          · obtain ⟨rfl, hq⟩ := hq
            rw [if_pos (by rw [hq]), hN, decide_eq_true hs] at hR
            subst hR
            clear hw
            subst hq
            refine w_body1 Tryz.func59 rfl rfl ?_
            repeat' (first | apply w_seq | apply w_region | apply o_nil | (apply o_g tyOk; exact rfl; exact rfl) | (apply o_ar tyOk; exact rfl; exact rfl) | (apply o_ex; exact rfl; exact rfl) | (apply o_loads tyOk; (iterate 3 exact rfl); (focus (exact pk))) | (apply o_store tyOk; (iterate 4 exact rfl); (focus (exact up))) | (apply o_stores tyOk; (iterate 4 exact rfl); (focus (exact ⟨rfl⟩)); (focus (exact up))) | (apply o_alloc tyOk; iterate 5 exact rfl) | (apply o_build tyOk; exact rfl; exact rfl; (focus (first | with_reducible exact pl38)); exact rfl; (focus (repeat (first | exact BuildR.nil | (apply BuildR.one; exact rfl; exact rfl; (first | (focus ((repeat (first | exact SetAt.zero | apply SetAt.succ)); done))))))); exact rfl) | (apply o_call; exact rfl; exact rfl; (focus (first | exact rfl)); exact rfl; (focus (exact ⟨_, hn _, by repeat (first | with_reducible exact Take.nil)⟩)); rintro _ _ ⟨rfl, rfl⟩) | (apply o_call; exact rfl; exact rfl; (focus (first | exact rfl)); exact rfl; (focus (exact ⟨_, NewReader_any _ _, by repeat (first | with_reducible exact Take.nil)⟩)); rintro _ _ ⟨n, rfl, rfl⟩) | (apply o_call; exact rfl; exact rfl; (focus (first | exact rfl)); exact rfl; (focus (exact ⟨_, hX _ _, by repeat (first | with_reducible exact Take.nil | with_reducible apply Take.c)⟩)); rintro _ _ ⟨rfl, rfl⟩) | (apply o_call; exact rfl; exact rfl; (focus (first | exact rfl)); exact rfl; (focus (exact ⟨_, hK2 _ _, by repeat (first | with_reducible exact Take.nil)⟩)); rintro _ _ ⟨rfl, rfl⟩) | (apply o_call; exact rfl; exact rfl; (focus (first | exact rfl)); exact rfl; (focus (exact ⟨_, rErr_any _ _ _ _, by repeat (first | with_reducible exact Take.nil)⟩)); rintro _ _ ⟨rfl, rfl⟩) | (apply o_call; exact rfl; exact rfl; (focus (first | exact rfl)); exact rfl; (focus (exact ⟨_, rLeft_any _ _ _ _, by repeat (first | with_reducible exact Take.nil)⟩)); rintro _ _ ⟨rfl, rfl⟩) | (apply o_call; exact rfl; exact rfl; (focus (first | exact rfl)); exact rfl; (focus (exact ⟨_, hO _, by repeat (first | with_reducible exact Take.nil)⟩)); rintro _ _ ⟨rfl, rfl⟩) | (apply o_call; exact rfl; exact rfl; (focus (first | exact rfl)); exact rfl; (focus (exact ⟨_, hD _, by repeat (first | with_reducible exact Take.nil)⟩)); rintro _ _ ⟨rfl, rfl⟩) | (apply o_call; exact rfl; exact rfl; (focus (first | exact rfl)); exact rfl; (focus (exact ⟨_, hW _, by repeat (first | with_reducible exact Take.nil)⟩)); rintro _ _ ⟨rfl, rfl⟩) | (apply o_want; exact rfl; exact rfl) | (apply o_gF; (iterate 3 exact rfl); (focus (first | omega))) | (apply w_false; exact rfl) | (apply w_dT; exact rfl; (focus (first | omega))) | (apply w_dF; exact rfl; (focus (first | omega))) | (apply w_ifN; exact rfl; all_goals intro hc) | apply thenS_normal | apply thenS_ret | apply w_skip | apply w_ret | ((with_reducible apply Sd.mk); (first | exact True.intro | omega)) | ((with_reducible apply Ln.mk); (first | rfl)) | ((with_reducible apply Wr.mk); (first | exact IntWalk.i64_in _ (by omega))) | ((with_reducible apply Ex.mk); (first | exact Int.tmod_eq_emod_of_nonneg (by omega))) | ((with_reducible apply Se.mk); (first | (focus ((repeat (first | exact SetAt.zero | apply SetAt.succ)); done)))) | ((with_reducible apply Pu.mk); (first | exact putAt_all rfl)) | ((with_reducible apply Su.mk); (first | exact subAt_all)) | exact True.intro | intro A | exact rfl)
            all_goals first
              | (exfalso; omega)
              | contradiction
              | (apply s_fin; (exact (show ResS _ _ _ _ [_, _, _, _] from (res_cell tyOk rfl rfl rfl (by exact pk) (by first | rfl | exact ‹_› | omega | (simp ; first | done | omega)) (by first | rfl | exact ‹_› | omega | (simp ; first | done | omega)) ⟨rfl, ⟨rfl, ⟨rfl, trivial⟩⟩⟩))); (focus (exact ⟨by rw [hNi, decide_eq_true hs]; rfl, rfl⟩)); (focus (repeat (first | with_reducible exact Take.nil | with_reducible apply Take.c | with_reducible apply Take.drop))))
              | trace_state
          · rw [if_neg (fun k => hq ⟨congrArg Prod.snd k, congrArg Prod.fst k⟩)] at hR
            subst hR
            refine w_body1 Tryz.func59 rfl rfl ?_
            repeat' (first | apply w_seq | apply w_region | apply o_nil | (apply o_g tyOk; exact rfl; exact rfl) | (apply o_ar tyOk; exact rfl; exact rfl) | (apply o_ex; exact rfl; exact rfl) | (apply o_loads tyOk; (iterate 3 exact rfl); (focus (exact pk))) | (apply o_store tyOk; (iterate 4 exact rfl); (focus (exact up))) | (apply o_stores tyOk; (iterate 4 exact rfl); (focus (exact ⟨rfl⟩)); (focus (exact up))) | (apply o_alloc tyOk; iterate 5 exact rfl) | (apply o_build tyOk; exact rfl; exact rfl; (focus (first | with_reducible exact pl38)); exact rfl; (focus (repeat (first | exact BuildR.nil | (apply BuildR.one; exact rfl; exact rfl; (first | (focus ((repeat (first | exact SetAt.zero | apply SetAt.succ)); done))))))); exact rfl) | (apply o_call; exact rfl; exact rfl; (focus (first | exact rfl)); exact rfl; (focus (exact ⟨_, hn _, by repeat (first | with_reducible exact Take.nil)⟩)); rintro _ _ ⟨rfl, rfl⟩) | (apply o_call; exact rfl; exact rfl; (focus (first | exact rfl)); exact rfl; (focus (exact ⟨_, NewReader_any _ _, by repeat (first | with_reducible exact Take.nil)⟩)); rintro _ _ ⟨n, rfl, rfl⟩) | (apply o_call; exact rfl; exact rfl; (focus (first | exact rfl)); exact rfl; (focus (exact ⟨_, hX _ _, by repeat (first | with_reducible exact Take.nil | with_reducible apply Take.c)⟩)); rintro _ _ ⟨rfl, rfl⟩) | (apply o_call; exact rfl; exact rfl; (focus (first | exact rfl)); exact rfl; (focus (exact ⟨_, hK2 _ _, by repeat (first | with_reducible exact Take.nil)⟩)); rintro _ _ ⟨rfl, rfl⟩) | (apply o_call; exact rfl; exact rfl; (focus (first | exact rfl)); exact rfl; (focus (exact ⟨_, rErr_any _ _ _ _, by repeat (first | with_reducible exact Take.nil)⟩)); rintro _ _ ⟨rfl, rfl⟩) | (apply o_call; exact rfl; exact rfl; (focus (first | exact rfl)); exact rfl; (focus (exact ⟨_, rLeft_any _ _ _ _, by repeat (first | with_reducible exact Take.nil)⟩)); rintro _ _ ⟨rfl, rfl⟩) | (apply o_call; exact rfl; exact rfl; (focus (first | exact rfl)); exact rfl; (focus (exact ⟨_, hO _, by repeat (first | with_reducible exact Take.nil)⟩)); rintro _ _ ⟨rfl, rfl⟩) | (apply o_call; exact rfl; exact rfl; (focus (first | exact rfl)); exact rfl; (focus (exact ⟨_, hD _, by repeat (first | with_reducible exact Take.nil)⟩)); rintro _ _ ⟨rfl, rfl⟩) | (apply o_call; exact rfl; exact rfl; (focus (first | exact rfl)); exact rfl; (focus (exact ⟨_, hW _, by repeat (first | with_reducible exact Take.nil)⟩)); rintro _ _ ⟨rfl, rfl⟩) | (apply o_want; exact rfl; exact rfl) | (apply o_skip; iterate 4 exact rfl) | (apply o_gF; (iterate 3 exact rfl); (focus (first | omega))) | (apply o_guardFN; (iterate 3 exact rfl); all_goals intro hc) | (apply w_true; exact rfl) | (apply w_false; exact rfl) | (apply w_dT; exact rfl; (focus (first | omega))) | (apply w_dF; exact rfl; (focus (first | omega))) | (apply w_ifN; exact rfl; all_goals intro hc) | apply thenS_normal | apply thenS_ret | apply w_skip | apply w_ret | ((with_reducible apply Sd.mk); (first | exact True.intro | omega)) | ((with_reducible apply Ln.mk); (first | rfl)) | ((with_reducible apply Wr.mk); (first | exact IntWalk.i64_in _ (by omega))) | ((with_reducible apply Ex.mk); (first | exact Int.tmod_eq_emod_of_nonneg (by omega))) | ((with_reducible apply Se.mk); (first | (focus ((repeat (first | exact SetAt.zero | apply SetAt.succ)); done)))) | ((with_reducible apply Pu.mk); (first | exact putAt_all rfl)) | ((with_reducible apply Su.mk); (first | exact subAt_all)) | exact True.intro | intro A | exact rfl)
            all_goals first
              | (exfalso; omega)
              | contradiction
              | (exfalso; exact hq ⟨by assumption, by assumption⟩)
              | (apply s_fin; (exact (show ResS _ _ _ _ [_, _, _, _] from (res_cell tyOk rfl rfl rfl (by exact pk) (by first | rfl | exact ‹_› | omega | (simp ; first | done | omega)) (by first | rfl | exact ‹_› | omega | (simp ; first | done | omega)) ⟨rfl, ⟨rfl, ⟨rfl, trivial⟩⟩⟩))); (focus (exact ⟨rfl, rfl⟩)); (focus (repeat (first | with_reducible exact Take.nil | with_reducible apply Take.c | with_reducible apply Take.drop))))
              | trace_state
        · rw [if_neg he] at hR
          dsimp only at hR
          subst hR
          refine w_body1 Tryz.func59 rfl rfl ?_
          repeat' (first | apply w_seq | apply w_region | apply o_nil | (apply o_g tyOk; exact rfl; exact rfl) | (apply o_ar tyOk; exact rfl; exact rfl) | (apply o_ex; exact rfl; exact rfl) | (apply o_stores tyOk; (iterate 4 exact rfl); (focus (exact ⟨rfl⟩)); (focus (exact up))) | (apply o_alloc tyOk; iterate 5 exact rfl) | (apply o_build tyOk; exact rfl; exact rfl; (focus (first | with_reducible exact pl38)); exact rfl; (focus (repeat (first | exact BuildR.nil | (apply BuildR.one; exact rfl; exact rfl; (first | (focus ((repeat (first | exact SetAt.zero | apply SetAt.succ)); done))))))); exact rfl) | (apply o_call; exact rfl; exact rfl; (focus (first | exact rfl)); exact rfl; (focus (exact ⟨_, hn _, by repeat (first | with_reducible exact Take.nil)⟩)); rintro _ _ ⟨rfl, rfl⟩) | (apply o_call; exact rfl; exact rfl; (focus (first | exact rfl)); exact rfl; (focus (exact ⟨_, NewReader_any _ _, by repeat (first | with_reducible exact Take.nil)⟩)); rintro _ _ ⟨n, rfl, rfl⟩) | (apply o_call; exact rfl; exact rfl; (focus (first | exact rfl)); exact rfl; (focus (exact ⟨_, hX _ _, by repeat (first | with_reducible exact Take.nil | with_reducible apply Take.c)⟩)); rintro _ _ ⟨rfl, rfl⟩) | (apply o_call; exact rfl; exact rfl; (focus (first | exact rfl)); exact rfl; (focus (exact ⟨_, hK2 _ _, by repeat (first | with_reducible exact Take.nil)⟩)); rintro _ _ ⟨rfl, rfl⟩) | (apply o_call; exact rfl; exact rfl; (focus (first | exact rfl)); exact rfl; (focus (exact ⟨_, rErr_any _ _ _ _, by repeat (first | with_reducible exact Take.nil)⟩)); rintro _ _ ⟨rfl, rfl⟩) | (apply o_call; exact rfl; exact rfl; (focus (first | exact rfl)); exact rfl; (focus (exact ⟨_, rLeft_any _ _ _ _, by repeat (first | with_reducible exact Take.nil)⟩)); rintro _ _ ⟨rfl, rfl⟩) | (apply o_call; exact rfl; exact rfl; (focus (first | exact rfl)); exact rfl; (focus (exact ⟨_, hO _, by repeat (first | with_reducible exact Take.nil)⟩)); rintro _ _ ⟨rfl, rfl⟩) | (apply o_call; exact rfl; exact rfl; (focus (first | exact rfl)); exact rfl; (focus (exact ⟨_, hD _, by repeat (first | with_reducible exact Take.nil)⟩)); rintro _ _ ⟨rfl, rfl⟩) | (apply o_want; exact rfl; exact rfl) | (apply o_gF; (iterate 3 exact rfl); (focus (first | omega))) | (apply w_false; exact rfl) | (apply w_dT; exact rfl; (focus (first | omega))) | (apply w_dF; exact rfl; (focus (first | omega))) | apply thenS_normal | apply thenS_ret | apply w_skip | apply w_ret | ((with_reducible apply Sd.mk); (first | exact True.intro | omega)) | ((with_reducible apply Ln.mk); (first | rfl)) | ((with_reducible apply Wr.mk); (first | exact IntWalk.i64_in _ (by omega))) | ((with_reducible apply Ex.mk); (first | exact Int.tmod_eq_emod_of_nonneg (by omega))) | ((with_reducible apply Pu.mk); (first | exact putAt_all rfl)) | exact True.intro | intro A)
          all_goals first
            | (exfalso; omega)
            | contradiction
            | (apply s_fin; (exact (show ResS _ _ _ _ [_, _, _, _] from (res_cell tyOk rfl rfl rfl (by exact pk) (by first | rfl | exact ‹_› | omega | (simp ; first | done | omega)) (by first | rfl | exact ‹_› | omega | (simp ; first | done | omega)) ⟨rfl, ⟨rfl, ⟨rfl, trivial⟩⟩⟩))); (focus (exact ⟨rfl, rfl⟩)); (focus (repeat (first | with_reducible exact Take.nil | with_reducible apply Take.c | with_reducible apply Take.drop))))
            | trace_state
      · rw [if_neg hs] at hR
        dsimp only at hR
        have hW := fun h => Wrap_any (bat d 1 % 16) b h (by omega)
        obtain ⟨⟨w, e⟩, hw⟩ : ∃ V, wrp (bat d 1 % 16) b = V := ⟨_, rfl⟩
        rw [hw] at hR hW
        dsimp only at hW
        by_cases hq : e = 0 ∧ w = d.take ((d.length : Int) - ((r.drop 4).length : Int)).toNat
        · obtain ⟨rfl, hq⟩ := hq
          rw [if_pos (by rw [hq]), hN, decide_eq_false hs] at hR
          subst hR
          clear hw
          subst hq
          refine w_body1 Tryz.func59 rfl rfl ?_
          repeat' (first | apply w_seq | apply w_region | apply o_nil | (apply o_g tyOk; exact rfl; exact rfl) | (apply o_ar tyOk; exact rfl; exact rfl) | (apply o_ex; exact rfl; exact rfl) | (apply o_loads tyOk; (iterate 3 exact rfl); (focus (exact pk))) | (apply o_stores tyOk; (iterate 4 exact rfl); (focus (exact ⟨rfl⟩)); (focus (exact up))) | (apply o_alloc tyOk; iterate 5 exact rfl) | (apply o_build tyOk; exact rfl; exact rfl; (focus (first | with_reducible exact pl38)); exact rfl; (focus (repeat (first | exact BuildR.nil | (apply BuildR.one; exact rfl; exact rfl; (first | (focus ((repeat (first | exact SetAt.zero | apply SetAt.succ)); done))))))); exact rfl) | (apply o_call; exact rfl; exact rfl; (focus (first | exact rfl)); exact rfl; (focus (exact ⟨_, hn _, by repeat (first | with_reducible exact Take.nil)⟩)); rintro _ _ ⟨rfl, rfl⟩) | (apply o_call; exact rfl; exact rfl; (focus (first | exact rfl)); exact rfl; (focus (exact ⟨_, NewReader_any _ _, by repeat (first | with_reducible exact Take.nil)⟩)); rintro _ _ ⟨n, rfl, rfl⟩) | (apply o_call; exact rfl; exact rfl; (focus (first | exact rfl)); exact rfl; (focus (exact ⟨_, hX _ _, by repeat (first | with_reducible exact Take.nil | with_reducible apply Take.c)⟩)); rintro _ _ ⟨rfl, rfl⟩) | (apply o_call; exact rfl; exact rfl; (focus (first | exact rfl)); exact rfl; (focus (exact ⟨_, hK2 _ _, by repeat (first | with_reducible exact Take.nil)⟩)); rintro _ _ ⟨rfl, rfl⟩) | (apply o_call; exact rfl; exact rfl; (focus (first | exact rfl)); exact rfl; (focus (exact ⟨_, rErr_any _ _ _ _, by repeat (first | with_reducible exact Take.nil)⟩)); rintro _ _ ⟨rfl, rfl⟩) | (apply o_call; exact rfl; exact rfl; (focus (first | exact rfl)); exact rfl; (focus (exact ⟨_, rLeft_any _ _ _ _, by repeat (first | with_reducible exact Take.nil)⟩)); rintro _ _ ⟨rfl, rfl⟩) | (apply o_call; exact rfl; exact rfl; (focus (first | exact rfl)); exact rfl; (focus (exact ⟨_, hO _, by repeat (first | with_reducible exact Take.nil)⟩)); rintro _ _ ⟨rfl, rfl⟩) | (apply o_call; exact rfl; exact rfl; (focus (first | exact rfl)); exact rfl; (focus (exact ⟨_, hW _, by repeat (first | with_reducible exact Take.nil)⟩)); rintro _ _ ⟨rfl, rfl⟩) | (apply o_want; exact rfl; exact rfl) | (apply o_gF; (iterate 3 exact rfl); (focus (first | omega))) | (apply w_false; exact rfl) | (apply w_dF; exact rfl; (focus (first | omega))) | (apply w_ifN; exact rfl; all_goals intro hc) | apply thenS_normal | apply thenS_ret | apply w_skip | apply w_ret | ((with_reducible apply Sd.mk); (first | exact True.intro | omega)) | ((with_reducible apply Ln.mk); (first | rfl)) | ((with_reducible apply Wr.mk); (first | exact IntWalk.i64_in _ (by omega))) | ((with_reducible apply Ex.mk); (first | exact Int.tmod_eq_emod_of_nonneg (by omega))) | ((with_reducible apply Pu.mk); (first | exact putAt_all rfl)) | ((with_reducible apply Su.mk); (first | exact subAt_all)) | exact True.intro | intro A | exact rfl)
          all_goals first
            | (exfalso; omega)
            | contradiction
            | (apply s_fin; (exact (show ResS _ _ _ _ [_, _, _, _] from (res_cell tyOk rfl rfl rfl (by exact pk) (by first | rfl | exact ‹_› | omega | (simp ; first | done | omega)) (by first | rfl | exact ‹_› | omega | (simp ; first | done | omega)) ⟨rfl, ⟨rfl, ⟨rfl, trivial⟩⟩⟩))); (focus (exact ⟨by rw [hNi, decide_eq_false hs]; rfl, rfl⟩)); (focus (repeat (first | with_reducible exact Take.nil | with_reducible apply Take.c | with_reducible apply Take.drop))))
            | trace_state
        · rw [if_neg (fun k => hq ⟨congrArg Prod.snd k, congrArg Prod.fst k⟩)] at hR
          subst hR
          refine w_body1 Tryz.func59 rfl rfl ?_
          repeat' (first | apply w_seq | apply w_region | apply o_nil | (apply o_g tyOk; exact rfl; exact rfl) | (apply o_ar tyOk; exact rfl; exact rfl) | (apply o_ex; exact rfl; exact rfl) | (apply o_loads tyOk; (iterate 3 exact rfl); (focus (exact pk))) | (apply o_stores tyOk; (iterate 4 exact rfl); (focus (exact ⟨rfl⟩)); (focus (exact up))) | (apply o_alloc tyOk; iterate 5 exact rfl) | (apply o_build tyOk; exact rfl; exact rfl; (focus (first | with_reducible exact pl38)); exact rfl; (focus (repeat (first | exact BuildR.nil | (apply BuildR.one; exact rfl; exact rfl; (first | (focus ((repeat (first | exact SetAt.zero | apply SetAt.succ)); done))))))); exact rfl) | (apply o_call; exact rfl; exact rfl; (focus (first | exact rfl)); exact rfl; (focus (exact ⟨_, hn _, by repeat (first | with_reducible exact Take.nil)⟩)); rintro _ _ ⟨rfl, rfl⟩) | (apply o_call; exact rfl; exact rfl; (focus (first | exact rfl)); exact rfl; (focus (exact ⟨_, NewReader_any _ _, by repeat (first | with_reducible exact Take.nil)⟩)); rintro _ _ ⟨n, rfl, rfl⟩) | (apply o_call; exact rfl; exact rfl; (focus (first | exact rfl)); exact rfl; (focus (exact ⟨_, hX _ _, by repeat (first | with_reducible exact Take.nil | with_reducible apply Take.c)⟩)); rintro _ _ ⟨rfl, rfl⟩) | (apply o_call; exact rfl; exact rfl; (focus (first | exact rfl)); exact rfl; (focus (exact ⟨_, hK2 _ _, by repeat (first | with_reducible exact Take.nil)⟩)); rintro _ _ ⟨rfl, rfl⟩) | (apply o_call; exact rfl; exact rfl; (focus (first | exact rfl)); exact rfl; (focus (exact ⟨_, rErr_any _ _ _ _, by repeat (first | with_reducible exact Take.nil)⟩)); rintro _ _ ⟨rfl, rfl⟩) | (apply o_call; exact rfl; exact rfl; (focus (first | exact rfl)); exact rfl; (focus (exact ⟨_, rLeft_any _ _ _ _, by repeat (first | with_reducible exact Take.nil)⟩)); rintro _ _ ⟨rfl, rfl⟩) | (apply o_call; exact rfl; exact rfl; (focus (first | exact rfl)); exact rfl; (focus (exact ⟨_, hO _, by repeat (first | with_reducible exact Take.nil)⟩)); rintro _ _ ⟨rfl, rfl⟩) | (apply o_call; exact rfl; exact rfl; (focus (first | exact rfl)); exact rfl; (focus (exact ⟨_, hW _, by repeat (first | with_reducible exact Take.nil)⟩)); rintro _ _ ⟨rfl, rfl⟩) | (apply o_want; exact rfl; exact rfl) | (apply o_skip; iterate 4 exact rfl) | (apply o_gF; (iterate 3 exact rfl); (focus (first | omega))) | (apply o_guardFN; (iterate 3 exact rfl); all_goals intro hc) | (apply w_true; exact rfl) | (apply w_false; exact rfl) | (apply w_dF; exact rfl; (focus (first | omega))) | (apply w_ifN; exact rfl; all_goals intro hc) | apply thenS_normal | apply thenS_ret | apply w_skip | apply w_ret | ((with_reducible apply Sd.mk); (first | exact True.intro | omega)) | ((with_reducible apply Ln.mk); (first | rfl)) | ((with_reducible apply Wr.mk); (first | exact IntWalk.i64_in _ (by omega))) | ((with_reducible apply Ex.mk); (first | exact Int.tmod_eq_emod_of_nonneg (by omega))) | ((with_reducible apply Pu.mk); (first | exact putAt_all rfl)) | ((with_reducible apply Su.mk); (first | exact subAt_all)) | exact True.intro | intro A | exact rfl)
          all_goals first
            | (exfalso; omega)
            | contradiction
            | (exfalso; exact hq ⟨by assumption, by assumption⟩)
            | (apply s_fin; (exact (show ResS _ _ _ _ [_, _, _, _] from (res_cell tyOk rfl rfl rfl (by exact pk) (by first | rfl | exact ‹_› | omega | (simp ; first | done | omega)) (by first | rfl | exact ‹_› | omega | (simp ; first | done | omega)) ⟨rfl, ⟨rfl, ⟨rfl, trivial⟩⟩⟩))); (focus (exact ⟨rfl, rfl⟩)); (focus (repeat (first | with_reducible exact Take.nil | with_reducible apply Take.c | with_reducible apply Take.drop))))
            | trace_state
    · rw [if_pos ho] at hR
      subst hR
      refine w_body1 Tryz.func59 rfl rfl ?_
      repeat' (first | apply w_seq | apply w_region | apply o_nil | (apply o_g tyOk; exact rfl; exact rfl) | (apply o_ar tyOk; exact rfl; exact rfl) | (apply o_stores tyOk; (iterate 4 exact rfl); (focus (exact ⟨rfl⟩)); (focus (exact up))) | (apply o_alloc tyOk; iterate 5 exact rfl) | (apply o_call; exact rfl; exact rfl; (focus (first | exact rfl)); exact rfl; (focus (exact ⟨_, hn _, by repeat (first | with_reducible exact Take.nil)⟩)); rintro _ _ ⟨rfl, rfl⟩) | (apply o_call; exact rfl; exact rfl; (focus (first | exact rfl)); exact rfl; (focus (exact ⟨_, NewReader_any _ _, by repeat (first | with_reducible exact Take.nil)⟩)); rintro _ _ ⟨n, rfl, rfl⟩) | (apply o_call; exact rfl; exact rfl; (focus (first | exact rfl)); exact rfl; (focus (exact ⟨_, hX _ _, by repeat (first | with_reducible exact Take.nil | with_reducible apply Take.c)⟩)); rintro _ _ ⟨rfl, rfl⟩) | (apply o_call; exact rfl; exact rfl; (focus (first | exact rfl)); exact rfl; (focus (exact ⟨_, hK2 _ _, by repeat (first | with_reducible exact Take.nil)⟩)); rintro _ _ ⟨rfl, rfl⟩) | (apply o_call; exact rfl; exact rfl; (focus (first | exact rfl)); exact rfl; (focus (exact ⟨_, rErr_any _ _ _ _, by repeat (first | with_reducible exact Take.nil)⟩)); rintro _ _ ⟨rfl, rfl⟩) | (apply o_call; exact rfl; exact rfl; (focus (first | exact rfl)); exact rfl; (focus (exact ⟨_, rLeft_any _ _ _ _, by repeat (first | with_reducible exact Take.nil)⟩)); rintro _ _ ⟨rfl, rfl⟩) | (apply o_call; exact rfl; exact rfl; (focus (first | exact rfl)); exact rfl; (focus (exact ⟨_, hO _, by repeat (first | with_reducible exact Take.nil)⟩)); rintro _ _ ⟨rfl, rfl⟩) | (apply o_want; exact rfl; exact rfl) | (apply o_gF; (iterate 3 exact rfl); (focus (first | omega))) | (apply w_false; exact rfl) | (apply w_dT; exact rfl; (focus (first | omega))) | (apply w_dF; exact rfl; (focus (first | omega))) | apply thenS_normal | apply thenS_ret | apply w_skip | apply w_ret | ((with_reducible apply Sd.mk); (first | exact True.intro | omega)) | ((with_reducible apply Ln.mk); (first | rfl)) | ((with_reducible apply Wr.mk); (first | exact IntWalk.i64_in _ (by omega))) | ((with_reducible apply Pu.mk); (first | exact putAt_all rfl)) | exact True.intro | intro A)
      all_goals first
        | (exfalso; omega)
        | contradiction
        | (apply s_fin; (exact (show ResS _ _ _ _ [_, _, _, _] from (res_cell tyOk rfl rfl rfl (by exact pk) (by first | rfl | exact ‹_› | omega | (simp ; first | done | omega)) (by first | rfl | exact ‹_› | omega | (simp ; first | done | omega)) ⟨rfl, ⟨rfl, ⟨rfl, trivial⟩⟩⟩))); (focus (exact ⟨rfl, rfl⟩)); (focus (repeat (first | with_reducible exact Take.nil | with_reducible apply Take.c | with_reducible apply Take.drop))))
        | trace_state
/-- What Unwrap gives. -/
def unwV : Option (Int × List UInt8 × Nat × Bool) → Value
  | none => .tuple ⟨[frV 0 [], I 0, I 12]⟩
  | some (k, c, n, _) => .tuple ⟨[frV k c, I n, I 0]⟩
theorem Unwrap_any (d : List UInt8) (h : SH) (hl : d.length ≤ 1000000) : SRun Tryz.prog 38 [S d] h fun r q => r = unwV (prs d) ∧ q = h := by
  have hP := fun h => parse_any d h hl
  cases hp : prs d with
  | none =>
    rw [hp] at hP
    refine w_body1 Tryz.func38 rfl rfl ?_
    repeat' (first | apply w_seq | apply w_region | apply o_nil | (apply o_g tyOk; exact rfl; exact rfl) | (apply o_notB; exact rfl; exact rfl) | (apply o_stores tyOk; (iterate 4 exact rfl); (focus (exact ⟨rfl⟩)); (focus (exact up))) | (apply o_alloc tyOk; iterate 5 exact rfl) | (apply o_build tyOk; exact rfl; exact rfl; (focus (first | with_reducible exact pl38)); exact rfl; (focus (repeat (first | exact BuildR.nil))); exact rfl) | (apply o_call; exact rfl; exact rfl; (focus (first | exact rfl)); exact rfl; (focus (exact ⟨_, hP _, by repeat (first | with_reducible exact Take.nil)⟩)); rintro _ _ ⟨rfl, rfl⟩) | (apply w_true; exact rfl) | apply thenS_normal | apply thenS_ret | apply w_ret | ((with_reducible apply Sd.mk); (first | exact True.intro)) | ((with_reducible apply Ln.mk); (first | rfl)) | ((with_reducible apply Pu.mk); (first | exact putAt_all rfl)) | exact True.intro | intro A)
    all_goals first
      | contradiction
      | (apply s_fin; (exact (show ResS _ _ _ _ [_, _, _] from (res_cell tyOk rfl rfl rfl (by exact pk) (by first | rfl | exact ‹_› | omega | (simp ; first | done | omega)) (by first | rfl | exact ‹_› | omega | (simp ; first | done | omega)) ⟨rfl, ⟨rfl, trivial⟩⟩))); (focus (exact ⟨rfl, rfl⟩)); (focus (repeat (first | with_reducible exact Take.nil | with_reducible apply Take.c | with_reducible apply Take.drop))))
      | trace_state
  | some V =>
    obtain ⟨k, c, n, s⟩ := V
    rw [hp] at hP
    refine w_body1 Tryz.func38 rfl rfl ?_
    repeat' (first | apply w_seq | apply w_region | apply o_nil | (apply o_g tyOk; exact rfl; exact rfl) | (apply o_notB; exact rfl; exact rfl) | (apply o_loads tyOk; (iterate 3 exact rfl); (focus (exact pk))) | (apply o_stores tyOk; (iterate 4 exact rfl); (focus (exact ⟨rfl⟩)); (focus (exact up))) | (apply o_alloc tyOk; iterate 5 exact rfl) | (apply o_call; exact rfl; exact rfl; (focus (first | exact rfl)); exact rfl; (focus (exact ⟨_, hP _, by repeat (first | with_reducible exact Take.nil)⟩)); rintro _ _ ⟨rfl, rfl⟩) | (apply w_false; exact rfl) | apply thenS_normal | apply w_skip | apply w_ret | ((with_reducible apply Sd.mk); (first | exact True.intro)) | ((with_reducible apply Ln.mk); (first | rfl)) | ((with_reducible apply Pu.mk); (first | exact putAt_all rfl)) | ((with_reducible apply Su.mk); (first | exact subAt_all)) | exact True.intro | intro A | exact rfl)
    all_goals first
      | contradiction
      | (apply s_fin; (exact (show ResS _ _ _ _ [_, _, _] from (res_cell tyOk rfl rfl rfl (by exact pk) (by first | rfl | exact ‹_› | omega | (simp ; first | done | omega)) (by first | rfl | exact ‹_› | omega | (simp ; first | done | omega)) ⟨rfl, ⟨rfl, trivial⟩⟩))); (focus (exact ⟨rfl, rfl⟩)); (focus (repeat (first | with_reducible exact Take.nil | with_reducible apply Take.c | with_reducible apply Take.drop))))
      | trace_state
end Go.Proofs.YtncnmfdmbfbfjaaGreat
end
section
set_option linter.unusedVariables false
set_option linter.unusedSimpArgs false
set_option maxRecDepth 4000
namespace Go.Proofs.YtncnmfdmbfbfjaaGreat
open Go.Gh Go.RowKit

theorem wrp_len {k : Int} {c : List UInt8} (h : (wrp k c).2 = 0) : (0 ≤ k ∧ k ≤ 15) ∧ c.length ≤ 4096 ∧ 7 ≤ (wrp k c).1.length ∧ (wrp k c).1.length ≤ 4120 := by
  unfold wrp at h ⊢
  split at h
  · exact absurd h (by decide)
  · split at h
    · exact absurd h (by decide)
    · rename_i h1 h2
      rw [if_neg h1, if_neg h2]
      have hf : ∀ (k : Int) (b : List UInt8), b.length ≤ 4096 → 7 ≤ (sl (frm k b)).length ∧ (sl (frm k b)).length ≤ 4120 := fun k b hb => by
        have hs1 := vnum_len (n := (b.length : Int)) (by omega)
        have hs2 := (vk_ok (n := (b.length : Int)) (by omega)).2
        unfold sl frm
        rw [List.length_append, List.length_append, List.length_append, le4_len, hd2_len]
        omega
      refine ⟨by omega, by omega, ?_⟩
      show 7 ≤ (if (lzE c).1.length < c.length then sl (frm (k + 16) (lzE c).1) else sl (frm k c)).length ∧ (if (lzE c).1.length < c.length then sl (frm (k + 16) (lzE c).1) else sl (frm k c)).length ≤ 4120
      split
      · exact hf _ _ (by omega)
      · exact hf _ _ (by omega)
/-- What parse finds is what Wrap gives. -/
theorem prs_ok {d : List UInt8} {k : Int} {c : List UInt8} {n : Nat} {s : Bool} (h : prs d = some (k, c, n, s)) : wrp k c = (d.take n, 0) ∧ n ≤ d.length ∧ 7 ≤ n ∧ bat d 0 = 165 ∧ s = decide (16 ≤ bat d 1) := by
  unfold prs at h
  split at h
  · cases h
  · rename_i h1
    split at h
    · cases h
    · rename_i b r hx
      split at h
      · cases h
      · split at h
        · cases h
        · split at h
          · cases h
          · rename_i h2 h3 _ c' hb
            split at h
            · rename_i hw
              cases h
              have hl := wrp_len (k := bat d 1 % 16) (c := c) (by rw [hw])
              rw [hw] at hl
              dsimp only at hl
              rw [List.length_take] at hl
              exact ⟨hw, by omega, by omega, by omega, rfl⟩
            · cases h
theorem txt_front {b r : List UInt8} (hb : b.length ≤ 4096) : txt (vnum b.length ++ b ++ r) = some (b, r) := by
  unfold txt
  rw [List.append_assoc, rdN_num (by omega) (by omega)]
  dsimp only
  rw [if_pos ⟨rfl, by rw [List.length_append]; omega⟩, Int.toNat_natCast, List.take_append_of_le_length (Nat.le_refl _), List.take_length, List.drop_append_of_le_length (Nat.le_refl _), List.drop_length, List.nil_append]
theorem frm_at (k : Int) (hk : 0 ≤ k ∧ k ≤ 255) (b r : List UInt8) : bat (frm k b ++ r) 0 = 165 ∧ bat (frm k b ++ r) 1 = k ∧ (frm k b ++ r).drop 2 = vnum b.length ++ b ++ r := by
  refine ⟨b8_val (by decide), b8_val (by omega), ?_⟩
  show (vnum b.length ++ b) ++ r = _
  rfl
/-- A frame at the front, of a body with the content. -/
theorem prs_frm {k k' : Int} {b c : List UInt8} (r : List UInt8) (hk' : 0 ≤ k' ∧ k' ≤ 31) (hb : b.length ≤ 4096) (hc : (16 ≤ k' ∧ lzD b 4096 = (c, 0)) ∨ (k' ≤ 15 ∧ c = b)) (hk : k = k' % 16) :
    prs (sl (frm k' b) ++ r) = if wrp k c = (sl (frm k' b), 0) then some (k, c, (sl (frm k' b)).length, decide (16 ≤ k')) else none := by
  have e0 : sl (frm k' b) ++ r = frm k' b ++ (le4 (crcV (frm k' b)) ++ r) := by unfold sl; rw [List.append_assoc]
  obtain ⟨a1, a2, a3⟩ := frm_at k' (by omega) b (le4 (crcV (frm k' b)) ++ r)
  rw [← e0] at a1 a2 a3
  have hlen : (sl (frm k' b) ++ r).length = (sl (frm k' b)).length + r.length := List.length_append
  have h4 : (le4 (crcV (frm k' b)) ++ r).length = 4 + r.length := by rw [List.length_append, le4_len]
  have hl7 : 4 ≤ (sl (frm k' b)).length := by unfold sl; rw [List.length_append, le4_len]; omega
  have hsz : (sl (frm k' b) ++ r).length - ((le4 (crcV (frm k' b)) ++ r).length - 4) = (sl (frm k' b)).length := by omega
  have htk : (sl (frm k' b) ++ r).take (sl (frm k' b)).length = sl (frm k' b) := by rw [List.take_append_of_le_length (Nat.le_refl _), List.take_length]
  have hx : txt ((sl (frm k' b) ++ r).drop 2) = some (b, le4 (crcV (frm k' b)) ++ r) := by rw [a3]; exact txt_front hb
  have hop : (opn (sl (frm k' b))).2 = 0 := by unfold sl; rw [opn_seal]
  unfold prs
  rw [a1, a2, if_neg (by omega), hx]
  dsimp only
  rw [if_neg (by omega), hsz, htk, if_neg (by rw [hop]; exact fun g => g rfl)]
  unfold bdy
  rw [a2]
  rcases hc with ⟨g1, g2⟩ | ⟨g1, rfl⟩
  · rw [if_pos g1, g2, if_pos rfl, ← hk]
  · rw [if_neg (by omega), ← hk]
theorem lzD_most {c : List UInt8} (hl : c.length ≤ 4096) (h0 : c ≠ []) : lzD (lzE c).1 4096 = (c, 0) := by
  have h1 := lzE_ne hl h0
  rw [h1]
  show lzD (wrt c.length (pcs c)) 4096 = _
  rw [(lzD_wrt hl (by omega) (pcs_cov hl) 4096).1, if_neg (by omega), if_pos h1]
/-- What Wrap gives is found at the front. -/
theorem prs_wrp {k : Int} {c : List UInt8} (h : (wrp k c).2 = 0) (r : List UInt8) : prs ((wrp k c).1 ++ r) = some (k, c, (wrp k c).1.length, decide ((lzE c).1.length < c.length)) := by
  obtain ⟨h1, h2, _⟩ := wrp_len h
  have hw : wrp k c = ((if (lzE c).1.length < c.length then sl (frm (k + 16) (lzE c).1) else sl (frm k c)), 0) := by unfold wrp; rw [if_neg (by omega), if_neg (by omega)]
  by_cases hs : (lzE c).1.length < c.length
  · rw [if_pos hs] at hw
    rw [hw]
    dsimp only
    rw [prs_frm (k := k) (c := c) r (by omega) (by omega) (.inl ⟨by omega, lzD_most h2 (fun g => by rw [g] at hs; cases hs)⟩) (by omega), if_pos hw, decide_eq_true hs, decide_eq_true (by omega)]
  · rw [if_neg hs] at hw
    rw [hw]
    dsimp only
    rw [prs_frm (k := k) (c := c) r (by omega) (by omega) (.inr ⟨by omega, rfl⟩) (by omega), if_pos hw, decide_eq_false hs, decide_eq_false (by omega)]
theorem wrp_1 (k : Int) (c : List UInt8) : (wrp k c).1.length ≤ 4120 := by
  by_cases h : (wrp k c).2 = 0
  · exact (wrp_len h).2.2.2
  · unfold wrp at h ⊢
    split
    · exact Nat.zero_le _
    · split
      · exact Nat.zero_le _
      · rename_i h1 h2
        rw [if_neg h1, if_neg h2] at h
        exact absurd rfl h
end Go.Proofs.YtncnmfdmbfbfjaaGreat
end
section
set_option linter.unusedVariables false
set_option linter.unusedSimpArgs false
set_option maxRecDepth 4000
namespace Go.Proofs.YtncnmfdmbfbfjaaGreat
open Go.Gh Go.RowKit

/-- A reader: rest, error. -/
abbrev Rdr := List UInt8 × Int
def rdS (s : Rdr) (m : Int) : Int × Rdr := if s.2 ≠ 0 then (0, s) else rdN s.1 m
theorem rdS_len (s : Rdr) (m : Int) : (rdS s m).2.1.length ≤ s.1.length := by
  unfold rdS
  split
  · exact Nat.le_refl _
  · exact (rdN_ok s.1 m).1
theorem rdN_in {l : List UInt8} {m : Int} (hm : 0 ≤ m) : 0 ≤ (rdN l m).1 ∧ (rdN l m).1 ≤ m := by
  unfold rdN
  split
  · exact ⟨Int.le_refl _, hm⟩
  · split
    · exact ⟨Int.le_refl _, hm⟩
    · dsimp only; omega
theorem rdS_in (s : Rdr) {m : Int} (hm : 0 ≤ m) : 0 ≤ (rdS s m).1 ∧ (rdS s m).1 ≤ m := by
  unfold rdS
  split
  · exact ⟨Int.le_refl _, hm⟩
  · exact rdN_in hm
theorem readE_any (n : Nat) (l : List UInt8) (e m : Int) (h : SH) (he : e ≠ 0) : SRun Tryz.prog 60 [gptr n 0 2, .func (.func 61) ⟨[]⟩ ⟨[]⟩, I 0, I m] (rdB n l e :: h) fun r q =>
    r = I 0 ∧ q = rdB n l e :: h := by
  refine w_body4 Tryz.func60 rfl rfl ?_
  repeat' (first | apply w_seq | apply w_region | apply o_nil | (apply o_g tyOk; exact rfl; exact rfl) | (apply o_load tyOk; (iterate 3 exact rfl); (focus (exact pk))) | (apply w_dT; exact rfl; (focus (first | exact ‹_›))) | apply thenS_normal | apply thenS_ret | apply w_ret | ((with_reducible apply Sd.mk); (first | exact True.intro)) | ((with_reducible apply Ln.mk); (first | rfl)) | ((with_reducible apply Ce.mk); (first | rfl)) | exact True.intro | exact rfl)
  all_goals first
    | contradiction
    | (exfalso; omega)
    | (apply s_fin; (exact (show ResS _ _ _ _ [_] from ⟨rfl, trivial⟩)); (focus (exact ⟨rfl, rfl⟩)); (focus (repeat (first | with_reducible exact Take.nil | with_reducible apply Take.c | with_reducible apply Take.drop))))
    | trace_state
theorem rNum_any (n : Nat) (s : Rdr) (m : Int) (h : SH) (hl : s.1.length ≤ 1000000) : SRun Tryz.prog 41 [gptr n 0 2, I m] (rdB n s.1 s.2 :: h) fun r q =>
    r = I (rdS s m).1 ∧ q = rdB n (rdS s m).2.1 (rdS s m).2.2 :: h := by
  obtain ⟨l, e⟩ := s
  by_cases he : e = 0
  · subst he
    have := rNumber_any n l m h hl
    unfold rdS
    rw [if_neg (fun k => k rfl)]
    exact this
  · have hR := readE_any n l e m h he
    unfold rdS
    rw [if_pos he]
    dsimp only
    refine w_body2 Tryz.func41 rfl rfl ?_
    repeat' (first | apply w_seq | apply w_region | apply o_nil | (apply o_g tyOk; exact rfl; exact rfl) | (apply o_call; exact rfl; exact rfl; (focus (first | exact rfl)); exact rfl; (focus (exact ⟨_, hR, by repeat (first | with_reducible exact Take.nil)⟩)); rintro _ _ ⟨rfl, rfl⟩) | apply thenS_normal | apply w_ret | ((with_reducible apply Sd.mk); (first | exact True.intro)))
    all_goals first
      | (apply s_fin; (exact (show ResS _ _ _ _ [_] from ⟨rfl, trivial⟩)); (focus (exact ⟨rfl, rfl⟩)); (focus (repeat (first | with_reducible exact Take.nil | with_reducible apply Take.c | with_reducible apply Take.drop))))
      | trace_state
/-- An extent is read. -/
def exR (s : Rdr) : Ex3 × Rdr := (((rdS s 1024).1, (rdS (rdS s 1024).2 16384).1, (rdS (rdS (rdS s 1024).2 16384).2 4294967295).1), (rdS (rdS (rdS s 1024).2 16384).2 4294967295).2)
theorem exR_len (s : Rdr) : (exR s).2.1.length ≤ s.1.length := by
  have h1 := rdS_len s 1024
  have h2 := rdS_len (rdS s 1024).2 16384
  have h3 := rdS_len (rdS (rdS s 1024).2 16384).2 4294967295
  unfold exR
  dsimp only
  omega
theorem extent_any (n : Nat) (s : Rdr) (h : SH) (hl : s.1.length ≤ 1000000) : SRun Tryz.prog 40 [gptr n 0 2] (rdB n s.1 s.2 :: h) fun r q =>
    r = .agg ⟨exF (exR s).1⟩ ∧ q = rdB n (exR s).2.1 (exR s).2.2 :: h := by
  unfold exR
  dsimp only
  have b1 := rdS_len s 1024
  have r1 := fun h => rNum_any n s 1024 h hl
  generalize rdS s 1024 = V1 at *
  obtain ⟨v1, s1⟩ := V1
  dsimp only at *
  have b2 := rdS_len s1 16384
  have r2 := fun h => rNum_any n s1 16384 h (by omega)
  generalize rdS s1 16384 = V2 at *
  obtain ⟨v2, s2⟩ := V2
  dsimp only at *
  have r3 := fun h => rNum_any n s2 4294967295 h (by omega)
  generalize rdS s2 4294967295 = V3 at *
  obtain ⟨v3, s3⟩ := V3
  dsimp only at *
  obtain ⟨l0, e0⟩ := s
  obtain ⟨l1, e1⟩ := s1
  obtain ⟨l2, e2⟩ := s2
  obtain ⟨l3, e3⟩ := s3
  dsimp only at *
  refine w_body1 Tryz.func40 rfl rfl ?_
  repeat' (first | apply w_seq | apply w_region | apply o_nil | (apply o_g tyOk; exact rfl; exact rfl) | (apply o_stores tyOk; (iterate 4 exact rfl); (focus (exact ⟨rfl⟩)); (focus (exact up))) | (apply o_alloc tyOk; iterate 5 exact rfl) | (apply o_build tyOk; exact rfl; exact rfl; (focus (first | with_reducible exact pl23)); exact rfl; (focus (repeat (first | exact BuildR.nil | (apply BuildR.one; exact rfl; exact rfl; (first | (focus ((repeat (first | exact SetAt.zero | apply SetAt.succ)); done))))))); exact rfl) | (apply o_call; exact rfl; exact rfl; (focus (first | exact rfl)); exact rfl; (focus (exact ⟨_, r1 _, by repeat (first | with_reducible exact Take.nil | with_reducible apply Take.c)⟩)); rintro _ _ ⟨rfl, rfl⟩) | (apply o_call; exact rfl; exact rfl; (focus (first | exact rfl)); exact rfl; (focus (exact ⟨_, r2 _, by repeat (first | with_reducible exact Take.nil)⟩)); rintro _ _ ⟨rfl, rfl⟩) | (apply o_call; exact rfl; exact rfl; (focus (first | exact rfl)); exact rfl; (focus (exact ⟨_, r3 _, by repeat (first | with_reducible exact Take.nil)⟩)); rintro _ _ ⟨rfl, rfl⟩) | apply thenS_normal | apply w_ret | ((with_reducible apply Sd.mk); (first | exact True.intro)) | ((with_reducible apply Ln.mk); (first | rfl)) | ((with_reducible apply Pu.mk); (first | exact putAt_all rfl)) | exact True.intro | intro A)
  all_goals first
    | (apply s_fin; (exact (show ResS _ _ _ _ [_] from (res_cell tyOk rfl rfl rfl (by exact pk) (by first | rfl | exact ‹_› | omega | (simp ; first | done | omega)) (by first | rfl | exact ‹_› | omega | (simp ; first | done | omega)) trivial))); (focus (exact ⟨rfl, rfl⟩)); (focus (repeat (first | with_reducible exact Take.nil | with_reducible apply Take.c | with_reducible apply Take.drop))))
    | trace_state
/-- An entry is read. -/
def enR (a : Int) (s : Rdr) : Eny × Rdr :=
  ((a, a + (rdS s 1099511627777).1, (rdS (rdS s 1099511627777).2 2).1, (rdS (rdS (rdS s 1099511627777).2 2).2 1099511627776).1, (exR (rdS (rdS (rdS s 1099511627777).2 2).2 1099511627776).2).1), (exR (rdS (rdS (rdS s 1099511627777).2 2).2 1099511627776).2).2)
def ensR : Nat → Int → Rdr → List Eny × Rdr
  | 0, _, s => ([], s)
  | n + 1, a, s => ((enR a s).1 :: (ensR n (enR a s).1.2.1 (enR a s).2).1, (ensR n (enR a s).1.2.1 (enR a s).2).2)
/-- A directory is read. -/
def dirR (c : List UInt8) : Ex3 × List Eny × Rdr := ((exR (c, 0)).1, ensR (rdS (exR (c, 0)).2 32).1.toNat (-1) (rdS (exR (c, 0)).2 32).2)
def ddC (c : List UInt8) : Option (Ex3 × List Eny) := if rend (dirR c).2.2.1 (dirR c).2.2.2 = 0 ∧ dvl (dirR c).1 (dirR c).2.1 then some ((dirR c).1, (dirR c).2.1) else none
/-- What Decode gives. -/
def decD (d : List UInt8) : Option (Ex3 × List Eny) := if 16384 < d.length then none else
  match prs d with
  | none => none
  | some (k, c, n, _) => if n = d.length ∧ k = 7 then ddC c else none
/-- A slice of entries that grows. -/
inductive EnO (h : SH) : List Eny → Value → SH → Prop
  | nil : EnO h [] (.slice none 0 0) h
  | some (A : Nat) (l : List Eny) : EnO h l (gsl A 0 (7 * l.length) l.length 7) ((A, ⟨recs enF l, false⟩) :: h)
theorem EnO.has {h q : SH} {l : List Eny} {v : Value} (g : EnO h l v q) : Has q (recs enF l) 7 l.length v ∧ Take q h := by
  cases g with
  | nil => exact ⟨⟨none, 0, rfl, fun k => absurd rfl k⟩, .nil⟩
  | some A l => exact ⟨⟨_, _, rfl, fun _ => ⟨A, false, h, rfl, .head⟩⟩, .drop .nil⟩
theorem EnO.ofc {h : SH} {A n k : Nat} {l : List Eny} {c : List Value} (hc : c = recs enF l) (hn : l.length = n) (hk : k = 7 * n) : EnO h l (gsl A 0 k n 7) ((A, ⟨c, false⟩) :: h) := by
  subst hc hn hk; exact .some A l
theorem putAt_h4 {a b c d x y z : Value} : PutAt [a, b, c, d] 0 [x, y, z] [x, y, z, d] := ⟨by show 0 + 3 ≤ 4; omega, rfl⟩
theorem putAt_e7 {a b c d e f g x y z : Value} : PutAt [a, b, c, d, e, f, g] 4 [x, y, z] [a, b, c, d, x, y, z] := ⟨Nat.le_refl 7, rfl⟩
theorem ensR_len : ∀ (n : Nat) (a : Int) (s : Rdr), (ensR n a s).1.length = n
  | 0, _, _ => rfl
  | n + 1, a, s => by show (ensR n _ _).1.length + 1 = n + 1; rw [ensR_len n]
/-- What Decode returns. -/
def DecR (o : Option (Ex3 × List Eny)) (h : SH) (r : Value) (q : SH) : Prop := match o with
  | none => r = .tuple #[drV (0, 0, 0) (.slice none 0 0), I 12] ∧ q = h
  | some (d, l) => ∃ v, r = .tuple #[drV d v, I 0] ∧ EnO h l v q
theorem DDecode_any (D : List UInt8) (h : SH) (hl : D.length ≤ 9223372036854775807) : SRun Tryz.prog 19 [S D] h fun r q => DecR (decD D) h r q := by
  obtain ⟨R, hR⟩ : ∃ R, decD D = R := ⟨_, rfl⟩
  rw [hR]
  unfold decD at hR
  by_cases hb : 16384 < D.length
  · rw [if_pos hb] at hR
    subst hR
    refine w_body1 Tryz.func19 rfl rfl ?_
    repeat' ((fail_if_success (show SWp _ _ (Code.seq (Code.region 3 _ _) _) _ _ _)); (fail_if_success (show SWp _ _ (Code.region 3 _ _) _ _ _)); first | apply w_seq | apply w_region | apply o_nil | (apply o_g tyOk; exact rfl; exact rfl) | (apply o_stores tyOk; (iterate 4 exact rfl); (focus (exact ⟨rfl⟩)); (focus (exact up))) | (apply o_alloc tyOk; iterate 5 exact rfl) | (apply o_build tyOk; exact rfl; exact rfl; (focus (first | with_reducible exact pl26)); exact rfl; (focus (repeat (first | exact BuildR.nil))); exact rfl) | (apply w_dT; exact rfl; (focus (first | omega))) | apply thenS_normal | apply thenS_ret | apply w_ret | ((with_reducible apply Sd.mk); (first | exact True.intro)) | ((with_reducible apply Ln.mk); (first | rfl)) | ((with_reducible apply Pu.mk); (first | exact putAt_all rfl)) | exact True.intro | intro A)
    all_goals first
      | (exfalso; omega)
      | (apply s_fin; (exact (show ResS _ _ _ _ [_, _] from (res_cell tyOk rfl rfl rfl (by exact pk) (by first | rfl | exact ‹_› | omega | (simp ; first | done | omega)) (by first | rfl | exact ‹_› | omega | (simp ; first | done | omega)) ⟨rfl, trivial⟩))); (focus (exact ⟨rfl, rfl⟩)); (focus (repeat (first | with_reducible exact Take.nil | with_reducible apply Take.c | with_reducible apply Take.drop))))
      | trace_state
  rw [if_neg hb] at hR
  have hU := fun h => Unwrap_any D h (by omega)
  cases hp : prs D with
  | none =>
    rw [hp] at hR hU
    dsimp only at hR
    subst hR
    have hU : ∀ h, SRun Tryz.prog 38 [S D] h fun r q => r = .tuple ⟨[frV 0 [], I 0, I 12]⟩ ∧ q = h := hU
    refine w_body1 Tryz.func19 rfl rfl ?_
    repeat' ((fail_if_success (show SWp _ _ (Code.seq (Code.region 6 _ _) _) _ _ _)); (fail_if_success (show SWp _ _ (Code.region 6 _ _) _ _ _)); first | apply w_seq | apply w_region | apply o_nil | (apply o_g tyOk; exact rfl; exact rfl) | (apply o_stores tyOk; (iterate 4 exact rfl); (focus (exact ⟨rfl⟩)); (focus (exact up))) | (apply o_alloc tyOk; iterate 5 exact rfl) | (apply o_build tyOk; exact rfl; exact rfl; (focus (first | with_reducible exact pl26)); exact rfl; (focus (repeat (first | exact BuildR.nil))); exact rfl) | (apply o_call; exact rfl; exact rfl; (focus (first | exact rfl)); exact rfl; (focus (exact ⟨_, hU _, by repeat (first | with_reducible exact Take.nil)⟩)); rintro _ _ ⟨rfl, rfl⟩) | (apply o_skip; iterate 4 exact rfl) | (apply w_true; exact rfl) | (apply w_dF; exact rfl; (focus (first | omega))) | apply thenS_normal | apply thenS_ret | apply w_skip | apply w_ret | ((with_reducible apply Sd.mk); (first | exact True.intro)) | ((with_reducible apply Ln.mk); (first | rfl)) | ((with_reducible apply Pu.mk); (first | exact putAt_all rfl)) | exact True.intro | intro A)
    all_goals first
      | (exfalso; omega)
      | (apply s_fin; (exact (show ResS _ _ _ _ [_, _] from (res_cell tyOk rfl rfl rfl (by exact pk) (by first | rfl | exact ‹_› | omega | (simp ; first | done | omega)) (by first | rfl | exact ‹_› | omega | (simp ; first | done | omega)) ⟨rfl, trivial⟩))); (focus (exact ⟨rfl, rfl⟩)); (focus (repeat (first | with_reducible exact Take.nil | with_reducible apply Take.c | with_reducible apply Take.drop))))
      | trace_state
  | some V =>
    obtain ⟨k, c, n, sb⟩ := V
    obtain ⟨w1, w2, _⟩ := prs_ok hp
    rw [hp] at hR hU
    dsimp only at hR
    have hU : ∀ h, SRun Tryz.prog 38 [S D] h fun r q => r = .tuple ⟨[frV k c, I n, I 0]⟩ ∧ q = h := hU
    by_cases hk : n = D.length ∧ k = 7
    · rw [if_pos hk] at hR
      obtain ⟨hk1, rfl⟩ := hk
      have hcl : c.length ≤ 1000000 := by
        by_cases g : c.length ≤ 1000000
        · exact g
        · exfalso
          unfold wrp at w1
          rw [if_neg (by omega), if_pos (by omega)] at w1
          exact absurd (show (9 : Int) = 0 from congrArg Prod.snd w1) (by decide)
      unfold ddC dirR at hR
      dsimp only at hR
      have x1 := fun n h => extent_any n (c, 0) h hcl
      have b1 := exR_len (c, 0)
      generalize exR (c, 0) = X at *
      obtain ⟨⟨d1, d2, d3⟩, s0⟩ := X
      dsimp only at *
      have x2 := fun n h => rNum_any n s0 32 h (by omega)
      have b2 := rdS_len s0 32
      have b3 := rdS_in s0 (m := 32) (by decide)
      generalize rdS s0 32 = Y at *
      obtain ⟨cnt, s1⟩ := Y
      dsimp only at *
      obtain ⟨N, rfl⟩ := Int.eq_ofNat_of_zero_le b3.1
      rw [Int.toNat_natCast] at hR
      obtain ⟨l0, e0⟩ := s0
      dsimp only at *
      have x1 : ∀ n h, SRun Tryz.prog 40 [gptr n 0 2] (rdB n c 0 :: h) fun r q => r = .agg ⟨[I d1, I d2, I d3]⟩ ∧ q = rdB n l0 e0 :: h := x1
      obtain ⟨EE, hEE⟩ : ∃ E, ensR N (-1) s1 = E := ⟨_, rfl⟩
      have hEl : EE.1.length = N := by rw [← hEE]; exact ensR_len _ _ _
      rw [hEE] at hR
      have hU : ∀ h, SRun Tryz.prog 38 [S D] h fun r q => r = .tuple ⟨[.agg ⟨[I 7, S c]⟩, I n, I 0]⟩ ∧ q = h := hU
      refine w_body1 Tryz.func19 rfl rfl ?_
      repeat' (first | apply w_seq | apply w_region | apply o_nil | (apply o_g tyOk; exact rfl; exact rfl) | (apply o_load tyOk; (iterate 3 exact rfl); (focus (exact pk))) | (apply o_stores tyOk; (iterate 4 exact rfl); (focus (exact ⟨rfl⟩)); (focus (exact up))) | (apply o_alloc tyOk; iterate 5 exact rfl) | (apply o_build tyOk; exact rfl; exact rfl; (focus (first | with_reducible exact pl26)); exact rfl; (focus (repeat (first | exact BuildR.nil | (apply BuildR.agg; exact rfl; exact rfl; (first | exact putAt_h4))))); exact rfl) | (apply o_call; exact rfl; exact rfl; (focus (first | exact rfl)); exact rfl; (focus (exact ⟨_, hU _, by repeat (first | with_reducible exact Take.nil)⟩)); rintro _ _ ⟨rfl, rfl⟩) | (apply o_call; exact rfl; exact rfl; (focus (first | exact rfl)); exact rfl; (focus (exact ⟨_, NewReader_any _ _, by repeat (first | with_reducible exact Take.nil)⟩)); rintro _ _ ⟨nr, rfl, rfl⟩) | (apply o_call; exact rfl; exact rfl; (focus (first | exact rfl)); exact rfl; (focus (exact ⟨_, x1 _ _, by repeat (first | with_reducible exact Take.nil)⟩)); rintro _ _ ⟨rfl, rfl⟩) | (apply o_call; exact rfl; exact rfl; (focus (first | exact rfl)); exact rfl; (focus (exact ⟨_, x2 _ _, by repeat (first | with_reducible exact Take.nil | with_reducible apply Take.c)⟩)); rintro _ _ ⟨rfl, rfl⟩) | (apply o_want; exact rfl; exact rfl) | (apply o_gF; (iterate 3 exact rfl); (focus (first | omega))) | (apply w_false; exact rfl) | (apply w_dF; exact rfl; (focus (first | omega))) | apply thenS_normal | apply w_skip | apply w_block | ((with_reducible apply Sd.mk); (first | exact True.intro)) | ((with_reducible apply Ln.mk); (first | rfl)) | ((with_reducible apply Ce.mk); (first | rfl)) | ((with_reducible apply Pu.mk); (first | exact putAt_all rfl)) | exact True.intro | intro A | exact rfl)
      all_goals first | contradiction | (exfalso; omega) | skip
      rename_i A2 A4
      revert A; intro A8
      refine w_loop (S := Nat × Int × Rdr × List Eny × Value × SH) (fun s => [(2, gptr A2 0 4), (7, gptr nr 0 2), (8, gptr A8 0 4), (9, I s.2.1), (42, I N), (43, I s.1)])
        (fun s => (A8, ⟨[I d1, I d2, I d3, s.2.2.2.2.1], false⟩) :: rdB nr s.2.2.1.1 s.2.2.1.2 :: (A2, ⟨[I 0, I 0, I 0, .slice none 0 0], false⟩) :: s.2.2.2.2.2)
        (fun s => s.1 ≤ N ∧ -1 ≤ s.2.1 ∧ s.2.1 ≤ (s.1 : Int) * 1099511627777 ∧ s.2.2.1.1.length ≤ 1000000 ∧ EnO h s.2.2.2.1 s.2.2.2.2.1 s.2.2.2.2.2 ∧ s.2.2.2.1.length = s.1 ∧ (s.2.2.2.1 ++ (ensR (N - s.1) s.2.1 s.2.2.1).1, (ensR (N - s.1) s.2.1 s.2.2.1).2) = EE)
        (fun s => N - s.1) (0, -1, s1, [], .slice none 0 0, h) ⟨Nat.zero_le _, Int.le_refl _, by show (-1 : Int) ≤ ((0 : Nat) : Int) * 1099511627777; omega, by show s1.1.length ≤ _; omega, .nil, rfl, by rw [← hEE]; rfl⟩ (by repeat' (first | exact trivial | refine ⟨rfl, ?_⟩ | refine ⟨congrArg some ?_, ?_⟩)) (by repeat (first | with_reducible exact Take.nil | with_reducible apply Take.c | with_reducible apply Take.drop)) ?_
      rintro ⟨i, a, ⟨l1, e1⟩, o, v, q⟩ ⟨hi, ha1, ha2, hsl, hg, hol, he⟩
      dsimp only at hi ha1 ha2 hsl hg hol he ⊢
      by_cases hil : i < N
      · have hN2 : N - i = (N - (i + 1)) + 1 := by omega
        rw [hN2] at he
        have he : (o ++ ((enR a (l1, e1)).1 :: (ensR (N - (i + 1)) (enR a (l1, e1)).1.2.1 (enR a (l1, e1)).2).1), (ensR (N - (i + 1)) (enR a (l1, e1)).1.2.1 (enR a (l1, e1)).2).2) = EE := he
        unfold enR at he
        dsimp only at he
        have y1 := fun h => rNum_any nr (l1, e1) 1099511627777 h hsl
        have c1 := rdS_len (l1, e1) 1099511627777
        have k1 := rdS_in (l1, e1) (m := 1099511627777) (by decide)
        generalize rdS (l1, e1) 1099511627777 = V1 at *
        obtain ⟨z1, l2, e2⟩ := V1
        dsimp only at *
        have y2 := fun h => rNum_any nr (l2, e2) 2 h (by show l2.length ≤ _; omega)
        have c2 := rdS_len (l2, e2) 2
        generalize rdS (l2, e2) 2 = V2 at *
        obtain ⟨z2, l3, e3⟩ := V2
        dsimp only at *
        have y3 := fun h => rNum_any nr (l3, e3) 1099511627776 h (by show l3.length ≤ _; omega)
        have c3 := rdS_len (l3, e3) 1099511627776
        generalize rdS (l3, e3) 1099511627776 = V3 at *
        obtain ⟨z3, l4, e4⟩ := V3
        dsimp only at *
        have y4 := fun h => extent_any nr (l4, e4) h (by show l4.length ≤ _; omega)
        have c4 := exR_len (l4, e4)
        generalize exR (l4, e4) = X4 at *
        obtain ⟨⟨p1, p2, p3⟩, l5, e5⟩ := X4
        dsimp only at *
        have y4 : ∀ h, SRun Tryz.prog 40 [gptr nr 0 2] (rdB nr l4 e4 :: h) fun r q => r = .agg ⟨[I p1, I p2, I p3]⟩ ∧ q = rdB nr l5 e5 :: h := y4
        have hst : (o ++ [(a, a + z1, z2, z3, p1, p2, p3)]).length = i + 1 := by rw [List.length_append, hol]; rfl
        rw [List.append_cons] at he
        have hob := en_len o
        cases hg with
        | nil =>
          repeat' (first | apply w_seq | apply w_region | apply o_nil | (apply w_draw; (focus (kernel_rfl)); (focus (kernel_rfl))) | (apply o_g tyOk; exact rfl; exact rfl) | (apply o_ar tyOk; exact rfl; exact rfl) | (apply o_load tyOk; (iterate 3 exact rfl); (focus (exact pk))) | (apply o_loads tyOk; (iterate 3 exact rfl); (focus (exact pk))) | (apply o_store tyOk; (iterate 4 exact rfl); (focus (exact up))) | (apply o_stores tyOk; (iterate 4 exact rfl); (focus (exact ⟨rfl⟩)); (focus (exact up))) | (apply o_alloc tyOk; iterate 5 exact rfl) | (apply o_build tyOk; exact rfl; exact rfl; (focus (first | with_reducible exact pl48)); exact rfl; (focus (repeat (first | exact BuildR.nil | (apply BuildR.one; exact rfl; exact rfl; (first | (focus ((repeat (first | exact SetAt.zero)); done))))))); exact rfl) | (apply o_buildSlice tyOk; (iterate 5 exact rfl); (focus (decide)); exact rfl; (focus (decide)); (focus (repeat (first | exact CatR.last rfl))); exact rfl) | (apply o_append_nil tyOk; (iterate 5 exact rfl); (focus (exact ⟨by decide⟩)); (focus (exact pk))) | (apply o_call; exact rfl; exact rfl; (focus (first | exact rfl)); exact rfl; (focus (exact ⟨_, y1 _, by repeat (first | with_reducible exact Take.nil | with_reducible apply Take.c)⟩)); rintro _ _ ⟨rfl, rfl⟩) | (apply o_call; exact rfl; exact rfl; (focus (first | exact rfl)); exact rfl; (focus (exact ⟨_, y2 _, by repeat (first | with_reducible exact Take.nil)⟩)); rintro _ _ ⟨rfl, rfl⟩) | (apply o_call; exact rfl; exact rfl; (focus (first | exact rfl)); exact rfl; (focus (exact ⟨_, y3 _, by repeat (first | with_reducible exact Take.nil)⟩)); rintro _ _ ⟨rfl, rfl⟩) | (apply o_call; exact rfl; exact rfl; (focus (first | exact rfl)); exact rfl; (focus (exact ⟨_, y4 _, by repeat (first | with_reducible exact Take.nil)⟩)); rintro _ _ ⟨rfl, rfl⟩) | (apply w_dT; exact rfl; (focus (first | omega))) | apply thenS_normal | apply blockS_normal | apply w_skip | apply w_block | ((with_reducible apply Sd.mk); (first | exact True.intro | (constructor <;> first | omega | (unfold maxLen; omega)))) | ((with_reducible apply Ln.mk); (first | rfl)) | ((with_reducible apply Wr.mk); (first | exact IntWalk.i64_in _ (by omega))) | ((with_reducible apply Ce.mk); (first | rfl)) | ((with_reducible apply Se.mk); (first | (focus ((repeat (first | exact SetAt.zero | apply SetAt.succ)); done)))) | ((with_reducible apply Pu.mk); (first | exact putAt_all rfl | exact putAt_e7)) | ((with_reducible apply Su.mk); (first | exact subAt_all)) | exact True.intro | refine Rc.mk ⟨_, _, pk, ?_⟩ | exact Or.inl rfl | refine Or.inr (And.intro ?_ ?_) | apply And.intro | apply Or.inr | intro A | exact rfl)
          all_goals first
            | (exfalso; omega)
            | exact ⟨(i + 1, a + z1, (l5, e5), [(a, a + z1, z2, z3, p1, p2, p3)], _, (_, ⟨[I a, I (a + z1), I z2, I z3, I p1, I p2, I p3], false⟩) :: h), ⟨hil, by show -1 ≤ a + z1; omega, by show a + z1 ≤ ((i + 1 : Nat) : Int) * 1099511627777; omega, by show l5.length ≤ _; omega, .ofc (n := 1) (k := 7) rfl rfl rfl, hst, he⟩, by show N - (i + 1) < N - i; omega, (by repeat' (first | exact trivial | refine ⟨rfl, ?_⟩ | refine ⟨congrArg some ?_, ?_⟩)), (by repeat (first | with_reducible exact Take.nil | with_reducible apply Take.c | with_reducible apply Take.drop))⟩
            | trace_state
        | some A1 _ =>
          repeat' (first | apply w_seq | apply w_region | apply o_nil | (apply w_draw; (focus (kernel_rfl)); (focus (kernel_rfl))) | (apply o_g tyOk; exact rfl; exact rfl) | (apply o_ar tyOk; exact rfl; exact rfl) | (apply o_load tyOk; (iterate 3 exact rfl); (focus (exact pk))) | (apply o_loads tyOk; (iterate 3 exact rfl); (focus (exact pk))) | (apply o_store tyOk; (iterate 4 exact rfl); (focus (exact up))) | (apply o_stores tyOk; (iterate 4 exact rfl); (focus (exact ⟨rfl⟩)); (focus (exact up))) | (apply o_alloc tyOk; iterate 5 exact rfl) | (apply o_build tyOk; exact rfl; exact rfl; (focus (first | with_reducible exact pl48)); exact rfl; (focus (repeat (first | exact BuildR.nil | (apply BuildR.one; exact rfl; exact rfl; (first | (focus ((repeat (first | exact SetAt.zero)); done))))))); exact rfl) | (apply o_buildSlice tyOk; (iterate 5 exact rfl); (focus (decide)); exact rfl; (focus (decide)); (focus (repeat (first | exact CatR.last rfl))); exact rfl) | (apply o_append tyOk; (iterate 5 exact rfl); (focus (exact ⟨by decide⟩)); (focus (exact up)); (focus (exact pk))) | (apply o_call; exact rfl; exact rfl; (focus (first | exact rfl)); exact rfl; (focus (exact ⟨_, y1 _, by repeat (first | with_reducible exact Take.nil | with_reducible apply Take.c)⟩)); rintro _ _ ⟨rfl, rfl⟩) | (apply o_call; exact rfl; exact rfl; (focus (first | exact rfl)); exact rfl; (focus (exact ⟨_, y2 _, by repeat (first | with_reducible exact Take.nil)⟩)); rintro _ _ ⟨rfl, rfl⟩) | (apply o_call; exact rfl; exact rfl; (focus (first | exact rfl)); exact rfl; (focus (exact ⟨_, y3 _, by repeat (first | with_reducible exact Take.nil)⟩)); rintro _ _ ⟨rfl, rfl⟩) | (apply o_call; exact rfl; exact rfl; (focus (first | exact rfl)); exact rfl; (focus (exact ⟨_, y4 _, by repeat (first | with_reducible exact Take.nil)⟩)); rintro _ _ ⟨rfl, rfl⟩) | (apply w_dT; exact rfl; (focus (first | omega))) | apply thenS_normal | apply blockS_normal | apply w_skip | apply w_block | ((with_reducible apply Sd.mk); (first | exact True.intro | (constructor <;> first | omega | (unfold maxLen; omega)))) | ((with_reducible apply Ln.mk); (first | rfl | omega)) | ((with_reducible apply Wr.mk); (first | exact IntWalk.i64_in _ (by omega))) | ((with_reducible apply Ce.mk); (first | rfl)) | ((with_reducible apply Se.mk); (first | (focus ((repeat (first | exact SetAt.zero | apply SetAt.succ)); done)))) | ((with_reducible apply Pu.mk); (first | exact putAt_all rfl | exact putAt_e7)) | ((with_reducible apply Su.mk); (first | exact subAt_all)) | exact True.intro | refine Rc.mk ⟨_, _, pk, ?_⟩ | exact Or.inl rfl | refine Or.inr (And.intro ?_ ?_) | apply And.intro | apply Or.inr | intro A | exact rfl)
          all_goals first
            | (exfalso; omega)
            | exact ⟨(i + 1, a + z1, (l5, e5), o ++ [(a, a + z1, z2, z3, p1, p2, p3)], _, (A1, ⟨recs enF o ++ [I a, I (a + z1), I z2, I z3, I p1, I p2, I p3], false⟩) :: h), ⟨hil, by show -1 ≤ a + z1; omega, by show a + z1 ≤ ((i + 1 : Nat) : Int) * 1099511627777; omega, by show l5.length ≤ _; omega, .ofc (n := o.length + 1) (k := 7 * o.length + 1 * 7) (recs_snocE rfl) (by simp) (by omega), hst, he⟩, by show N - (i + 1) < N - i; omega, (by repeat' (first | exact trivial | refine ⟨rfl, ?_⟩ | refine ⟨congrArg some ?_, ?_⟩)), (by repeat (first | with_reducible exact Take.nil | with_reducible apply Take.c | with_reducible apply Take.drop))⟩
            | trace_state
      · obtain rfl : i = N := by omega
        rw [Nat.sub_self] at he
        have he : (o ++ [], l1, e1) = EE := he
        rw [List.append_nil] at he
        subst he
        dsimp only at hR hEl
        have hE := fun h => vEnd_any nr l1 e1 h
        have hV := fun h hv => DValid_any (d1, d2, d3) o v h hv (by omega)
        have hV : ∀ h, Has h (recs enF o) 7 o.length v → SRun Tryz.prog 13 [.agg ⟨[I d1, I d2, I d3, v]⟩] h fun r q => r = B (decide (dvl (d1, d2, d3) o)) ∧ q = h := hV
        by_cases hr : rend l1 e1 = 0 ∧ dvl (d1, d2, d3) o
        · rw [if_pos hr] at hR
          subst hR
          rw [hr.1] at hE
          rw [decide_eq_true hr.2] at hV
          have hh1 := hg.has.1
          cases hg with
          | nil =>
            repeat' (first | apply w_seq | apply w_region | apply o_nil | (apply o_g tyOk; exact rfl; exact rfl) | (apply o_notB; exact rfl; exact rfl) | (apply o_loads tyOk; (iterate 3 exact rfl); (focus (exact pk))) | (apply o_stores tyOk; (iterate 4 exact rfl); (focus (exact ⟨rfl⟩)); (focus (exact up))) | (apply o_call; exact rfl; exact rfl; (focus (first | exact rfl)); exact rfl; (focus (exact ⟨_, hE _, by repeat (first | with_reducible exact Take.nil | with_reducible apply Take.c)⟩)); rintro _ _ ⟨rfl, rfl⟩) | (apply o_call; exact rfl; exact rfl; (focus (first | exact rfl)); exact rfl; (focus (exact ⟨_, hV _ (hh1.re (.drop (.drop (.drop .nil)))), by repeat (first | with_reducible exact Take.nil)⟩)); rintro _ _ ⟨rfl, rfl⟩) | (apply o_want; exact rfl; exact rfl) | (apply w_false; exact rfl) | (apply w_dF; exact rfl; (focus (first | omega))) | apply thenS_normal | apply thenS_exit | apply blockS_exit | apply w_skip | apply w_ret | apply w_exit | ((with_reducible apply Sd.mk); (first | exact True.intro)) | ((with_reducible apply Ln.mk); (first | rfl)) | ((with_reducible apply Pu.mk); (first | exact putAt_all rfl)) | ((with_reducible apply Su.mk); (first | exact subAt_all)) | exact True.intro | exact rfl)
            all_goals first
              | contradiction
              | (exfalso; omega)
              | (apply s_fin; (exact (show ResS _ _ _ _ [_, _] from (res_cell tyOk rfl rfl rfl (by exact pk) (by first | rfl | exact ‹_› | omega | (simp ; first | done | omega)) (by first | rfl | exact ‹_› | omega | (simp ; first | done | omega)) ⟨rfl, trivial⟩))); (focus (exact ⟨_, rfl, .nil⟩)); (focus (repeat (first | with_reducible exact Take.nil | with_reducible apply Take.c | with_reducible apply Take.drop))))
              | trace_state
          | some A1 _ =>
            repeat' (first | apply w_seq | apply w_region | apply o_nil | (apply o_g tyOk; exact rfl; exact rfl) | (apply o_notB; exact rfl; exact rfl) | (apply o_loads tyOk; (iterate 3 exact rfl); (focus (exact pk))) | (apply o_stores tyOk; (iterate 4 exact rfl); (focus (exact ⟨rfl⟩)); (focus (exact up))) | (apply o_call; exact rfl; exact rfl; (focus (first | exact rfl)); exact rfl; (focus (exact ⟨_, hE _, by repeat (first | with_reducible exact Take.nil | with_reducible apply Take.c)⟩)); rintro _ _ ⟨rfl, rfl⟩) | (apply o_call; exact rfl; exact rfl; (focus (first | exact rfl)); exact rfl; (focus (exact ⟨_, hV _ (hh1.re (.drop (.drop (.drop .nil)))), by repeat (first | with_reducible exact Take.nil)⟩)); rintro _ _ ⟨rfl, rfl⟩) | (apply o_want; exact rfl; exact rfl) | (apply w_false; exact rfl) | (apply w_dF; exact rfl; (focus (first | omega))) | apply thenS_normal | apply thenS_exit | apply blockS_exit | apply w_skip | apply w_ret | apply w_exit | ((with_reducible apply Sd.mk); (first | exact True.intro)) | ((with_reducible apply Ln.mk); (first | rfl)) | ((with_reducible apply Pu.mk); (first | exact putAt_all rfl)) | ((with_reducible apply Su.mk); (first | exact subAt_all)) | exact True.intro | exact rfl)
            all_goals first
              | contradiction
              | (exfalso; omega)
              | (apply s_fin; (exact (show ResS _ _ _ _ [_, _] from (res_cell tyOk rfl rfl rfl (by exact pk) (by first | rfl | exact ‹_› | omega | (simp ; first | done | omega)) (by first | rfl | exact ‹_› | omega | (simp ; first | done | omega)) ⟨rfl, trivial⟩))); (focus (exact ⟨_, rfl, .some A1 o⟩)); (focus (repeat (first | with_reducible exact Take.nil | with_reducible apply Take.c | with_reducible apply Take.drop))))
              | trace_state
        · rw [if_neg hr] at hR
          subst hR
          by_cases hr1 : rend l1 e1 = 0
          · rw [hr1] at hE
            rw [decide_eq_false (fun k => hr ⟨hr1, k⟩)] at hV
            repeat' (first | apply w_seq | apply w_region | apply o_nil | (apply o_g tyOk; exact rfl; exact rfl) | (apply o_notB; exact rfl; exact rfl) | (apply o_loads tyOk; (iterate 3 exact rfl); (focus (exact pk))) | (apply o_stores tyOk; (iterate 4 exact rfl); (focus (exact ⟨rfl⟩)); (focus (exact up))) | (apply o_build tyOk; exact rfl; exact rfl; (focus (first | with_reducible exact pl26)); exact rfl; (focus (repeat (first | exact BuildR.nil))); exact rfl) | (apply o_call; exact rfl; exact rfl; (focus (first | exact rfl)); exact rfl; (focus (exact ⟨_, hE _, by repeat (first | with_reducible exact Take.nil | with_reducible apply Take.c)⟩)); rintro _ _ ⟨rfl, rfl⟩) | (apply o_call; exact rfl; exact rfl; (focus (first | exact rfl)); exact rfl; (focus (exact ⟨_, hV _ (hg.has.1.re (.drop (.drop (.drop .nil)))), by repeat (first | with_reducible exact Take.nil)⟩)); rintro _ _ ⟨rfl, rfl⟩) | (apply o_want; exact rfl; exact rfl) | (apply w_true; exact rfl) | (apply w_dF; exact rfl; (focus (first | omega))) | apply thenS_normal | apply thenS_ret | apply thenS_exit | apply blockS_exit | apply w_ret | apply w_exit | ((with_reducible apply Sd.mk); (first | exact True.intro)) | ((with_reducible apply Ln.mk); (first | rfl)) | ((with_reducible apply Pu.mk); (first | exact putAt_all rfl)) | ((with_reducible apply Su.mk); (first | exact subAt_all)) | exact True.intro | exact rfl)
            all_goals first
              | contradiction
              | (exfalso; omega)
              | (apply s_fin; (exact (show ResS _ _ _ _ [_, _] from (res_cell tyOk rfl rfl rfl (by exact pk) (by first | rfl | exact ‹_› | omega | (simp ; first | done | omega)) (by first | rfl | exact ‹_› | omega | (simp ; first | done | omega)) ⟨rfl, trivial⟩))); (focus (exact ⟨rfl, rfl⟩)); (focus (repeat (first | with_reducible exact Take.nil | exact hg.has.2 | with_reducible apply Take.c | with_reducible apply Take.drop))))
              | trace_state
          · generalize rend l1 e1 = re at *
            repeat' (first | apply w_seq | apply w_region | apply o_nil | (apply o_g tyOk; exact rfl; exact rfl) | (apply o_stores tyOk; (iterate 4 exact rfl); (focus (exact ⟨rfl⟩)); (focus (exact up))) | (apply o_build tyOk; exact rfl; exact rfl; (focus (first | with_reducible exact pl26)); exact rfl; (focus (repeat (first | exact BuildR.nil))); exact rfl) | (apply o_call; exact rfl; exact rfl; (focus (first | exact rfl)); exact rfl; (focus (exact ⟨_, hE _, by repeat (first | with_reducible exact Take.nil | with_reducible apply Take.c)⟩)); rintro _ _ ⟨rfl, rfl⟩) | (apply o_skip; iterate 4 exact rfl) | (apply o_sT; (iterate 3 exact rfl); (focus (first | exact ‹_›)); exact rfl) | (apply w_true; exact rfl) | (apply w_dF; exact rfl; (focus (first | omega))) | apply thenS_normal | apply thenS_ret | apply thenS_exit | apply blockS_exit | apply w_ret | apply w_exit | ((with_reducible apply Sd.mk); (first | exact True.intro)) | ((with_reducible apply Ln.mk); (first | rfl)) | ((with_reducible apply Pu.mk); (first | exact putAt_all rfl)) | exact True.intro)
            all_goals first
              | contradiction
              | (exfalso; omega)
              | (apply s_fin; (exact (show ResS _ _ _ _ [_, _] from (res_cell tyOk rfl rfl rfl (by exact pk) (by first | rfl | exact ‹_› | omega | (simp ; first | done | omega)) (by first | rfl | exact ‹_› | omega | (simp ; first | done | omega)) ⟨rfl, trivial⟩))); (focus (exact ⟨rfl, rfl⟩)); (focus (repeat (first | with_reducible exact Take.nil | exact hg.has.2 | with_reducible apply Take.c | with_reducible apply Take.drop))))
              | trace_state
    · rw [if_neg hk] at hR
      subst hR
      refine w_body1 Tryz.func19 rfl rfl ?_
      repeat' ((fail_if_success (show SWp _ _ (Code.seq (Code.region 6 _ _) _) _ _ _)); (fail_if_success (show SWp _ _ (Code.region 6 _ _) _ _ _)); first | apply w_seq | apply w_region | apply o_nil | (apply o_g tyOk; exact rfl; exact rfl) | (apply o_load tyOk; (iterate 3 exact rfl); (focus (exact pk))) | (apply o_stores tyOk; (iterate 4 exact rfl); (focus (exact ⟨rfl⟩)); (focus (exact up))) | (apply o_alloc tyOk; iterate 5 exact rfl) | (apply o_build tyOk; exact rfl; exact rfl; (focus (first | with_reducible exact pl26)); exact rfl; (focus (repeat (first | exact BuildR.nil))); exact rfl) | (apply o_call; exact rfl; exact rfl; (focus (first | exact rfl)); exact rfl; (focus (exact ⟨_, hU _, by repeat (first | with_reducible exact Take.nil)⟩)); rintro _ _ ⟨rfl, rfl⟩) | (apply o_want; exact rfl; exact rfl) | (apply o_skip; iterate 4 exact rfl) | (apply o_guardFN; (iterate 3 exact rfl); all_goals intro hc) | (apply w_true; exact rfl) | (apply w_dT; exact rfl; (focus (first | omega))) | (apply w_dF; exact rfl; (focus (first | omega))) | apply thenS_normal | apply thenS_ret | apply w_skip | apply w_ret | ((with_reducible apply Sd.mk); (first | exact True.intro)) | ((with_reducible apply Ln.mk); (first | rfl)) | ((with_reducible apply Ce.mk); (first | rfl)) | ((with_reducible apply Pu.mk); (first | exact putAt_all rfl)) | exact True.intro | intro A | exact rfl)
      all_goals first
        | (exfalso; omega)
        | (apply s_fin; (exact (show ResS _ _ _ _ [_, _] from (res_cell tyOk rfl rfl rfl (by exact pk) (by first | rfl | exact ‹_› | omega | (simp ; first | done | omega)) (by first | rfl | exact ‹_› | omega | (simp ; first | done | omega)) ⟨rfl, trivial⟩))); (focus (exact ⟨rfl, rfl⟩)); (focus (repeat (first | with_reducible exact Take.nil | with_reducible apply Take.c | with_reducible apply Take.drop))))
        | trace_state
end Go.Proofs.YtncnmfdmbfbfjaaGreat
end
section
set_option linter.unusedVariables false
set_option linter.unusedSimpArgs false
set_option maxRecDepth 4000
namespace Go.Proofs.YtncnmfdmbfbfjaaGreat
open Go.Gh Go.RowKit

/-- The head of a number. -/
theorem vhd_fin : ∀ k : Nat, k < 9 → ∀ m : Nat, m < 128 → (k < 8 → m < 2 ^ (7 - k)) → (k = 8 → m = 0) → vhd k (m : Int) = 256 - 2 ^ (8 - k) + (m : Int) ∧ 256 - 2 ^ (8 - k) + (m : Int) < 256 := by decide +kernel
theorem vbe_div : ∀ (k : Nat) (m : Int) (T : List UInt8), (vbe k m T).2 = m / 256 ^ k
  | 0, m, T => by show m = m / 256 ^ 0; rw [Int.pow_zero, Int.ediv_one]
  | k + 1, m, T => by
    show (vbe k (m / 256) (b8 (m % 256) :: T)).2 = _
    rw [vbe_div k, Int.pow_succ, Int.mul_comm, Int.ediv_ediv_of_nonneg (by decide)]
theorem vks_lt {n : Int} (f k : Nat) : vks n f k < k + f → n < vbnd (vks n f k + 1) := by
  induction f generalizing k with
  | zero => intro h; exact absurd h (Nat.lt_irrefl _)
  | succ f ih =>
    intro h
    by_cases g : vbnd (k + 1) ≤ n
    · rw [show vks n (f + 1) k = vks n f (k + 1) from if_pos g] at h ⊢
      exact ih (k + 1) (by omega)
    · rw [show vks n (f + 1) k = k from if_neg g]
      omega
theorem vbnd_step : ∀ k : Nat, k < 8 → vbnd (k + 1) = vbnd k + 2 ^ (7 - k) * 256 ^ k := by decide
theorem vhd_num {n : Int} (h0 : 0 ≤ n) (h : n ≤ 9223372036854775807) : vhd (vk n) (vbe (vk n) (n - vbnd (vk n)) []).2 = 256 - 2 ^ (8 - vk n) + (vbe (vk n) (n - vbnd (vk n)) []).2 ∧
    0 ≤ (vbe (vk n) (n - vbnd (vk n)) []).2 ∧ 256 - 2 ^ (8 - vk n) + (vbe (vk n) (n - vbnd (vk n)) []).2 < 256 ∧ (vbe (vk n) (n - vbnd (vk n)) []).2 < 128 := by
  obtain ⟨hk1, hk2⟩ := vk_ok h0
  have hlt : vk n < 8 → n < vbnd (vk n + 1) := fun g => vks_lt (n := n) 8 0 (by show vk n < 0 + 8; omega)
  rw [vbe_div]
  generalize hK : vk n = K at *
  have hm0 : 0 ≤ (n - vbnd K) / 256 ^ K := Int.ediv_nonneg (by omega) (Int.le_of_lt (Int.pow_pos (by decide)))
  have hmk : K < 8 → (n - vbnd K) / 256 ^ K < 2 ^ (7 - K) := fun g => by
    have := hlt g
    rw [vbnd_step K g] at this
    exact Int.ediv_lt_of_lt_mul (Int.pow_pos (by decide)) (by omega)
  have hm8 : K = 8 → (n - vbnd K) / 256 ^ K = 0 := fun g => by
    subst g
    exact Int.ediv_eq_zero_of_lt (by omega) (by have := (vbnd_in 8 (by decide)).1; have : (256 : Int) ^ 8 = 18446744073709551616 := rfl; omega)
  obtain ⟨m, hm⟩ := Int.eq_ofNat_of_zero_le hm0
  rw [hm] at hmk hm8 ⊢
  have hmk' : K < 8 → m < 2 ^ (7 - K) := fun g => by have := hmk g; have e : ((2 : Int) ^ (7 - K)) = ((2 ^ (7 - K) : Nat) : Int) := by simp
                                                     omega
  have hm128 : m < 128 := by
    by_cases g : K < 8
    · have := hmk' g
      have h2 : 2 ^ (7 - K) ≤ 2 ^ 7 := Nat.pow_le_pow_right (by decide) (by omega)
      have h3 : (2 ^ 7 : Nat) = 128 := rfl
      omega
    · have := hm8 (by omega); omega
  obtain ⟨g1, g2⟩ := vhd_fin K (by omega) m hm128 hmk' (fun g => by have := hm8 g; omega)
  exact ⟨g1, by omega, g2, by omega⟩
end Go.Proofs.YtncnmfdmbfbfjaaGreat
end
section
set_option linter.unusedVariables false
set_option linter.unusedSimpArgs false
set_option maxRecDepth 4000
namespace Go.Proofs.YtncnmfdmbfbfjaaGreat
open Go.Gh Go.RowKit

theorem batC_cons (x : UInt8) (r : List UInt8) (i : Nat) : bat (x :: r) ((i + 1 : Nat) : Int) = bat r (i : Int) := by
  unfold bat; rw [Int.toNat_natCast, Int.toNat_natCast]; rfl
theorem batC_left {l r : List UInt8} {k : Nat} (h : k < l.length) : bat (l ++ r) (k : Int) = bat l (k : Int) := by
  unfold bat
  rw [Int.toNat_natCast, List.getD_eq_getElem?_getD, List.getD_eq_getElem?_getD, List.getElem?_append_left h]
theorem batC_right (l r : List UInt8) (k : Nat) : bat (l ++ r) ((l.length + k : Nat) : Int) = bat r (k : Int) := by
  unfold bat
  rw [Int.toNat_natCast, Int.toNat_natCast, List.getD_eq_getElem?_getD, List.getD_eq_getElem?_getD, List.getElem?_append_right (by omega), Nat.add_sub_cancel_left]
theorem vbe_app : ∀ (k : Nat) (m : Int) (T : List UInt8), (vbe k m T).1 = (vbe k m []).1 ++ T
  | 0, _, _ => rfl
  | k + 1, m, T => by
    show (vbe k (m / 256) (b8 (m % 256) :: T)).1 = (vbe k (m / 256) [b8 (m % 256)]).1 ++ T
    rw [vbe_app k _ (b8 (m % 256) :: T), vbe_app k _ [b8 (m % 256)], List.append_assoc]; rfl
theorem vbe_snoc (k : Nat) (m : Int) : (vbe (k + 1) m []).1 = (vbe k (m / 256) []).1 ++ [b8 (m % 256)] := vbe_app k (m / 256) [b8 (m % 256)]
theorem vbl (k : Nat) (m : Int) : (vbe k m []).1.length = k := by rw [vbe_len]; rfl
theorem vacc_snoc (l : List UInt8) : ∀ (k i : Nat) (v : Int), vacc l (k + 1) i v = vacc l k i v * 256 + bat l ((i + k : Nat) : Int)
  | 0, _, _ => rfl
  | k + 1, i, v => by
    show vacc l (k + 1) (i + 1) (v * 256 + bat l (i : Int)) = vacc l k (i + 1) (v * 256 + bat l (i : Int)) * 256 + _
    rw [vacc_snoc l k (i + 1), show i + 1 + k = i + (k + 1) by omega]
theorem vacc_vbe {l : List UInt8} {i : Nat} {v : Int} : ∀ (k : Nat) (m : Int), (∀ j, j < k → bat l ((i + j : Nat) : Int) = bat (vbe k m []).1 (j : Int)) → vacc l k i v = (v - m / 256 ^ k) * 256 ^ k + m
  | 0, m, _ => by show v = (v - m / 256 ^ 0) * 256 ^ 0 + m; rw [Int.pow_zero, Int.ediv_one]; omega
  | k + 1, m, h => by
    have hl := vbl k (m / 256)
    have h1 : vacc l k i v = (v - m / 256 / 256 ^ k) * 256 ^ k + m / 256 := vacc_vbe k (m / 256) fun j hj => by
      rw [h j (by omega), vbe_snoc, batC_left (by omega)]
    have h2 : bat l ((i + k : Nat) : Int) = m % 256 := by
      rw [h k (by omega), vbe_snoc]
      have := batC_right (vbe k (m / 256) []).1 [b8 (m % 256)] 0
      rw [hl] at this
      rw [show ((k : Nat) : Int) = ((k + 0 : Nat) : Int) by omega, this]
      show ((b8 (m % 256)).toNat : Int) = m % 256
      exact b8_val (by omega)
    have h3 : m / 256 / 256 ^ k = m / 256 ^ (k + 1) := by
      rw [Int.ediv_ediv_of_nonneg (by decide), Int.pow_succ, Int.mul_comm]
    rw [vacc_snoc, h1, h2, h3, Int.pow_succ]
    generalize m / (256 ^ k * 256) = D
    generalize (256 : Int) ^ k = p
    have h4 : ((v - D) * p + m / 256) * 256 + m % 256 = (v - D) * p * 256 + (m / 256 * 256 + m % 256) := by rw [Int.add_mul, Int.add_assoc]
    rw [h4, Int.mul_assoc, show m / 256 * 256 + m % 256 = m by omega]
theorem vk_lt {n : Int} (h : vk n < 8) : n < vbnd (vk n + 1) := vks_lt (n := n) 8 0 (by show vk n < 0 + 8; omega)
theorem hdr_fin : ∀ k : Nat, k < 9 → ∀ m : Nat, m < 128 → (k < 8 → m < 2 ^ (7 - k)) → (k = 8 → m = 0) → vlead (256 - 2 ^ (8 - k) + (m : Int)) 8 0 = k ∧ vlow (256 - 2 ^ (8 - k) + (m : Int)) k = m := by decide +kernel
theorem vhd_top {n : Int} (h0 : 0 ≤ n) (h : n ≤ 9223372036854775807) : ∃ m : Nat, (vbe (vk n) (n - vbnd (vk n)) []).2 = (m : Int) ∧ m < 128 ∧ (vk n < 8 → m < 2 ^ (7 - vk n)) ∧ (vk n = 8 → m = 0) := by
  obtain ⟨hk1, hk2⟩ := vk_ok h0
  have hlt := vk_lt (n := n)
  obtain ⟨_, g2, _, g4⟩ := vhd_num h0 h
  obtain ⟨m, hm⟩ := Int.eq_ofNat_of_zero_le g2
  rw [hm] at g4
  refine ⟨m, hm, by omega, fun g => ?_, fun g => ?_⟩
  · have h1 := hlt g
    rw [vbnd_step _ g] at h1
    have h2 : (n - vbnd (vk n)) / 256 ^ vk n < 2 ^ (7 - vk n) := Int.ediv_lt_of_lt_mul (Int.pow_pos (by decide)) (by omega)
    rw [vbe_div] at hm
    rw [hm] at h2
    have e : ((2 : Int) ^ (7 - vk n)) = ((2 ^ (7 - vk n) : Nat) : Int) := by simp
    omega
  · rw [vbe_div, g] at hm
    rw [g] at hk1
    have h8 := (vbnd_in 8 (by decide)).1
    have : (n - vbnd 8) / 256 ^ 8 = 0 := Int.ediv_eq_zero_of_lt (by omega) (by have : (256 : Int) ^ 8 = 18446744073709551616 := rfl; omega)
    omega
theorem vnum_cons {n : Int} (h0 : 0 ≤ n) : vnum n = b8 (vhd (vk n) (vbe (vk n) (n - vbnd (vk n)) []).2) :: (vbe (vk n) (n - vbnd (vk n)) []).1 := if_neg (by omega)
/-- A number that is written lies in front. -/
theorem vpeekA_num {n : Int} (h0 : 0 ≤ n) (h : n ≤ 9223372036854775807) (r : List UInt8) : vpeek (vnum n ++ r) = (n, ((vnum n).length : Int), true) := by
  obtain ⟨hk1, hk2⟩ := vk_ok h0
  obtain ⟨m, hm, hm1, hm2, hm3⟩ := vhd_top h0 h
  obtain ⟨g1, g2⟩ := hdr_fin (vk n) (by omega) m hm1 hm2 hm3
  obtain ⟨v1, v2⟩ := vhd_fin (vk n) (by omega) m hm1 hm2 hm3
  have hlen := vnum_len h0
  have hl : (vnum n ++ r).length = vk n + 1 + r.length := by rw [List.length_append, hlen]
  have hb0 : bat (vnum n ++ r) 0 = 256 - 2 ^ (8 - vk n) + (m : Int) := by
    rw [vnum_cons h0, hm, List.cons_append]
    show ((b8 (vhd (vk n) (m : Int))).toNat : Int) = _
    rw [b8_val (vhd_in _ _), v1]
  have hva : vacc (vnum n ++ r) (vk n) 1 (m : Int) = n - vbnd (vk n) := by
    rw [vacc_vbe (vk n) (n - vbnd (vk n)), ← vbe_div (vk n) (n - vbnd (vk n)) [], hm]
    · rw [Int.sub_self, Int.zero_mul, Int.zero_add]
    · intro j hj
      rw [vnum_cons h0, List.cons_append, Nat.add_comm 1 j, batC_cons, batC_left (by rw [vbl]; exact hj)]
  unfold vpeek
  rw [if_neg (by omega), hb0, g1, if_neg (by omega), g2, hva, if_neg (by omega), hlen]
  congr 1
  · omega
theorem rdA_num {n m : Int} (h0 : 0 ≤ n) (h1 : n ≤ m) (h : n ≤ 9223372036854775807) (r : List UInt8) : rdN (vnum n ++ r) m = (n, r, 0) := by
  unfold rdN
  rw [vpeekA_num h0 h]
  dsimp only
  rw [if_neg (by decide), if_neg (by omega), Int.toNat_natCast, List.drop_left]
end Go.Proofs.YtncnmfdmbfbfjaaGreat
end
section
set_option linter.unusedVariables false
set_option linter.unusedSimpArgs false
set_option maxRecDepth 4000
namespace Go.Proofs.YtncnmfdmbfbfjaaGreat
open Go.Gh Go.RowKit

theorem rdS_num {n m : Int} (h0 : 0 ≤ n) (h1 : n ≤ m) (h : n ≤ 9223372036854775807) (r : List UInt8) : rdS (vnum n ++ r, 0) m = (n, r, 0) := by
  unfold rdS
  rw [if_neg (fun k => k rfl)]
  exact rdA_num h0 h1 h r
theorem exR_num {x : Ex3} (hf : fit x) (r : List UInt8) : exR (numT (exN x) ++ r, 0) = (x, r, 0) := by
  obtain ⟨a, b, c⟩ := x
  have h1 := hf.1; have h2 := hf.2.1; have h3 := hf.2.2.1; have h4 := hf.2.2.2.1; have h5 := hf.2.2.2.2.1; have h6 := hf.2.2.2.2.2.1
  dsimp only at h1 h2 h3 h4 h5 h6
  have e : numT (exN (a, b, c)) ++ r = vnum a ++ (vnum b ++ (vnum c ++ r)) := by simp [numT, exN]
  rw [e]
  unfold exR
  rw [rdS_num (by omega) (by omega) (by omega)]
  dsimp only
  rw [rdS_num (by omega) (by omega) (by omega)]
  dsimp only
  rw [rdS_num (by omega) (by omega) (by omega)]
theorem enR_num {a : Int} {e : Eny} (ha : -1 ≤ a) (he : eok a e) (hf : fit (plc e)) (r : List UInt8) : enR a (numT (enN e) ++ r, 0) = (e, r, 0) := by
  obtain ⟨x1, x2, x3, x4, p⟩ := e
  obtain ⟨h1, h2, h3, h4⟩ := he
  unfold lvl at h4
  dsimp only at h1 h2 h3 h4
  have e : numT (enN (x1, x2, x3, x4, p)) ++ r = vnum (x2 - x1) ++ (vnum x3 ++ (vnum x4 ++ (numT (exN p) ++ r))) := by simp [numT, enN, exN]
  rw [e]
  unfold enR
  rw [rdS_num (by omega) (by omega) (by omega)]
  dsimp only
  rw [rdS_num (by omega) (by omega) (by omega)]
  dsimp only
  rw [rdS_num (by omega) (by omega) (by omega)]
  dsimp only
  rw [exR_num hf]
  dsimp only
  rw [h1, show a + (x2 - a) = x2 by omega]
theorem ensR_num : ∀ (l : List Eny) (a : Int) (r : List UInt8), -1 ≤ a → cmb a l → ensR l.length a ((l.flatMap fun e => numT (enN e)) ++ r, 0) = (l, r, 0)
  | [], _, _, _, _ => rfl
  | e :: l, a, r, ha, h => by
    obtain ⟨⟨h1, h2⟩, h3⟩ := cmb_cons.1 h
    have hn := enR_num ha h1 h2 ((l.flatMap fun e => numT (enN e)) ++ r)
    have ih := ensR_num l e.2.1 r (by have := h1.1; have := h1.2.1; omega) h3
    rw [List.flatMap_cons, List.append_assoc]
    show ((enR a _).1 :: (ensR l.length (enR a _).1.2.1 (enR a _).2).1, (ensR l.length (enR a _).1.2.1 (enR a _).2).2) = _
    rw [hn]
    dsimp only
    rw [ih]
theorem decC_txt {d : Ex3} {l : List Eny} (h : dvl d l) : ddC (txtD d l) = some (d, l) := by
  have e : txtD d l = numT (exN d) ++ (vnum l.length ++ ((l.flatMap fun e => numT (enN e)) ++ [])) := by
    unfold txtD; simp [numT]
  have hd : dirR (txtD d l) = (d, l, [], 0) := by
    have h32 := h.1
    rw [e]
    unfold dirR
    rw [exR_num h.2.1.1]
    dsimp only
    rw [rdS_num (by omega) (by omega) (by omega)]
    dsimp only
    rw [Int.toNat_natCast, ensR_num l (-1) [] (by omega) ⟨h.2.2.1, h.2.1.2⟩]
  unfold ddC
  rw [hd]
  dsimp only
  rw [if_pos ⟨by unfold rend; rw [if_neg (fun k => k.2 rfl)], h⟩]
theorem wrp7 {c : List UInt8} (h : c.length ≤ 4096) : (wrp 7 c).2 = 0 := by
  unfold wrp
  rw [if_neg (by omega), if_neg (by omega)]
/-- What Encode gives is read again. -/
theorem decD_enc {d : Ex3} {l : List Eny} (h : dvl d l) : decD (encD d l).1 = some (d, l) ∧ (encD d l).2 = 0 ∧ (encD d l).1.length ≤ 4120 ∧ 7 ≤ (encD d l).1.length := by
  have hl := txtD_le (d := d) h.1
  have hw := wrp7 (c := txtD d l) (by omega)
  have e : encD d l = wrp 7 (txtD d l) := if_pos h
  have hp := prs_wrp hw []
  rw [List.append_nil] at hp
  have hk := prs_ok hp
  have h1 := wrp_1 7 (txtD d l)
  rw [e]
  refine ⟨?_, hw, h1, hk.2.2.1⟩
  unfold decD
  rw [if_neg (by omega), hp]
  dsimp only
  rw [if_pos ⟨rfl, rfl⟩, decC_txt h]
end Go.Proofs.YtncnmfdmbfbfjaaGreat
end
section
set_option linter.unusedVariables false
set_option linter.unusedSimpArgs false
set_option maxRecDepth 4000
namespace Go.Proofs.YtncnmfdmbfbfjaaGreat
open Go.Gh Go.RowKit

theorem DRegions_any (d : Ex3) (l : List Eny) (v : Value) (h : SH) (hv : Has h (recs enF l) 7 l.length v) (hl : l.length ≤ 1000) (hd : dvl d l) :
    SRun Tryz.prog 15 [drV d v] h fun r q => ∃ A, r = gsl A 0 ((rgs d l).length * 2) (rgs d l).length 2 ∧ q = (A, ⟨recs prF (rgs d l), false⟩) :: h := by
  have hV := fun h hv => DValid_any d l v h hv hl
  rw [decide_eq_true hd] at hV
  have hG := fun h hv => regions_any d l v h hv hl hd.2.1.1 hd.2.1.2
  obtain ⟨ad, fl, rfl, hh⟩ := id hv
  generalize rgs d l = R at *
  obtain ⟨d1, d2, d3⟩ := d
  have hV : ∀ h, Has h (recs enF l) 7 l.length (.slice ad l.length fl) → SRun Tryz.prog 13 [.agg ⟨[I d1, I d2, I d3, .slice ad l.length fl]⟩] h fun r q => r = B true ∧ q = h := hV
  have hG : ∀ h, Has h (recs enF l) 7 l.length (.slice ad l.length fl) → SRun Tryz.prog 33 [.agg ⟨[I d1, I d2, I d3, .slice ad l.length fl]⟩] h fun r q => ∃ A, r = gsl A 0 (R.length * 2) R.length 2 ∧ q = (A, ⟨recs prF R, false⟩) :: h := hG
  show SRun _ _ [.agg ⟨[I d1, I d2, I d3, .slice ad l.length fl]⟩] h _
  refine w_body1 Tryz.func15 rfl rfl ?_
  repeat' (first | apply w_seq | apply w_region | apply o_nil | (apply o_g tyOk; exact rfl; exact rfl) | (apply o_notB; exact rfl; exact rfl) | (apply o_loads tyOk; (iterate 3 exact rfl); (focus (exact pk))) | (apply o_box (tt := tyT); iterate 5 exact rfl) | (apply o_call; exact rfl; exact rfl; (focus (first | exact rfl)); exact rfl; (focus (exact ⟨_, hV _ (hv.re (.drop .nil)), by repeat (first | with_reducible exact Take.nil)⟩)); rintro _ _ ⟨rfl, rfl⟩) | (apply o_call; exact rfl; exact rfl; (focus (first | exact rfl)); exact rfl; (focus (exact ⟨_, hG _ (hv.re (.drop .nil)), by repeat (first | with_reducible exact Take.nil)⟩)); rintro _ _ ⟨A2, rfl, rfl⟩) | (apply w_false; exact rfl) | apply thenS_normal | apply w_skip | apply w_ret | ((with_reducible apply Sd.mk); (first | exact True.intro)) | ((with_reducible apply Ln.mk); (first | rfl)) | ((with_reducible apply Su.mk); (first | exact subAt_all)) | exact True.intro | intro A | exact rfl)
  all_goals first
    | contradiction
    | (apply s_fin; (exact (show ResS _ _ _ _ [_] from ⟨rfl, trivial⟩)); (focus (exact ⟨A2, rfl, rfl⟩)); (focus (repeat (first | with_reducible exact Take.nil | with_reducible apply Take.c | with_reducible apply Take.drop))))
    | trace_state
theorem EnO.sl {h q : SH} {l : List Eny} {v : Value} (g : EnO h l v q) : ∃ ad fl, v = .slice ad l.length fl := by
  obtain ⟨ad, fl, e, _⟩ := g.has.1; exact ⟨ad, fl, e⟩
set_option maxRecDepth 8000
/-- The example. -/
abbrev dX : Ex3 := (4, 100, 0)
abbrev lX : List Eny := [(-1, 9, 0, 0, 6, 1, 0), (9, 20, 0, 0, 7, 64, 0)]
abbrev cX : List Value := [I (-1), I 9, I 0, I 0, I 6, I 1, I 0, I 9, I 20, I 0, I 0, I 7, I 64, I 0]
theorem dvlX : dvl dX lX := by decide +kernel
theorem hasX {h h1 : SH} {A : Nat} (p : Pick h A ⟨cX, false⟩ h1) : Has h (recs enF lX) 7 lX.length (gsl A 0 14 2 7) := ⟨_, _, rfl, fun _ => ⟨A, _, _, rfl, p⟩⟩
theorem awakeD_any (h : SH) : SRun Tryz.prog 10 [] h fun r q => r = B true ∧ q = h := by
  obtain ⟨p1, p2, p3, p4⟩ := decD_enc dvlX
  have e1 : ∀ (A : Nat) (h h1 : SH), Pick h A ⟨cX, false⟩ h1 → SRun Tryz.prog 12 [.agg ⟨[I 4, I 100, I 0, gsl A 0 14 2 7]⟩] h fun r q => r = .tuple #[S (encD dX lX).1, I 0] ∧ q = h := fun A h h1 p => by
    have := DEncode_any dX lX _ h (hasX p) (by decide); rwa [p2] at this
  have e2 : ∀ h, SRun Tryz.prog 19 [S (encD dX lX).1] h fun r q => ∃ A, r = .tuple #[.agg ⟨[I 4, I 100, I 0, gsl A 0 14 2 7]⟩, I 0] ∧ q = (A, ⟨cX, false⟩) :: h := fun h =>
    (DDecode_any (encD dX lX).1 h (by omega)).mono fun r q k => by
      rw [p1] at k
      obtain ⟨v, k1, k2⟩ := k
      cases k2 with
      | some A _ => exact ⟨A, k1, rfl⟩
  have e3 : ∀ (A : Nat) (h h1 : SH), Pick h A ⟨cX, false⟩ h1 → SRun Tryz.prog 22 [.agg ⟨[I 4, I 100, I 0, gsl A 0 14 2 7]⟩, I 10] h fun r q => r = .tuple #[I 1, B true] ∧ q = h := fun A h h1 p => Find_any dX lX 10 _ h (hasX p) (by decide)
  have e4 : ∀ (A : Nat) (h h1 : SH), Pick h A ⟨cX, false⟩ h1 → SRun Tryz.prog 13 [.agg ⟨[I 4, I 100, I 0, gsl A 0 14 2 7]⟩] h fun r q => r = B true ∧ q = h := fun A h h1 p => by
    have := DValid_any dX lX _ h (hasX p) (by decide); rwa [decide_eq_true dvlX] at this
  have e5 : ∀ (A A2 : Nat) (h h1 h2 : SH), Pick h A ⟨cX, false⟩ h1 → Pick h A2 ⟨cX, false⟩ h2 → SRun Tryz.prog 21 [.agg ⟨[I 4, I 100, I 0, gsl A 0 14 2 7]⟩, .agg ⟨[I 4, I 100, I 0, gsl A2 0 14 2 7]⟩] h fun r q => r = B true ∧ q = h := fun A A2 h h1 h2 p k => by
    have := rDSame_any dX dX lX lX _ _ h (hasX p) (hasX k) (by decide) (by decide); rwa [decide_eq_true ⟨rfl, rfl⟩] at this
  have e6 : ∀ (A : Nat) (h h1 : SH), Pick h A ⟨cX, false⟩ h1 → SRun Tryz.prog 24 [.agg ⟨[I 4, I 100, I 0, gsl A 0 14 2 7]⟩] h fun r q => r = I 20 ∧ q = h := fun A h h1 p => DEnd_any dX lX _ h (hasX p) (by decide)
  have e7 : ∀ (A : Nat) (h h1 : SH), Pick h A ⟨cX, false⟩ h1 → SRun Tryz.prog 15 [.agg ⟨[I 4, I 100, I 0, gsl A 0 14 2 7]⟩] h fun r q => ∃ A, r = gsl A 0 6 3 2 ∧ q = (A, ⟨recs prF (rgs dX lX), false⟩) :: h := fun A h h1 p => DRegions_any dX lX _ h (hasX p) (by decide) dvlX
  have e8 : ∀ (A A2 : Nat) (h h1 h2 : SH), Pick h A ⟨cX, false⟩ h1 → Pick h A2 ⟨cX, false⟩ h2 → SRun Tryz.prog 20 [.agg ⟨[I 4, I 100, I 0, gsl A 0 14 2 7]⟩, .agg ⟨[I 4, I 100, I 0, gsl A2 0 14 2 7]⟩] h fun r q => r = B true ∧ q = h := fun A A2 h h1 h2 p k => by
    have := DSame_any dX dX lX lX _ _ h (hasX p) (hasX k) (by decide) (by decide); rwa [decide_eq_true ⟨rfl, rfl⟩] at this
  have hne : (encD dX lX).1 ≠ [] := fun k => by rw [k] at p4; exact absurd p4 (by decide)
  generalize (encD dX lX).1 = T at *
  refine w_body0 Tryz.func10 rfl rfl ?_
  repeat' (first | apply w_seq | apply w_region | apply o_nil | (apply o_g tyOk; exact rfl; exact rfl) | (apply o_loads tyOk; (iterate 3 exact rfl); (focus (exact pk))) | (apply o_stores tyOk; (iterate 4 exact rfl); (focus (exact ⟨rfl⟩)); (focus (exact up))) | (apply o_alloc tyOk; iterate 5 exact rfl) | (apply o_build tyOk; exact rfl; exact rfl; (focus (first | with_reducible exact pl23 | with_reducible exact pl26 | with_reducible exact pl48)); exact rfl; (focus (repeat (first | exact BuildR.nil | (apply BuildR.one; exact rfl; exact rfl; (first | (focus ((repeat (first | exact SetAt.zero | apply SetAt.succ)); done)))) | (apply BuildR.agg; exact rfl; exact rfl; (first | exact putAt_h4 | exact putAt_e7))))); exact rfl) | (apply o_buildSlice tyOk; (iterate 5 exact rfl); (focus (decide)); exact rfl; (focus (decide)); (focus (repeat (first | exact CatR.last rfl | (apply CatR.agg; exact rfl)))); exact rfl) | (apply o_call; exact rfl; exact rfl; (focus (first | exact rfl)); exact rfl; (focus (exact ⟨_, e1 _ _ _ pk, by repeat (first | with_reducible exact Take.nil)⟩)); rintro _ _ ⟨rfl, rfl⟩) | (apply o_call; exact rfl; exact rfl; (focus (first | exact rfl)); exact rfl; (focus (exact ⟨_, e2 _, by repeat (first | with_reducible exact Take.nil)⟩)); rintro _ _ ⟨A9, rfl, rfl⟩) | (apply o_call; exact rfl; exact rfl; (focus (first | exact rfl)); exact rfl; (focus (exact ⟨_, e3 _ _ _ pk, by repeat (first | with_reducible exact Take.nil)⟩)); rintro _ _ ⟨rfl, rfl⟩) | (apply o_call; exact rfl; exact rfl; (focus (first | exact rfl)); exact rfl; (focus (exact ⟨_, e4 _ _ _ pk, by repeat (first | with_reducible exact Take.nil)⟩)); rintro _ _ ⟨rfl, rfl⟩) | (apply o_call; exact rfl; exact rfl; (focus (first | exact rfl)); exact rfl; (focus (exact ⟨_, e5 _ _ _ _ _ pk pk, by repeat (first | with_reducible exact Take.nil)⟩)); rintro _ _ ⟨rfl, rfl⟩) | (apply o_call; exact rfl; exact rfl; (focus (first | exact rfl)); exact rfl; (focus (exact ⟨_, e6 _ _ _ pk, by repeat (first | with_reducible exact Take.nil)⟩)); rintro _ _ ⟨rfl, rfl⟩) | (apply o_call; exact rfl; exact rfl; (focus (first | exact rfl)); exact rfl; (focus (exact ⟨_, e7 _ _ _ pk, by repeat (first | with_reducible exact Take.nil)⟩)); rintro _ _ ⟨A8, rfl, rfl⟩) | (apply o_call; exact rfl; exact rfl; (focus (first | exact rfl)); exact rfl; (focus (exact ⟨_, e8 _ _ _ _ _ pk pk, by repeat (first | with_reducible exact Take.nil)⟩)); rintro _ _ ⟨rfl, rfl⟩) | (apply o_want; exact rfl; exact rfl) | (apply o_gT; (iterate 3 exact rfl); (focus (first | omega))) | apply thenS_normal | apply w_ret | ((with_reducible apply Sd.mk); (first | exact True.intro)) | ((with_reducible apply Ln.mk); (first | rfl)) | ((with_reducible apply Pu.mk); (first | exact putAt_all rfl)) | ((with_reducible apply Su.mk); (first | exact subAt_all)) | exact True.intro | intro A | exact rfl)
  all_goals first
    | contradiction
    | (exfalso; exact ‹¬ _› hne)
    | (apply s_fin; (exact (show ResS _ _ _ _ [_] from ⟨rfl, trivial⟩)); (focus (exact ⟨rfl, rfl⟩)); (focus (repeat (first | with_reducible exact Take.nil | with_reducible apply Take.c | with_reducible apply Take.drop))))
    | trace_state
abbrev okX (x : Ex3) : Prop := (Lit.int .i64 x.1).wf = true ∧ (Lit.int .i64 x.2.1).wf = true ∧ (Lit.int .i64 x.2.2).wf = true
abbrev okY (x : Eny) : Prop := (Lit.int .i64 x.1).wf = true ∧ (Lit.int .i64 x.2.1).wf = true ∧ (Lit.int .i64 x.2.2.1).wf = true ∧ (Lit.int .i64 x.2.2.2.1).wf = true ∧ okX x.2.2.2.2
end Go.Proofs.YtncnmfdmbfbfjaaGreat
end
section
set_option linter.unusedVariables false
set_option linter.unusedSimpArgs false
set_option maxRecDepth 4000
namespace Go.Proofs.YtncnmfdmbfbfjaaGreat
open Go.Gh Go.RowKit

/-- Room for the bytes, and less than a sector more. -/
theorem rgn_room {x : Ex3} (h : fit x) : x.2.1 ≤ 64 * (rgn x).2 ∧ 64 * ((rgn x).2 - 1) < x.2.1 ∧ (rgn x).1 = x.1 := by
  have := sct_in h.1
  refine ⟨?_, ?_, rfl⟩
  · show x.2.1 ≤ 64 * sct x.2.1; omega
  · show 64 * (sct x.2.1 - 1) < x.2.1; omega
/-- The first sectors and the regions are an allocation. -/
theorem vld_front {d : Ex3} {l : List Eny} (h : dvl d l) : svld 1024 ((0, 4) :: rgs d l) := by
  have h1 := (vld_four (rgs_four h.2.1)).2 h.2.2.2
  exact (vld_perm (List.perm_append_comm (l₁ := [((0 : Int), (4 : Int))]) (l₂ := rgs d l))).2 h1
end Go.Proofs.YtncnmfdmbfbfjaaGreat
end
