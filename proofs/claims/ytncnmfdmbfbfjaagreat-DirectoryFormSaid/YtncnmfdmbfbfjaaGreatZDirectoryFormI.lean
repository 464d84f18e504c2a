/- Part 9 of the proof of the law DirectoryForm: texts merged. No condition. -/
import Derived.Test.YtncnmfdmbfbfjaaGreatZDirectoryFormH
section
set_option linter.unusedVariables false
set_option linter.unusedSimpArgs false
set_option maxRecDepth 4000
namespace Go.Proofs.YtncnmfdmbfbfjaaGreat
open Go.Gh Go.RowKit

/-- A piece is read: the models, the decoder, whether it is a literal, the piece. -/
structure Rd1 where
  x : Ms
  d : Dec
  lit : Bool
  t : Pc
def zrd (x : Ms) (d : Dec) : Rd1 :=
  if (tdec 1 x.K d 1).2.2 = 2 then
    ⟨{ x with K := (tdec 1 x.K d 1).1, P := (bdec x.P x.c (tdec 1 x.K d 1).2.1).1, c := (bdec x.P x.c (tdec 1 x.K d 1).2.1).2.2 }, (bdec x.P x.c (tdec 1 x.K d 1).2.1).2.1, true, (1, 0, (bdec x.P x.c (tdec 1 x.K d 1).2.1).2.2)⟩
  else
    ⟨{ x with K := (tdec 1 x.K d 1).1, L := (ndec x.L (tdec 1 x.K d 1).2.1).1, D := (ndec x.D (ndec x.L (tdec 1 x.K d 1).2.1).2.1).1 }, (ndec x.D (ndec x.L (tdec 1 x.K d 1).2.1).2.1).2.1, false,
      ((ndec x.L (tdec 1 x.K d 1).2.1).2.2 + 2, (ndec x.D (ndec x.L (tdec 1 x.K d 1).2.1).2.1).2.2 + 1, 0)⟩
abbrev okC (n : Nat) (o : List UInt8) (t : Pc) : Prop := 2 ≤ t.1 ∧ t.1 ≤ 273 ∧ t.1 + o.length ≤ n ∧ 1 ≤ t.2.1 ∧ t.2.1 ≤ o.length
/-- The pieces that are read behind some bytes, up to n bytes, and the decoder behind them. -/
def rdP (n : Nat) : Nat → Ms → Dec → List UInt8 → Option (List Pc × Dec)
  | 0, _, d, _ => some ([], d)
  | f + 1, x, d, o => if o.length < n then
      (if (zrd x d).lit = true ∨ okC n o (zrd x d).t then (rdP n f (zrd x d).x (zrd x d).d (estp o (zrd x d).t)).map fun r => ((zrd x d).t :: r.1, r.2) else none)
    else some ([], d)
def exps (ps : List Pc) (o : List UInt8) : List UInt8 := ps.foldl estp o
/-- What read gives. -/
def lzR (D : List UInt8) (n : Nat) : List UInt8 × Bool := match rdP n n ms0 (dnew D) [] with
  | some r => (exps r.1 [], true)
  | none => ([], false)
theorem rstp_ok {x : Ms} {d : Dec} (hx : MsOk x) (hd : DecOk d) : MsOk (zrd x d).x ∧ DecOk (zrd x d).d ∧ ((zrd x d).lit = true → (zrd x d).t.1 = 1 ∧ (zrd x d).t.2.1 = 0 ∧ 0 ≤ (zrd x d).t.2.2 ∧ (zrd x d).t.2.2 ≤ 255) ∧ ((zrd x d).lit = false → (zrd x d).t.2.2 = 0) := by
  obtain ⟨h1, h2, _⟩ := tdec_ok (k := 1) (t := x.K) (j := 1) hd
  unfold zrd
  split
  · obtain ⟨g1, g2, g3⟩ := bdec_ok (P := x.P) (c := x.c) h1 hx.P hx.c
    exact ⟨⟨h2.trans hx.K, g2, g3, hx.L, hx.D⟩, g1, fun _ => ⟨rfl, rfl, g3⟩, fun g => (by cases g)⟩
  · obtain ⟨g1, g2⟩ := ndec_ok (t := x.L) h1 hx.L
    obtain ⟨k1, k2⟩ := ndec_ok (t := x.D) g1 hx.D
    exact ⟨⟨h2.trans hx.K, hx.P, hx.c, g2, k2⟩, k1, fun g => (by cases g), fun _ => rfl⟩
theorem rdP_go {n f : Nat} {x : Ms} {d : Dec} {o : List UInt8} (h : o.length < n) (hf : n - o.length ≤ f) : ∃ f', f = f' + 1 ∧ rdP n f x d o = (if (zrd x d).lit = true ∨ okC n o (zrd x d).t then (rdP n f' (zrd x d).x (zrd x d).d (estp o (zrd x d).t)).map fun r => ((zrd x d).t :: r.1, r.2) else none) := by
  cases f with
  | zero => omega
  | succ f => exact ⟨f, rfl, if_pos h⟩
theorem rdP_end {n f : Nat} {x : Ms} {d : Dec} {o : List UInt8} (h : ¬ o.length < n) : rdP n f x d o = some ([], d) := by
  cases f with
  | zero => rfl
  | succ f => exact if_neg h
/-- A slice of bytes that grows beside a decoder and the models. -/
inductive OR (a : Mad) (s nd : Nat) (x : Ms) (d : Dec) (h : SH) : List UInt8 → Value → SH → Prop
  | nil : OR a s nd x d h [] (.slice none 0 0) (decB nd d :: msB a x ((s, ⟨setC a, false⟩) :: h))
  | some (A : Nat) (o : List UInt8) : OR a s nd x d h o (gsl A 0 o.length o.length 1) (decB nd d :: msB a x ((A, ⟨bytesV o, false⟩) :: (s, ⟨setC a, false⟩) :: h))
def outR (o : List UInt8) (r : Option (List Pc × Dec)) : List UInt8 × Bool := match r with
  | some r => (exps r.1 o, true)
  | none => ([], false)
theorem outR_map {o : List UInt8} {t : Pc} {r : Option (List Pc × Dec)} : outR o (r.map fun r => (t :: r.1, r.2)) = outR (estp o t) r := by cases r <;> rfl
theorem rstp_lit {x : Ms} {d d1 d2 : Dec} {K1 P2 : List Int} {c2 : Int} (h1 : tdec 1 x.K d 1 = (K1, d1, 2)) (h2 : bdec x.P x.c d1 = (P2, d2, c2)) : zrd x d = ⟨⟨K1, P2, c2, x.L, x.D⟩, d2, true, (1, 0, c2)⟩ := by
  unfold zrd
  rw [h1]
  dsimp only
  rw [if_pos rfl, h2]
theorem rstp_cpy {x : Ms} {d d1 d2 d3 : Dec} {j : Nat} {K1 L2 D3 : List Int} {l2 dd : Int} (h1 : tdec 1 x.K d 1 = (K1, d1, j)) (hj : j ≠ 2) (h2 : ndec x.L d1 = (L2, d2, l2)) (h3 : ndec x.D d2 = (D3, d3, dd)) : zrd x d = ⟨⟨K1, x.P, x.c, L2, D3⟩, d3, false, (l2 + 2, dd + 1, 0)⟩ := by
  unfold zrd
  rw [h1]
  dsimp only
  rw [if_neg hj, h2]
  dsimp only
  rw [h3]
theorem lzread_any (l : List UInt8) (n : Nat) (h : SH) (hl : l.length ≤ 1000000) (hn : n ≤ 4096) :
    SRun Tryz.prog 100 [S l, I n] h fun r q => r = .tuple #[S (lzR l n).1, B (lzR l n).2] ∧ q = h := by
  obtain ⟨R, hR⟩ : ∃ R, R = lzR l n := ⟨_, rfl⟩
  rw [← hR]
  have hR : outR [] (rdP n n ms0 (dnew l) []) = R := hR.symm
  have hd0 := dnew_ok (l := l) (by omega)
  have hND : ∀ h, SRun Tryz.prog 112 [S l] h fun r q => ∃ n, r = gptr n 0 5 ∧ q = decB n (dnew l) :: h := fun h => NewDecoder_any l h (by omega)
  have hNS : ∀ h, SRun Tryz.prog 49 [] h fun r q => ∃ a : Mad, r = .agg ⟨setC a⟩ ∧ q = msB a ms0 h := newSet_any
  have hm0 := ms0_ok
  generalize ms0 = x0 at hR hm0 hNS
  generalize dnew l = d0 at hR hd0 hND
  refine w_body2 Tryz.func100 rfl rfl ?_
  repeat' (first | apply w_seq | apply w_region | apply o_nil | (apply o_g tyOk; exact rfl; exact rfl) | (apply o_stores tyOk; (iterate 4 exact rfl); (focus (exact ⟨rfl⟩)); (focus (exact up))) | (apply o_alloc tyOk; iterate 5 exact rfl) | (apply o_call; exact rfl; exact rfl; (focus (first | exact rfl)); exact rfl; (focus (exact ⟨_, hNS _, by repeat (first | with_reducible exact Take.nil)⟩)); rintro _ _ ⟨a, rfl, rfl⟩) | (apply o_call; exact rfl; exact rfl; (focus (first | exact rfl)); exact rfl; (focus (exact ⟨_, hND _, by repeat (first | with_reducible exact Take.nil)⟩)); rintro _ _ ⟨nd, rfl, rfl⟩) | apply thenS_normal | apply w_block | ((with_reducible apply Sd.mk); (first | exact True.intro)) | ((with_reducible apply Ln.mk); (first | rfl)) | ((with_reducible apply Pu.mk); (first | exact putAt_all rfl)) | exact True.intro | intro A)
  obtain ⟨s, rfl⟩ : ∃ s, s = A := ⟨_, rfl⟩
  refine w_loop (S := Nat × Ms × Dec × List UInt8 × Value × SH) (fun y => [(1, I n), (6, gptr s 0 4), (7, gptr nd 0 5), (8, y.2.2.2.2.1)]) (fun y => y.2.2.2.2.2)
    (fun y => n - y.2.2.2.1.length ≤ y.1 ∧ MsOk y.2.1 ∧ DecOk y.2.2.1 ∧ y.2.2.2.1.length ≤ n ∧ OR a s nd y.2.1 y.2.2.1 h y.2.2.2.1 y.2.2.2.2.1 y.2.2.2.2.2 ∧ outR y.2.2.2.1 (rdP n y.1 y.2.1 y.2.2.1 y.2.2.2.1) = R) (fun y => y.1)
    (n, x0, d0, [], .slice none 0 0, decB nd d0 :: msB a x0 ((s, ⟨setC a, false⟩) :: h)) ⟨Nat.sub_le _ _, hm0, hd0, Nat.zero_le _, .nil, hR⟩ (by repeat' (first | exact trivial | refine ⟨rfl, ?_⟩ | refine ⟨congrArg some ?_, ?_⟩)) (by repeat (first | with_reducible exact Take.nil | with_reducible apply Take.c | with_reducible apply Take.drop)) ?_
  rintro ⟨f, x, d, o, w, p⟩ ⟨hf, hx, hd, ho, hb, he⟩
  dsimp only at hf hx hd ho hb he ⊢
  by_cases hlt : o.length < n
  · obtain ⟨f', rfl, e⟩ := rdP_go (x := x) (d := d) hlt hf
    rw [e] at he
    clear e
    have hrs := rstp_ok hx hd
    have hK := fun h => kDecW a nd x d h hx hd
    obtain ⟨h1, h2, h3⟩ := tdec_ok (k := 1) (t := x.K) (j := 1) hd
    obtain ⟨⟨K1, d1, j⟩, hT⟩ : ∃ T, tdec 1 x.K d 1 = T := ⟨_, rfl⟩
    rw [hT] at hK h1 h2 h3
    dsimp only at hK h1 h2 h3
    have h2' := h2.trans hx.K
    by_cases hj : j = 2
    · subst hj
      have hB := fun h => bDecW a nd { x with K := K1 } d1 h ⟨h2', hx.P, hx.c, hx.L, hx.D⟩ h1
      obtain ⟨⟨P2, d2, c2⟩, hV⟩ : ∃ V, bdec x.P x.c d1 = V := ⟨_, rfl⟩
      dsimp only at hB
      rw [hV] at hB
      dsimp only at hB
      rw [rstp_lit hT hV] at he hrs
      dsimp only at he hrs
      rw [if_pos (.inl rfl), outR_map, estp_lit o rfl] at he
      have hc2 := (hrs.2.2.1 rfl).2.2
      dsimp only at hc2 he
      cases hb with
      | nil =>
        repeat' (first | apply w_seq | apply w_region | apply o_nil | (apply o_g tyOk; exact rfl; exact rfl) | (apply o_load tyOk; (iterate 3 exact rfl); (focus (exact pk))) | (apply o_buildSlice tyOk; (iterate 5 exact rfl); (focus (decide)); exact rfl; (focus (decide)); (focus (repeat (first | exact CatR.nil | (apply CatR.one; exact rfl; exact rfl)))); exact rfl) | (apply o_append_nil tyOk; (iterate 5 exact rfl); (focus (exact ⟨by decide⟩)); (focus (exact pk))) | (apply o_call; exact rfl; exact rfl; (focus (first | exact rfl)); exact rfl; (focus (exact ⟨_, hK _, by repeat (first | with_reducible exact Take.nil)⟩)); rintro _ _ ⟨rfl, rfl⟩) | (apply o_call; exact rfl; exact rfl; (focus (first | exact rfl)); exact rfl; (focus (exact ⟨_, hB _, by repeat (first | with_reducible exact Take.nil)⟩)); rintro _ _ ⟨rfl, rfl⟩) | (apply w_true; exact rfl) | (apply w_dT; exact rfl; (focus (first | omega))) | apply thenS_normal | apply thenS_exit | apply blockS_exit | apply w_skip | apply w_exit | apply w_block | ((with_reducible apply Sd.mk); (first | exact True.intro | (constructor <;> first | omega | (unfold maxLen; omega)))) | ((with_reducible apply Ln.mk); (first | rfl)) | ((with_reducible apply Ce.mk); (first | rfl)) | ((with_reducible apply Su.mk); (first | exact subAt_all)) | exact True.intro | intro A | exact rfl)
        all_goals first
          | (exfalso; omega)
          | skip
        all_goals (rw [show Y c2 = byteV (byt c2) from byteV_byt hc2]; exact ⟨(f', ⟨K1, P2, c2, x.L, x.D⟩, d2, [byt c2], gsl A 0 1 1 1, decB nd d2 :: msB a ⟨K1, P2, c2, x.L, x.D⟩ ((A, ⟨bytesV [byt c2], false⟩) :: (s, ⟨setC a, false⟩) :: h)), ⟨by show n - 1 ≤ f'; simp only [List.length_nil] at hf; omega, hrs.1, hrs.2.1, by show 1 ≤ n; omega,   .some A [byt c2], he⟩, by show f' < f' + 1; omega, (by repeat' (first | exact trivial | refine ⟨rfl, ?_⟩ | refine ⟨congrArg some ?_, ?_⟩)), (by repeat (first | with_reducible exact Take.nil | with_reducible apply Take.c | with_reducible apply Take.drop))⟩)
      | some A0 o =>
        repeat' (first | apply w_seq | apply w_region | apply o_nil | (apply o_g tyOk; exact rfl; exact rfl) | (apply o_load tyOk; (iterate 3 exact rfl); (focus (exact pk))) | (apply o_buildSlice tyOk; (iterate 5 exact rfl); (focus (decide)); exact rfl; (focus (decide)); (focus (repeat (first | exact CatR.nil | (apply CatR.one; exact rfl; exact rfl)))); exact rfl) | (apply o_append tyOk; (iterate 5 exact rfl); (focus (exact ⟨by decide⟩)); (focus (exact up)); (focus (exact pk))) | (apply o_call; exact rfl; exact rfl; (focus (first | exact rfl)); exact rfl; (focus (exact ⟨_, hK _, by repeat (first | with_reducible exact Take.nil)⟩)); rintro _ _ ⟨rfl, rfl⟩) | (apply o_call; exact rfl; exact rfl; (focus (first | exact rfl)); exact rfl; (focus (exact ⟨_, hB _, by repeat (first | with_reducible exact Take.nil)⟩)); rintro _ _ ⟨rfl, rfl⟩) | (apply w_true; exact rfl) | (apply w_dT; exact rfl; (focus (first | omega))) | apply thenS_normal | apply thenS_exit | apply blockS_exit | apply w_skip | apply w_exit | apply w_block | ((with_reducible apply Sd.mk); (first | exact True.intro | (constructor <;> first | omega | (unfold maxLen; omega)))) | ((with_reducible apply Ln.mk); (first | rfl | omega | (simp ; first | done | omega))) | ((with_reducible apply Ce.mk); (first | rfl)) | ((with_reducible apply Su.mk); (first | exact subAt_all)) | exact True.intro | intro A | exact rfl)
        all_goals first
          | (exfalso; omega)
          | skip
        all_goals
          (rw [show Y c2 = byteV (byt c2) from byteV_byt hc2]
           exact ⟨(f', ⟨K1, P2, c2, x.L, x.D⟩, d2, o ++ [byt c2], gsl A0 0 (o ++ [byt c2]).length (o ++ [byt c2]).length 1, decB nd d2 :: msB a ⟨K1, P2, c2, x.L, x.D⟩ ((A0, ⟨bytesV (o ++ [byt c2]), false⟩) :: (s, ⟨setC a, false⟩) :: h)), ⟨by show n - (o ++ [byt c2]).length ≤ f'; rw [List.length_append, List.length_singleton]; omega, hrs.1, hrs.2.1, by show (o ++ [byt c2]).length ≤ n; rw [List.length_append, List.length_singleton]; omega, .some A0 (o ++ [byt c2]), he⟩, by show f' < f' + 1; omega,
               ⟨rfl, rfl, rfl, congrArg some (gslE rfl rfl (by simp) (by simp) rfl), trivial⟩, (by repeat (first | with_reducible exact Take.nil | with_reducible apply Take.c | ((with_reducible apply Take.cE); (first | exact rfl | (apply blkE; (focus (first | exact rfl | exact recs_snocE rfl | exact map_snocE rfl | exact congrArg (fun v => [v]) (gslE rfl rfl (by first | rfl | exact ‹_› | omega | (simp ; first | done | omega)) (by first | rfl | exact ‹_› | omega | (simp ; first | done | omega)) rfl)))))) | with_reducible apply Take.drop))⟩)
    · have hx1 : MsOk { x with K := K1 } := ⟨h2', hx.P, hx.c, hx.L, hx.D⟩
      have hL := fun h => lDecW a nd { x with K := K1 } d1 h hx1 h1
      obtain ⟨⟨L2, d2, l2⟩, hV⟩ : ∃ V, ndec x.L d1 = V := ⟨_, rfl⟩
      have okL := ndec_ok (t := x.L) h1 hx.L
      dsimp only at hL
      rw [hV] at hL okL
      dsimp only at hL okL
      have hD := fun h => dDecW a nd { x with K := K1, L := L2 } d2 h ⟨h2', hx.P, hx.c, okL.2, hx.D⟩ okL.1
      obtain ⟨⟨D3, d3, dd⟩, hW⟩ : ∃ V, ndec x.D d2 = V := ⟨_, rfl⟩
      dsimp only at hD
      rw [hW] at hD
      dsimp only at hD
      rw [rstp_cpy hT hj hV hW] at he hrs
      dsimp only at he hrs
      have hj3 : (j : Int) - 2 ≠ 0 := by omega
      cases hb with
      | nil =>
        rw [if_neg (by rintro (g | g); cases g; unfold okC at g; simp only [List.length_nil] at g; omega)] at he
        repeat' (first | apply w_seq | apply w_region | apply o_nil | (apply w_draw; (focus (kernel_rfl)); (focus (kernel_rfl))) | (apply o_g tyOk; exact rfl; exact rfl) | (apply o_ar tyOk; exact rfl; exact rfl) | (apply o_load tyOk; (iterate 3 exact rfl); (focus (exact pk))) | (apply o_call; exact rfl; exact rfl; (focus (first | exact rfl)); exact rfl; (focus (exact ⟨_, hK _, by repeat (first | with_reducible exact Take.nil)⟩)); rintro _ _ ⟨rfl, rfl⟩) | (apply o_callE0; (iterate 4 exact rfl); (focus (exact ⟨hL _, by repeat (first | with_reducible exact Take.nil)⟩)); (focus (first | exact List.Perm.refl _)); (focus ((intro ρ D hρ hD; refine ⟨?_, ?_⟩; (focus (repeat (first | exact VR.const rfl))); (focus (repeat (first | ((apply SHR.same); (focus (intro x hx; (repeat (first | exact hx | apply List.mem_cons_of_mem)); done))) | ((apply SHR.keep); (focus ((repeat (first | with_reducible exact List.mem_cons_self | apply List.mem_cons_of_mem)); done))) | (apply SHR.cons; (focus (first | ((apply rho_pick hρ); (exact pk)))); (focus (repeat (first | exact VR.const rfl | exact VRs.nil | ((apply VRs.const); (focus (first | exact map_const (fun _ => rfl)))) | apply VRs.cons))))))))))) | (apply o_callE0; (iterate 4 exact rfl); (focus (exact ⟨hD _, by repeat (first | with_reducible exact Take.nil)⟩)); (focus (first | exact List.Perm.refl _)); (focus ((intro ρ D hρ hD; refine ⟨?_, ?_⟩; (focus (repeat (first | exact VR.const rfl))); (focus (repeat (first | ((apply SHR.same); (focus (intro x hx; (repeat (first | exact hx | apply List.mem_cons_of_mem)); done))) | ((apply SHR.keep); (focus ((repeat (first | with_reducible exact List.mem_cons_self | apply List.mem_cons_of_mem)); done))) | (apply SHR.cons; (focus (first | ((apply rho_pick hρ); (exact pk)))); (focus (repeat (first | exact VR.const rfl | exact VRs.nil | ((apply VRs.const); (focus (first | exact map_const (fun _ => rfl)))) | apply VRs.cons))))))))))) | (apply o_want; exact rfl; exact rfl) | (apply o_skip; iterate 4 exact rfl) | (apply o_guardF; (iterate 3 exact rfl); all_goals intro hc) | (apply w_true; exact rfl) | (apply w_dT; exact rfl; (focus (first | omega))) | (apply w_dF; exact rfl; (focus (first | omega))) | apply thenS_normal | apply thenS_ret | apply blockS_ret | apply w_skip | apply w_ret | apply w_block | ((with_reducible apply Sd.mk); (first | exact True.intro)) | ((with_reducible apply Ln.mk); (first | rfl)) | ((with_reducible apply Wr.mk); (first | exact IntWalk.i64_in _ (by omega))) | ((with_reducible apply Ce.mk); (first | rfl)) | exact True.intro | refine Rc.mk ⟨_, _, pk, ?_⟩ | exact Or.inl rfl | refine Or.inr (And.intro ?_ ?_) | apply And.intro | exact rfl)
        all_goals first
          | (exfalso; omega)
          | (apply s_fin; (exact (show ResS _ _ _ _ [_, _] from ⟨rfl, ⟨rfl, trivial⟩⟩)); (focus (exact ⟨by rw [← he]; rfl, rfl⟩)); (focus (repeat (first | with_reducible exact Take.nil | with_reducible apply Take.c | with_reducible apply Take.drop))))
          | trace_state
      | some A0 o =>
        repeat' (first | apply w_seq | apply w_region | apply o_nil | (apply w_draw; (focus (kernel_rfl)); (focus (kernel_rfl))) | (apply o_g tyOk; exact rfl; exact rfl) | (apply o_ar tyOk; exact rfl; exact rfl) | (apply o_load tyOk; (iterate 3 exact rfl); (focus (exact pk))) | (apply o_call; exact rfl; exact rfl; (focus (first | exact rfl)); exact rfl; (focus (exact ⟨_, hK _, by repeat (first | with_reducible exact Take.nil)⟩)); rintro _ _ ⟨rfl, rfl⟩) | (apply o_callE0; (iterate 4 exact rfl); (focus (exact ⟨hL _, by repeat (first | with_reducible exact Take.nil)⟩)); (focus (first | exact List.Perm.refl _)); (focus ((intro ρ D hρ hD; refine ⟨?_, ?_⟩; (focus (repeat (first | exact VR.const rfl))); (focus (repeat (first | ((apply SHR.same); (focus (intro x hx; (repeat (first | exact hx | apply List.mem_cons_of_mem)); done))) | ((apply SHR.keep); (focus ((repeat (first | with_reducible exact List.mem_cons_self | apply List.mem_cons_of_mem)); done))) | (apply SHR.cons; (focus (first | ((apply rho_pick hρ); (exact pk)))); (focus (repeat (first | exact VR.const rfl | exact VRs.nil | ((apply VRs.const); (focus (first | exact map_const (fun _ => rfl)))) | apply VRs.cons))))))))))) | (apply o_callE0; (iterate 4 exact rfl); (focus (exact ⟨hD _, by repeat (first | with_reducible exact Take.nil)⟩)); (focus (first | exact List.Perm.refl _)); (focus ((intro ρ D hρ hD; refine ⟨?_, ?_⟩; (focus (repeat (first | exact VR.const rfl))); (focus (repeat (first | ((apply SHR.same); (focus (intro x hx; (repeat (first | exact hx | apply List.mem_cons_of_mem)); done))) | ((apply SHR.keep); (focus ((repeat (first | with_reducible exact List.mem_cons_self | apply List.mem_cons_of_mem)); done))) | (apply SHR.cons; (focus (first | ((apply rho_pick hρ); (exact pk)))); (focus (repeat (first | exact VR.const rfl | exact VRs.nil | ((apply VRs.const); (focus (first | exact map_const (fun _ => rfl)))) | apply VRs.cons))))))))))) | (apply o_want; exact rfl; exact rfl) | (apply o_skip; iterate 4 exact rfl) | (apply o_guardF; (iterate 3 exact rfl); all_goals intro hc) | (apply w_true; exact rfl) | (apply w_dT; exact rfl; (focus (first | omega))) | (apply w_dF; exact rfl; (focus (first | omega))) | (apply w_if; exact rfl; all_goals intro hc) | apply thenS_normal | apply thenS_ret | apply blockS_ret | apply w_skip | apply w_ret | apply w_block | ((with_reducible apply Sd.mk); (first | exact True.intro)) | ((with_reducible apply Ln.mk); (first | rfl)) | ((with_reducible apply Wr.mk); (first | exact IntWalk.i64_in _ (by omega))) | ((with_reducible apply Ce.mk); (first | rfl)) | exact True.intro | refine Rc.mk ⟨_, _, pk, ?_⟩ | exact Or.inl rfl | refine Or.inr (And.intro ?_ ?_) | apply And.intro | exact rfl)
        all_goals first
          | (exfalso; omega)
          | (rw [if_neg (by rintro (g | g); cases g; unfold okC at g; dsimp only at g; omega)] at he; (apply s_fin; (exact (show ResS _ _ _ _ [_, _] from ⟨rfl, ⟨rfl, trivial⟩⟩)); (focus (exact ⟨by rw [← he]; rfl, rfl⟩)); (focus (repeat (first | with_reducible exact Take.nil | with_reducible apply Take.c | with_reducible apply Take.drop)))))
          | skip
        have hg : 2 ≤ l2 + 2 ∧ l2 + 2 ≤ 273 ∧ l2 + 2 + o.length ≤ n ∧ 1 ≤ dd + 1 ∧ dd + 1 ≤ o.length := by omega
        rw [if_pos (.inr hg), outR_map, estp_cpy o (by show dd + 1 ≠ 0; omega)] at he
        dsimp only at he
        obtain ⟨N, hN⟩ : ∃ N, N = (l2 + 2).toNat := ⟨_, rfl⟩
        obtain ⟨D, hDD⟩ : ∃ D, D = (dd + 1).toNat := ⟨_, rfl⟩
        rw [← hN, ← hDD] at he
        refine w_loop (S := Nat × List UInt8) (fun y => [(1, I n), (6, gptr s 0 4), (7, gptr nd 0 5), (8, gsl A0 0 y.2.length y.2.length 1), (10, I dd), (64, I (l2 + 2)), (65, I y.1)])
          (fun y => decB nd d3 :: msB a ⟨K1, x.P, x.c, L2, D3⟩ ((A0, ⟨bytesV y.2, false⟩) :: (s, ⟨setC a, false⟩) :: h))
          (fun y => y.1 ≤ N ∧ y.2.length = o.length + y.1 ∧ copyN D (N - y.1) y.2 = copyN D N o) (fun y => N - y.1) (0, o) ⟨Nat.zero_le _, rfl, rfl⟩ (by repeat' (first | exact trivial | refine ⟨rfl, ?_⟩ | refine ⟨congrArg some ?_, ?_⟩)) (by repeat (first | with_reducible exact Take.nil | with_reducible apply Take.c | with_reducible apply Take.drop)) ?_
        rintro ⟨k, o2⟩ ⟨hk, hol, hcp⟩
        dsimp only at hk hol hcp ⊢
        by_cases hkN : k < N
        · rw [show N - k = (N - (k + 1)) + 1 by omega, copyN] at hcp
          have hbt : Value.int .u8 (bat o2 ((o2.length : Int) - dd - 1)) = byteV o2[o2.length - D]! := by
            show _ = Value.int .u8 _
            congr 1
            unfold bat
            rw [show ((o2.length : Int) - dd - 1).toNat = o2.length - D by omega, List.getD_eq_getElem?_getD, getElem!_pos o2 _ (by omega), List.getElem?_eq_getElem (by omega)]; rfl
          repeat' (first | apply w_seq | apply w_region | apply o_nil | (apply o_g tyOk; exact rfl; exact rfl) | (apply o_ar tyOk; exact rfl; exact rfl) | (apply o_load tyOk; (iterate 3 exact rfl); (focus (exact pk))) | (apply o_buildSlice tyOk; (iterate 5 exact rfl); (focus (decide)); exact rfl; (focus (decide)); (focus (repeat (first | exact CatR.nil | (apply CatR.one; exact rfl; exact rfl)))); exact rfl) | (apply o_append tyOk; (iterate 5 exact rfl); (focus (exact ⟨by decide⟩)); (focus (exact up)); (focus (exact pk))) | (apply w_dT; exact rfl; (focus (first | omega))) | apply thenS_normal | apply blockS_normal | apply w_skip | apply w_block | ((with_reducible apply Sd.mk); (first | exact True.intro | omega | (constructor <;> first | omega | (unfold maxLen; omega)))) | ((with_reducible apply Ln.mk); (first | rfl | omega | (simp ; first | done | omega))) | ((with_reducible apply Wr.mk); (first | exact IntWalk.i64_in _ (by omega))) | ((with_reducible apply Ce.mk); (first | exact cell_bytes (by omega))) | ((with_reducible apply Su.mk); (first | exact subAt_all)) | exact True.intro | intro A | exact rfl)
          all_goals first
            | (exfalso; omega)
            | skip
          rw [hbt]
          exact ⟨(k + 1, o2 ++ [o2[o2.length - D]!]), ⟨hkN, by show (o2 ++ [_]).length = _; rw [List.length_append, List.length_singleton]; omega, hcp⟩, by show N - (k + 1) < N - k; omega, ⟨rfl, rfl, rfl, congrArg some (gslE rfl rfl (by simp) (by simp) rfl), by repeat' (first | exact trivial | refine ⟨rfl, ?_⟩)⟩, (by repeat (first | with_reducible exact Take.nil | with_reducible apply Take.c | ((with_reducible apply Take.cE); (first | exact rfl | (apply blkE; (focus (first | exact rfl | exact recs_snocE rfl | exact map_snocE rfl | exact congrArg (fun v => [v]) (gslE rfl rfl (by first | rfl | exact ‹_› | omega | (simp ; first | done | omega)) (by first | rfl | exact ‹_› | omega | (simp ; first | done | omega)) rfl)))))) | with_reducible apply Take.drop))⟩
        · obtain rfl : k = N := by omega
          rw [Nat.sub_self, copyN] at hcp
          rw [← hcp] at he
          repeat' (first | apply w_seq | apply w_region | apply o_nil | (apply o_g tyOk; exact rfl; exact rfl) | (apply w_dF; exact rfl; (focus (first | omega))) | apply thenS_normal | apply thenS_exit | apply blockS_normal | apply blockS_exit | apply w_exit | ((with_reducible apply Sd.mk); (first | exact True.intro)))
          all_goals first
            | (exfalso; omega)
            | skip
          exact ⟨(f', ⟨K1, x.P, x.c, L2, D3⟩, d3, o2, gsl A0 0 o2.length o2.length 1, decB nd d3 :: msB a ⟨K1, x.P, x.c, L2, D3⟩ ((A0, ⟨bytesV o2, false⟩) :: (s, ⟨setC a, false⟩) :: h)), ⟨by show n - o2.length ≤ f'; omega, hrs.1, hrs.2.1, by show o2.length ≤ n; omega, .some A0 o2, he⟩, by show f' < f' + 1; omega, (by repeat' (first | exact trivial | refine ⟨rfl, ?_⟩ | refine ⟨congrArg some ?_, ?_⟩)), (by repeat (first | with_reducible exact Take.nil | with_reducible apply Take.c | with_reducible apply Take.drop))⟩
  · rw [rdP_end hlt] at he
    have he : (o, true) = R := he
    cases hb with
    | nil =>
      rw [List.length_nil] at hlt
      repeat' (first | apply w_seq | apply w_region | apply o_nil | (apply o_g tyOk; exact rfl; exact rfl) | (apply o_toString_nil tyOk; iterate 7 exact rfl) | (apply w_dF; exact rfl; (focus (first | omega))) | apply thenS_normal | apply thenS_exit | apply blockS_exit | apply w_ret | apply w_exit | ((with_reducible apply Sd.mk); (first | exact True.intro)))
      all_goals first
        | (exfalso; omega)
        | (apply s_fin; (exact (show ResS _ _ _ _ [_, _] from ⟨rfl, ⟨rfl, trivial⟩⟩)); (focus (exact ⟨by subst he; rfl, rfl⟩)); (focus (repeat (first | with_reducible exact Take.nil | with_reducible apply Take.c | with_reducible apply Take.drop))))
        | trace_state
    | some A0 o =>
      repeat' (first | apply w_seq | apply w_region | apply o_nil | (apply o_g tyOk; exact rfl; exact rfl) | (apply o_toString tyOk; (iterate 6 exact rfl); (focus (exact pk))) | (apply w_dF; exact rfl; (focus (first | omega))) | apply thenS_normal | apply thenS_exit | apply blockS_exit | apply w_ret | apply w_exit | ((with_reducible apply Sd.mk); (first | exact True.intro)) | ((with_reducible apply Ln.mk); (first | rfl | (simp ; first | done | omega))) | ((with_reducible apply Su.mk); (first | exact subAt_all)) | exact True.intro | exact rfl)
      all_goals first
        | (exfalso; omega)
        | (apply s_fin; (exact (show ResS _ _ _ _ [_, _] from ⟨rfl, ⟨rfl, trivial⟩⟩)); (focus (exact ⟨by subst he; rfl, rfl⟩)); (focus (repeat (first | with_reducible exact Take.nil | with_reducible apply Take.c | with_reducible apply Take.drop))))
        | trace_state
end Go.Proofs.YtncnmfdmbfbfjaaGreat
end
section
set_option linter.unusedVariables false
set_option linter.unusedSimpArgs false
set_option maxRecDepth 4000
namespace Go.Proofs.YtncnmfdmbfbfjaaGreat
open Go.Gh Go.RowKit

/-- What Decode gives. -/
def lzD (D : List UInt8) (most : Int) : List UInt8 × Int :=
  if (rdN D 4096).2.2 ≠ 0 then ([], 12) else if most < (rdN D 4096).1 then ([], 2)
  else if (lzR (rdN D 4096).2.1 (rdN D 4096).1.toNat).2 = false then ([], 12)
  else if lzE (lzR (rdN D 4096).2.1 (rdN D 4096).1.toNat).1 = (D, 0) then ((lzR (rdN D 4096).2.1 (rdN D 4096).1.toNat).1, 0) else ([], 12)
theorem copyN_le {n : Nat} {o : List UInt8} {t : Pc} (h : okC n o t) : (estp o t).length ≤ n := by
  unfold okC at h
  rw [estp_cpy o (by omega), copyN_len]; omega
theorem rdP_len {n : Nat} : ∀ {f : Nat} {x : Ms} {d : Dec} {o : List UInt8} {r : List Pc × Dec}, MsOk x → DecOk d → o.length ≤ n → n - o.length ≤ f → rdP n f x d o = some r → (exps r.1 o).length = n
  | 0, x, d, o, r, _, _, ho, hf, h => by
    obtain rfl := Option.some.inj h
    show o.length = n; omega
  | f + 1, x, d, o, r, hx, hd, ho, hf, h => by
    by_cases hlt : o.length < n
    · rw [show rdP n (f + 1) x d o = _ from if_pos hlt] at h
      obtain ⟨h1, h2, h3, h4⟩ := rstp_ok hx hd
      split at h
      · rename_i hg
        obtain ⟨⟨ps, d'⟩, e1, rfl⟩ := Option.map_eq_some_iff.1 h
        have hel : o.length + 1 ≤ (estp o (zrd x d).t).length ∧ (estp o (zrd x d).t).length ≤ n := by
          cases hl : (zrd x d).lit with
          | true =>
            have := h3 hl
            rw [estp_lit o this.2.1, List.length_append, List.length_singleton]; omega
          | false =>
            rw [hl] at hg
            rcases hg with hg | hg
            · cases hg
            · refine ⟨?_, copyN_le hg⟩
              unfold okC at hg
              rw [estp_cpy o (by omega), copyN_len]; omega
        exact rdP_len (r := (ps, d')) h1 h2 hel.2 (by omega) e1
      · cases h
    · rw [rdP_end hlt] at h
      obtain rfl := Option.some.inj h
      show o.length = n; omega
theorem lzR_len {l : List UInt8} {n : Nat} (hl : l.length ≤ 1000000) (h : (lzR l n).2 = true) : (lzR l n).1.length = n := by
  unfold lzR at h ⊢
  cases e : rdP n n ms0 (dnew l) [] with
  | none => rw [e] at h; cases h
  | some r => exact rdP_len ms0_ok (dnew_ok hl) (Nat.zero_le _) (Nat.sub_le _ _) e
theorem Decode_any' (l : List UInt8) (most : Int) (h : SH) (hl : l.length ≤ 1000000) : SRun Tryz.prog 83 [S l, I most] h fun r q => r = .tuple #[S (lzD l most).1, Er (lzD l most).2] ∧ q = h := by
  have hR := fun n h => rNumber_any n l 4096 h hl
  have hok := rdN_ok l 4096
  obtain ⟨x, hx⟩ : ∃ x, lzD l most = x := ⟨_, rfl⟩
  rw [hx]
  unfold lzD at hx
  generalize rdN l 4096 = V at *
  obtain ⟨k, d, e⟩ := V
  dsimp only at *
  have hT := fun n h => rTake_any n d (d.length : Int) h (by omega) (by omega)
  rw [show ((d.length : Int)).toNat = d.length from rfl, List.take_length, List.drop_length] at hT
  by_cases he : e = 0
  case neg =>
    rw [if_pos he] at hx
    refine w_body2 Tryz.func83 rfl rfl ?_
    repeat' (first | apply w_seq | apply w_region | apply o_nil | (apply o_g tyOk; exact rfl; exact rfl) | (apply o_call; exact rfl; exact rfl; (focus (first | exact rfl)); exact rfl; (focus (exact ⟨_, NewReader_any _ _, by repeat (first | with_reducible exact Take.nil)⟩)); rintro _ _ ⟨n, rfl, rfl⟩) | (apply o_call; exact rfl; exact rfl; (focus (first | exact rfl)); exact rfl; (focus (exact ⟨_, hR _ _, by repeat (first | with_reducible exact Take.nil)⟩)); rintro _ _ ⟨rfl, rfl⟩) | (apply o_call; exact rfl; exact rfl; (focus (first | exact rfl)); exact rfl; (focus (exact ⟨_, rErr_any _ _ _ _, by repeat (first | with_reducible exact Take.nil)⟩)); rintro _ _ ⟨rfl, rfl⟩) | (apply w_dT; exact rfl; (focus (first | omega))) | apply thenS_normal | apply thenS_ret | apply w_ret | ((with_reducible apply Sd.mk); (first | exact True.intro)))
    all_goals first
      | contradiction
      | (apply s_fin; (exact (show ResS _ _ _ _ [_, _] from ⟨rfl, ⟨rfl, trivial⟩⟩)); (focus (exact ⟨by subst hx; rfl, rfl⟩)); (focus (repeat (first | with_reducible exact Take.nil | with_reducible apply Take.c | with_reducible apply Take.drop))))
      | trace_state
  subst he
  rw [if_neg (by decide)] at hx
  have hk := hok.2 rfl
  by_cases h1 : most < k
  case pos =>
    rw [if_pos h1] at hx
    refine w_body2 Tryz.func83 rfl rfl ?_
    repeat' (first | apply w_seq | apply w_region | apply o_nil | (apply o_g tyOk; exact rfl; exact rfl) | (apply o_call; exact rfl; exact rfl; (focus (first | exact rfl)); exact rfl; (focus (exact ⟨_, NewReader_any _ _, by repeat (first | with_reducible exact Take.nil)⟩)); rintro _ _ ⟨n, rfl, rfl⟩) | (apply o_call; exact rfl; exact rfl; (focus (first | exact rfl)); exact rfl; (focus (exact ⟨_, hR _ _, by repeat (first | with_reducible exact Take.nil)⟩)); rintro _ _ ⟨rfl, rfl⟩) | (apply o_call; exact rfl; exact rfl; (focus (first | exact rfl)); exact rfl; (focus (exact ⟨_, rErr_any _ _ _ _, by repeat (first | with_reducible exact Take.nil)⟩)); rintro _ _ ⟨rfl, rfl⟩) | (apply w_false; exact rfl) | (apply w_dT; exact rfl; (focus (first | omega))) | apply thenS_normal | apply thenS_ret | apply w_skip | apply w_ret | ((with_reducible apply Sd.mk); (first | exact True.intro)))
    all_goals first
      | contradiction
      | (apply s_fin; (exact (show ResS _ _ _ _ [_, _] from ⟨rfl, ⟨rfl, trivial⟩⟩)); (focus (exact ⟨by subst hx; rfl, rfl⟩)); (focus (repeat (first | with_reducible exact Take.nil | with_reducible apply Take.c | with_reducible apply Take.drop))))
      | trace_state
  rw [if_neg h1] at hx
  obtain ⟨m, rfl⟩ := Int.eq_ofNat_of_zero_le hk.1
  rw [Int.toNat_natCast] at hx
  have hRd := fun h => lzread_any d m h (by omega) (by omega)
  have hlen := lzR_len (l := d) (n := m) (by omega)
  obtain ⟨⟨s, b⟩, hs⟩ : ∃ R, lzR d m = R := ⟨_, rfl⟩
  rw [hs] at hRd hx hlen
  dsimp only at hRd hx hlen
  cases b with
  | false =>
    rw [if_pos rfl] at hx
    refine w_body2 Tryz.func83 rfl rfl ?_
    repeat' (first | apply w_seq | apply w_region | apply o_nil | (apply o_g tyOk; exact rfl; exact rfl) | (apply o_notB; exact rfl; exact rfl) | (apply o_call; exact rfl; exact rfl; (focus (first | exact rfl)); exact rfl; (focus (exact ⟨_, NewReader_any _ _, by repeat (first | with_reducible exact Take.nil)⟩)); rintro _ _ ⟨n, rfl, rfl⟩) | (apply o_call; exact rfl; exact rfl; (focus (first | exact rfl)); exact rfl; (focus (exact ⟨_, hR _ _, by repeat (first | with_reducible exact Take.nil)⟩)); rintro _ _ ⟨rfl, rfl⟩) | (apply o_call; exact rfl; exact rfl; (focus (first | exact rfl)); exact rfl; (focus (exact ⟨_, rErr_any _ _ _ _, by repeat (first | with_reducible exact Take.nil)⟩)); rintro _ _ ⟨rfl, rfl⟩) | (apply o_call; exact rfl; exact rfl; (focus (first | exact rfl)); exact rfl; (focus (exact ⟨_, rLeft_any _ _ _ _, by repeat (first | with_reducible exact Take.nil)⟩)); rintro _ _ ⟨rfl, rfl⟩) | (apply o_call; exact rfl; exact rfl; (focus (first | exact rfl)); exact rfl; (focus (exact ⟨_, hT _ _, by repeat (first | with_reducible exact Take.nil)⟩)); rintro _ _ ⟨rfl, rfl⟩) | (apply o_call; exact rfl; exact rfl; (focus (first | exact rfl)); exact rfl; (focus (exact ⟨_, hRd _, by repeat (first | with_reducible exact Take.nil)⟩)); rintro _ _ ⟨rfl, rfl⟩) | (apply w_true; exact rfl) | (apply w_false; exact rfl) | (apply w_dF; exact rfl; (focus (first | omega))) | apply thenS_normal | apply thenS_ret | apply w_skip | apply w_ret | ((with_reducible apply Sd.mk); (first | exact True.intro)))
    all_goals first
      | contradiction
      | (apply s_fin; (exact (show ResS _ _ _ _ [_, _] from ⟨rfl, ⟨rfl, trivial⟩⟩)); (focus (exact ⟨by subst hx; rfl, rfl⟩)); (focus (repeat (first | with_reducible exact Take.nil | with_reducible apply Take.c | with_reducible apply Take.drop))))
      | trace_state
  | true =>
    rw [if_neg (by decide)] at hx
    have hlen := hlen rfl
    have hE := fun h => Encode_any' s h (by omega)
    obtain ⟨⟨t, g⟩, ht⟩ : ∃ R, lzE s = R := ⟨_, rfl⟩
    rw [ht] at hE hx
    dsimp only at hE hx
    refine w_body2 Tryz.func83 rfl rfl ?_
    repeat' (first | apply w_seq | apply w_region | apply o_nil | (apply o_g tyOk; exact rfl; exact rfl) | (apply o_notB; exact rfl; exact rfl) | (apply o_call; exact rfl; exact rfl; (focus (first | exact rfl)); exact rfl; (focus (exact ⟨_, NewReader_any _ _, by repeat (first | with_reducible exact Take.nil)⟩)); rintro _ _ ⟨n, rfl, rfl⟩) | (apply o_call; exact rfl; exact rfl; (focus (first | exact rfl)); exact rfl; (focus (exact ⟨_, hR _ _, by repeat (first | with_reducible exact Take.nil)⟩)); rintro _ _ ⟨rfl, rfl⟩) | (apply o_call; exact rfl; exact rfl; (focus (first | exact rfl)); exact rfl; (focus (exact ⟨_, rErr_any _ _ _ _, by repeat (first | with_reducible exact Take.nil)⟩)); rintro _ _ ⟨rfl, rfl⟩) | (apply o_call; exact rfl; exact rfl; (focus (first | exact rfl)); exact rfl; (focus (exact ⟨_, rLeft_any _ _ _ _, by repeat (first | with_reducible exact Take.nil)⟩)); rintro _ _ ⟨rfl, rfl⟩) | (apply o_call; exact rfl; exact rfl; (focus (first | exact rfl)); exact rfl; (focus (exact ⟨_, hT _ _, by repeat (first | with_reducible exact Take.nil)⟩)); rintro _ _ ⟨rfl, rfl⟩) | (apply o_call; exact rfl; exact rfl; (focus (first | exact rfl)); exact rfl; (focus (exact ⟨_, hRd _, by repeat (first | with_reducible exact Take.nil)⟩)); rintro _ _ ⟨rfl, rfl⟩) | (apply o_call; exact rfl; exact rfl; (focus (first | exact rfl)); exact rfl; (focus (exact ⟨_, hE _, by repeat (first | with_reducible exact Take.nil)⟩)); rintro _ _ ⟨rfl, rfl⟩) | (apply o_want; exact rfl; exact rfl) | (apply o_skip; iterate 4 exact rfl) | (apply o_guardFN; (iterate 3 exact rfl); all_goals intro hc) | (apply w_true; exact rfl) | (apply w_false; exact rfl) | (apply w_dF; exact rfl; (focus (first | omega))) | (apply w_ifN; exact rfl; all_goals intro hc) | apply thenS_normal | apply thenS_ret | apply w_skip | apply w_ret | ((with_reducible apply Sd.mk); (first | exact True.intro)))
    all_goals first
      | contradiction
      | (rw [if_pos (by rw [show t = l by assumption, show g = 0 by assumption])] at hx; (apply s_fin; (exact (show ResS _ _ _ _ [_, _] from ⟨rfl, ⟨rfl, trivial⟩⟩)); (focus (exact ⟨by subst hx; rfl, rfl⟩)); (focus (repeat (first | with_reducible exact Take.nil | with_reducible apply Take.c | with_reducible apply Take.drop)))))
      | (rw [if_neg (fun e => absurd (congrArg Prod.snd e) (by assumption))] at hx; (apply s_fin; (exact (show ResS _ _ _ _ [_, _] from ⟨rfl, ⟨rfl, trivial⟩⟩)); (focus (exact ⟨by subst hx; rfl, rfl⟩)); (focus (repeat (first | with_reducible exact Take.nil | with_reducible apply Take.c | with_reducible apply Take.drop)))))
      | (rw [if_neg (fun e => absurd (congrArg Prod.fst e) (by assumption))] at hx; (apply s_fin; (exact (show ResS _ _ _ _ [_, _] from ⟨rfl, ⟨rfl, trivial⟩⟩)); (focus (exact ⟨by subst hx; rfl, rfl⟩)); (focus (repeat (first | with_reducible exact Take.nil | with_reducible apply Take.c | with_reducible apply Take.drop)))))
      | trace_state
end Go.Proofs.YtncnmfdmbfbfjaaGreat
end
section
set_option linter.unusedVariables false
set_option linter.unusedSimpArgs false
set_option maxRecDepth 4000
namespace Go.Proofs.YtncnmfdmbfbfjaaGreat
open Go.Gh Go.RowKit

def hd2 (k : Int) : List UInt8 := [b8 165, b8 k]
theorem hd2_len (k : Int) : (hd2 k).length = 2 := rfl
theorem hd2_sub {k : Int} (hk : 0 ≤ k ∧ k ≤ 255) : SubAt [Y 165, Y k] 0 (bytesV (hd2 k)) := by
  have e : bytesV (hd2 k) = [Y 165, Y k] := by
    unfold hd2
    rw [show ∀ a b : UInt8, [a, b] = [a] ++ [b] from fun _ _ => rfl, bytesV_app, bytesV_one (by omega), bytesV_one (by omega)]
    rfl
  rw [e]; exact subAt_all
/-- The bytes of a frame ahead of its sum. -/
def frm (k : Int) (b : List UInt8) : List UInt8 := hd2 k ++ (vnum b.length ++ b)
def sl (t : List UInt8) : List UInt8 := t ++ le4 (crcV t)
abbrev frV (k : Int) (c : List UInt8) : Value := .agg ⟨[I k, S c]⟩
/-- What Wrap gives. -/
def wrp (k : Int) (c : List UInt8) : List UInt8 × Int :=
  if k < 0 ∨ 15 < k then ([], 2) else if 4096 < c.length then ([], 9) else (if (lzE c).1.length < c.length then sl (frm (k + 16) (lzE c).1) else sl (frm k c), 0)
theorem Wrap_any (k : Int) (c : List UInt8) (h : SH) (hl : c.length ≤ 9223372036854775807) : SRun Tryz.prog 17 [frV k c] h fun r q => r = .tuple #[S (wrp k c).1, I (wrp k c).2] ∧ q = h := by
  unfold wrp
  by_cases hk : k < 0 ∨ 15 < k
  · rw [if_pos hk]
    rcases hk with hk | hk
    all_goals
      refine w_body1 Tryz.func17 rfl rfl ?_
      repeat' (first | apply w_seq | apply w_region | apply o_nil | (apply o_g tyOk; exact rfl; exact rfl) | (apply o_load tyOk; (iterate 3 exact rfl); (focus (exact pk))) | (apply o_box (tt := tyT); iterate 5 exact rfl) | (apply o_want; exact rfl; exact rfl) | (apply o_skip; iterate 4 exact rfl) | (apply o_gF; (iterate 3 exact rfl); (focus (first | omega))) | (apply o_sT; (iterate 3 exact rfl); (focus (first | omega)); exact rfl) | (apply w_true; exact rfl) | (apply w_dT; exact rfl; (focus (first | omega))) | apply thenS_normal | apply thenS_ret | apply w_ret | ((with_reducible apply Sd.mk); (first | exact True.intro)) | ((with_reducible apply Ln.mk); (first | rfl)) | ((with_reducible apply Ce.mk); (first | rfl)) | exact True.intro | intro A | exact rfl)
      all_goals first
        | (exfalso; omega)
        | (apply s_fin; (exact (show ResS _ _ _ _ [_, _] from ⟨rfl, ⟨rfl, trivial⟩⟩)); (focus (exact ⟨rfl, rfl⟩)); (focus (repeat (first | with_reducible exact Take.nil | with_reducible apply Take.c | with_reducible apply Take.drop))))
        | trace_state
  rw [if_neg hk]
  have hE := fun h => Encode_any' c h hl
  by_cases h4 : 4096 < c.length
  · rw [if_pos h4]
    rw [show lzE c = ([], 9) from if_pos h4] at hE
    refine w_body1 Tryz.func17 rfl rfl ?_
    repeat' (first | apply w_seq | apply w_region | apply o_nil | (apply o_g tyOk; exact rfl; exact rfl) | (apply o_load tyOk; (iterate 3 exact rfl); (focus (exact pk))) | (apply o_box (tt := tyT); iterate 5 exact rfl) | (apply o_call; exact rfl; exact rfl; (focus (first | exact rfl)); exact rfl; (focus (exact ⟨_, hE _, by repeat (first | with_reducible exact Take.nil)⟩)); rintro _ _ ⟨rfl, rfl⟩) | (apply o_want; exact rfl; exact rfl) | (apply o_gF; (iterate 3 exact rfl); (focus (first | omega))) | (apply w_true; exact rfl) | (apply w_dF; exact rfl; (focus (first | omega))) | apply thenS_normal | apply thenS_ret | apply w_skip | apply w_ret | ((with_reducible apply Sd.mk); (first | exact True.intro)) | ((with_reducible apply Ln.mk); (first | rfl)) | ((with_reducible apply Ce.mk); (first | rfl)) | exact True.intro | intro A | exact rfl)
    all_goals first
      | (exfalso; omega)
      | contradiction
      | (apply s_fin; (exact (show ResS _ _ _ _ [_, _] from ⟨rfl, ⟨rfl, trivial⟩⟩)); (focus (exact ⟨rfl, rfl⟩)); (focus (repeat (first | with_reducible exact Take.nil | with_reducible apply Take.c | with_reducible apply Take.drop))))
      | trace_state
  rw [if_neg h4]
  obtain ⟨z, hz⟩ : ∃ z, lzE c = (z, 0) := ⟨_, if_neg h4⟩
  rw [hz] at hE ⊢
  dsimp only at hE ⊢
  by_cases hs : z.length < c.length
  · rw [if_pos hs]
    have hT := fun h => vText_any z h (by omega)
    have hs1 := vnum_len (n := (z.length : Int)) (by omega)
    have hs2 := (vk_ok (n := (z.length : Int)) (by omega)).2
    have hS := fun h => Seal_any (hd2 (k + 16) ++ (vnum (z.length : Int) ++ z)) h (by rw [List.length_append, List.length_append, hd2_len]; omega)
    have hsl : sl (frm (k + 16) z) = hd2 (k + 16) ++ (vnum (z.length : Int) ++ z) ++ le4 (crcV (hd2 (k + 16) ++ (vnum (z.length : Int) ++ z))) := rfl
    rw [hsl]
    have hsub := hd2_sub (k := k + 16) (by omega)
    generalize le4 (crcV (hd2 (k + 16) ++ (vnum (z.length : Int) ++ z))) = L at *
    generalize vnum (z.length : Int) = V at *
    refine w_body1 Tryz.func17 rfl rfl ?_
    repeat' (first | apply w_seq | apply w_region | apply o_nil | (apply w_draw; (focus (kernel_rfl)); (focus (kernel_rfl))) | (apply o_g tyOk; exact rfl; exact rfl) | (apply o_ar tyOk; exact rfl; exact rfl) | (apply o_load tyOk; (iterate 3 exact rfl); (focus (exact pk))) | (apply o_box (tt := tyT); iterate 5 exact rfl) | (apply o_buildSlice tyOk; (iterate 5 exact rfl); (focus (decide)); exact rfl; (focus (decide)); (focus (repeat (first | exact CatR.nil | (apply CatR.one; exact rfl; exact rfl)))); exact rfl) | (apply o_toString tyOk; (iterate 6 exact rfl); (focus (exact pk))) | (apply o_call; exact rfl; exact rfl; (focus (first | exact rfl)); exact rfl; (focus (exact ⟨_, hE _, by repeat (first | with_reducible exact Take.nil)⟩)); rintro _ _ ⟨rfl, rfl⟩) | (apply o_callD; (iterate 4 exact rfl); (focus (exact ⟨_, hT (lockS h), by repeat (first | with_reducible exact Take.nil | with_reducible apply take_lock | with_reducible apply Take.drop)⟩)); (focus (exact fun _ _ h => h.1)); (focus ((repeat (first | exact Flat.c rfl))))) | (apply o_callD; (iterate 4 exact rfl); (focus (exact ⟨_, hS (lockS h), by repeat (first | with_reducible exact Take.nil | with_reducible apply take_lock | with_reducible apply Take.drop)⟩)); (focus (exact fun _ _ h => h.1)); (focus ((repeat (first | exact Flat.c rfl))))) | (apply o_want; exact rfl; exact rfl) | (apply o_gF; (iterate 3 exact rfl); (focus (first | omega))) | (apply w_false; exact rfl) | (apply w_dT; exact rfl; (focus (first | omega))) | (apply w_dF; exact rfl; (focus (first | omega))) | apply thenS_normal | apply w_skip | apply w_ret | ((with_reducible apply Sd.mk); (first | exact True.intro | (rw [List.length_append, hd2_len]; omega))) | ((with_reducible apply Ln.mk); (first | rfl)) | ((with_reducible apply Wr.mk); (first | exact IntWalk.i64_in _ (by omega) | exact IntWalk.u8_in _ (by omega))) | ((with_reducible apply Ce.mk); (first | rfl)) | ((with_reducible apply Su.mk); (first | exact hsub)) | exact True.intro | exact Rd.mk ⟨_, hT (lockS h), by repeat (first | with_reducible exact Take.nil | with_reducible apply take_lock | with_reducible apply Take.drop)⟩ | exact Or.inl rfl | apply And.intro | apply Or.inr | intro A | exact rfl)
    all_goals first
      | (exfalso; omega)
      | contradiction
      | (apply s_fin; (exact (show ResS _ _ _ _ [_, _] from ⟨rfl, ⟨rfl, trivial⟩⟩)); (focus (exact ⟨rfl, rfl⟩)); (focus (repeat (first | with_reducible exact Take.nil | with_reducible apply Take.c | with_reducible apply Take.drop))))
      | trace_state
  · rw [if_neg hs]
    have hT := fun h => vText_any c h (by omega)
    have hs1 := vnum_len (n := (c.length : Int)) (by omega)
    have hs2 := (vk_ok (n := (c.length : Int)) (by omega)).2
    have hS := fun h => Seal_any (hd2 k ++ (vnum (c.length : Int) ++ c)) h (by rw [List.length_append, List.length_append, hd2_len]; omega)
    have hsl : sl (frm k c) = hd2 k ++ (vnum (c.length : Int) ++ c) ++ le4 (crcV (hd2 k ++ (vnum (c.length : Int) ++ c))) := rfl
    rw [hsl]
    have hsub := hd2_sub (k := k) (by omega)
    generalize le4 (crcV (hd2 k ++ (vnum (c.length : Int) ++ c))) = L at *
    generalize vnum (c.length : Int) = V at *
    refine w_body1 Tryz.func17 rfl rfl ?_
    repeat' (first | apply w_seq | apply w_region | apply o_nil | (apply w_draw; (focus (kernel_rfl)); (focus (kernel_rfl))) | (apply o_g tyOk; exact rfl; exact rfl) | (apply o_ar tyOk; exact rfl; exact rfl) | (apply o_load tyOk; (iterate 3 exact rfl); (focus (exact pk))) | (apply o_box (tt := tyT); iterate 5 exact rfl) | (apply o_buildSlice tyOk; (iterate 5 exact rfl); (focus (decide)); exact rfl; (focus (decide)); (focus (repeat (first | exact CatR.nil | (apply CatR.one; exact rfl; exact rfl)))); exact rfl) | (apply o_toString tyOk; (iterate 6 exact rfl); (focus (exact pk))) | (apply o_call; exact rfl; exact rfl; (focus (first | exact rfl)); exact rfl; (focus (exact ⟨_, hE _, by repeat (first | with_reducible exact Take.nil)⟩)); rintro _ _ ⟨rfl, rfl⟩) | (apply o_callD; (iterate 4 exact rfl); (focus (exact ⟨_, hT (lockS h), by repeat (first | with_reducible exact Take.nil | with_reducible apply take_lock | with_reducible apply Take.drop)⟩)); (focus (exact fun _ _ h => h.1)); (focus ((repeat (first | exact Flat.c rfl))))) | (apply o_callD; (iterate 4 exact rfl); (focus (exact ⟨_, hS (lockS h), by repeat (first | with_reducible exact Take.nil | with_reducible apply take_lock | with_reducible apply Take.drop)⟩)); (focus (exact fun _ _ h => h.1)); (focus ((repeat (first | exact Flat.c rfl))))) | (apply o_want; exact rfl; exact rfl) | (apply o_gF; (iterate 3 exact rfl); (focus (first | omega))) | (apply w_false; exact rfl) | (apply w_dF; exact rfl; (focus (first | omega))) | apply thenS_normal | apply w_skip | apply w_ret | ((with_reducible apply Sd.mk); (first | exact True.intro | (rw [List.length_append, hd2_len]; omega))) | ((with_reducible apply Ln.mk); (first | rfl)) | ((with_reducible apply Wr.mk); (first | exact IntWalk.u8_in _ (by omega))) | ((with_reducible apply Ce.mk); (first | rfl)) | ((with_reducible apply Su.mk); (first | exact hsub)) | exact True.intro | exact Rd.mk ⟨_, hT (lockS h), by repeat (first | with_reducible exact Take.nil | with_reducible apply take_lock | with_reducible apply Take.drop)⟩ | exact Or.inl rfl | apply And.intro | apply Or.inr | intro A | exact rfl)
    all_goals first
      | (exfalso; omega)
      | contradiction
      | (apply s_fin; (exact (show ResS _ _ _ _ [_, _] from ⟨rfl, ⟨rfl, trivial⟩⟩)); (focus (exact ⟨rfl, rfl⟩)); (focus (repeat (first | with_reducible exact Take.nil | with_reducible apply Take.c | with_reducible apply Take.drop))))
      | trace_state
end Go.Proofs.YtncnmfdmbfbfjaaGreat
end
section
set_option linter.unusedVariables false
set_option linter.unusedSimpArgs false
set_option maxRecDepth 4000
namespace Go.Proofs.YtncnmfdmbfbfjaaGreat
open Go.Gh Go.RowKit

/-- The bytes of numbers. -/
def numT (L : List Int) : List UInt8 := L.flatMap vnum
theorem numT_snoc (L : List Int) (x : Int) : numT (L ++ [x]) = numT L ++ vnum x := by simp [numT]
theorem vnum_le (n : Int) : (vnum n).length ≤ 9 := by
  unfold vnum
  split
  · exact Nat.zero_le _
  · rename_i h
    have h1 := (vk_ok (n := n) (by omega)).2
    have : ∀ (k : Nat) (m : Int) (T : List UInt8), (vbe k m T).1.length = k + T.length := by
      intro k
      induction k with
      | zero => intro m T; show T.length = 0 + T.length; omega
      | succ k ih => intro m T; unfold vbe; rw [ih]; simp only [List.length_cons]; omega
    rw [List.length_cons, this]
    simp only [List.length_nil]
    omega
theorem numT_le (L : List Int) : (numT L).length ≤ 9 * L.length := by
  induction L with
  | nil => exact Nat.zero_le _
  | cons x r ih =>
    have h1 := vnum_le x
    have h2 : numT (x :: r) = vnum x ++ numT r := rfl
    rw [h2, List.length_append, List.length_cons]
    omega
abbrev iv1 (z : Int) : Value := I z
theorem numbers_any (L : List Int) (v : Value) (h : SH) (hv : Has h (L.map iv1) 1 L.length v) (hl : L.length ≤ 1000) (hx : ∀ x ∈ L, x ≤ 9223372036854775807) :
    SRun Tryz.prog 31 [v] h fun r q => r = S (numT L) ∧ q = h := by
  obtain ⟨ad, fl, rfl, hh⟩ := hv
  refine w_body1 Tryz.func31 rfl rfl ?_
  repeat' (first | apply w_seq | apply w_region | apply o_nil | (apply o_g tyOk; exact rfl; exact rfl) | apply thenS_normal | apply w_block | ((with_reducible apply Sd.mk); (first | exact True.intro)))
  refine w_loop (S := Nat) (fun i => [(3, S (numT (L.take i))), (6, .slice ad L.length fl), (7, I L.length), (8, I i)]) (fun _ => h) (fun i => i ≤ L.length) (fun i => L.length - i) 0 (Nat.zero_le _) (by repeat' (first | exact trivial | refine ⟨rfl, ?_⟩ | refine ⟨congrArg some ?_, ?_⟩)) (by repeat (first | with_reducible exact Take.nil | with_reducible apply Take.c | with_reducible apply Take.drop)) ?_
  rintro i hi
  by_cases hil : i < L.length
  · obtain ⟨A', ro, hx1, rfl, hp⟩ := hh (by omega)
    have htb := stake_bang hil
    have hN := fun h => Number_any L[i]! h (hx _ (sbang_mem hil))
    have hml : (L.map iv1).length = L.length := List.length_map ..
    have hcell : (L.map iv1)[0 + ((i : Int)).toNat * 1]? = some (I L[i]!) := cell_mapZ hil
    generalize L[i]! = x at *
    have hb1 := numT_le (L.take i)
    have hb2 := vnum_le x
    have hb3 : (L.take i).length ≤ 1000 := by rw [List.length_take]; omega
    have hns : numT (L.take (i + 1)) = numT (L.take i) ++ vnum x := by rw [htb, numT_snoc]
    repeat' (first | apply w_seq | apply w_region | apply o_nil | (apply o_g tyOk; exact rfl; exact rfl) | (apply o_ar tyOk; exact rfl; exact rfl) | (apply o_load tyOk; (iterate 3 exact rfl); (focus (exact pk))) | (apply o_call; exact rfl; exact rfl; (focus (first | exact rfl)); exact rfl; (focus (exact ⟨_, hN _, by repeat (first | with_reducible exact Take.nil)⟩)); rintro _ _ ⟨rfl, rfl⟩) | (apply w_dT; exact rfl; (focus (first | omega))) | apply thenS_normal | apply blockS_normal | apply w_skip | apply w_block | ((with_reducible apply Sd.mk); (first | exact True.intro | omega)) | ((with_reducible apply Ln.mk); (first | (simp [hml]; first | done | omega))) | ((with_reducible apply Wr.mk); (first | exact IntWalk.i64_in _ (by omega))) | ((with_reducible apply Ce.mk); (first | exact hcell)) | exact True.intro | exact rfl)
    all_goals first
      | (exfalso; omega)
      | exact ⟨i + 1, hil, by show L.length - (i + 1) < L.length - i; omega, by rw [hns]; exact (by repeat' (first | exact trivial | refine ⟨rfl, ?_⟩ | refine ⟨congrArg some ?_, ?_⟩)), (by repeat (first | with_reducible exact Take.nil | with_reducible apply Take.c | with_reducible apply Take.drop))⟩
      | trace_state
  · obtain rfl : i = L.length := by omega
    rw [List.take_length]
    repeat' (first | apply w_seq | apply w_region | apply o_nil | (apply o_g tyOk; exact rfl; exact rfl) | (apply w_dF; exact rfl; (focus (first | omega))) | apply thenS_normal | apply thenS_exit | apply blockS_exit | apply w_ret | apply w_exit | ((with_reducible apply Sd.mk); (first | exact True.intro)))
    all_goals first
      | (exfalso; omega)
      | (apply s_fin; (exact (show ResS _ _ _ _ [_] from ⟨rfl, trivial⟩)); (focus (exact ⟨rfl, rfl⟩)); (focus (repeat (first | with_reducible exact Take.nil | with_reducible apply Take.c | with_reducible apply Take.drop))))
      | trace_state
/-- The numbers of an entry. -/
def enN (e : Eny) : List Int := [e.2.1 - e.1, e.2.2.1, e.2.2.2.1, e.2.2.2.2.1, e.2.2.2.2.2.1, e.2.2.2.2.2.2]
def exN (x : Ex3) : List Int := [x.1, x.2.1, x.2.2]
def txtD (d : Ex3) (l : List Eny) : List UInt8 := numT (exN d ++ [(l.length : Int)]) ++ l.flatMap fun e => numT (enN e)
theorem ents_in : ∀ {l : List Eny} {a : Int}, -1 ≤ a → ents a l → ∀ e ∈ l, -1 ≤ e.1 ∧ e.1 < e.2.1 ∧ e.2.1 ≤ 1099511627776 ∧ lvl e
  | [], _, _, _, e, he => by cases he
  | x :: r, a, ha, h, e, he => by
    obtain ⟨⟨h1, h2, h3, h4⟩, h5⟩ := h
    rcases List.mem_cons.1 he with rfl | he
    · exact ⟨by omega, h2, h3, h4⟩
    · exact ents_in (l := r) (by omega) h5 e he
theorem fmT_le : ∀ l : List Eny, (l.flatMap fun e => numT (enN e)).length ≤ 54 * l.length := by
  intro l
  induction l with
  | nil => exact Nat.zero_le _
  | cons e r ih =>
    have g1 := numT_le (enN e)
    have g2 : (enN e).length = 6 := rfl
    rw [List.flatMap_cons, List.length_append, List.length_cons]
    omega
theorem txtD_le {d : Ex3} {l : List Eny} (h : l.length ≤ 32) : (txtD d l).length ≤ 1764 := by
  have h1 := numT_le (exN d ++ [(l.length : Int)])
  have h2 : (exN d ++ [(l.length : Int)]).length = 4 := rfl
  have h4 := fmT_le l
  unfold txtD
  rw [List.length_append]
  omega
/-- What Encode gives. -/
def encD (d : Ex3) (l : List Eny) : List UInt8 × Int := if dvl d l then wrp 7 (txtD d l) else ([], 1)
theorem DEncode_any (d : Ex3) (l : List Eny) (v : Value) (h : SH) (hv : Has h (recs enF l) 7 l.length v) (hl : l.length ≤ 1000) :
    SRun Tryz.prog 12 [drV d v] h fun r q => r = .tuple #[S (encD d l).1, I (encD d l).2] ∧ q = h := by
  have hV := fun h hv => DValid_any d l v h hv hl
  obtain ⟨ad, fl, rfl, hh⟩ := id hv
  have hlb := en_len l
  unfold encD
  by_cases hd : dvl d l
  · rw [if_pos hd]
    rw [decide_eq_true hd] at hV
    have hW := fun h => Wrap_any 7 (txtD d l) h (by have := txtD_le (d := d) hd.1; omega)
    generalize wrp 7 (txtD d l) = T at *
    have hin := ents_in (by omega) hd.2.2.1
    have hft := hd.2.1.2
    have hfd := hd.2.1.1
    have htx : txtD d l = numT (exN d ++ [(l.length : Int)]) ++ (l.take l.length).flatMap fun e => numT (enN e) := by rw [List.take_length]; rfl
    obtain ⟨d1, d2, d3⟩ := d
    have hf1 := hfd.1; have hf2 := hfd.2.1; have hf3 := hfd.2.2.1; have hf4 := hfd.2.2.2.1; have hf5 := hfd.2.2.2.2.1; have hf6 := hfd.2.2.2.2.2.1
    dsimp only at hf1 hf2 hf3 hf4 hf5 hf6
    have hV : ∀ h, Has h (recs enF l) 7 l.length (.slice ad l.length fl) → SRun Tryz.prog 13 [.agg ⟨[I d1, I d2, I d3, .slice ad l.length fl]⟩] h fun r q => r = B true ∧ q = h := hV
    show SRun _ _ [.agg ⟨[I d1, I d2, I d3, .slice ad l.length fl]⟩] h _
    have hN1 : ∀ (A : Nat) (h : SH), SRun Tryz.prog 31 [gsl A 0 4 4 1] ((A, ⟨[I d1, I d2, I d3, I l.length], false⟩) :: h) fun r q => r = S (numT (exN (d1, d2, d3) ++ [(l.length : Int)])) ∧ q = (A, ⟨[I d1, I d2, I d3, I l.length], false⟩) :: h := fun A h =>
      numbers_any (exN (d1, d2, d3) ++ [(l.length : Int)]) (gsl A 0 4 4 1) _ ⟨_, _, rfl, fun _ => ⟨A, _, _, rfl, .head⟩⟩ (by show 4 ≤ 1000; omega) (fun x hx => by
        have hx : x = d1 ∨ x = d2 ∨ x = d3 ∨ x = (l.length : Int) := by simpa [exN] using hx
        omega)
    refine w_body1 Tryz.func12 rfl rfl ?_
    repeat' (first | apply w_seq | apply w_region | apply o_nil | (apply o_g tyOk; exact rfl; exact rfl) | (apply o_notB; exact rfl; exact rfl) | (apply o_load tyOk; (iterate 3 exact rfl); (focus (exact pk))) | (apply o_loads tyOk; (iterate 3 exact rfl); (focus (exact pk))) | (apply o_box (tt := tyT); iterate 5 exact rfl) | (apply o_buildSlice tyOk; (iterate 5 exact rfl); (focus (decide)); exact rfl; (focus (decide)); (focus (repeat (first | exact CatR.nil | (apply CatR.one; exact rfl; exact rfl)))); exact rfl) | (apply o_call; exact rfl; exact rfl; (focus (first | exact rfl)); exact rfl; (focus (exact ⟨_, hV _ (hv.re (.drop .nil)), by repeat (first | with_reducible exact Take.nil)⟩)); rintro _ _ ⟨rfl, rfl⟩) | (apply o_call; exact rfl; exact rfl; (focus (first | exact rfl)); exact rfl; (focus (exact ⟨_, hN1 _ _, by repeat (first | with_reducible exact Take.nil)⟩)); rintro _ _ ⟨rfl, rfl⟩) | (apply w_false; exact rfl) | apply thenS_normal | apply w_skip | apply w_block | ((with_reducible apply Sd.mk); (first | exact True.intro)) | ((with_reducible apply Ln.mk); (first | rfl)) | ((with_reducible apply Ce.mk); (first | rfl)) | ((with_reducible apply Su.mk); (first | exact subAt_all)) | exact True.intro | intro A | exact rfl)
    all_goals first | contradiction | (exfalso; omega) | skip
    refine w_loop (S := Nat) (fun i => [(4, S (numT (exN (d1, d2, d3) ++ [(l.length : Int)]) ++ (l.take i).flatMap fun e => numT (enN e))), (25, .slice ad l.length fl), (26, I l.length), (27, I i)]) (fun _ => h)
      (fun i => i ≤ l.length) (fun i => l.length - i) 0 (Nat.zero_le _) (by rw [List.take_zero, List.flatMap_nil, List.append_nil]; exact (by repeat' (first | exact trivial | refine ⟨rfl, ?_⟩ | refine ⟨congrArg some ?_, ?_⟩))) (by repeat (first | with_reducible exact Take.nil | with_reducible apply Take.c | with_reducible apply Take.drop)) ?_
    rintro i hi
    by_cases hil : i < l.length
    · obtain ⟨A', ro, hx1, rfl, hp⟩ := hh (by omega)
      have htb := stake_bang hil
      have hmem := sbang_mem hil
      have hi1 := hin _ hmem
      have hi2 := hft _ hmem
      obtain ⟨x, hx⟩ : ∃ x, x = l[i]! := ⟨_, rfl⟩
      rw [← hx] at htb hi1 hi2
      obtain ⟨x1, x2, x3, x4, y1, y2, y3⟩ := x
      have hsub : SubAt (recs enF l) (0 + ((i : Int)).toNat * 7) [I x1, I x2, I x3, I x4, I y1, I y2, I y3] := by rw [show [I x1, I x2, I x3, I x4, I y1, I y2, I y3] = enF l[i]! by rw [← hx]]; exact subAt_recZ (fun _ => rfl) hil
      unfold lvl at hi1
      unfold fit at hi2
      dsimp only [plc] at hi1 hi2
      have hw : x2 - x1 ≤ 9223372036854775807 ∧ -9223372036854775808 ≤ x2 - x1 := by omega
      have hN2 : ∀ (A : Nat) (h : SH), SRun Tryz.prog 31 [gsl A 0 6 6 1] ((A, ⟨[I (x2 - x1), I x3, I x4, I y1, I y2, I y3], false⟩) :: h) fun r q => r = S (numT (enN (x1, x2, x3, x4, y1, y2, y3))) ∧ q = (A, ⟨[I (x2 - x1), I x3, I x4, I y1, I y2, I y3], false⟩) :: h := fun A h =>
        numbers_any (enN (x1, x2, x3, x4, y1, y2, y3)) (gsl A 0 6 6 1) _ ⟨_, _, rfl, fun _ => ⟨A, _, _, rfl, .head⟩⟩ (by show 6 ≤ 1000; omega) (fun x hx => by
          have hx : x = x2 - x1 ∨ x = x3 ∨ x = x4 ∨ x = y1 ∨ x = y2 ∨ x = y3 := by simpa [enN] using hx
          omega)
      have hb1 := numT_le (exN (d1, d2, d3) ++ [(l.length : Int)])
      have hb2 := fmT_le (l.take i)
      have hb3 : (l.take i).length ≤ 1000 := by rw [List.length_take]; omega
      have hb4 := numT_le (enN (x1, x2, x3, x4, y1, y2, y3))
      have hb5 : (exN (d1, d2, d3) ++ [(l.length : Int)]).length = 4 := rfl
      have hb6 : (enN (x1, x2, x3, x4, y1, y2, y3)).length = 6 := rfl
      have hfm : (l.take (i + 1)).flatMap (fun e => numT (enN e)) = (l.take i).flatMap (fun e => numT (enN e)) ++ numT (enN (x1, x2, x3, x4, y1, y2, y3)) := by rw [htb, List.flatMap_append]; simp
      repeat' (first | apply w_seq | apply w_region | apply o_nil | (apply o_g tyOk; exact rfl; exact rfl) | (apply o_ar tyOk; exact rfl; exact rfl) | (apply o_load tyOk; (iterate 3 exact rfl); (focus (exact pk))) | (apply o_loads tyOk; (iterate 3 exact rfl); (focus (exact pk))) | (apply o_stores tyOk; (iterate 4 exact rfl); (focus (exact ⟨rfl⟩)); (focus (exact up))) | (apply o_alloc tyOk; iterate 5 exact rfl) | (apply o_buildSlice tyOk; (iterate 5 exact rfl); (focus (decide)); exact rfl; (focus (decide)); (focus (repeat (first | exact CatR.nil | (apply CatR.one; exact rfl; exact rfl)))); exact rfl) | (apply o_call; exact rfl; exact rfl; (focus (first | exact rfl)); exact rfl; (focus (exact ⟨_, hN2 _ _, by repeat (first | with_reducible exact Take.nil)⟩)); rintro _ _ ⟨rfl, rfl⟩) | (apply w_dT; exact rfl; (focus (first | omega))) | apply thenS_normal | apply blockS_normal | apply w_skip | apply w_block | ((with_reducible apply Sd.mk); (first | exact True.intro | omega | (simp only [List.length_append]; omega))) | ((with_reducible apply Ln.mk); (first | rfl | omega)) | ((with_reducible apply Wr.mk); (first | exact IntWalk.i64_in _ (by omega))) | ((with_reducible apply Ce.mk); (first | rfl)) | ((with_reducible apply Pu.mk); (first | exact putAt_all rfl)) | ((with_reducible apply Su.mk); (first | exact hsub)) | exact True.intro | intro A | exact rfl)
      all_goals first
        | (exfalso; omega)
        | exact ⟨i + 1, hil, by show l.length - (i + 1) < l.length - i; omega, by rw [hfm, ← List.append_assoc]; exact (by repeat' (first | exact trivial | refine ⟨rfl, ?_⟩ | refine ⟨congrArg some ?_, ?_⟩)), (by repeat (first | with_reducible exact Take.nil | with_reducible apply Take.c | with_reducible apply Take.drop))⟩
        | trace_state
    · obtain rfl : i = l.length := by omega
      rw [← htx]
      have hW : ∀ h, SRun Tryz.prog 17 [.agg ⟨[I 7, S (txtD (d1, d2, d3) l)]⟩] h fun r q => r = .tuple #[S T.1, I T.2] ∧ q = h := hW
      repeat' (first | apply w_seq | apply w_region | apply o_nil | (apply o_g tyOk; exact rfl; exact rfl) | (apply o_build tyOk; exact rfl; exact rfl; (focus (first | with_reducible exact pl38)); exact rfl; (focus (repeat (first | exact BuildR.nil | (apply BuildR.one; exact rfl; exact rfl; (first | (focus ((repeat (first | exact SetAt.zero | apply SetAt.succ)); done))))))); exact rfl) | (apply o_call; exact rfl; exact rfl; (focus (first | exact rfl)); exact rfl; (focus (exact ⟨_, hW _, by repeat (first | with_reducible exact Take.nil)⟩)); rintro _ _ ⟨rfl, rfl⟩) | (apply w_dF; exact rfl; (focus (first | omega))) | apply thenS_normal | apply thenS_exit | apply blockS_exit | apply w_ret | apply w_exit | ((with_reducible apply Sd.mk); (first | exact True.intro)))
      all_goals first
        | (exfalso; omega)
        | (apply s_fin; (exact (show ResS _ _ _ _ [_, _] from ⟨rfl, ⟨rfl, trivial⟩⟩)); (focus (exact ⟨rfl, rfl⟩)); (focus (repeat (first | with_reducible exact Take.nil | with_reducible apply Take.c | with_reducible apply Take.drop))))
        | trace_state
  · rw [if_neg hd]
    rw [decide_eq_false hd] at hV
    obtain ⟨d1, d2, d3⟩ := d
    have hV : ∀ h, Has h (recs enF l) 7 l.length (.slice ad l.length fl) → SRun Tryz.prog 13 [.agg ⟨[I d1, I d2, I d3, .slice ad l.length fl]⟩] h fun r q => r = B false ∧ q = h := hV
    show SRun _ _ [.agg ⟨[I d1, I d2, I d3, .slice ad l.length fl]⟩] h _
    refine w_body1 Tryz.func12 rfl rfl ?_
    repeat' ((fail_if_success (show SWp _ _ (Code.seq (Code.region 3 _ _) _) _ _ _)); (fail_if_success (show SWp _ _ (Code.region 3 _ _) _ _ _)); first | apply w_seq | apply w_region | apply o_nil | (apply o_g tyOk; exact rfl; exact rfl) | (apply o_notB; exact rfl; exact rfl) | (apply o_loads tyOk; (iterate 3 exact rfl); (focus (exact pk))) | (apply o_box (tt := tyT); iterate 5 exact rfl) | (apply o_call; exact rfl; exact rfl; (focus (first | exact rfl)); exact rfl; (focus (exact ⟨_, hV _ (hv.re (.drop .nil)), by repeat (first | with_reducible exact Take.nil)⟩)); rintro _ _ ⟨rfl, rfl⟩) | (apply w_true; exact rfl) | apply thenS_normal | apply thenS_ret | apply w_ret | ((with_reducible apply Sd.mk); (first | exact True.intro)) | ((with_reducible apply Ln.mk); (first | rfl)) | ((with_reducible apply Su.mk); (first | exact subAt_all)) | exact True.intro | intro A | exact rfl)
    all_goals first
      | contradiction
      | (exfalso; omega)
      | (apply s_fin; (exact (show ResS _ _ _ _ [_, _] from ⟨rfl, ⟨rfl, trivial⟩⟩)); (focus (exact ⟨rfl, rfl⟩)); (focus (repeat (first | with_reducible exact Take.nil | with_reducible apply Take.c | with_reducible apply Take.drop))))
      | trace_state
/-- The text of a directory, as the law writes it. -/
theorem text_any (d : Ex3) (l : List Eny) (v : Value) (h : SH) (hv : Has h (recs enF l) 7 l.length v) (hd : dvl d l) :
    SRun Tryz.prog 18 [drV d v] h fun r q => r = S (txtD d l) ∧ q = h := by
  obtain ⟨ad, fl, rfl, hh⟩ := id hv
  have hlb := en_len l
  have hin := ents_in (by omega) hd.2.2.1
  have hft := hd.2.1.2
  have hfd := hd.2.1.1
  have hl32 := hd.1
  have htx : txtD d l = numT (exN d ++ [(l.length : Int)]) ++ (l.take l.length).flatMap fun e => numT (enN e) := by rw [List.take_length]; rfl
  obtain ⟨d1, d2, d3⟩ := d
  have hf1 := hfd.1; have hf2 := hfd.2.1; have hf3 := hfd.2.2.1; have hf4 := hfd.2.2.2.1; have hf5 := hfd.2.2.2.2.1; have hf6 := hfd.2.2.2.2.2.1
  dsimp only at hf1 hf2 hf3 hf4 hf5 hf6
  have hn4 : numT (exN (d1, d2, d3) ++ [(l.length : Int)]) = ((vnum d1 ++ vnum d2) ++ vnum d3) ++ vnum l.length := by simp [numT, exN]
  have n1 := fun h => Number_any d1 h (by omega)
  have n2 := fun h => Number_any d2 h (by omega)
  have n3 := fun h => Number_any d3 h (by omega)
  have n4 := fun h => Number_any (l.length : Int) h (by omega)
  have c1 := vnum_le d1; have c2 := vnum_le d2; have c3 := vnum_le d3; have c4 := vnum_le l.length
  show SRun _ _ [.agg ⟨[I d1, I d2, I d3, .slice ad l.length fl]⟩] h _
  refine w_body1 Tryz.func18 rfl rfl ?_
  repeat' (first | apply w_seq | apply w_region | apply o_nil | (apply w_draw; (focus (kernel_rfl)); (focus (kernel_rfl))) | (apply o_g tyOk; exact rfl; exact rfl) | (apply o_load tyOk; (iterate 3 exact rfl); (focus (exact pk))) | (apply o_box (tt := tyT); iterate 5 exact rfl) | (apply o_callD; (iterate 4 exact rfl); (focus (exact ⟨_, n1 _, by repeat (first | with_reducible exact Take.nil)⟩)); (focus (exact fun _ _ h => h.1)); (focus ((repeat (first | exact Flat.c rfl))))) | (apply o_callD; (iterate 4 exact rfl); (focus (exact ⟨_, n2 _, by repeat (first | with_reducible exact Take.nil)⟩)); (focus (exact fun _ _ h => h.1)); (focus ((repeat (first | exact Flat.c rfl))))) | (apply o_callD; (iterate 4 exact rfl); (focus (exact ⟨_, n3 _, by repeat (first | with_reducible exact Take.nil)⟩)); (focus (exact fun _ _ h => h.1)); (focus ((repeat (first | exact Flat.c rfl))))) | (apply o_callD; (iterate 4 exact rfl); (focus (exact ⟨_, n4 _, by repeat (first | with_reducible exact Take.nil)⟩)); (focus (exact fun _ _ h => h.1)); (focus ((repeat (first | exact Flat.c rfl))))) | apply thenS_normal | apply w_block | ((with_reducible apply Sd.mk); (first | exact True.intro | omega | (simp only [List.length_append]; omega))) | ((with_reducible apply Ln.mk); (first | rfl)) | ((with_reducible apply Ce.mk); (first | rfl)) | exact True.intro | intro A | exact rfl)
  all_goals first | contradiction | (exfalso; omega) | skip
  refine w_loop (S := Nat) (fun i => [(3, .func (.func 37) #[] #[]), (4, S (numT (exN (d1, d2, d3) ++ [(l.length : Int)]) ++ (l.take i).flatMap fun e => numT (enN e))), (31, .slice ad l.length fl), (32, I l.length), (33, I i)]) (fun _ => h)
    (fun i => i ≤ l.length) (fun i => l.length - i) 0 (Nat.zero_le _) (by rw [List.take_zero, List.flatMap_nil, List.append_nil, hn4]; exact (by repeat' (first | exact trivial | refine ⟨rfl, ?_⟩ | refine ⟨congrArg some ?_, ?_⟩))) (by repeat (first | with_reducible exact Take.nil | with_reducible apply Take.c | with_reducible apply Take.drop)) ?_
  rintro i hi
  by_cases hil : i < l.length
  · obtain ⟨A', ro, hx1, rfl, hp⟩ := hh (by omega)
    have htb := stake_bang hil
    have hmem := sbang_mem hil
    have hi1 := hin _ hmem
    have hi2 := hft _ hmem
    obtain ⟨x, hx⟩ : ∃ x, x = l[i]! := ⟨_, rfl⟩
    rw [← hx] at htb hi1 hi2
    obtain ⟨x1, x2, x3, x4, y1, y2, y3⟩ := x
    have hsub : SubAt (recs enF l) (0 + ((i : Int)).toNat * 7) [I x1, I x2, I x3, I x4, I y1, I y2, I y3] := by rw [show [I x1, I x2, I x3, I x4, I y1, I y2, I y3] = enF l[i]! by rw [← hx]]; exact subAt_recZ (fun _ => rfl) hil
    unfold lvl at hi1
    unfold fit at hi2
    dsimp only [plc] at hi1 hi2
    have hw : x2 - x1 ≤ 9223372036854775807 ∧ -9223372036854775808 ≤ x2 - x1 := by omega
    have m1 := fun h => Number_any (x2 - x1) h (by omega)
    have m2 := fun h => Number_any x3 h (by omega)
    have m3 := fun h => Number_any x4 h (by omega)
    have m4 := fun h => Number_any y1 h (by omega)
    have m5 := fun h => Number_any y2 h (by omega)
    have m6 := fun h => Number_any y3 h (by omega)
    have hb1 := numT_le (exN (d1, d2, d3) ++ [(l.length : Int)])
    have hb2 := fmT_le (l.take i)
    have hb3 : (l.take i).length ≤ 1000 := by rw [List.length_take]; omega
    have hb5 : (exN (d1, d2, d3) ++ [(l.length : Int)]).length = 4 := rfl
    have b1 := vnum_le (x2 - x1); have b2 := vnum_le x3; have b3 := vnum_le x4; have b4 := vnum_le y1; have b5 := vnum_le y2; have b6 := vnum_le y3
    have hfm : (l.take (i + 1)).flatMap (fun e => numT (enN e)) = (l.take i).flatMap (fun e => numT (enN e)) ++ (((((vnum (x2 - x1) ++ vnum x3) ++ vnum x4) ++ vnum y1) ++ vnum y2) ++ vnum y3) := by rw [htb, List.flatMap_append]; simp [numT, enN]
    repeat' (first | apply w_seq | apply w_region | apply o_nil | (apply w_draw; (focus (kernel_rfl)); (focus (kernel_rfl))) | (apply o_g tyOk; exact rfl; exact rfl) | (apply o_ar tyOk; exact rfl; exact rfl) | (apply o_load tyOk; (iterate 3 exact rfl); (focus (exact pk))) | (apply o_loads tyOk; (iterate 3 exact rfl); (focus (exact pk))) | (apply o_stores tyOk; (iterate 4 exact rfl); (focus (exact ⟨rfl⟩)); (focus (exact up))) | (apply o_alloc tyOk; iterate 5 exact rfl) | (apply o_callD; (iterate 4 exact rfl); (focus (exact ⟨_, m1 _, by repeat (first | with_reducible exact Take.nil)⟩)); (focus (exact fun _ _ h => h.1)); (focus ((repeat (first | exact Flat.c rfl))))) | (apply o_callD; (iterate 4 exact rfl); (focus (exact ⟨_, m2 _, by repeat (first | with_reducible exact Take.nil)⟩)); (focus (exact fun _ _ h => h.1)); (focus ((repeat (first | exact Flat.c rfl))))) | (apply o_callD; (iterate 4 exact rfl); (focus (exact ⟨_, m3 _, by repeat (first | with_reducible exact Take.nil)⟩)); (focus (exact fun _ _ h => h.1)); (focus ((repeat (first | exact Flat.c rfl))))) | (apply o_callD; (iterate 4 exact rfl); (focus (exact ⟨_, m4 _, by repeat (first | with_reducible exact Take.nil)⟩)); (focus (exact fun _ _ h => h.1)); (focus ((repeat (first | exact Flat.c rfl))))) | (apply o_callD; (iterate 4 exact rfl); (focus (exact ⟨_, m5 _, by repeat (first | with_reducible exact Take.nil)⟩)); (focus (exact fun _ _ h => h.1)); (focus ((repeat (first | exact Flat.c rfl))))) | (apply o_callD; (iterate 4 exact rfl); (focus (exact ⟨_, m6 _, by repeat (first | with_reducible exact Take.nil)⟩)); (focus (exact fun _ _ h => h.1)); (focus ((repeat (first | exact Flat.c rfl))))) | (apply w_dT; exact rfl; (focus (first | omega))) | apply thenS_normal | apply blockS_normal | apply w_skip | apply w_block | ((with_reducible apply Sd.mk); (first | exact True.intro | omega | (simp only [List.length_append]; omega))) | ((with_reducible apply Ln.mk); (first | rfl | omega)) | ((with_reducible apply Wr.mk); (first | exact IntWalk.i64_in _ (by omega))) | ((with_reducible apply Ce.mk); (first | rfl)) | ((with_reducible apply Pu.mk); (first | exact putAt_all rfl)) | ((with_reducible apply Su.mk); (first | exact hsub)) | exact True.intro | intro A | exact rfl)
    all_goals first
      | (exfalso; omega)
      | exact ⟨i + 1, hil, by show l.length - (i + 1) < l.length - i; omega, by rw [hfm, ← List.append_assoc]; exact (by repeat' (first | exact trivial | refine ⟨rfl, ?_⟩ | refine ⟨congrArg some ?_, ?_⟩)), (by repeat (first | with_reducible exact Take.nil | with_reducible apply Take.c | with_reducible apply Take.drop))⟩
      | trace_state
  · obtain rfl : i = l.length := by omega
    rw [htx]
    repeat' (first | apply w_seq | apply w_region | apply o_nil | (apply o_g tyOk; exact rfl; exact rfl) | (apply w_dF; exact rfl; (focus (first | omega))) | apply thenS_normal | apply thenS_exit | apply blockS_exit | apply w_ret | apply w_exit | ((with_reducible apply Sd.mk); (first | exact True.intro)))
    all_goals first
      | (exfalso; omega)
      | (apply s_fin; (exact (show ResS _ _ _ _ [_] from ⟨rfl, trivial⟩)); (focus (exact ⟨rfl, rfl⟩)); (focus (repeat (first | with_reducible exact Take.nil | with_reducible apply Take.c | with_reducible apply Take.drop))))
      | trace_state
end Go.Proofs.YtncnmfdmbfbfjaaGreat
end
section
set_option linter.unusedVariables false
set_option linter.unusedSimpArgs false
set_option maxRecDepth 4000
namespace Go.Proofs.YtncnmfdmbfbfjaaGreat
open Go.Gh Go.RowKit

theorem lead_fin : ∀ f : Nat, f < 256 → (f < 128 → vlead (f : Int) 8 0 = 0 ∧ vlow (f : Int) 0 = f) ∧ (128 ≤ f → f < 192 → vlead (f : Int) 8 0 = 1 ∧ vlow (f : Int) 1 = (f : Int) - 128) ∧ (192 ≤ f → 2 ≤ vlead (f : Int) 8 0) := by decide +kernel
theorem hd_fin : ∀ m : Nat, m < 128 → vhd 0 (m : Int) = m ∧ (m < 64 → vhd 1 (m : Int) = 128 + (m : Int)) := by decide +kernel
theorem vbnd0 : vbnd 0 = 0 := rfl
theorem vbnd1 : vbnd 1 = 128 := by decide
theorem vbnd2 : vbnd 2 = 16512 := by decide
theorem vk_lo {n : Int} (h : n < 128) : vk n = 0 := by
  show (if vbnd 1 ≤ n then vks n 7 1 else 0) = 0
  rw [vbnd1, if_neg (by omega)]
theorem vk_hi {n : Int} (h : 128 ≤ n) (h2 : n < 16512) : vk n = 1 := by
  show (if vbnd 1 ≤ n then (if vbnd 2 ≤ n then vks n 6 2 else 1) else 0) = 1
  rw [vbnd1, vbnd2, if_pos h, if_neg (by omega)]
theorem vnum_lo {n : Int} (h0 : 0 ≤ n) (h : n < 128) : vnum n = [b8 n] := by
  obtain ⟨m, rfl⟩ := Int.eq_ofNat_of_zero_le h0
  unfold vnum
  rw [if_neg (by omega), vk_lo h, vbnd0, Int.sub_zero]
  show [b8 (vhd 0 (m : Int))] = _
  rw [(hd_fin m (by omega)).1]
theorem vnum_hi {n : Int} (h0 : 128 ≤ n) (h : n < 16512) : vnum n = [b8 (128 + (n - 128) / 256), b8 ((n - 128) % 256)] := by
  unfold vnum
  rw [if_neg (by omega), vk_hi h0 h, vbnd1]
  show [b8 (vhd 1 ((n - 128) / 256)), b8 ((n - 128) % 256)] = _
  obtain ⟨m, hm⟩ := Int.eq_ofNat_of_zero_le (show 0 ≤ (n - 128) / 256 by omega)
  rw [hm, (hd_fin m (by omega)).2 (by omega)]
theorem bat_zero (x : UInt8) (r : List UInt8) : bat (x :: r) 0 = x.toNat := rfl
theorem vpeek_lo {x : UInt8} {r : List UInt8} (h : x.toNat < 128) : vpeek (x :: r) = ((x.toNat : Int), 1, true) := by
  have hl := (lead_fin x.toNat (by omega)).1 h
  unfold vpeek
  rw [if_neg (by simp), bat_zero, hl.1, if_neg (by simp), hl.2, vbnd0]
  rw [show vacc (x :: r) 0 1 (x.toNat : Int) = x.toNat from rfl, if_neg (by omega), Int.add_zero]
  rfl
theorem vpeek_hi {x y : UInt8} {r : List UInt8} (h : 128 ≤ x.toNat) (h2 : x.toNat < 192) : vpeek (x :: y :: r) = (((x.toNat : Int) - 128) * 256 + y.toNat + 128, 2, true) := by
  have hl := (lead_fin x.toNat (by omega)).2.1 h h2
  have hy := y.toNat_lt
  unfold vpeek
  rw [if_neg (by simp), bat_zero, hl.1, if_neg (by simp), hl.2, vbnd1]
  rw [show vacc (x :: y :: r) 1 1 ((x.toNat : Int) - 128) = ((x.toNat : Int) - 128) * 256 + y.toNat from rfl, if_neg (by omega)]
  rfl
theorem vpeek_num {n : Int} (h0 : 0 ≤ n) (h : n ≤ 4096) (r : List UInt8) : vpeek (vnum n ++ r) = (n, ((vnum n).length : Int), true) := by
  by_cases h1 : n < 128
  · rw [vnum_lo h0 h1]
    have := b8_val (n := n) (by omega)
    show vpeek (b8 n :: r) = _
    rw [vpeek_lo (by omega), this]
    rfl
  · rw [vnum_hi (by omega) (by omega)]
    have e1 := b8_val (n := 128 + (n - 128) / 256) (by omega)
    have e2 := b8_val (n := (n - 128) % 256) (by omega)
    show vpeek (b8 (128 + (n - 128) / 256) :: b8 ((n - 128) % 256) :: r) = _
    rw [vpeek_hi (by omega) (by omega), e1, e2]
    have : (128 + (n - 128) / 256 - 128) * 256 + (n - 128) % 256 + 128 = n := by omega
    rw [this]
    rfl
theorem rdN_num {n : Int} (h0 : 0 ≤ n) (h : n ≤ 4096) (r : List UInt8) : rdN (vnum n ++ r) 4096 = (n, r, 0) := by
  unfold rdN
  rw [vpeek_num h0 h]
  dsimp only
  rw [if_neg (by decide), if_neg (by omega), Int.toNat_natCast, List.drop_left]
end Go.Proofs.YtncnmfdmbfbfjaaGreat
end
section
set_option linter.unusedVariables false
set_option linter.unusedSimpArgs false
set_option maxRecDepth 4000
namespace Go.Proofs.YtncnmfdmbfbfjaaGreat
open Go.Gh Go.RowKit

theorem wst_in {n : Nat} {s : Ms × Enc} {t : Pc} (hok : EncOk n s.2) (hi : InB s.2) : Within s.2 (wst s t).2 ∧ InB (wst s t).2 := by
  unfold wst
  split
  · have h1 := tenc_ok (v := 0) (k := 1) (t := s.1.K) (j := 1) hok
    have g1 := tenc_in (v := 0) 1 (t := s.1.K) (j := 1) hok hi
    have g2 := benc_in (P := s.1.P) (c := s.1.c) (v := t.2.2) h1.1 g1.2
    exact ⟨g1.1.trans g2.1, g2.2⟩
  · have h1 := tenc_ok (v := 1) (k := 1) (t := s.1.K) (j := 1) hok
    have h2 := nenc_ok (t := s.1.L) h1.1 (t.1 - 2)
    have g1 := tenc_in (v := 1) 1 (t := s.1.K) (j := 1) hok hi
    have g2 := nenc_in (t := s.1.L) (v := t.1 - 2) h1.1 g1.2
    have g3 := nenc_in (t := s.1.D) (v := t.2.1 - 1) h2.1 g2.2
    exact ⟨(g1.1.trans g2.1).trans g3.1, g3.2⟩
theorem wrun_in (l : List Pc) : ∀ {n : Nat} {s : Ms × Enc}, MsOk s.1 → EncOk n s.2 → InB s.2 → (∀ t ∈ l, vPb t) → Within s.2 (wrun l s).2 ∧ InB (wrun l s).2 := by
  induction l with
  | nil => intro n s _ _ hi _; exact ⟨.refl _, hi⟩
  | cons t r ih =>
    intro n s hx hok hi ht
    have h1 := wst_ok hx hok (ht t (by simp))
    have g1 := wst_in (t := t) hok hi
    have g2 := ih h1.1 h1.2 g1.2 (fun u hu => ht u (by simp [hu]))
    rw [wrun_cons]
    exact ⟨g1.1.trans g2.1, g2.2⟩
theorem wst_read {D : List UInt8} {f : Enc} {n : Nat} {s : Ms × Enc} {d : Dec} {t : Pc} (hf : Beh D f) (sy : Syn D s.2 d) (hok : EncOk n s.2) (hi : InB s.2) (ht : vPb t) (w : Within (wst s t).2 f) :
    Syn D (wst s t).2 (zrd s.1 d).d ∧ (zrd s.1 d).x = (wst s t).1 ∧ (zrd s.1 d).t = t ∧ ((zrd s.1 d).lit = true ↔ t.2.1 = 0) ∧ (zrd s.1 d).d.full = d.full := by
  obtain ⟨hv, hy⟩ := ht
  obtain ⟨a, b, y⟩ := t
  dsimp only at hv hy
  unfold wst at w ⊢
  dsimp only at w ⊢
  by_cases h0 : b = 0
  · have ha : a = 1 := by rcases hv with g | g <;> (dsimp only at g; omega)
    subst h0 ha
    rw [if_pos rfl] at w ⊢
    dsimp only at w ⊢
    have h1 := tenc_ok (v := 0) (k := 1) (t := s.1.K) (j := 1) hok
    have g1 := tenc_in (v := 0) 1 (t := s.1.K) (j := 1) hok hi
    have g2 := benc_in (P := s.1.P) (c := s.1.c) (v := y) h1.1 g1.2
    obtain ⟨k1, k2, k3⟩ := tenc_read (v := 0) hf 1 (t := s.1.K) (j := 1) sy hok hi (g2.1.trans w)
    obtain ⟨m1, m2, m3⟩ := benc_read hf k1 h1.1 g1.2 (P := s.1.P) (c := s.1.c) (v := y) w
    have hj : (tdec 1 s.1.K d 1).2.2 = 2 := by
      have e : (2 : Int) ^ 1 * ((1 : Nat) : Int) + 0 % 2 ^ 1 = 2 := by decide
      rw [e] at k3; omega
    have hfu := tdec_full 1 (t := s.1.K) (d := d) (j := 1)
    have hfu2 := bdec_full (P := s.1.P) (c := s.1.c) (d := (tdec 1 s.1.K d 1).2.1)
    have hyy : y % 256 = y := by omega
    unfold zrd
    rw [if_pos hj]
    dsimp only
    rw [m2, m3, k2, hyy]
    exact ⟨m1, rfl, rfl, ⟨fun _ => rfl, fun _ => rfl⟩, hfu2.trans hfu⟩
  · have hg : 1 ≤ b ∧ b ≤ 4096 ∧ 2 ≤ a ∧ a ≤ 273 ∧ y = 0 := by rcases hv with g | g <;> (dsimp only at g; omega)
    rw [if_neg h0] at w ⊢
    dsimp only at w ⊢
    have h1 := tenc_ok (v := 1) (k := 1) (t := s.1.K) (j := 1) hok
    have h2 := nenc_ok (t := s.1.L) h1.1 (a - 2)
    have g1 := tenc_in (v := 1) 1 (t := s.1.K) (j := 1) hok hi
    have g2 := nenc_in (t := s.1.L) (v := a - 2) h1.1 g1.2
    have g3 := nenc_in (t := s.1.D) (v := b - 1) h2.1 g2.2
    obtain ⟨k1, k2, k3⟩ := tenc_read (v := 1) hf 1 (t := s.1.K) (j := 1) sy hok hi ((g2.1.trans g3.1).trans w)
    obtain ⟨m1, m2, m3⟩ := nenc_read hf k1 h1.1 g1.2 (t := s.1.L) (v := a - 2) (g3.1.trans w)
    obtain ⟨p1, p2, p3⟩ := nenc_read hf m1 h2.1 g2.2 (t := s.1.D) (v := b - 1) w
    have hj : ¬ (tdec 1 s.1.K d 1).2.2 = 2 := by
      have e : (2 : Int) ^ 1 * ((1 : Nat) : Int) + 1 % 2 ^ 1 = 3 := by decide
      rw [e] at k3; omega
    have hfu := tdec_full 1 (t := s.1.K) (d := d) (j := 1)
    have hfu2 := ndec_full (t := s.1.L) (d := (tdec 1 s.1.K d 1).2.1)
    have hfu3 := ndec_full (t := s.1.D) (d := (ndec s.1.L (tdec 1 s.1.K d 1).2.1).2.1)
    rw [show ncut (a - 2) = a - 2 from if_neg (by omega)] at m3
    rw [show ncut (b - 1) = b - 1 from if_neg (by omega)] at p3
    unfold zrd
    rw [if_neg hj]
    dsimp only
    rw [p2, p3, m2, m3, k2, Int.sub_add_cancel, Int.sub_add_cancel, hg.2.2.2.2]
    exact ⟨p1, rfl, rfl, ⟨fun g => (by cases g), fun g => absurd g h0⟩, (hfu3.trans hfu2).trans hfu⟩
/-- Pieces that make bytes of n bytes. -/
def Fit (n : Nat) : List UInt8 → List Pc → Prop
  | o, [] => o.length = n
  | o, t :: r => o.length < n ∧ (t.2.1 = 0 ∨ okC n o t) ∧ Fit n (estp o t) r
theorem rdP_read {D : List UInt8} {f : Enc} {n : Nat} (hf : Beh D f) (ps : List Pc) : ∀ {m k : Nat} {s : Ms × Enc} {d : Dec} {o : List UInt8}, MsOk s.1 → EncOk m s.2 → InB s.2 → Syn D s.2 d → Fit n o ps → (∀ t ∈ ps, vPb t) → Within (wrun ps s).2 f → n - o.length ≤ k →
    ∃ d', rdP n k s.1 d o = some (ps, d') ∧ Syn D (wrun ps s).2 d' ∧ d'.full = d.full := by
  induction ps with
  | nil => intro m k s d o _ _ _ sy hfit _ _ _; exact ⟨d, rdP_end (by have : o.length = n := hfit; omega), sy, rfl⟩
  | cons t r ih =>
    intro m k s d o hx hok hi sy hfit ht w hk
    obtain ⟨f1, f2, f3⟩ := hfit
    have h1 := wst_ok hx hok (ht t (by simp))
    have g1 := wst_in (t := t) hok hi
    have htr : ∀ u ∈ r, vPb u := fun u hu => ht u (by simp [hu])
    have g2 := wrun_in r h1.1 h1.2 g1.2 htr
    rw [wrun_cons] at w ⊢
    obtain ⟨q1, q2, q3, q4, q5⟩ := wst_read hf sy hok hi (ht t (by simp)) (g2.1.trans w)
    obtain ⟨k', rfl, e⟩ := rdP_go (x := s.1) (d := d) f1 hk
    have hlen : o.length + 1 ≤ (estp o t).length := by
      have hv := (ht t (by simp)).1
      have := estp_len (o := o) hv
      rcases hv with g | g <;> omega
    obtain ⟨d', e1, e2, e3⟩ := ih (k := k') (o := estp o t) h1.1 h1.2 g1.2 q1 f3 htr w (by omega)
    rw [e, q3, q2, e1, if_pos (f2.imp q4.2 id)]
    exact ⟨d', rfl, e2, e3.trans q5⟩
theorem cov_fit {l : List UInt8} {w : Int} (hw : w ≤ 4096) : ∀ {ps : List Pc} {i : Nat}, i ≤ l.length → Cov l w i ps → Fit l.length (l.take i) ps ∧ exps ps (l.take i) = l
  | [], i, _, h => by
    obtain rfl : i = l.length := h
    rw [List.take_length]; exact ⟨rfl, rfl⟩
  | t :: r, i, hi, h => by
    have hl : (l.take i).length = i := by rw [List.length_take]; omega
    have hf := h.1.fits hw
    have hest : estp (l.take i) t = l.take (i + t.1.toNat) ∧ (t.2.1 = 0 ∨ okC l.length (l.take i) t) := by
      rcases h.1 with ⟨hil, rfl⟩ | ⟨n, d, rfl, h1, h2, h3, h4, h5, h6, h7⟩
      · refine ⟨?_, .inl (litP_at l i)⟩
        unfold estp
        rw [if_pos (litP_at l i)]
        show l.take i ++ [byt (bat l i)] = l.take (i + 1)
        rw [byt_bat hil, List.take_append_getElem hil]
      · refine ⟨?_, .inr (by unfold okC; rw [hl]; dsimp only; omega)⟩
        unfold estp
        rw [if_neg (by show ¬ (d : Int) = 0; omega)]
        show copyN (d : Int).toNat (n : Int).toNat _ = l.take (i + (n : Int).toNat)
        rw [Int.toNat_natCast, Int.toNat_natCast]
        exact copyN_take h3 n i h5 h6 h7
    have hn := cov_fit hw (ps := r) (i := i + t.1.toNat) (by omega) h.2
    refine ⟨⟨by rw [hl]; omega, hest.2, by rw [hest.1]; exact hn.1⟩, ?_⟩
    show exps r (estp (l.take i) t) = l
    rw [hest.1]; exact hn.2
theorem rstp_miss {x : Ms} {d : Dec} (h : (zrd x d).d.missing = false) : d.missing = false := by
  unfold zrd at h
  split at h
  · exact tdec_miss 1 (bdec_miss h)
  · exact tdec_miss 1 (ndec_miss (ndec_miss h).1).1
theorem rstp_ext {x : Ms} {d : Dec} {c : UInt8} (h : (zrd x d).d.missing = false) : zrd x (ext d c) = ⟨(zrd x d).x, ext (zrd x d).d c, (zrd x d).lit, (zrd x d).t⟩ := by
  unfold zrd at h ⊢
  by_cases hj : (tdec 1 x.K d 1).2.2 = 2
  · rw [if_pos hj] at h ⊢
    have h1 := tdec_ext (c := c) 1 (t := x.K) (j := 1) (bdec_miss h)
    have h2 := bdec_ext (x := c) h
    rw [h1]
    dsimp only
    rw [if_pos hj, h2]
  · rw [if_neg hj] at h ⊢
    have h1 := tdec_ext (c := c) 1 (t := x.K) (j := 1) (ndec_miss (ndec_miss h).1).1
    have h2 := ndec_ext (x := c) (ndec_miss h).1
    have h3 := ndec_ext (x := c) h
    rw [h1]
    dsimp only
    rw [if_neg hj, h2]
    dsimp only
    rw [h3]
theorem rdP_miss {n : Nat} : ∀ {f : Nat} {x : Ms} {d : Dec} {o : List UInt8} {r : List Pc × Dec}, rdP n f x d o = some r → r.2.missing = false → d.missing = false
  | 0, x, d, o, r, h, hm => by obtain rfl := Option.some.inj h; exact hm
  | f + 1, x, d, o, r, h, hm => by
    by_cases hlt : o.length < n
    · rw [show rdP n (f + 1) x d o = _ from if_pos hlt] at h
      split at h
      · obtain ⟨r', e1, rfl⟩ := Option.map_eq_some_iff.1 h
        exact rstp_miss (rdP_miss e1 hm)
      · cases h
    · rw [rdP_end hlt] at h
      obtain rfl := Option.some.inj h; exact hm
theorem rdP_ext {n : Nat} {c : UInt8} : ∀ {f : Nat} {x : Ms} {d : Dec} {o : List UInt8} {r : List Pc × Dec}, rdP n f x d o = some r → r.2.missing = false → rdP n f x (ext d c) o = some (r.1, ext r.2 c)
  | 0, x, d, o, r, h, hm => by obtain rfl := Option.some.inj h; rfl
  | f + 1, x, d, o, r, h, hm => by
    by_cases hlt : o.length < n
    · rw [show rdP n (f + 1) x d o = _ from if_pos hlt] at h
      rw [show rdP n (f + 1) x (ext d c) o = _ from if_pos hlt]
      split at h
      · rename_i hg
        obtain ⟨r', e1, rfl⟩ := Option.map_eq_some_iff.1 h
        have hm1 := rdP_miss e1 hm
        rw [rstp_ext hm1]
        dsimp only
        rw [if_pos hg, rdP_ext e1 hm]
        rfl
      · cases h
    · rw [rdP_end hlt] at h ⊢
      obtain rfl := Option.some.inj h; rfl
/-- What is written as pieces is read. -/
theorem lzR_wrt {l : List UInt8} {w : Int} {ps : List Pc} (hw : w ≤ 4096) (hc : Cov l w 0 ps) : ∃ d', rdP l.length l.length ms0 (dnew (fin (wrun ps zs0).2)) [] = some (ps, d') ∧ dend d' = 0 ∧ (∀ c, rdP l.length l.length ms0 (dnew (fin (wrun ps zs0).2 ++ [c])) [] = some (ps, ext d' c)) ∧ exps ps [] = l := by
  have hv := cov_vPb hw hc
  have h1 := wrun_ok (s := zs0) ms0_ok encZ_ok hv
  have h2 := wrun_in ps (s := zs0) ms0_ok encZ_ok e00_InB hv
  have hfit := cov_fit hw (Nat.zero_le _) hc
  rw [List.take_zero] at hfit
  obtain ⟨d', e1, e2, e3⟩ := rdP_read (n := l.length) (Beh.fin h1.2) ps (k := l.length) (s := zs0) (o := []) ms0_ok encZ_ok e00_InB (start_syn h1.2 h2.1) hfit.1 hv (.refl _) (Nat.sub_le _ _)
  have hend := inv_end h1.2.low e2 (e3.trans (start_full h1.2 h2.1))
  obtain ⟨k1, _⟩ := dend_zero hend
  refine ⟨d', e1, hend, fun c => ?_, hfit.2⟩
  rw [dnew_ext (by rw [fin_len]; omega)]
  exact rdP_ext e1 k1
end Go.Proofs.YtncnmfdmbfbfjaaGreat
end
section
set_option linter.unusedVariables false
set_option linter.unusedSimpArgs false
set_option maxRecDepth 4000
namespace Go.Proofs.YtncnmfdmbfbfjaaGreat
open Go.Gh Go.RowKit

theorem lzE_ne {l : List UInt8} (hl : l.length ≤ 4096) (h0 : l ≠ []) : lzE l = (wrt l.length (pcs l), 0) := by unfold lzE; rw [if_neg (by omega), if_neg h0]
/-- A text that is written as some pieces. -/
theorem lzD_wrt {l : List UInt8} {w : Int} {ps : List Pc} (hl : l.length ≤ 4096) (hw : w ≤ 4096) (hc : Cov l w 0 ps) (most : Int) :
    lzD (wrt l.length ps) most = (if most < l.length then ([], 2) else if lzE l = (wrt l.length ps, 0) then (l, 0) else ([], 12)) ∧
    ∀ c, lzD (wrt l.length ps ++ [c]) most = (if most < l.length then ([], 2) else if lzE l = (wrt l.length ps ++ [c], 0) then (l, 0) else ([], 12)) := by
  obtain ⟨d', e1, e2, e3, e4⟩ := lzR_wrt hw hc
  have k1 : lzR (fin (wrun ps zs0).2) l.length = (l, true) := by unfold lzR; rw [e1]; dsimp only; rw [e4]
  have k2 : ∀ c, lzR (fin (wrun ps zs0).2 ++ [c]) l.length = (l, true) := fun c => by unfold lzR; rw [e3 c]; dsimp only; rw [e4]
  have key : ∀ (R : List UInt8), lzR R l.length = (l, true) → lzD (vnum l.length ++ R) most = (if most < l.length then ([], 2) else if lzE l = (vnum l.length ++ R, 0) then (l, 0) else ([], 12)) := fun R hR => by
    unfold lzD
    rw [rdN_num (by omega) (by omega)]
    dsimp only
    rw [Int.toNat_natCast, hR]
    dsimp only
    rw [if_neg (by decide)]
    by_cases h : most < (l.length : Int)
    · rw [if_pos h, if_pos h]
    · rw [if_neg h, if_neg h, if_neg (by decide)]
  refine ⟨key _ k1, fun c => ?_⟩
  unfold wrt
  rw [List.append_assoc]
  exact key _ (k2 c)
end Go.Proofs.YtncnmfdmbfbfjaaGreat
end
section
set_option linter.unusedVariables false
set_option linter.unusedSimpArgs false
set_option maxRecDepth 4000
namespace Go.Proofs.YtncnmfdmbfbfjaaGreat
open Go.Gh Go.RowKit

/-- The content of a frame with a body. -/
def bdy (d b : List UInt8) : Option (List UInt8) := if 16 ≤ bat d 1 then (if (lzD b 4096).2 = 0 then some (lzD b 4096).1 else none) else some b
/-- The frame at the front: kind, content, size, whether it is compressed. -/
def prs (d : List UInt8) : Option (Int × List UInt8 × Nat × Bool) :=
  if d.length < 2 ∨ bat d 0 ≠ 165 ∨ 32 ≤ bat d 1 then none else
  match txt (d.drop 2) with
  | none => none
  | some (b, r) => if r.length < 4 then none else if (opn (d.take (d.length - (r.length - 4)))).2 ≠ 0 then none else
    match bdy d b with
    | none => none
    | some c => if wrp (bat d 1 % 16) c = (d.take (d.length - (r.length - 4)), 0) then some (bat d 1 % 16, c, d.length - (r.length - 4), decide (16 ≤ bat d 1)) else none
def prV : Option (Int × List UInt8 × Nat × Bool) → Value
  | none => .tuple ⟨[frV 0 [], I 0, B false, B false]⟩
  | some (k, c, n, s) => .tuple ⟨[frV k c, I n, B s, B true]⟩
theorem txt_len {l b r : List UInt8} (h : txt l = some (b, r)) : b.length ≤ 4096 ∧ r.length ≤ l.length := by
  obtain ⟨k1, k2⟩ := rdN_ok l 4096
  unfold txt at h
  split at h
  · rename_i g
    have := k2 g.1
    obtain ⟨rfl, rfl⟩ := Prod.mk.inj (Option.some.inj h)
    rw [List.length_take, List.length_drop]
    exact ⟨by omega, by omega⟩
  · cases h
theorem lzD_le {b : List UInt8} (hb : b.length ≤ 1000000) (m : Int) : (lzD b m).1.length ≤ 4096 := by
  have h1 := rdN_ok b 4096
  unfold lzD
  split
  · exact Nat.zero_le _
  · rename_i g0
    have h2 := h1.2 (Classical.byContradiction g0)
    split
    · exact Nat.zero_le _
    · split
      · exact Nat.zero_le _
      · rename_i g
        split
        · have := lzR_len (l := (rdN b 4096).2.1) (n := (rdN b 4096).1.toNat) (by omega) (by simpa using g)
          show (lzR _ _).1.length ≤ 4096
          omega
        · exact Nat.zero_le _
theorem none_any (h : SH) : SRun Tryz.prog 77 [] h fun r q => r = prV none ∧ q = h := by
  refine w_body0 Tryz.func77 rfl rfl ?_
  repeat' (first | apply w_seq | apply w_region | apply o_nil | (apply o_g tyOk; exact rfl; exact rfl) | (apply o_stores tyOk; (iterate 4 exact rfl); (focus (exact ⟨rfl⟩)); (focus (exact up))) | (apply o_alloc tyOk; iterate 5 exact rfl) | (apply o_build tyOk; exact rfl; exact rfl; (focus (first | with_reducible exact pl38)); exact rfl; (focus (repeat (first | exact BuildR.nil))); exact rfl) | apply thenS_normal | apply w_ret | ((with_reducible apply Sd.mk); (first | exact True.intro)) | ((with_reducible apply Ln.mk); (first | rfl)) | ((with_reducible apply Pu.mk); (first | exact putAt_all rfl)) | exact True.intro | intro A)
  (apply s_fin; (exact (show ResS _ _ _ _ [_, _, _, _] from (res_cell tyOk rfl rfl rfl (by exact pk) (by first | rfl | exact ‹_› | omega | (simp ; first | done | omega)) (by first | rfl | exact ‹_› | omega | (simp ; first | done | omega)) ⟨rfl, ⟨rfl, ⟨rfl, trivial⟩⟩⟩))); (focus (exact ⟨rfl, rfl⟩)); (focus (repeat (first | with_reducible exact Take.nil | with_reducible apply Take.c | with_reducible apply Take.drop))))
set_option maxHeartbeats 4000000 in
theorem parse_any (d : List UInt8) (h : SH) (hl : d.length ≤ 1000000) : SRun Tryz.prog 59 [S d] h fun r q => r = prV (prs d) ∧ q = h := by
  obtain ⟨R, hR⟩ : ∃ R, prs d = R := ⟨_, rfl⟩
  rw [hR]
  unfold prs at hR
  have hn : ∀ h, SRun Tryz.prog 77 [] h fun r q => r = .tuple ⟨[frV 0 [], I 0, B false, B false]⟩ ∧ q = h := none_any
  have hb0 := bat_255 d 0
  have hb1 := bat_255 d 1
  by_cases h1 : d.length < 2 ∨ bat d 0 ≠ 165 ∨ 32 ≤ bat d 1
  · rw [if_pos h1] at hR
    subst hR
    by_cases g1 : d.length < 2
    · refine w_body1 Tryz.func59 rfl rfl ?_
      repeat' (first | apply w_seq | apply w_region | apply o_nil | (apply o_g tyOk; exact rfl; exact rfl) | (apply o_stores tyOk; (iterate 4 exact rfl); (focus (exact ⟨rfl⟩)); (focus (exact up))) | (apply o_alloc tyOk; iterate 5 exact rfl) | (apply o_call; exact rfl; exact rfl; (focus (first | exact rfl)); exact rfl; (focus (exact ⟨_, hn _, by repeat (first | with_reducible exact Take.nil)⟩)); rintro _ _ ⟨rfl, rfl⟩) | (apply o_skip; iterate 4 exact rfl) | (apply o_sT; (iterate 3 exact rfl); (focus (first | omega)); exact rfl) | (apply w_true; exact rfl) | apply thenS_normal | apply thenS_ret | apply w_ret | ((with_reducible apply Sd.mk); (first | exact True.intro)) | ((with_reducible apply Ln.mk); (first | rfl)) | ((with_reducible apply Pu.mk); (first | exact putAt_all rfl)) | exact True.intro | intro A)
      all_goals first
        | (exfalso; omega)
        | (apply s_fin; (exact (show ResS _ _ _ _ [_, _, _, _] from (res_cell tyOk rfl rfl rfl (by exact pk) (by first | rfl | exact ‹_› | omega | (simp ; first | done | omega)) (by first | rfl | exact ‹_› | omega | (simp ; first | done | omega)) ⟨rfl, ⟨rfl, ⟨rfl, trivial⟩⟩⟩))); (focus (exact ⟨rfl, rfl⟩)); (focus (repeat (first | with_reducible exact Take.nil | with_reducible apply Take.c | with_reducible apply Take.drop))))
        | trace_state
    by_cases g2 : bat d 0 = 165
    · refine w_body1 Tryz.func59 rfl rfl ?_
      repeat' (first | apply w_seq | apply w_region | apply o_nil | (apply o_g tyOk; exact rfl; exact rfl) | (apply o_stores tyOk; (iterate 4 exact rfl); (focus (exact ⟨rfl⟩)); (focus (exact up))) | (apply o_alloc tyOk; iterate 5 exact rfl) | (apply o_call; exact rfl; exact rfl; (focus (first | exact rfl)); exact rfl; (focus (exact ⟨_, hn _, by repeat (first | with_reducible exact Take.nil)⟩)); rintro _ _ ⟨rfl, rfl⟩) | (apply o_want; exact rfl; exact rfl) | (apply o_gF; (iterate 3 exact rfl); (focus (first | omega))) | (apply w_dT; exact rfl; (focus (first | omega))) | apply thenS_normal | apply thenS_ret | apply w_ret | ((with_reducible apply Sd.mk); (first | exact True.intro | omega)) | ((with_reducible apply Ln.mk); (first | rfl)) | ((with_reducible apply Pu.mk); (first | exact putAt_all rfl)) | exact True.intro | intro A)
      all_goals first
        | (exfalso; omega)
        | (apply s_fin; (exact (show ResS _ _ _ _ [_, _, _, _] from (res_cell tyOk rfl rfl rfl (by exact pk) (by first | rfl | exact ‹_› | omega | (simp ; first | done | omega)) (by first | rfl | exact ‹_› | omega | (simp ; first | done | omega)) ⟨rfl, ⟨rfl, ⟨rfl, trivial⟩⟩⟩))); (focus (exact ⟨rfl, rfl⟩)); (focus (repeat (first | with_reducible exact Take.nil | with_reducible apply Take.c | with_reducible apply Take.drop))))
        | trace_state
    · refine w_body1 Tryz.func59 rfl rfl ?_
      repeat' (first | apply w_seq | apply w_region | apply o_nil | (apply o_g tyOk; exact rfl; exact rfl) | (apply o_stores tyOk; (iterate 4 exact rfl); (focus (exact ⟨rfl⟩)); (focus (exact up))) | (apply o_alloc tyOk; iterate 5 exact rfl) | (apply o_call; exact rfl; exact rfl; (focus (first | exact rfl)); exact rfl; (focus (exact ⟨_, hn _, by repeat (first | with_reducible exact Take.nil)⟩)); rintro _ _ ⟨rfl, rfl⟩) | (apply o_want; exact rfl; exact rfl) | (apply o_skip; iterate 4 exact rfl) | (apply o_gF; (iterate 3 exact rfl); (focus (first | omega))) | (apply o_sT; (iterate 3 exact rfl); (focus (first | omega)); exact rfl) | (apply w_true; exact rfl) | apply thenS_normal | apply thenS_ret | apply w_ret | ((with_reducible apply Sd.mk); (first | exact True.intro | omega)) | ((with_reducible apply Ln.mk); (first | rfl)) | ((with_reducible apply Pu.mk); (first | exact putAt_all rfl)) | exact True.intro | intro A)
      all_goals first
        | (exfalso; omega)
        | (apply s_fin; (exact (show ResS _ _ _ _ [_, _, _, _] from (res_cell tyOk rfl rfl rfl (by exact pk) (by first | rfl | exact ‹_› | omega | (simp ; first | done | omega)) (by first | rfl | exact ‹_› | omega | (simp ; first | done | omega)) ⟨rfl, ⟨rfl, ⟨rfl, trivial⟩⟩⟩))); (focus (exact ⟨rfl, rfl⟩)); (focus (repeat (first | with_reducible exact Take.nil | with_reducible apply Take.c | with_reducible apply Take.drop))))
        | trace_state
  rw [if_neg h1] at hR
  have hd2 : (d.drop 2).length ≤ 1000000 := by rw [List.length_drop]; omega
  have hX := fun n h => rText_any n (d.drop 2) h hd2
  have hK := fun n l e h hl => rTakeG_any n l e 4 h hl
  obtain ⟨T, hT⟩ : ∃ T, txt (d.drop 2) = T := ⟨_, rfl⟩
  have htl := fun b r (g : txt (d.drop 2) = some (b, r)) => txt_len g
  unfold txtR at hX
  rw [hT] at hR hX htl
  cases T with
  | none =>
    dsimp only at hR hX
    subst hR
    have hK2 : ∀ n e h, e ≠ 0 → SRun Tryz.prog 79 [gptr n 0 2, I 4] (rdB n (d.drop 2) e :: h) fun r q => r = S [] ∧ q = rdB n (d.drop 2) e :: h := fun n e h he => by
      have := hK n (d.drop 2) e h hd2
      rw [show tkR (d.drop 2) e 4 = ([], d.drop 2, e) from if_pos he] at this
      exact this
    refine w_body1 Tryz.func59 rfl rfl ?_
    repeat' (first | apply w_seq | apply w_region | apply o_nil | (apply o_g tyOk; exact rfl; exact rfl) | (apply o_stores tyOk; (iterate 4 exact rfl); (focus (exact ⟨rfl⟩)); (focus (exact up))) | (apply o_alloc tyOk; iterate 5 exact rfl) | (apply o_call; exact rfl; exact rfl; (focus (first | exact rfl)); exact rfl; (focus (exact ⟨_, hn _, by repeat (first | with_reducible exact Take.nil)⟩)); rintro _ _ ⟨rfl, rfl⟩) | (apply o_call; exact rfl; exact rfl; (focus (first | exact rfl)); exact rfl; (focus (exact ⟨_, NewReader_any _ _, by repeat (first | with_reducible exact Take.nil)⟩)); rintro _ _ ⟨n, rfl, rfl⟩) | (apply o_call; exact rfl; exact rfl; (focus (first | exact rfl)); exact rfl; (focus (exact ⟨_, hX _ _, by repeat (first | with_reducible exact Take.nil | with_reducible apply Take.c)⟩)); rintro _ _ ⟨e, he, rfl, rfl⟩) | (apply o_call; exact rfl; exact rfl; (focus (first | exact rfl)); exact rfl; (focus (exact ⟨_, hK2 _ _ _ he, by repeat (first | with_reducible exact Take.nil)⟩)); rintro _ _ ⟨rfl, rfl⟩) | (apply o_call; exact rfl; exact rfl; (focus (first | exact rfl)); exact rfl; (focus (exact ⟨_, rErr_any _ _ _ _, by repeat (first | with_reducible exact Take.nil)⟩)); rintro _ _ ⟨rfl, rfl⟩) | (apply o_want; exact rfl; exact rfl) | (apply o_gF; (iterate 3 exact rfl); (focus (first | omega))) | (apply w_dT; exact rfl; (focus (first | exact ‹_›))) | (apply w_dF; exact rfl; (focus (first | omega))) | apply thenS_normal | apply thenS_ret | apply w_skip | apply w_ret | ((with_reducible apply Sd.mk); (first | exact True.intro | omega)) | ((with_reducible apply Ln.mk); (first | rfl)) | ((with_reducible apply Pu.mk); (first | exact putAt_all rfl)) | exact True.intro | intro A)
    all_goals first
      | (exfalso; omega)
      | contradiction
      | (apply s_fin; (exact (show ResS _ _ _ _ [_, _, _, _] from (res_cell tyOk rfl rfl rfl (by exact pk) (by first | rfl | exact ‹_› | omega | (simp ; first | done | omega)) (by first | rfl | exact ‹_› | omega | (simp ; first | done | omega)) ⟨rfl, ⟨rfl, ⟨rfl, trivial⟩⟩⟩))); (focus (exact ⟨rfl, rfl⟩)); (focus (repeat (first | with_reducible exact Take.nil | with_reducible apply Take.c | with_reducible apply Take.drop))))
      | trace_state
  | some T =>
    obtain ⟨b, r⟩ := T
    dsimp only at hR hX
    obtain ⟨hbl, hrl⟩ := htl b r rfl
    rw [List.length_drop] at hrl
    by_cases h4 : r.length < 4
    · rw [if_pos h4] at hR
      subst hR
      have hK2 : ∀ n h, SRun Tryz.prog 79 [gptr n 0 2, I 4] (rdB n r 0 :: h) fun r' q => r' = S [] ∧ q = rdB n r 12 :: h := fun n h => by
        have := hK n r 0 h (by omega)
        rw [show tkR r 0 4 = ([], r, 12) by unfold tkR; rw [if_neg (fun k => k rfl), if_neg (by omega), if_pos (by omega)]] at this
        exact this
      refine w_body1 Tryz.func59 rfl rfl ?_
      repeat' (first | apply w_seq | apply w_region | apply o_nil | (apply o_g tyOk; exact rfl; exact rfl) | (apply o_stores tyOk; (iterate 4 exact rfl); (focus (exact ⟨rfl⟩)); (focus (exact up))) | (apply o_alloc tyOk; iterate 5 exact rfl) | (apply o_call; exact rfl; exact rfl; (focus (first | exact rfl)); exact rfl; (focus (exact ⟨_, hn _, by repeat (first | with_reducible exact Take.nil)⟩)); rintro _ _ ⟨rfl, rfl⟩) | (apply o_call; exact rfl; exact rfl; (focus (first | exact rfl)); exact rfl; (focus (exact ⟨_, NewReader_any _ _, by repeat (first | with_reducible exact Take.nil)⟩)); rintro _ _ ⟨n, rfl, rfl⟩) | (apply o_call; exact rfl; exact rfl; (focus (first | exact rfl)); exact rfl; (focus (exact ⟨_, hX _ _, by repeat (first | with_reducible exact Take.nil | with_reducible apply Take.c)⟩)); rintro _ _ ⟨rfl, rfl⟩) | (apply o_call; exact rfl; exact rfl; (focus (first | exact rfl)); exact rfl; (focus (exact ⟨_, hK2 _ _, by repeat (first | with_reducible exact Take.nil)⟩)); rintro _ _ ⟨rfl, rfl⟩) | (apply o_call; exact rfl; exact rfl; (focus (first | exact rfl)); exact rfl; (focus (exact ⟨_, rErr_any _ _ _ _, by repeat (first | with_reducible exact Take.nil)⟩)); rintro _ _ ⟨rfl, rfl⟩) | (apply o_want; exact rfl; exact rfl) | (apply o_gF; (iterate 3 exact rfl); (focus (first | omega))) | (apply w_true; exact rfl) | (apply w_dF; exact rfl; (focus (first | omega))) | apply thenS_normal | apply thenS_ret | apply w_skip | apply w_ret | ((with_reducible apply Sd.mk); (first | exact True.intro | omega)) | ((with_reducible apply Ln.mk); (first | rfl)) | ((with_reducible apply Pu.mk); (first | exact putAt_all rfl)) | exact True.intro | intro A)
      all_goals first
        | (exfalso; omega)
        | contradiction
        | (apply s_fin; (exact (show ResS _ _ _ _ [_, _, _, _] from (res_cell tyOk rfl rfl rfl (by exact pk) (by first | rfl | exact ‹_› | omega | (simp ; first | done | omega)) (by first | rfl | exact ‹_› | omega | (simp ; first | done | omega)) ⟨rfl, ⟨rfl, ⟨rfl, trivial⟩⟩⟩))); (focus (exact ⟨rfl, rfl⟩)); (focus (repeat (first | with_reducible exact Take.nil | with_reducible apply Take.c | with_reducible apply Take.drop))))
        | trace_state
    rw [if_neg h4] at hR
    have hK2 : ∀ n h, SRun Tryz.prog 79 [gptr n 0 2, I 4] (rdB n r 0 :: h) fun r' q => r' = S (r.take 4) ∧ q = rdB n (r.drop 4) 0 :: h := fun n h => by
      have := hK n r 0 h (by omega)
      rw [show tkR r 0 4 = (r.take 4, r.drop 4, 0) by unfold tkR; rw [if_neg (fun k => k rfl), if_neg (by omega), if_neg (by omega)]; rfl] at this
      exact this
    have hr4 : (r.drop 4).length = r.length - 4 := List.length_drop ..
    have hN : ((d.length : Int) - ((r.drop 4).length : Int)).toNat = d.length - (r.length - 4) := by omega
    have hNi : (d.length : Int) - ((r.drop 4).length : Int) = ((d.length - (r.length - 4) : Nat) : Int) := by omega
    rw [← hN] at hR
    have hO := fun h => Open_any (d.take ((d.length : Int) - ((r.drop 4).length : Int)).toNat) h (by rw [List.length_take]; omega)
    generalize opn (d.take ((d.length : Int) - ((r.drop 4).length : Int)).toNat) = O at *
    obtain ⟨o1, o2⟩ := O
    dsimp only at hR hO
    by_cases ho : o2 = 0
    · subst ho
      rw [if_neg (fun k => k rfl)] at hR
      have hr16 : (bat d 1).tmod 16 = bat d 1 % 16 := Int.tmod_eq_emod_of_nonneg hb1.1
      unfold bdy at hR
      by_cases hs : 16 ≤ bat d 1
      · rw [if_pos hs] at hR
        have hD := fun h => Decode_any' b 4096 h (by omega)
        have hle := lzD_le (b := b) (by omega) 4096
        obtain ⟨⟨c, e⟩, hc⟩ : ∃ V, lzD b 4096 = V := ⟨_, rfl⟩
        rw [hc] at hR hD hle
        dsimp only at hR hD hle
        by_cases he : e = 0
        · subst he
          rw [if_pos rfl] at hR
          dsimp only at hR
          have hW := fun h => Wrap_any (bat d 1 % 16) c h (by omega)
          obtain ⟨⟨w, e⟩, hw⟩ : ∃ V, wrp (bat d 1 % 16) c = V := ⟨_, rfl⟩
          rw [hw] at hR hW
          dsimp only at hW
          by_cases hq : e = 0 ∧ w = d.take ((d.length : Int) - ((r.drop 4).length : Int)).toNat
          · obtain ⟨rfl, hq⟩ := hq
            rw [if_pos (by rw [hq]), hN, decide_eq_true hs] at hR
            subst hR
            clear hw
            subst hq
            refine w_body1 Tryz.func59 rfl rfl ?_
            repeat' (first | apply w_seq | apply w_region | apply o_nil | (apply o_g tyOk; exact rfl; exact rfl) | (apply o_ar tyOk; exact rfl; exact rfl) | (apply o_ex; exact rfl; exact rfl) | (apply o_loads tyOk; (iterate 3 exact rfl); (focus (exact pk))) | (apply o_store tyOk; (iterate 4 exact rfl); (focus (exact up))) | (apply o_stores tyOk; (iterate 4 exact rfl); (focus (exact ⟨rfl⟩)); (focus (exact up))) | (apply o_alloc tyOk; iterate 5 exact rfl) | (apply o_build tyOk; exact rfl; exact rfl; (focus (first | with_reducible exact pl38)); exact rfl; (focus (repeat (first | exact BuildR.nil | (apply BuildR.one; exact rfl; exact rfl; (first | (focus ((repeat (first | exact SetAt.zero | apply SetAt.succ)); done))))))); exact rfl) | (apply o_call; exact rfl; exact rfl; (focus (first | exact rfl)); exact rfl; (focus (exact ⟨_, hn _, by repeat (first | with_reducible exact Take.nil)⟩)); rintro _ _ ⟨rfl, rfl⟩) | (apply o_call; exact rfl; exact rfl; (focus (first | exact rfl)); exact rfl; (focus (exact ⟨_, NewReader_any _ _, by repeat (first | with_reducible exact Take.nil)⟩)); rintro _ _ ⟨n, rfl, rfl⟩) | (apply o_call; exact rfl; exact rfl; (focus (first | exact rfl)); exact rfl; (focus (exact ⟨_, hX _ _, by repeat (first | with_reducible exact Take.nil | with_reducible apply Take.c)⟩)); rintro _ _ ⟨rfl, rfl⟩) | (apply o_call; exact rfl; exact rfl; (focus (first | exact rfl)); exact rfl; (focus (exact ⟨_, hK2 _ _, by repeat (first | with_reducible exact Take.nil)⟩)); rintro _ _ ⟨rfl, rfl⟩) | (apply o_call; exact rfl; exact rfl; (focus (first | exact rfl)); exact rfl; (focus (exact ⟨_, rErr_any _ _ _ _, by repeat (first | with_reducible exact Take.nil)⟩)); rintro _ _ ⟨rfl, rfl⟩) | (apply o_call; exact rfl; exact rfl; (focus (first | exact rfl)); exact rfl; (focus (exact ⟨_, rLeft_any _ _ _ _, by repeat (first | with_reducible exact Take.nil)⟩)); rintro _ _ ⟨rfl, rfl⟩) | (apply o_call; exact rfl; exact rfl; (focus (first | exact rfl)); exact rfl; (focus (exact ⟨_, hO _, by repeat (first | with_reducible exact Take.nil)⟩)); rintro _ _ ⟨rfl, rfl⟩) | (apply o_call; exact rfl; exact rfl; (focus (first | exact rfl)); exact rfl; (focus (exact ⟨_, hD _, by repeat (first | with_reducible exact Take.nil)⟩)); rintro _ _ ⟨rfl, rfl⟩) | (apply o_call; exact rfl; exact rfl; (focus (first | exact rfl)); exact rfl; (focus (exact ⟨_, hW _, by repeat (first | with_reducible exact Take.nil)⟩)); rintro _ _ ⟨rfl, rfl⟩) | (apply o_want; exact rfl; exact rfl) | (apply o_gF; (iterate 3 exact rfl); (focus (first | omega))) | (apply w_false; exact rfl) | (apply w_dT; exact rfl; (focus (first | omega))) | (apply w_dF; exact rfl; (focus (first | omega))) | (apply w_ifN; exact rfl; all_goals intro hc) | apply thenS_normal | apply thenS_ret | apply w_skip | apply w_ret | ((with_reducible apply Sd.mk); (first | exact True.intro | omega)) | ((with_reducible apply Ln.mk); (first | rfl)) | ((with_reducible apply Wr.mk); (first | exact IntWalk.i64_in _ (by omega))) | ((with_reducible apply Ex.mk); (first | exact Int.tmod_eq_emod_of_nonneg (by omega))) | ((with_reducible apply Se.mk); (first | (focus ((repeat (first | exact SetAt.zero | apply SetAt.succ)); done)))) | ((with_reducible apply Pu.mk); (first | exact putAt_all rfl)) | ((with_reducible apply Su.mk); (first | exact subAt_all)) | exact True.intro | intro A | exact rfl)
            all_goals first
              | (exfalso; omega)
              | contradiction
              | (apply s_fin; (exact (show ResS _ _ _ _ [_, _, _, _] from (res_cell tyOk rfl rfl rfl (by exact pk) (by first | rfl | exact ‹_› | omega | (simp ; first | done | omega)) (by first | rfl | exact ‹_› | omega | (simp ; first | done | omega)) ⟨rfl, ⟨rfl, ⟨rfl, trivial⟩⟩⟩))); (focus (exact ⟨by rw [hNi, decide_eq_true hs]; rfl, rfl⟩)); (focus (repeat (first | with_reducible exact Take.nil | with_reducible apply Take.c | with_reducible apply Take.drop))))
              | trace_state
          · rw [if_neg (fun k => hq ⟨congrArg Prod.snd k, congrArg Prod.fst k⟩)] at hR
            subst hR
            refine w_body1 Tryz.func59 rfl rfl ?_
            repeat' (first | apply w_seq | apply w_region | apply o_nil | (apply o_g tyOk; exact rfl; exact rfl) | (apply o_ar tyOk; exact rfl; exact rfl) | (apply o_ex; exact rfl; exact rfl) | (apply o_loads tyOk; (iterate 3 exact rfl); (focus (exact pk))) | (apply o_store tyOk; (iterate 4 exact rfl); (focus (exact up))) | (apply o_stores tyOk; (iterate 4 exact rfl); (focus (exact ⟨rfl⟩)); (focus (exact up))) | (apply o_alloc tyOk; iterate 5 exact rfl) | (apply o_build tyOk; exact rfl; exact rfl; (focus (first | with_reducible exact pl38)); exact rfl; (focus (repeat (first | exact BuildR.nil | (apply BuildR.one; exact rfl; exact rfl; (first | (focus ((repeat (first | exact SetAt.zero | apply SetAt.succ)); done))))))); exact rfl) | (apply o_call; exact rfl; exact rfl; (focus (first | exact rfl)); exact rfl; (focus (exact ⟨_, hn _, by repeat (first | with_reducible exact Take.nil)⟩)); rintro _ _ ⟨rfl, rfl⟩) | (apply o_call; exact rfl; exact rfl; (focus (first | exact rfl)); exact rfl; (focus (exact ⟨_, NewReader_any _ _, by repeat (first | with_reducible exact Take.nil)⟩)); rintro _ _ ⟨n, rfl, rfl⟩) | (apply o_call; exact rfl; exact rfl; (focus (first | exact rfl)); exact rfl; (focus (exact ⟨_, hX _ _, by repeat (first | with_reducible exact Take.nil | with_reducible apply Take.c)⟩)); rintro _ _ ⟨rfl, rfl⟩) | (apply o_call; exact rfl; exact rfl; (focus (first | exact rfl)); exact rfl; (focus (exact ⟨_, hK2 _ _, by repeat (first | with_reducible exact Take.nil)⟩)); rintro _ _ ⟨rfl, rfl⟩) | (apply o_call; exact rfl; exact rfl; (focus (first | exact rfl)); exact rfl; (focus (exact ⟨_, rErr_any _ _ _ _, by repeat (first | with_reducible exact Take.nil)⟩)); rintro _ _ ⟨rfl, rfl⟩) | (apply o_call; exact rfl; exact rfl; (focus (first | exact rfl)); exact rfl; (focus (exact ⟨_, rLeft_any _ _ _ _, by repeat (first | with_reducible exact Take.nil)⟩)); rintro _ _ ⟨rfl, rfl⟩) | (apply o_call; exact rfl; exact rfl; (focus (first | exact rfl)); exact rfl; (focus (exact ⟨_, hO _, by repeat (first | with_reducible exact Take.nil)⟩)); rintro _ _ ⟨rfl, rfl⟩) | (apply o_call; exact rfl; exact rfl; (focus (first | exact rfl)); exact rfl; (focus (exact ⟨_, hD _, by repeat (first | with_reducible exact Take.nil)⟩)); rintro _ _ ⟨rfl, rfl⟩) | (apply o_call; exact rfl; exact rfl; (focus (first | exact rfl)); exact rfl; (focus (exact ⟨_, hW _, by repeat (first | with_reducible exact Take.nil)⟩)); rintro _ _ ⟨rfl, rfl⟩) | (apply o_want; exact rfl; exact rfl) | (apply o_skip; iterate 4 exact rfl) | (apply o_gF; (iterate 3 exact rfl); (focus (first | omega))) | (apply o_guardFN; (iterate 3 exact rfl); all_goals intro hc) | (apply w_true; exact rfl) | (apply w_false; exact rfl) | (apply w_dT; exact rfl; (focus (first | omega))) | (apply w_dF; exact rfl; (focus (first | omega))) | (apply w_ifN; exact rfl; all_goals intro hc) | apply thenS_normal | apply thenS_ret | apply w_skip | apply w_ret | ((with_reducible apply Sd.mk); (first | exact True.intro | omega)) | ((with_reducible apply Ln.mk); (first | rfl)) | ((with_reducible apply Wr.mk); (first | exact IntWalk.i64_in _ (by omega))) | ((with_reducible apply Ex.mk); (first | exact Int.tmod_eq_emod_of_nonneg (by omega))) | ((with_reducible apply Se.mk); (first | (focus ((repeat (first | exact SetAt.zero | apply SetAt.succ)); done)))) | ((with_reducible apply Pu.mk); (first | exact putAt_all rfl)) | ((with_reducible apply Su.mk); (first | exact subAt_all)) | exact True.intro | intro A | exact rfl)
            all_goals first
              | (exfalso; omega)
              | contradiction
              | (exfalso; exact hq ⟨by assumption, by assumption⟩)
              | (apply s_fin; (exact (show ResS _ _ _ _ [_, _, _, _] from (res_cell tyOk rfl rfl rfl (by exact pk) (by first | rfl | exact ‹_› | omega | (simp ; first | done | omega)) (by first | rfl | exact ‹_› | omega | (simp ; first | done | omega)) ⟨rfl, ⟨rfl, ⟨rfl, trivial⟩⟩⟩))); (focus (exact ⟨rfl, rfl⟩)); (focus (repeat (first | with_reducible exact Take.nil | with_reducible apply Take.c | with_reducible apply Take.drop))))
              | trace_state
        · rw [if_neg he] at hR
          dsimp only at hR
          subst hR
          refine w_body1 Tryz.func59 rfl rfl ?_
          repeat' (first | apply w_seq | apply w_region | apply o_nil | (apply o_g tyOk; exact rfl; exact rfl) | (apply o_ar tyOk; exact rfl; exact rfl) | (apply o_ex; exact rfl; exact rfl) | (apply o_stores tyOk; (iterate 4 exact rfl); (focus (exact ⟨rfl⟩)); (focus (exact up))) | (apply o_alloc tyOk; iterate 5 exact rfl) | (apply o_build tyOk; exact rfl; exact rfl; (focus (first | with_reducible exact pl38)); exact rfl; (focus (repeat (first | exact BuildR.nil | (apply BuildR.one; exact rfl; exact rfl; (first | (focus ((repeat (first | exact SetAt.zero | apply SetAt.succ)); done))))))); exact rfl) | (apply o_call; exact rfl; exact rfl; (focus (first | exact rfl)); exact rfl; (focus (exact ⟨_, hn _, by repeat (first | with_reducible exact Take.nil)⟩)); rintro _ _ ⟨rfl, rfl⟩) | (apply o_call; exact rfl; exact rfl; (focus (first | exact rfl)); exact rfl; (focus (exact ⟨_, NewReader_any _ _, by repeat (first | with_reducible exact Take.nil)⟩)); rintro _ _ ⟨n, rfl, rfl⟩) | (apply o_call; exact rfl; exact rfl; (focus (first | exact rfl)); exact rfl; (focus (exact ⟨_, hX _ _, by repeat (first | with_reducible exact Take.nil | with_reducible apply Take.c)⟩)); rintro _ _ ⟨rfl, rfl⟩) | (apply o_call; exact rfl; exact rfl; (focus (first | exact rfl)); exact rfl; (focus (exact ⟨_, hK2 _ _, by repeat (first | with_reducible exact Take.nil)⟩)); rintro _ _ ⟨rfl, rfl⟩) | (apply o_call; exact rfl; exact rfl; (focus (first | exact rfl)); exact rfl; (focus (exact ⟨_, rErr_any _ _ _ _, by repeat (first | with_reducible exact Take.nil)⟩)); rintro _ _ ⟨rfl, rfl⟩) | (apply o_call; exact rfl; exact rfl; (focus (first | exact rfl)); exact rfl; (focus (exact ⟨_, rLeft_any _ _ _ _, by repeat (first | with_reducible exact Take.nil)⟩)); rintro _ _ ⟨rfl, rfl⟩) | (apply o_call; exact rfl; exact rfl; (focus (first | exact rfl)); exact rfl; (focus (exact ⟨_, hO _, by repeat (first | with_reducible exact Take.nil)⟩)); rintro _ _ ⟨rfl, rfl⟩) | (apply o_call; exact rfl; exact rfl; (focus (first | exact rfl)); exact rfl; (focus (exact ⟨_, hD _, by repeat (first | with_reducible exact Take.nil)⟩)); rintro _ _ ⟨rfl, rfl⟩) | (apply o_want; exact rfl; exact rfl) | (apply o_gF; (iterate 3 exact rfl); (focus (first | omega))) | (apply w_false; exact rfl) | (apply w_dT; exact rfl; (focus (first | omega))) | (apply w_dF; exact rfl; (focus (first | omega))) | apply thenS_normal | apply thenS_ret | apply w_skip | apply w_ret | ((with_reducible apply Sd.mk); (first | exact True.intro | omega)) | ((with_reducible apply Ln.mk); (first | rfl)) | ((with_reducible apply Wr.mk); (first | exact IntWalk.i64_in _ (by omega))) | ((with_reducible apply Ex.mk); (first | exact Int.tmod_eq_emod_of_nonneg (by omega))) | ((with_reducible apply Pu.mk); (first | exact putAt_all rfl)) | exact True.intro | intro A)
          all_goals first
            | (exfalso; omega)
            | contradiction
            | (apply s_fin; (exact (show ResS _ _ _ _ [_, _, _, _] from (res_cell tyOk rfl rfl rfl (by exact pk) (by first | rfl | exact ‹_› | omega | (simp ; first | done | omega)) (by first | rfl | exact ‹_› | omega | (simp ; first | done | omega)) ⟨rfl, ⟨rfl, ⟨rfl, trivial⟩⟩⟩))); (focus (exact ⟨rfl, rfl⟩)); (focus (repeat (first | with_reducible exact Take.nil | with_reducible apply Take.c | with_reducible apply Take.drop))))
            | trace_state
      · rw [if_neg hs] at hR
        dsimp only at hR
        have hW := fun h => Wrap_any (bat d 1 % 16) b h (by omega)
        obtain ⟨⟨w, e⟩, hw⟩ : ∃ V, wrp (bat d 1 % 16) b = V := ⟨_, rfl⟩
        rw [hw] at hR hW
        dsimp only at hW
        by_cases hq : e = 0 ∧ w = d.take ((d.length : Int) - ((r.drop 4).length : Int)).toNat
        · obtain ⟨rfl, hq⟩ := hq
          rw [if_pos (by rw [hq]), hN, decide_eq_false hs] at hR
          subst hR
          clear hw
          subst hq
          refine w_body1 Tryz.func59 rfl rfl ?_
          repeat' (first | apply w_seq | apply w_region | apply o_nil | (apply o_g tyOk; exact rfl; exact rfl) | (apply o_ar tyOk; exact rfl; exact rfl) | (apply o_ex; exact rfl; exact rfl) | (apply o_loads tyOk; (iterate 3 exact rfl); (focus (exact pk))) | (apply o_stores tyOk; (iterate 4 exact rfl); (focus (exact ⟨rfl⟩)); (focus (exact up))) | (apply o_alloc tyOk; iterate 5 exact rfl) | (apply o_build tyOk; exact rfl; exact rfl; (focus (first | with_reducible exact pl38)); exact rfl; (focus (repeat (first | exact BuildR.nil | (apply BuildR.one; exact rfl; exact rfl; (first | (focus ((repeat (first | exact SetAt.zero | apply SetAt.succ)); done))))))); exact rfl) | (apply o_call; exact rfl; exact rfl; (focus (first | exact rfl)); exact rfl; (focus (exact ⟨_, hn _, by repeat (first | with_reducible exact Take.nil)⟩)); rintro _ _ ⟨rfl, rfl⟩) | (apply o_call; exact rfl; exact rfl; (focus (first | exact rfl)); exact rfl; (focus (exact ⟨_, NewReader_any _ _, by repeat (first | with_reducible exact Take.nil)⟩)); rintro _ _ ⟨n, rfl, rfl⟩) | (apply o_call; exact rfl; exact rfl; (focus (first | exact rfl)); exact rfl; (focus (exact ⟨_, hX _ _, by repeat (first | with_reducible exact Take.nil | with_reducible apply Take.c)⟩)); rintro _ _ ⟨rfl, rfl⟩) | (apply o_call; exact rfl; exact rfl; (focus (first | exact rfl)); exact rfl; (focus (exact ⟨_, hK2 _ _, by repeat (first | with_reducible exact Take.nil)⟩)); rintro _ _ ⟨rfl, rfl⟩) | (apply o_call; exact rfl; exact rfl; (focus (first | exact rfl)); exact rfl; (focus (exact ⟨_, rErr_any _ _ _ _, by repeat (first | with_reducible exact Take.nil)⟩)); rintro _ _ ⟨rfl, rfl⟩) | (apply o_call; exact rfl; exact rfl; (focus (first | exact rfl)); exact rfl; (focus (exact ⟨_, rLeft_any _ _ _ _, by repeat (first | with_reducible exact Take.nil)⟩)); rintro _ _ ⟨rfl, rfl⟩) | (apply o_call; exact rfl; exact rfl; (focus (first | exact rfl)); exact rfl; (focus (exact ⟨_, hO _, by repeat (first | with_reducible exact Take.nil)⟩)); rintro _ _ ⟨rfl, rfl⟩) | (apply o_call; exact rfl; exact rfl; (focus (first | exact rfl)); exact rfl; (focus (exact ⟨_, hW _, by repeat (first | with_reducible exact Take.nil)⟩)); rintro _ _ ⟨rfl, rfl⟩) | (apply o_want; exact rfl; exact rfl) | (apply o_gF; (iterate 3 exact rfl); (focus (first | omega))) | (apply w_false; exact rfl) | (apply w_dF; exact rfl; (focus (first | omega))) | (apply w_ifN; exact rfl; all_goals intro hc) | apply thenS_normal | apply thenS_ret | apply w_skip | apply w_ret | ((with_reducible apply Sd.mk); (first | exact True.intro | omega)) | ((with_reducible apply Ln.mk); (first | rfl)) | ((with_reducible apply Wr.mk); (first | exact IntWalk.i64_in _ (by omega))) | ((with_reducible apply Ex.mk); (first | exact Int.tmod_eq_emod_of_nonneg (by omega))) | ((with_reducible apply Pu.mk); (first | exact putAt_all rfl)) | ((with_reducible apply Su.mk); (first | exact subAt_all)) | exact True.intro | intro A | exact rfl)
          all_goals first
            | (exfalso; omega)
            | contradiction
            | (apply s_fin; (exact (show ResS _ _ _ _ [_, _, _, _] from (res_cell tyOk rfl rfl rfl (by exact pk) (by first | rfl | exact ‹_› | omega | (simp ; first | done | omega)) (by first | rfl | exact ‹_› | omega | (simp ; first | done | omega)) ⟨rfl, ⟨rfl, ⟨rfl, trivial⟩⟩⟩))); (focus (exact ⟨by rw [hNi, decide_eq_false hs]; rfl, rfl⟩)); (focus (repeat (first | with_reducible exact Take.nil | with_reducible apply Take.c | with_reducible apply Take.drop))))
            | trace_state
        · rw [if_neg (fun k => hq ⟨congrArg Prod.snd k, congrArg Prod.fst k⟩)] at hR
          subst hR
          refine w_body1 Tryz.func59 rfl rfl ?_
          repeat' (first | apply w_seq | apply w_region | apply o_nil | (apply o_g tyOk; exact rfl; exact rfl) | (apply o_ar tyOk; exact rfl; exact rfl) | (apply o_ex; exact rfl; exact rfl) | (apply o_loads tyOk; (iterate 3 exact rfl); (focus (exact pk))) | (apply o_stores tyOk; (iterate 4 exact rfl); (focus (exact ⟨rfl⟩)); (focus (exact up))) | (apply o_alloc tyOk; iterate 5 exact rfl) | (apply o_build tyOk; exact rfl; exact rfl; (focus (first | with_reducible exact pl38)); exact rfl; (focus (repeat (first | exact BuildR.nil | (apply BuildR.one; exact rfl; exact rfl; (first | (focus ((repeat (first | exact SetAt.zero | apply SetAt.succ)); done))))))); exact rfl) | (apply o_call; exact rfl; exact rfl; (focus (first | exact rfl)); exact rfl; (focus (exact ⟨_, hn _, by repeat (first | with_reducible exact Take.nil)⟩)); rintro _ _ ⟨rfl, rfl⟩) | (apply o_call; exact rfl; exact rfl; (focus (first | exact rfl)); exact rfl; (focus (exact ⟨_, NewReader_any _ _, by repeat (first | with_reducible exact Take.nil)⟩)); rintro _ _ ⟨n, rfl, rfl⟩) | (apply o_call; exact rfl; exact rfl; (focus (first | exact rfl)); exact rfl; (focus (exact ⟨_, hX _ _, by repeat (first | with_reducible exact Take.nil | with_reducible apply Take.c)⟩)); rintro _ _ ⟨rfl, rfl⟩) | (apply o_call; exact rfl; exact rfl; (focus (first | exact rfl)); exact rfl; (focus (exact ⟨_, hK2 _ _, by repeat (first | with_reducible exact Take.nil)⟩)); rintro _ _ ⟨rfl, rfl⟩) | (apply o_call; exact rfl; exact rfl; (focus (first | exact rfl)); exact rfl; (focus (exact ⟨_, rErr_any _ _ _ _, by repeat (first | with_reducible exact Take.nil)⟩)); rintro _ _ ⟨rfl, rfl⟩) | (apply o_call; exact rfl; exact rfl; (focus (first | exact rfl)); exact rfl; (focus (exact ⟨_, rLeft_any _ _ _ _, by repeat (first | with_reducible exact Take.nil)⟩)); rintro _ _ ⟨rfl, rfl⟩) | (apply o_call; exact rfl; exact rfl; (focus (first | exact rfl)); exact rfl; (focus (exact ⟨_, hO _, by repeat (first | with_reducible exact Take.nil)⟩)); rintro _ _ ⟨rfl, rfl⟩) | (apply o_call; exact rfl; exact rfl; (focus (first | exact rfl)); exact rfl; (focus (exact ⟨_, hW _, by repeat (first | with_reducible exact Take.nil)⟩)); rintro _ _ ⟨rfl, rfl⟩) | (apply o_want; exact rfl; exact rfl) | (apply o_skip; iterate 4 exact rfl) | (apply o_gF; (iterate 3 exact rfl); (focus (first | omega))) | (apply o_guardFN; (iterate 3 exact rfl); all_goals intro hc) | (apply w_true; exact rfl) | (apply w_false; exact rfl) | (apply w_dF; exact rfl; (focus (first | omega))) | (apply w_ifN; exact rfl; all_goals intro hc) | apply thenS_normal | apply thenS_ret | apply w_skip | apply w_ret | ((with_reducible apply Sd.mk); (first | exact True.intro | omega)) | ((with_reducible apply Ln.mk); (first | rfl)) | ((with_reducible apply Wr.mk); (first | exact IntWalk.i64_in _ (by omega))) | ((with_reducible apply Ex.mk); (first | exact Int.tmod_eq_emod_of_nonneg (by omega))) | ((with_reducible apply Pu.mk); (first | exact putAt_all rfl)) | ((with_reducible apply Su.mk); (first | exact subAt_all)) | exact True.intro | intro A | exact rfl)
          all_goals first
            | (exfalso; omega)
            | contradiction
            | (exfalso; exact hq ⟨by assumption, by assumption⟩)
            | (apply s_fin; (exact (show ResS _ _ _ _ [_, _, _, _] from (res_cell tyOk rfl rfl rfl (by exact pk) (by first | rfl | exact ‹_› | omega | (simp ; first | done | omega)) (by first | rfl | exact ‹_› | omega | (simp ; first | done | omega)) ⟨rfl, ⟨rfl, ⟨rfl, trivial⟩⟩⟩))); (focus (exact ⟨rfl, rfl⟩)); (focus (repeat (first | with_reducible exact Take.nil | with_reducible apply Take.c | with_reducible apply Take.drop))))
            | trace_state
    · rw [if_pos ho] at hR
      subst hR
      refine w_body1 Tryz.func59 rfl rfl ?_
      repeat' (first | apply w_seq | apply w_region | apply o_nil | (apply o_g tyOk; exact rfl; exact rfl) | (apply o_ar tyOk; exact rfl; exact rfl) | (apply o_stores tyOk; (iterate 4 exact rfl); (focus (exact ⟨rfl⟩)); (focus (exact up))) | (apply o_alloc tyOk; iterate 5 exact rfl) | (apply o_call; exact rfl; exact rfl; (focus (first | exact rfl)); exact rfl; (focus (exact ⟨_, hn _, by repeat (first | with_reducible exact Take.nil)⟩)); rintro _ _ ⟨rfl, rfl⟩) | (apply o_call; exact rfl; exact rfl; (focus (first | exact rfl)); exact rfl; (focus (exact ⟨_, NewReader_any _ _, by repeat (first | with_reducible exact Take.nil)⟩)); rintro _ _ ⟨n, rfl, rfl⟩) | (apply o_call; exact rfl; exact rfl; (focus (first | exact rfl)); exact rfl; (focus (exact ⟨_, hX _ _, by repeat (first | with_reducible exact Take.nil | with_reducible apply Take.c)⟩)); rintro _ _ ⟨rfl, rfl⟩) | (apply o_call; exact rfl; exact rfl; (focus (first | exact rfl)); exact rfl; (focus (exact ⟨_, hK2 _ _, by repeat (first | with_reducible exact Take.nil)⟩)); rintro _ _ ⟨rfl, rfl⟩) | (apply o_call; exact rfl; exact rfl; (focus (first | exact rfl)); exact rfl; (focus (exact ⟨_, rErr_any _ _ _ _, by repeat (first | with_reducible exact Take.nil)⟩)); rintro _ _ ⟨rfl, rfl⟩) | (apply o_call; exact rfl; exact rfl; (focus (first | exact rfl)); exact rfl; (focus (exact ⟨_, rLeft_any _ _ _ _, by repeat (first | with_reducible exact Take.nil)⟩)); rintro _ _ ⟨rfl, rfl⟩) | (apply o_call; exact rfl; exact rfl; (focus (first | exact rfl)); exact rfl; (focus (exact ⟨_, hO _, by repeat (first | with_reducible exact Take.nil)⟩)); rintro _ _ ⟨rfl, rfl⟩) | (apply o_want; exact rfl; exact rfl) | (apply o_gF; (iterate 3 exact rfl); (focus (first | omega))) | (apply w_false; exact rfl) | (apply w_dT; exact rfl; (focus (first | omega))) | (apply w_dF; exact rfl; (focus (first | omega))) | apply thenS_normal | apply thenS_ret | apply w_skip | apply w_ret | ((with_reducible apply Sd.mk); (first | exact True.intro | omega)) | ((with_reducible apply Ln.mk); (first | rfl)) | ((with_reducible apply Wr.mk); (first | exact IntWalk.i64_in _ (by omega))) | ((with_reducible apply Pu.mk); (first | exact putAt_all rfl)) | exact True.intro | intro A)
      all_goals first
        | (exfalso; omega)
        | contradiction
        | (apply s_fin; (exact (show ResS _ _ _ _ [_, _, _, _] from (res_cell tyOk rfl rfl rfl (by exact pk) (by first | rfl | exact ‹_› | omega | (simp ; first | done | omega)) (by first | rfl | exact ‹_› | omega | (simp ; first | done | omega)) ⟨rfl, ⟨rfl, ⟨rfl, trivial⟩⟩⟩))); (focus (exact ⟨rfl, rfl⟩)); (focus (repeat (first | with_reducible exact Take.nil | with_reducible apply Take.c | with_reducible apply Take.drop))))
        | trace_state
/-- What Unwrap gives. -/
def unwV : Option (Int × List UInt8 × Nat × Bool) → Value
  | none => .tuple ⟨[frV 0 [], I 0, I 12]⟩
  | some (k, c, n, _) => .tuple ⟨[frV k c, I n, I 0]⟩
theorem Unwrap_any (d : List UInt8) (h : SH) (hl : d.length ≤ 1000000) : SRun Tryz.prog 38 [S d] h fun r q => r = unwV (prs d) ∧ q = h := by
  have hP := fun h => parse_any d h hl
  cases hp : prs d with
  | none =>
    rw [hp] at hP
    refine w_body1 Tryz.func38 rfl rfl ?_
    repeat' (first | apply w_seq | apply w_region | apply o_nil | (apply o_g tyOk; exact rfl; exact rfl) | (apply o_notB; exact rfl; exact rfl) | (apply o_stores tyOk; (iterate 4 exact rfl); (focus (exact ⟨rfl⟩)); (focus (exact up))) | (apply o_alloc tyOk; iterate 5 exact rfl) | (apply o_build tyOk; exact rfl; exact rfl; (focus (first | with_reducible exact pl38)); exact rfl; (focus (repeat (first | exact BuildR.nil))); exact rfl) | (apply o_call; exact rfl; exact rfl; (focus (first | exact rfl)); exact rfl; (focus (exact ⟨_, hP _, by repeat (first | with_reducible exact Take.nil)⟩)); rintro _ _ ⟨rfl, rfl⟩) | (apply w_true; exact rfl) | apply thenS_normal | apply thenS_ret | apply w_ret | ((with_reducible apply Sd.mk); (first | exact True.intro)) | ((with_reducible apply Ln.mk); (first | rfl)) | ((with_reducible apply Pu.mk); (first | exact putAt_all rfl)) | exact True.intro | intro A)
    all_goals first
      | contradiction
      | (apply s_fin; (exact (show ResS _ _ _ _ [_, _, _] from (res_cell tyOk rfl rfl rfl (by exact pk) (by first | rfl | exact ‹_› | omega | (simp ; first | done | omega)) (by first | rfl | exact ‹_› | omega | (simp ; first | done | omega)) ⟨rfl, ⟨rfl, trivial⟩⟩))); (focus (exact ⟨rfl, rfl⟩)); (focus (repeat (first | with_reducible exact Take.nil | with_reducible apply Take.c | with_reducible apply Take.drop))))
      | trace_state
  | some V =>
    obtain ⟨k, c, n, s⟩ := V
    rw [hp] at hP
    refine w_body1 Tryz.func38 rfl rfl ?_
    repeat' (first | apply w_seq | apply w_region | apply o_nil | (apply o_g tyOk; exact rfl; exact rfl) | (apply o_notB; exact rfl; exact rfl) | (apply o_loads tyOk; (iterate 3 exact rfl); (focus (exact pk))) | (apply o_stores tyOk; (iterate 4 exact rfl); (focus (exact ⟨rfl⟩)); (focus (exact up))) | (apply o_alloc tyOk; iterate 5 exact rfl) | (apply o_call; exact rfl; exact rfl; (focus (first | exact rfl)); exact rfl; (focus (exact ⟨_, hP _, by repeat (first | with_reducible exact Take.nil)⟩)); rintro _ _ ⟨rfl, rfl⟩) | (apply w_false; exact rfl) | apply thenS_normal | apply w_skip | apply w_ret | ((with_reducible apply Sd.mk); (first | exact True.intro)) | ((with_reducible apply Ln.mk); (first | rfl)) | ((with_reducible apply Pu.mk); (first | exact putAt_all rfl)) | ((with_reducible apply Su.mk); (first | exact subAt_all)) | exact True.intro | intro A | exact rfl)
    all_goals first
      | contradiction
      | (apply s_fin; (exact (show ResS _ _ _ _ [_, _, _] from (res_cell tyOk rfl rfl rfl (by exact pk) (by first | rfl | exact ‹_› | omega | (simp ; first | done | omega)) (by first | rfl | exact ‹_› | omega | (simp ; first | done | omega)) ⟨rfl, ⟨rfl, trivial⟩⟩))); (focus (exact ⟨rfl, rfl⟩)); (focus (repeat (first | with_reducible exact Take.nil | with_reducible apply Take.c | with_reducible apply Take.drop))))
      | trace_state
end Go.Proofs.YtncnmfdmbfbfjaaGreat
end
section
set_option linter.unusedVariables false
set_option linter.unusedSimpArgs false
set_option maxRecDepth 4000
namespace Go.Proofs.YtncnmfdmbfbfjaaGreat
open Go.Gh Go.RowKit

theorem wrp_len {k : Int} {c : List UInt8} (h : (wrp k c).2 = 0) : (0 ≤ k ∧ k ≤ 15) ∧ c.length ≤ 4096 ∧ 7 ≤ (wrp k c).1.length ∧ (wrp k c).1.length ≤ 4120 := by
  unfold wrp at h ⊢
  split at h
  · exact absurd h (by decide)
  · split at h
    · exact absurd h (by decide)
    · rename_i h1 h2
      rw [if_neg h1, if_neg h2]
      have hf : ∀ (k : Int) (b : List UInt8), b.length ≤ 4096 → 7 ≤ (sl (frm k b)).length ∧ (sl (frm k b)).length ≤ 4120 := fun k b hb => by
        have hs1 := vnum_len (n := (b.length : Int)) (by omega)
        have hs2 := (vk_ok (n := (b.length : Int)) (by omega)).2
        unfold sl frm
        rw [List.length_append, List.length_append, List.length_append, le4_len, hd2_len]
        omega
      refine ⟨by omega, by omega, ?_⟩
      show 7 ≤ (if (lzE c).1.length < c.length then sl (frm (k + 16) (lzE c).1) else sl (frm k c)).length ∧ (if (lzE c).1.length < c.length then sl (frm (k + 16) (lzE c).1) else sl (frm k c)).length ≤ 4120
      split
      · exact hf _ _ (by omega)
      · exact hf _ _ (by omega)
/-- What parse finds is what Wrap gives. -/
theorem prs_ok {d : List UInt8} {k : Int} {c : List UInt8} {n : Nat} {s : Bool} (h : prs d = some (k, c, n, s)) : wrp k c = (d.take n, 0) ∧ n ≤ d.length ∧ 7 ≤ n ∧ bat d 0 = 165 ∧ s = decide (16 ≤ bat d 1) := by
  unfold prs at h
  split at h
  · cases h
  · rename_i h1
    split at h
    · cases h
    · rename_i b r hx
      split at h
      · cases h
      · split at h
        · cases h
        · split at h
          · cases h
          · rename_i h2 h3 _ c' hb
            split at h
            · rename_i hw
              cases h
              have hl := wrp_len (k := bat d 1 % 16) (c := c) (by rw [hw])
              rw [hw] at hl
              dsimp only at hl
              rw [List.length_take] at hl
              exact ⟨hw, by omega, by omega, by omega, rfl⟩
            · cases h
theorem txt_front {b r : List UInt8} (hb : b.length ≤ 4096) : txt (vnum b.length ++ b ++ r) = some (b, r) := by
  unfold txt
  rw [List.append_assoc, rdN_num (by omega) (by omega)]
  dsimp only
  rw [if_pos ⟨rfl, by rw [List.length_append]; omega⟩, Int.toNat_natCast, List.take_append_of_le_length (Nat.le_refl _), List.take_length, List.drop_append_of_le_length (Nat.le_refl _), List.drop_length, List.nil_append]
theorem frm_at (k : Int) (hk : 0 ≤ k ∧ k ≤ 255) (b r : List UInt8) : bat (frm k b ++ r) 0 = 165 ∧ bat (frm k b ++ r) 1 = k ∧ (frm k b ++ r).drop 2 = vnum b.length ++ b ++ r := by
  refine ⟨b8_val (by decide), b8_val (by omega), ?_⟩
  show (vnum b.length ++ b) ++ r = _
  rfl
/-- A frame at the front, of a body with the content. -/
theorem prs_frm {k k' : Int} {b c : List UInt8} (r : List UInt8) (hk' : 0 ≤ k' ∧ k' ≤ 31) (hb : b.length ≤ 4096) (hc : (16 ≤ k' ∧ lzD b 4096 = (c, 0)) ∨ (k' ≤ 15 ∧ c = b)) (hk : k = k' % 16) :
    prs (sl (frm k' b) ++ r) = if wrp k c = (sl (frm k' b), 0) then some (k, c, (sl (frm k' b)).length, decide (16 ≤ k')) else none := by
  have e0 : sl (frm k' b) ++ r = frm k' b ++ (le4 (crcV (frm k' b)) ++ r) := by unfold sl; rw [List.append_assoc]
  obtain ⟨a1, a2, a3⟩ := frm_at k' (by omega) b (le4 (crcV (frm k' b)) ++ r)
  rw [← e0] at a1 a2 a3
  have hlen : (sl (frm k' b) ++ r).length = (sl (frm k' b)).length + r.length := List.length_append
  have h4 : (le4 (crcV (frm k' b)) ++ r).length = 4 + r.length := by rw [List.length_append, le4_len]
  have hl7 : 4 ≤ (sl (frm k' b)).length := by unfold sl; rw [List.length_append, le4_len]; omega
  have hsz : (sl (frm k' b) ++ r).length - ((le4 (crcV (frm k' b)) ++ r).length - 4) = (sl (frm k' b)).length := by omega
  have htk : (sl (frm k' b) ++ r).take (sl (frm k' b)).length = sl (frm k' b) := by rw [List.take_append_of_le_length (Nat.le_refl _), List.take_length]
  have hx : txt ((sl (frm k' b) ++ r).drop 2) = some (b, le4 (crcV (frm k' b)) ++ r) := by rw [a3]; exact txt_front hb
  have hop : (opn (sl (frm k' b))).2 = 0 := by unfold sl; rw [opn_seal]
  unfold prs
  rw [a1, a2, if_neg (by omega), hx]
  dsimp only
  rw [if_neg (by omega), hsz, htk, if_neg (by rw [hop]; exact fun g => g rfl)]
  unfold bdy
  rw [a2]
  rcases hc with ⟨g1, g2⟩ | ⟨g1, rfl⟩
  · rw [if_pos g1, g2, if_pos rfl, ← hk]
  · rw [if_neg (by omega), ← hk]
theorem lzD_most {c : List UInt8} (hl : c.length ≤ 4096) (h0 : c ≠ []) : lzD (lzE c).1 4096 = (c, 0) := by
  have h1 := lzE_ne hl h0
  rw [h1]
  show lzD (wrt c.length (pcs c)) 4096 = _
  rw [(lzD_wrt hl (by omega) (pcs_cov hl) 4096).1, if_neg (by omega), if_pos h1]
/-- What Wrap gives is found at the front. -/
theorem prs_wrp {k : Int} {c : List UInt8} (h : (wrp k c).2 = 0) (r : List UInt8) : prs ((wrp k c).1 ++ r) = some (k, c, (wrp k c).1.length, decide ((lzE c).1.length < c.length)) := by
  obtain ⟨h1, h2, _⟩ := wrp_len h
  have hw : wrp k c = ((if (lzE c).1.length < c.length then sl (frm (k + 16) (lzE c).1) else sl (frm k c)), 0) := by unfold wrp; rw [if_neg (by omega), if_neg (by omega)]
  by_cases hs : (lzE c).1.length < c.length
  · rw [if_pos hs] at hw
    rw [hw]
    dsimp only
    rw [prs_frm (k := k) (c := c) r (by omega) (by omega) (.inl ⟨by omega, lzD_most h2 (fun g => by rw [g] at hs; cases hs)⟩) (by omega), if_pos hw, decide_eq_true hs, decide_eq_true (by omega)]
  · rw [if_neg hs] at hw
    rw [hw]
    dsimp only
    rw [prs_frm (k := k) (c := c) r (by omega) (by omega) (.inr ⟨by omega, rfl⟩) (by omega), if_pos hw, decide_eq_false hs, decide_eq_false (by omega)]
theorem wrp_1 (k : Int) (c : List UInt8) : (wrp k c).1.length ≤ 4120 := by
  by_cases h : (wrp k c).2 = 0
  · exact (wrp_len h).2.2.2
  · unfold wrp at h ⊢
    split
    · exact Nat.zero_le _
    · split
      · exact Nat.zero_le _
      · rename_i h1 h2
        rw [if_neg h1, if_neg h2] at h
        exact absurd rfl h
end Go.Proofs.YtncnmfdmbfbfjaaGreat
end
