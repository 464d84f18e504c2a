/- Part 8 of the proof of the law Lz77Forms: texts merged. No condition. -/
import Derived.Test.YtgooffiipnkmiaaZLz77FormsG
section
set_option linter.unusedVariables false
set_option linter.unusedSimpArgs false
set_option maxRecDepth 4000
namespace Go.Proofs.Ytgooffiipnkmiaa
open Go.Gh Go.RowKit

/-- A piece is read: the models, the decoder, whether it is a literal, the piece. -/
structure Rd1 where
  x : Ms
  d : Dec
  lit : Bool
  t : Pc
def zrd (x : Ms) (d : Dec) : Rd1 :=
  if (tdec 1 x.K d 1).2.2 = 2 then
    ⟨{ x with K := (tdec 1 x.K d 1).1, P := (bdec x.P x.c (tdec 1 x.K d 1).2.1).1, c := (bdec x.P x.c (tdec 1 x.K d 1).2.1).2.2 }, (bdec x.P x.c (tdec 1 x.K d 1).2.1).2.1, true, (1, 0, (bdec x.P x.c (tdec 1 x.K d 1).2.1).2.2)⟩
  else
    ⟨{ x with K := (tdec 1 x.K d 1).1, L := (ndec x.L (tdec 1 x.K d 1).2.1).1, D := (ndec x.D (ndec x.L (tdec 1 x.K d 1).2.1).2.1).1 }, (ndec x.D (ndec x.L (tdec 1 x.K d 1).2.1).2.1).2.1, false,
      ((ndec x.L (tdec 1 x.K d 1).2.1).2.2 + 2, (ndec x.D (ndec x.L (tdec 1 x.K d 1).2.1).2.1).2.2 + 1, 0)⟩
abbrev okC (n : Nat) (o : List UInt8) (t : Pc) : Prop := 2 ≤ t.1 ∧ t.1 ≤ 273 ∧ t.1 + o.length ≤ n ∧ 1 ≤ t.2.1 ∧ t.2.1 ≤ o.length
/-- The pieces that are read behind some bytes, up to n bytes, and the decoder behind them. -/
def rdP (n : Nat) : Nat → Ms → Dec → List UInt8 → Option (List Pc × Dec)
  | 0, _, d, _ => some ([], d)
  | f + 1, x, d, o => if o.length < n then
      (if (zrd x d).lit = true ∨ okC n o (zrd x d).t then (rdP n f (zrd x d).x (zrd x d).d (estp o (zrd x d).t)).map fun r => ((zrd x d).t :: r.1, r.2) else none)
    else some ([], d)
def exps (ps : List Pc) (o : List UInt8) : List UInt8 := ps.foldl estp o
/-- What read gives. -/
def lzR (D : List UInt8) (n : Nat) : List UInt8 × Bool := match rdP n n ms0 (dnew D) [] with
  | some r => (exps r.1 [], true)
  | none => ([], false)
theorem rstp_ok {x : Ms} {d : Dec} (hx : MsOk x) (hd : DecOk d) : MsOk (zrd x d).x ∧ DecOk (zrd x d).d ∧ ((zrd x d).lit = true → (zrd x d).t.1 = 1 ∧ (zrd x d).t.2.1 = 0 ∧ 0 ≤ (zrd x d).t.2.2 ∧ (zrd x d).t.2.2 ≤ 255) ∧ ((zrd x d).lit = false → (zrd x d).t.2.2 = 0) := by
  obtain ⟨h1, h2, _⟩ := tdec_ok (k := 1) (t := x.K) (j := 1) hd
  unfold zrd
  split
  · obtain ⟨g1, g2, g3⟩ := bdec_ok (P := x.P) (c := x.c) h1 hx.P hx.c
    exact ⟨⟨h2.trans hx.K, g2, g3, hx.L, hx.D⟩, g1, fun _ => ⟨rfl, rfl, g3⟩, fun g => (by cases g)⟩
  · obtain ⟨g1, g2⟩ := ndec_ok (t := x.L) h1 hx.L
    obtain ⟨k1, k2⟩ := ndec_ok (t := x.D) g1 hx.D
    exact ⟨⟨h2.trans hx.K, hx.P, hx.c, g2, k2⟩, k1, fun g => (by cases g), fun _ => rfl⟩
theorem rdP_go {n f : Nat} {x : Ms} {d : Dec} {o : List UInt8} (h : o.length < n) (hf : n - o.length ≤ f) : ∃ f', f = f' + 1 ∧ rdP n f x d o = (if (zrd x d).lit = true ∨ okC n o (zrd x d).t then (rdP n f' (zrd x d).x (zrd x d).d (estp o (zrd x d).t)).map fun r => ((zrd x d).t :: r.1, r.2) else none) := by
  cases f with
  | zero => omega
  | succ f => exact ⟨f, rfl, if_pos h⟩
theorem rdP_end {n f : Nat} {x : Ms} {d : Dec} {o : List UInt8} (h : ¬ o.length < n) : rdP n f x d o = some ([], d) := by
  cases f with
  | zero => rfl
  | succ f => exact if_neg h
/-- A slice of bytes that grows beside a decoder and the models. -/
inductive OR (a : Mad) (s nd : Nat) (x : Ms) (d : Dec) (h : SH) : List UInt8 → Value → SH → Prop
  | nil : OR a s nd x d h [] (.slice none 0 0) (decB nd d :: msB a x ((s, ⟨setC a, false⟩) :: h))
  | some (A : Nat) (o : List UInt8) : OR a s nd x d h o (gsl A 0 o.length o.length 1) (decB nd d :: msB a x ((A, ⟨bytesV o, false⟩) :: (s, ⟨setC a, false⟩) :: h))
def outR (o : List UInt8) (r : Option (List Pc × Dec)) : List UInt8 × Bool := match r with
  | some r => (exps r.1 o, true)
  | none => ([], false)
theorem outR_map {o : List UInt8} {t : Pc} {r : Option (List Pc × Dec)} : outR o (r.map fun r => (t :: r.1, r.2)) = outR (estp o t) r := by cases r <;> rfl
theorem rstp_lit {x : Ms} {d d1 d2 : Dec} {K1 P2 : List Int} {c2 : Int} (h1 : tdec 1 x.K d 1 = (K1, d1, 2)) (h2 : bdec x.P x.c d1 = (P2, d2, c2)) : zrd x d = ⟨⟨K1, P2, c2, x.L, x.D⟩, d2, true, (1, 0, c2)⟩ := by
  unfold zrd
  rw [h1]
  dsimp only
  rw [if_pos rfl, h2]
theorem rstp_cpy {x : Ms} {d d1 d2 d3 : Dec} {j : Nat} {K1 L2 D3 : List Int} {l2 dd : Int} (h1 : tdec 1 x.K d 1 = (K1, d1, j)) (hj : j ≠ 2) (h2 : ndec x.L d1 = (L2, d2, l2)) (h3 : ndec x.D d2 = (D3, d3, dd)) : zrd x d = ⟨⟨K1, x.P, x.c, L2, D3⟩, d3, false, (l2 + 2, dd + 1, 0)⟩ := by
  unfold zrd
  rw [h1]
  dsimp only
  rw [if_neg hj, h2]
  dsimp only
  rw [h3]
theorem lzread_any (l : List UInt8) (n : Nat) (h : SH) (hl : l.length ≤ 1000000) (hn : n ≤ 4096) :
    SRun Try.prog 36 [S l, I n] h fun r q => r = .tuple #[S (lzR l n).1, B (lzR l n).2] ∧ q = h := by
  obtain ⟨R, hR⟩ : ∃ R, R = lzR l n := ⟨_, rfl⟩
  rw [← hR]
  have hR : outR [] (rdP n n ms0 (dnew l) []) = R := hR.symm
  have hd0 := dnew_ok (l := l) (by omega)
  have hND : ∀ h, SRun Try.prog 75 [S l] h fun r q => ∃ n, r = gptr n 0 5 ∧ q = decB n (dnew l) :: h := fun h => NewDecoder_any l h (by omega)
  have hNS : ∀ h, SRun Try.prog 25 [] h fun r q => ∃ a : Mad, r = .agg ⟨setC a⟩ ∧ q = msB a ms0 h := newSet_any
  have hm0 := ms0_ok
  generalize ms0 = x0 at hR hm0 hNS
  generalize dnew l = d0 at hR hd0 hND
  refine w_body2 Try.func36 rfl rfl ?_
  repeat' (first | apply w_seq | apply w_region | apply o_nil | (apply o_g tyOk; exact rfl; exact rfl) | (apply o_stores tyOk; (iterate 4 exact rfl); (focus (exact ⟨rfl⟩)); (focus (exact up))) | (apply o_alloc tyOk; iterate 5 exact rfl) | (apply o_call; exact rfl; exact rfl; (focus (first | exact rfl | assumption)); exact rfl; (focus (exact ⟨_, hNS _, by repeat (first | with_reducible exact Take.nil | with_reducible apply Take.c | with_reducible apply Take.drop)⟩)); rintro _ _ ⟨a, rfl, rfl⟩) | (apply o_call; exact rfl; exact rfl; (focus (first | exact rfl | assumption)); exact rfl; (focus (exact ⟨_, hND _, by repeat (first | with_reducible exact Take.nil | with_reducible apply Take.c | with_reducible apply Take.drop)⟩)); rintro _ _ ⟨nd, rfl, rfl⟩) | apply thenS_normal | apply w_block | ((with_reducible apply Sd.mk); (first | exact True.intro | omega | (constructor <;> first | omega | (unfold maxLen; omega)) | (unfold maxLen; omega))) | ((with_reducible apply Ln.mk); (first | rfl | exact ‹_› | omega | (simp ; first | done | omega))) | ((with_reducible apply Pu.mk); (first | exact putAt_all rfl | exact putAt_recZ (fun _ => rfl) (by omega) | exact putAt_rec (fun _ => rfl) (by omega))) | exact True.intro | intro A)
  obtain ⟨s, rfl⟩ : ∃ s, s = A := ⟨_, rfl⟩
  refine w_loop (S := Nat × Ms × Dec × List UInt8 × Value × SH) (fun y => [(1, I n), (6, gptr s 0 4), (7, gptr nd 0 5), (8, y.2.2.2.2.1)]) (fun y => y.2.2.2.2.2)
    (fun y => n - y.2.2.2.1.length ≤ y.1 ∧ MsOk y.2.1 ∧ DecOk y.2.2.1 ∧ y.2.2.2.1.length ≤ n ∧ OR a s nd y.2.1 y.2.2.1 h y.2.2.2.1 y.2.2.2.2.1 y.2.2.2.2.2 ∧ outR y.2.2.2.1 (rdP n y.1 y.2.1 y.2.2.1 y.2.2.2.1) = R) (fun y => y.1)
    (n, x0, d0, [], .slice none 0 0, decB nd d0 :: msB a x0 ((s, ⟨setC a, false⟩) :: h)) ⟨Nat.sub_le _ _, hm0, hd0, Nat.zero_le _, .nil, hR⟩ (by repeat' (first | exact trivial | refine ⟨rfl, ?_⟩ | refine ⟨congrArg some ?_, ?_⟩)) (by repeat (first | with_reducible exact Take.nil | with_reducible apply Take.c | ((with_reducible apply Take.cE); (first | exact rfl | (apply blkE; (focus (first | exact rfl | exact recs_snocE rfl | exact map_snocE rfl | exact congrArg (fun v => [v]) (gslE rfl rfl (by first | rfl | exact ‹_› | omega | (simp ; first | done | omega)) (by first | rfl | exact ‹_› | omega | (simp ; first | done | omega)) rfl)))))) | with_reducible apply Take.drop)) ?_
  rintro ⟨f, x, d, o, w, p⟩ ⟨hf, hx, hd, ho, hb, he⟩
  dsimp only at hf hx hd ho hb he ⊢
  by_cases hlt : o.length < n
  · obtain ⟨f', rfl, e⟩ := rdP_go (x := x) (d := d) hlt hf
    rw [e] at he
    clear e
    have hrs := rstp_ok hx hd
    have hK := fun h => kDecW a nd x d h hx hd
    obtain ⟨h1, h2, h3⟩ := tdec_ok (k := 1) (t := x.K) (j := 1) hd
    obtain ⟨⟨K1, d1, j⟩, hT⟩ : ∃ T, tdec 1 x.K d 1 = T := ⟨_, rfl⟩
    rw [hT] at hK h1 h2 h3
    dsimp only at hK h1 h2 h3
    have h2' := h2.trans hx.K
    by_cases hj : j = 2
    · subst hj
      have hB := fun h => bDecW a nd { x with K := K1 } d1 h ⟨h2', hx.P, hx.c, hx.L, hx.D⟩ h1
      obtain ⟨⟨P2, d2, c2⟩, hV⟩ : ∃ V, bdec x.P x.c d1 = V := ⟨_, rfl⟩
      dsimp only at hB
      rw [hV] at hB
      dsimp only at hB
      rw [rstp_lit hT hV] at he hrs
      dsimp only at he hrs
      rw [if_pos (.inl rfl), outR_map, estp_lit o rfl] at he
      have hc2 := (hrs.2.2.1 rfl).2.2
      dsimp only at hc2 he
      cases hb with
      | nil =>
        repeat' (first | apply w_seq | apply w_region | apply o_nil | (apply o_g tyOk; exact rfl; exact rfl) | (apply o_load tyOk; (iterate 3 exact rfl); (focus (exact pk))) | (apply o_buildSlice tyOk; (iterate 5 exact rfl); (focus (decide)); exact rfl; (focus (decide)); (focus (repeat (first | exact CatR.nil | exact CatR.last rfl | (apply CatR.one; exact rfl; exact rfl) | (apply CatR.agg; exact rfl)))); exact rfl) | (apply o_append_nil tyOk; (iterate 5 exact rfl); (focus (exact ⟨by decide⟩)); (focus (exact pk))) | (apply o_call; exact rfl; exact rfl; (focus (first | exact rfl | assumption)); exact rfl; (focus (exact ⟨_, hK _, by repeat (first | with_reducible exact Take.nil | with_reducible apply Take.c | with_reducible apply Take.drop)⟩)); rintro _ _ ⟨rfl, rfl⟩) | (apply o_call; exact rfl; exact rfl; (focus (first | exact rfl | assumption)); exact rfl; (focus (exact ⟨_, hB _, by repeat (first | with_reducible exact Take.nil | with_reducible apply Take.c | with_reducible apply Take.drop)⟩)); rintro _ _ ⟨rfl, rfl⟩) | (apply w_true; exact rfl) | (apply w_dT; exact rfl; (focus (first | exact ‹_› | with_reducible exact rfl | omega))) | apply thenS_normal | apply thenS_exit | apply blockS_exit | apply w_skip | apply w_exit | apply w_block | ((with_reducible apply Sd.mk); (first | exact True.intro | omega | (constructor <;> first | omega | (unfold maxLen; omega)) | (unfold maxLen; omega))) | ((with_reducible apply Ln.mk); (first | rfl | exact ‹_› | omega | (simp ; first | done | omega))) | ((with_reducible apply Ce.mk); (first | rfl | exact ‹_› | exact cell_recZ (fun _ => rfl) (by omega) (by decide) rfl | exact cell_rec (fun _ => rfl) (by omega) (by decide) rfl | exact cell_bytes (by omega) | exact cell_mapZ (by omega) | exact cell_map (by omega))) | ((with_reducible apply Su.mk); (first | exact subAt_all | exact subAt_recZ (fun _ => rfl) (by omega) | exact subAt_rec (fun _ => rfl) (by omega))) | exact True.intro | intro A | exact rfl)
        all_goals first
          | (exfalso; omega)
          | skip
        all_goals (rw [show Y c2 = byteV (byt c2) from byteV_byt hc2]; exact ⟨(f', ⟨K1, P2, c2, x.L, x.D⟩, d2, [byt c2], gsl A 0 1 1 1, decB nd d2 :: msB a ⟨K1, P2, c2, x.L, x.D⟩ ((A, ⟨bytesV [byt c2], false⟩) :: (s, ⟨setC a, false⟩) :: h)), ⟨by show n - 1 ≤ f'; simp only [List.length_nil] at hf; omega, hrs.1, hrs.2.1, by show 1 ≤ n; omega,   .some A [byt c2], he⟩, by show f' < f' + 1; omega, (by repeat' (first | exact trivial | refine ⟨rfl, ?_⟩ | refine ⟨congrArg some ?_, ?_⟩)), (by repeat (first | with_reducible exact Take.nil | with_reducible apply Take.c | ((with_reducible apply Take.cE); (first | exact rfl | (apply blkE; (focus (first | exact rfl | exact recs_snocE rfl | exact map_snocE rfl | exact congrArg (fun v => [v]) (gslE rfl rfl (by first | rfl | exact ‹_› | omega | (simp ; first | done | omega)) (by first | rfl | exact ‹_› | omega | (simp ; first | done | omega)) rfl)))))) | with_reducible apply Take.drop))⟩)
      | some A0 o =>
        repeat' (first | apply w_seq | apply w_region | apply o_nil | (apply o_g tyOk; exact rfl; exact rfl) | (apply o_load tyOk; (iterate 3 exact rfl); (focus (exact pk))) | (apply o_buildSlice tyOk; (iterate 5 exact rfl); (focus (decide)); exact rfl; (focus (decide)); (focus (repeat (first | exact CatR.nil | exact CatR.last rfl | (apply CatR.one; exact rfl; exact rfl) | (apply CatR.agg; exact rfl)))); exact rfl) | (apply o_append tyOk; (iterate 5 exact rfl); (focus (exact ⟨by decide⟩)); (focus (exact up)); (focus (exact pk))) | (apply o_call; exact rfl; exact rfl; (focus (first | exact rfl | assumption)); exact rfl; (focus (exact ⟨_, hK _, by repeat (first | with_reducible exact Take.nil | with_reducible apply Take.c | with_reducible apply Take.drop)⟩)); rintro _ _ ⟨rfl, rfl⟩) | (apply o_call; exact rfl; exact rfl; (focus (first | exact rfl | assumption)); exact rfl; (focus (exact ⟨_, hB _, by repeat (first | with_reducible exact Take.nil | with_reducible apply Take.c | with_reducible apply Take.drop)⟩)); rintro _ _ ⟨rfl, rfl⟩) | (apply w_true; exact rfl) | (apply w_dT; exact rfl; (focus (first | exact ‹_› | with_reducible exact rfl | omega))) | apply thenS_normal | apply thenS_exit | apply blockS_exit | apply w_skip | apply w_exit | apply w_block | ((with_reducible apply Sd.mk); (first | exact True.intro | omega | (constructor <;> first | omega | (unfold maxLen; omega)) | (unfold maxLen; omega))) | ((with_reducible apply Ln.mk); (first | rfl | exact ‹_› | omega | (simp ; first | done | omega))) | ((with_reducible apply Ce.mk); (first | rfl | exact ‹_› | exact cell_recZ (fun _ => rfl) (by omega) (by decide) rfl | exact cell_rec (fun _ => rfl) (by omega) (by decide) rfl | exact cell_bytes (by omega) | exact cell_mapZ (by omega) | exact cell_map (by omega))) | ((with_reducible apply Su.mk); (first | exact subAt_all | exact subAt_recZ (fun _ => rfl) (by omega) | exact subAt_rec (fun _ => rfl) (by omega))) | exact True.intro | intro A | exact rfl)
        all_goals first
          | (exfalso; omega)
          | skip
        all_goals
          (rw [show Y c2 = byteV (byt c2) from byteV_byt hc2]
           exact ⟨(f', ⟨K1, P2, c2, x.L, x.D⟩, d2, o ++ [byt c2], gsl A0 0 (o ++ [byt c2]).length (o ++ [byt c2]).length 1, decB nd d2 :: msB a ⟨K1, P2, c2, x.L, x.D⟩ ((A0, ⟨bytesV (o ++ [byt c2]), false⟩) :: (s, ⟨setC a, false⟩) :: h)), ⟨by show n - (o ++ [byt c2]).length ≤ f'; rw [List.length_append, List.length_singleton]; omega, hrs.1, hrs.2.1, by show (o ++ [byt c2]).length ≤ n; rw [List.length_append, List.length_singleton]; omega, .some A0 (o ++ [byt c2]), he⟩, by show f' < f' + 1; omega,
               ⟨rfl, rfl, rfl, congrArg some (gslE rfl rfl (by simp) (by simp) rfl), trivial⟩, (by repeat (first | with_reducible exact Take.nil | with_reducible apply Take.c | ((with_reducible apply Take.cE); (first | exact rfl | (apply blkE; (focus (first | exact rfl | exact recs_snocE rfl | exact map_snocE rfl | exact congrArg (fun v => [v]) (gslE rfl rfl (by first | rfl | exact ‹_› | omega | (simp ; first | done | omega)) (by first | rfl | exact ‹_› | omega | (simp ; first | done | omega)) rfl)))))) | with_reducible apply Take.drop))⟩)
    · have hx1 : MsOk { x with K := K1 } := ⟨h2', hx.P, hx.c, hx.L, hx.D⟩
      have hL := fun h => lDecW a nd { x with K := K1 } d1 h hx1 h1
      obtain ⟨⟨L2, d2, l2⟩, hV⟩ : ∃ V, ndec x.L d1 = V := ⟨_, rfl⟩
      have okL := ndec_ok (t := x.L) h1 hx.L
      dsimp only at hL
      rw [hV] at hL okL
      dsimp only at hL okL
      have hD := fun h => dDecW a nd { x with K := K1, L := L2 } d2 h ⟨h2', hx.P, hx.c, okL.2, hx.D⟩ okL.1
      obtain ⟨⟨D3, d3, dd⟩, hW⟩ : ∃ V, ndec x.D d2 = V := ⟨_, rfl⟩
      dsimp only at hD
      rw [hW] at hD
      dsimp only at hD
      rw [rstp_cpy hT hj hV hW] at he hrs
      dsimp only at he hrs
      have hj3 : (j : Int) - 2 ≠ 0 := by omega
      cases hb with
      | nil =>
        rw [if_neg (by rintro (g | g); cases g; unfold okC at g; simp only [List.length_nil] at g; omega)] at he
        repeat' (first | apply w_seq | apply w_region | apply o_nil | (apply w_draw; (focus (kernel_rfl)); (focus (kernel_rfl))) | (apply o_g tyOk; exact rfl; exact rfl) | (apply o_ar tyOk; exact rfl; exact rfl) | (apply o_load tyOk; (iterate 3 exact rfl); (focus (exact pk))) | (apply o_call; exact rfl; exact rfl; (focus (first | exact rfl | assumption)); exact rfl; (focus (exact ⟨_, hK _, by repeat (first | with_reducible exact Take.nil | with_reducible apply Take.c | with_reducible apply Take.drop)⟩)); rintro _ _ ⟨rfl, rfl⟩) | (apply o_callE0; (iterate 4 exact rfl); (focus (exact ⟨hL _, by repeat (first | with_reducible exact Take.nil | with_reducible apply Take.c | with_reducible apply Take.drop)⟩)); (focus (first | exact List.Perm.refl _ | (simp; done) | exact List.Perm.swap _ _ _)); (focus ((intro ρ D hρ hD; refine ⟨?_, ?_⟩; (focus (repeat (first | exact VR.const rfl | (apply VR.ptr'; (focus (first | exact e1 | exact e2 | exact e3 | ((apply rho_pick hρ); (exact pk)))); (focus (first | exact d1 | exact d2 | exact d3 | ((apply dom_pick hD); (exact pk))))) | (apply VR.slc'; (focus (first | exact e1 | exact e2 | exact e3 | ((apply rho_pick hρ); (exact pk)))); (focus (first | exact d1 | exact d2 | exact d3 | ((apply dom_pick hD); (exact pk))))) | exact VR.sdead | apply VRs.tuple | apply VRs.agg | exact VRs.nil | ((apply VRs.const); (focus (first | exact bytesV_const _ | exact map_const (fun _ => rfl) | exact recs_const (fun _ v hv => by simp only [List.mem_cons, List.not_mem_nil, or_false] at hv; rcases hv with rfl | rfl | rfl | rfl | rfl <;> rfl)))) | apply VRs.cons))); (focus (repeat (first | exact SHR.nil | ((apply SHR.same); (focus (intro x hx; (repeat (first | exact hx | apply List.mem_cons_of_mem)); done))) | ((apply SHR.keep); (focus ((repeat (first | with_reducible exact List.mem_cons_self | apply List.mem_cons_of_mem)); done))) | (apply SHR.cons; (focus (first | exact e1 | exact e2 | exact e3 | ((apply rho_pick hρ); (exact pk)))); (focus (repeat (first | exact VR.const rfl | (apply VR.ptr'; (focus (first | exact e1 | exact e2 | exact e3 | ((apply rho_pick hρ); (exact pk)))); (focus (first | exact d1 | exact d2 | exact d3 | ((apply dom_pick hD); (exact pk))))) | (apply VR.slc'; (focus (first | exact e1 | exact e2 | exact e3 | ((apply rho_pick hρ); (exact pk)))); (focus (first | exact d1 | exact d2 | exact d3 | ((apply dom_pick hD); (exact pk))))) | exact VR.sdead | apply VRs.tuple | apply VRs.agg | exact VRs.nil | ((apply VRs.const); (focus (first | exact bytesV_const _ | exact map_const (fun _ => rfl) | exact recs_const (fun _ v hv => by simp only [List.mem_cons, List.not_mem_nil, or_false] at hv; rcases hv with rfl | rfl | rfl | rfl | rfl <;> rfl)))) | apply VRs.cons))))))))))) | (apply o_callE0; (iterate 4 exact rfl); (focus (exact ⟨hD _, by repeat (first | with_reducible exact Take.nil | with_reducible apply Take.c | with_reducible apply Take.drop)⟩)); (focus (first | exact List.Perm.refl _ | (simp; done) | exact List.Perm.swap _ _ _)); (focus ((intro ρ D hρ hD; refine ⟨?_, ?_⟩; (focus (repeat (first | exact VR.const rfl | (apply VR.ptr'; (focus (first | exact e1 | exact e2 | exact e3 | ((apply rho_pick hρ); (exact pk)))); (focus (first | exact d1 | exact d2 | exact d3 | ((apply dom_pick hD); (exact pk))))) | (apply VR.slc'; (focus (first | exact e1 | exact e2 | exact e3 | ((apply rho_pick hρ); (exact pk)))); (focus (first | exact d1 | exact d2 | exact d3 | ((apply dom_pick hD); (exact pk))))) | exact VR.sdead | apply VRs.tuple | apply VRs.agg | exact VRs.nil | ((apply VRs.const); (focus (first | exact bytesV_const _ | exact map_const (fun _ => rfl) | exact recs_const (fun _ v hv => by simp only [List.mem_cons, List.not_mem_nil, or_false] at hv; rcases hv with rfl | rfl | rfl | rfl | rfl <;> rfl)))) | apply VRs.cons))); (focus (repeat (first | exact SHR.nil | ((apply SHR.same); (focus (intro x hx; (repeat (first | exact hx | apply List.mem_cons_of_mem)); done))) | ((apply SHR.keep); (focus ((repeat (first | with_reducible exact List.mem_cons_self | apply List.mem_cons_of_mem)); done))) | (apply SHR.cons; (focus (first | exact e1 | exact e2 | exact e3 | ((apply rho_pick hρ); (exact pk)))); (focus (repeat (first | exact VR.const rfl | (apply VR.ptr'; (focus (first | exact e1 | exact e2 | exact e3 | ((apply rho_pick hρ); (exact pk)))); (focus (first | exact d1 | exact d2 | exact d3 | ((apply dom_pick hD); (exact pk))))) | (apply VR.slc'; (focus (first | exact e1 | exact e2 | exact e3 | ((apply rho_pick hρ); (exact pk)))); (focus (first | exact d1 | exact d2 | exact d3 | ((apply dom_pick hD); (exact pk))))) | exact VR.sdead | apply VRs.tuple | apply VRs.agg | exact VRs.nil | ((apply VRs.const); (focus (first | exact bytesV_const _ | exact map_const (fun _ => rfl) | exact recs_const (fun _ v hv => by simp only [List.mem_cons, List.not_mem_nil, or_false] at hv; rcases hv with rfl | rfl | rfl | rfl | rfl <;> rfl)))) | apply VRs.cons))))))))))) | (apply o_want; exact rfl; exact rfl) | (apply o_skip; iterate 4 exact rfl) | (apply o_guardF; (iterate 3 exact rfl); all_goals intro hc) | (apply w_true; exact rfl) | (apply w_dT; exact rfl; (focus (first | exact ‹_› | with_reducible exact rfl | omega))) | (apply w_dF; exact rfl; (focus (first | exact ‹_› | with_reducible exact rfl | omega))) | apply thenS_normal | apply thenS_ret | apply blockS_ret | apply w_skip | apply w_ret | apply w_block | ((with_reducible apply Sd.mk); (first | exact True.intro | omega | (constructor <;> first | omega | (unfold maxLen; omega)) | (unfold maxLen; omega))) | ((with_reducible apply Ln.mk); (first | rfl | exact ‹_› | omega | (simp ; first | done | omega))) | ((with_reducible apply Wr.mk); (first | exact IntWalk.i64_in _ (by omega) | exact IntWalk.u8_in _ (by omega) | exact IntWalk.u32_in _ (by omega) | exact IntWalk.u64_in _ (by omega) | exact IntKind.wrap_u8 _ | exact IntKind.wrap_u32 _ | rfl)) | ((with_reducible apply Ce.mk); (first | rfl | exact ‹_› | exact cell_recZ (fun _ => rfl) (by omega) (by decide) rfl | exact cell_rec (fun _ => rfl) (by omega) (by decide) rfl | exact cell_bytes (by omega) | exact cell_mapZ (by omega) | exact cell_map (by omega))) | exact True.intro | refine Rc.mk ⟨_, _, pk, ?_⟩ | exact Or.inl rfl | refine Or.inr (And.intro ?_ ?_) | apply And.intro | exact rfl)
        all_goals first
          | (exfalso; omega)
          | (apply s_fin; (exact (show ResS _ _ _ _ [_, _] from ⟨rfl, ⟨rfl, trivial⟩⟩)); (focus (exact ⟨by rw [← he]; rfl, rfl⟩)); (focus (repeat (first | with_reducible exact Take.nil | with_reducible apply Take.c | ((with_reducible apply Take.cE); (first | exact rfl | (apply blkE; (focus (first | exact rfl | exact recs_snocE rfl | exact map_snocE rfl | exact congrArg (fun v => [v]) (gslE rfl rfl (by first | rfl | exact ‹_› | omega | (simp ; first | done | omega)) (by first | rfl | exact ‹_› | omega | (simp ; first | done | omega)) rfl)))))) | with_reducible apply Take.drop))))
          | trace_state
      | some A0 o =>
        repeat' (first | apply w_seq | apply w_region | apply o_nil | (apply w_draw; (focus (kernel_rfl)); (focus (kernel_rfl))) | (apply o_g tyOk; exact rfl; exact rfl) | (apply o_ar tyOk; exact rfl; exact rfl) | (apply o_load tyOk; (iterate 3 exact rfl); (focus (exact pk))) | (apply o_call; exact rfl; exact rfl; (focus (first | exact rfl | assumption)); exact rfl; (focus (exact ⟨_, hK _, by repeat (first | with_reducible exact Take.nil | with_reducible apply Take.c | with_reducible apply Take.drop)⟩)); rintro _ _ ⟨rfl, rfl⟩) | (apply o_callE0; (iterate 4 exact rfl); (focus (exact ⟨hL _, by repeat (first | with_reducible exact Take.nil | with_reducible apply Take.c | with_reducible apply Take.drop)⟩)); (focus (first | exact List.Perm.refl _ | (simp; done) | exact List.Perm.swap _ _ _)); (focus ((intro ρ D hρ hD; refine ⟨?_, ?_⟩; (focus (repeat (first | exact VR.const rfl | (apply VR.ptr'; (focus (first | exact e1 | exact e2 | exact e3 | ((apply rho_pick hρ); (exact pk)))); (focus (first | exact d1 | exact d2 | exact d3 | ((apply dom_pick hD); (exact pk))))) | (apply VR.slc'; (focus (first | exact e1 | exact e2 | exact e3 | ((apply rho_pick hρ); (exact pk)))); (focus (first | exact d1 | exact d2 | exact d3 | ((apply dom_pick hD); (exact pk))))) | exact VR.sdead | apply VRs.tuple | apply VRs.agg | exact VRs.nil | ((apply VRs.const); (focus (first | exact bytesV_const _ | exact map_const (fun _ => rfl) | exact recs_const (fun _ v hv => by simp only [List.mem_cons, List.not_mem_nil, or_false] at hv; rcases hv with rfl | rfl | rfl | rfl | rfl <;> rfl)))) | apply VRs.cons))); (focus (repeat (first | exact SHR.nil | ((apply SHR.same); (focus (intro x hx; (repeat (first | exact hx | apply List.mem_cons_of_mem)); done))) | ((apply SHR.keep); (focus ((repeat (first | with_reducible exact List.mem_cons_self | apply List.mem_cons_of_mem)); done))) | (apply SHR.cons; (focus (first | exact e1 | exact e2 | exact e3 | ((apply rho_pick hρ); (exact pk)))); (focus (repeat (first | exact VR.const rfl | (apply VR.ptr'; (focus (first | exact e1 | exact e2 | exact e3 | ((apply rho_pick hρ); (exact pk)))); (focus (first | exact d1 | exact d2 | exact d3 | ((apply dom_pick hD); (exact pk))))) | (apply VR.slc'; (focus (first | exact e1 | exact e2 | exact e3 | ((apply rho_pick hρ); (exact pk)))); (focus (first | exact d1 | exact d2 | exact d3 | ((apply dom_pick hD); (exact pk))))) | exact VR.sdead | apply VRs.tuple | apply VRs.agg | exact VRs.nil | ((apply VRs.const); (focus (first | exact bytesV_const _ | exact map_const (fun _ => rfl) | exact recs_const (fun _ v hv => by simp only [List.mem_cons, List.not_mem_nil, or_false] at hv; rcases hv with rfl | rfl | rfl | rfl | rfl <;> rfl)))) | apply VRs.cons))))))))))) | (apply o_callE0; (iterate 4 exact rfl); (focus (exact ⟨hD _, by repeat (first | with_reducible exact Take.nil | with_reducible apply Take.c | with_reducible apply Take.drop)⟩)); (focus (first | exact List.Perm.refl _ | (simp; done) | exact List.Perm.swap _ _ _)); (focus ((intro ρ D hρ hD; refine ⟨?_, ?_⟩; (focus (repeat (first | exact VR.const rfl | (apply VR.ptr'; (focus (first | exact e1 | exact e2 | exact e3 | ((apply rho_pick hρ); (exact pk)))); (focus (first | exact d1 | exact d2 | exact d3 | ((apply dom_pick hD); (exact pk))))) | (apply VR.slc'; (focus (first | exact e1 | exact e2 | exact e3 | ((apply rho_pick hρ); (exact pk)))); (focus (first | exact d1 | exact d2 | exact d3 | ((apply dom_pick hD); (exact pk))))) | exact VR.sdead | apply VRs.tuple | apply VRs.agg | exact VRs.nil | ((apply VRs.const); (focus (first | exact bytesV_const _ | exact map_const (fun _ => rfl) | exact recs_const (fun _ v hv => by simp only [List.mem_cons, List.not_mem_nil, or_false] at hv; rcases hv with rfl | rfl | rfl | rfl | rfl <;> rfl)))) | apply VRs.cons))); (focus (repeat (first | exact SHR.nil | ((apply SHR.same); (focus (intro x hx; (repeat (first | exact hx | apply List.mem_cons_of_mem)); done))) | ((apply SHR.keep); (focus ((repeat (first | with_reducible exact List.mem_cons_self | apply List.mem_cons_of_mem)); done))) | (apply SHR.cons; (focus (first | exact e1 | exact e2 | exact e3 | ((apply rho_pick hρ); (exact pk)))); (focus (repeat (first | exact VR.const rfl | (apply VR.ptr'; (focus (first | exact e1 | exact e2 | exact e3 | ((apply rho_pick hρ); (exact pk)))); (focus (first | exact d1 | exact d2 | exact d3 | ((apply dom_pick hD); (exact pk))))) | (apply VR.slc'; (focus (first | exact e1 | exact e2 | exact e3 | ((apply rho_pick hρ); (exact pk)))); (focus (first | exact d1 | exact d2 | exact d3 | ((apply dom_pick hD); (exact pk))))) | exact VR.sdead | apply VRs.tuple | apply VRs.agg | exact VRs.nil | ((apply VRs.const); (focus (first | exact bytesV_const _ | exact map_const (fun _ => rfl) | exact recs_const (fun _ v hv => by simp only [List.mem_cons, List.not_mem_nil, or_false] at hv; rcases hv with rfl | rfl | rfl | rfl | rfl <;> rfl)))) | apply VRs.cons))))))))))) | (apply o_want; exact rfl; exact rfl) | (apply o_skip; iterate 4 exact rfl) | (apply o_guardF; (iterate 3 exact rfl); all_goals intro hc) | (apply w_true; exact rfl) | (apply w_dT; exact rfl; (focus (first | exact ‹_› | with_reducible exact rfl | omega))) | (apply w_dF; exact rfl; (focus (first | exact ‹_› | with_reducible exact rfl | omega))) | (apply w_if; exact rfl; all_goals intro hc) | apply thenS_normal | apply thenS_ret | apply blockS_ret | apply w_skip | apply w_ret | apply w_block | ((with_reducible apply Sd.mk); (first | exact True.intro | omega | (constructor <;> first | omega | (unfold maxLen; omega)) | (unfold maxLen; omega))) | ((with_reducible apply Ln.mk); (first | rfl | exact ‹_› | omega | (simp ; first | done | omega))) | ((with_reducible apply Wr.mk); (first | exact IntWalk.i64_in _ (by omega) | exact IntWalk.u8_in _ (by omega) | exact IntWalk.u32_in _ (by omega) | exact IntWalk.u64_in _ (by omega) | exact IntKind.wrap_u8 _ | exact IntKind.wrap_u32 _ | rfl)) | ((with_reducible apply Ce.mk); (first | rfl | exact ‹_› | exact cell_recZ (fun _ => rfl) (by omega) (by decide) rfl | exact cell_rec (fun _ => rfl) (by omega) (by decide) rfl | exact cell_bytes (by omega) | exact cell_mapZ (by omega) | exact cell_map (by omega))) | exact True.intro | refine Rc.mk ⟨_, _, pk, ?_⟩ | exact Or.inl rfl | refine Or.inr (And.intro ?_ ?_) | apply And.intro | exact rfl)
        all_goals first
          | (exfalso; omega)
          | (rw [if_neg (by rintro (g | g); cases g; unfold okC at g; dsimp only at g; omega)] at he; (apply s_fin; (exact (show ResS _ _ _ _ [_, _] from ⟨rfl, ⟨rfl, trivial⟩⟩)); (focus (exact ⟨by rw [← he]; rfl, rfl⟩)); (focus (repeat (first | with_reducible exact Take.nil | with_reducible apply Take.c | ((with_reducible apply Take.cE); (first | exact rfl | (apply blkE; (focus (first | exact rfl | exact recs_snocE rfl | exact map_snocE rfl | exact congrArg (fun v => [v]) (gslE rfl rfl (by first | rfl | exact ‹_› | omega | (simp ; first | done | omega)) (by first | rfl | exact ‹_› | omega | (simp ; first | done | omega)) rfl)))))) | with_reducible apply Take.drop)))))
          | skip
        have hg : 2 ≤ l2 + 2 ∧ l2 + 2 ≤ 273 ∧ l2 + 2 + o.length ≤ n ∧ 1 ≤ dd + 1 ∧ dd + 1 ≤ o.length := by omega
        rw [if_pos (.inr hg), outR_map, estp_cpy o (by show dd + 1 ≠ 0; omega)] at he
        dsimp only at he
        obtain ⟨N, hN⟩ : ∃ N, N = (l2 + 2).toNat := ⟨_, rfl⟩
        obtain ⟨D, hDD⟩ : ∃ D, D = (dd + 1).toNat := ⟨_, rfl⟩
        rw [← hN, ← hDD] at he
        refine w_loop (S := Nat × List UInt8) (fun y => [(1, I n), (6, gptr s 0 4), (7, gptr nd 0 5), (8, gsl A0 0 y.2.length y.2.length 1), (10, I dd), (64, I (l2 + 2)), (65, I y.1)])
          (fun y => decB nd d3 :: msB a ⟨K1, x.P, x.c, L2, D3⟩ ((A0, ⟨bytesV y.2, false⟩) :: (s, ⟨setC a, false⟩) :: h))
          (fun y => y.1 ≤ N ∧ y.2.length = o.length + y.1 ∧ copyN D (N - y.1) y.2 = copyN D N o) (fun y => N - y.1) (0, o) ⟨Nat.zero_le _, rfl, rfl⟩ (by repeat' (first | exact trivial | refine ⟨rfl, ?_⟩ | refine ⟨congrArg some ?_, ?_⟩)) (by repeat (first | with_reducible exact Take.nil | with_reducible apply Take.c | ((with_reducible apply Take.cE); (first | exact rfl | (apply blkE; (focus (first | exact rfl | exact recs_snocE rfl | exact map_snocE rfl | exact congrArg (fun v => [v]) (gslE rfl rfl (by first | rfl | exact ‹_› | omega | (simp ; first | done | omega)) (by first | rfl | exact ‹_› | omega | (simp ; first | done | omega)) rfl)))))) | with_reducible apply Take.drop)) ?_
        rintro ⟨k, o2⟩ ⟨hk, hol, hcp⟩
        dsimp only at hk hol hcp ⊢
        by_cases hkN : k < N
        · rw [show N - k = (N - (k + 1)) + 1 by omega, copyN] at hcp
          have hbt : Value.int .u8 (bat o2 ((o2.length : Int) - dd - 1)) = byteV o2[o2.length - D]! := by
            show _ = Value.int .u8 _
            congr 1
            unfold bat
            rw [show ((o2.length : Int) - dd - 1).toNat = o2.length - D by omega, List.getD_eq_getElem?_getD, getElem!_pos o2 _ (by omega), List.getElem?_eq_getElem (by omega)]; rfl
          repeat' (first | apply w_seq | apply w_region | apply o_nil | (apply o_g tyOk; exact rfl; exact rfl) | (apply o_ar tyOk; exact rfl; exact rfl) | (apply o_load tyOk; (iterate 3 exact rfl); (focus (exact pk))) | (apply o_buildSlice tyOk; (iterate 5 exact rfl); (focus (decide)); exact rfl; (focus (decide)); (focus (repeat (first | exact CatR.nil | exact CatR.last rfl | (apply CatR.one; exact rfl; exact rfl) | (apply CatR.agg; exact rfl)))); exact rfl) | (apply o_append tyOk; (iterate 5 exact rfl); (focus (exact ⟨by decide⟩)); (focus (exact up)); (focus (exact pk))) | (apply w_dT; exact rfl; (focus (first | exact ‹_› | with_reducible exact rfl | omega))) | apply thenS_normal | apply blockS_normal | apply w_skip | apply w_block | ((with_reducible apply Sd.mk); (first | exact True.intro | omega | (constructor <;> first | omega | (unfold maxLen; omega)) | (unfold maxLen; omega))) | ((with_reducible apply Ln.mk); (first | rfl | exact ‹_› | omega | (simp ; first | done | omega))) | ((with_reducible apply Wr.mk); (first | exact IntWalk.i64_in _ (by omega) | exact IntWalk.u8_in _ (by omega) | exact IntWalk.u32_in _ (by omega) | exact IntWalk.u64_in _ (by omega) | exact IntKind.wrap_u8 _ | exact IntKind.wrap_u32 _ | rfl)) | ((with_reducible apply Ce.mk); (first | rfl | exact ‹_› | exact cell_recZ (fun _ => rfl) (by omega) (by decide) rfl | exact cell_rec (fun _ => rfl) (by omega) (by decide) rfl | exact cell_bytes (by omega) | exact cell_mapZ (by omega) | exact cell_map (by omega))) | ((with_reducible apply Su.mk); (first | exact subAt_all | exact subAt_recZ (fun _ => rfl) (by omega) | exact subAt_rec (fun _ => rfl) (by omega))) | exact True.intro | intro A | exact rfl)
          all_goals first
            | (exfalso; omega)
            | skip
          rw [hbt]
          exact ⟨(k + 1, o2 ++ [o2[o2.length - D]!]), ⟨hkN, by show (o2 ++ [_]).length = _; rw [List.length_append, List.length_singleton]; omega, hcp⟩, by show N - (k + 1) < N - k; omega, ⟨rfl, rfl, rfl, congrArg some (gslE rfl rfl (by simp) (by simp) rfl), by repeat' (first | exact trivial | refine ⟨rfl, ?_⟩)⟩, (by repeat (first | with_reducible exact Take.nil | with_reducible apply Take.c | ((with_reducible apply Take.cE); (first | exact rfl | (apply blkE; (focus (first | exact rfl | exact recs_snocE rfl | exact map_snocE rfl | exact congrArg (fun v => [v]) (gslE rfl rfl (by first | rfl | exact ‹_› | omega | (simp ; first | done | omega)) (by first | rfl | exact ‹_› | omega | (simp ; first | done | omega)) rfl)))))) | with_reducible apply Take.drop))⟩
        · obtain rfl : k = N := by omega
          rw [Nat.sub_self, copyN] at hcp
          rw [← hcp] at he
          repeat' (first | apply w_seq | apply w_region | apply o_nil | (apply o_g tyOk; exact rfl; exact rfl) | (apply w_dF; exact rfl; (focus (first | exact ‹_› | with_reducible exact rfl | omega))) | apply thenS_normal | apply thenS_exit | apply blockS_normal | apply blockS_exit | apply w_exit | ((with_reducible apply Sd.mk); (first | exact True.intro | omega | (constructor <;> first | omega | (unfold maxLen; omega)) | (unfold maxLen; omega))))
          all_goals first
            | (exfalso; omega)
            | skip
          exact ⟨(f', ⟨K1, x.P, x.c, L2, D3⟩, d3, o2, gsl A0 0 o2.length o2.length 1, decB nd d3 :: msB a ⟨K1, x.P, x.c, L2, D3⟩ ((A0, ⟨bytesV o2, false⟩) :: (s, ⟨setC a, false⟩) :: h)), ⟨by show n - o2.length ≤ f'; omega, hrs.1, hrs.2.1, by show o2.length ≤ n; omega, .some A0 o2, he⟩, by show f' < f' + 1; omega, (by repeat' (first | exact trivial | refine ⟨rfl, ?_⟩ | refine ⟨congrArg some ?_, ?_⟩)), (by repeat (first | with_reducible exact Take.nil | with_reducible apply Take.c | ((with_reducible apply Take.cE); (first | exact rfl | (apply blkE; (focus (first | exact rfl | exact recs_snocE rfl | exact map_snocE rfl | exact congrArg (fun v => [v]) (gslE rfl rfl (by first | rfl | exact ‹_› | omega | (simp ; first | done | omega)) (by first | rfl | exact ‹_› | omega | (simp ; first | done | omega)) rfl)))))) | with_reducible apply Take.drop))⟩
  · rw [rdP_end hlt] at he
    have he : (o, true) = R := he
    cases hb with
    | nil =>
      rw [List.length_nil] at hlt
      repeat' (first | apply w_seq | apply w_region | apply o_nil | (apply o_g tyOk; exact rfl; exact rfl) | (apply o_toString_nil tyOk; iterate 7 exact rfl) | (apply w_dF; exact rfl; (focus (first | exact ‹_› | with_reducible exact rfl | omega))) | apply thenS_normal | apply thenS_exit | apply blockS_exit | apply w_ret | apply w_exit | ((with_reducible apply Sd.mk); (first | exact True.intro | omega | (constructor <;> first | omega | (unfold maxLen; omega)) | (unfold maxLen; omega))))
      all_goals first
        | (exfalso; omega)
        | (apply s_fin; (exact (show ResS _ _ _ _ [_, _] from ⟨rfl, ⟨rfl, trivial⟩⟩)); (focus (exact ⟨by subst he; rfl, rfl⟩)); (focus (repeat (first | with_reducible exact Take.nil | with_reducible apply Take.c | ((with_reducible apply Take.cE); (first | exact rfl | (apply blkE; (focus (first | exact rfl | exact recs_snocE rfl | exact map_snocE rfl | exact congrArg (fun v => [v]) (gslE rfl rfl (by first | rfl | exact ‹_› | omega | (simp ; first | done | omega)) (by first | rfl | exact ‹_› | omega | (simp ; first | done | omega)) rfl)))))) | with_reducible apply Take.drop))))
        | trace_state
    | some A0 o =>
      repeat' (first | apply w_seq | apply w_region | apply o_nil | (apply o_g tyOk; exact rfl; exact rfl) | (apply o_toString tyOk; (iterate 6 exact rfl); (focus (exact pk))) | (apply w_dF; exact rfl; (focus (first | exact ‹_› | with_reducible exact rfl | omega))) | apply thenS_normal | apply thenS_exit | apply blockS_exit | apply w_ret | apply w_exit | ((with_reducible apply Sd.mk); (first | exact True.intro | omega | (constructor <;> first | omega | (unfold maxLen; omega)) | (unfold maxLen; omega))) | ((with_reducible apply Ln.mk); (first | rfl | exact ‹_› | omega | (simp ; first | done | omega))) | ((with_reducible apply Su.mk); (first | exact subAt_all | exact subAt_recZ (fun _ => rfl) (by omega) | exact subAt_rec (fun _ => rfl) (by omega))) | exact True.intro | exact rfl)
      all_goals first
        | (exfalso; omega)
        | (apply s_fin; (exact (show ResS _ _ _ _ [_, _] from ⟨rfl, ⟨rfl, trivial⟩⟩)); (focus (exact ⟨by subst he; rfl, rfl⟩)); (focus (repeat (first | with_reducible exact Take.nil | with_reducible apply Take.c | ((with_reducible apply Take.cE); (first | exact rfl | (apply blkE; (focus (first | exact rfl | exact recs_snocE rfl | exact map_snocE rfl | exact congrArg (fun v => [v]) (gslE rfl rfl (by first | rfl | exact ‹_› | omega | (simp ; first | done | omega)) (by first | rfl | exact ‹_› | omega | (simp ; first | done | omega)) rfl)))))) | with_reducible apply Take.drop))))
        | trace_state
end Go.Proofs.Ytgooffiipnkmiaa
end
section
set_option linter.unusedVariables false
set_option linter.unusedSimpArgs false
set_option maxRecDepth 4000
namespace Go.Proofs.Ytgooffiipnkmiaa
open Go.Gh Go.RowKit

/-- What Decode gives. -/
def lzD (D : List UInt8) (most : Int) : List UInt8 × Int :=
  if (rdN D 4096).2.2 ≠ 0 then ([], 12) else if most < (rdN D 4096).1 then ([], 2)
  else if (lzR (rdN D 4096).2.1 (rdN D 4096).1.toNat).2 = false then ([], 12)
  else if lzE (lzR (rdN D 4096).2.1 (rdN D 4096).1.toNat).1 = (D, 0) then ((lzR (rdN D 4096).2.1 (rdN D 4096).1.toNat).1, 0) else ([], 12)
theorem copyN_le {n : Nat} {o : List UInt8} {t : Pc} (h : okC n o t) : (estp o t).length ≤ n := by
  unfold okC at h
  rw [estp_cpy o (by omega), copyN_len]; omega
theorem rdP_len {n : Nat} : ∀ {f : Nat} {x : Ms} {d : Dec} {o : List UInt8} {r : List Pc × Dec}, MsOk x → DecOk d → o.length ≤ n → n - o.length ≤ f → rdP n f x d o = some r → (exps r.1 o).length = n
  | 0, x, d, o, r, _, _, ho, hf, h => by
    obtain rfl := Option.some.inj h
    show o.length = n; omega
  | f + 1, x, d, o, r, hx, hd, ho, hf, h => by
    by_cases hlt : o.length < n
    · rw [show rdP n (f + 1) x d o = _ from if_pos hlt] at h
      obtain ⟨h1, h2, h3, h4⟩ := rstp_ok hx hd
      split at h
      · rename_i hg
        obtain ⟨⟨ps, d'⟩, e1, rfl⟩ := Option.map_eq_some_iff.1 h
        have hel : o.length + 1 ≤ (estp o (zrd x d).t).length ∧ (estp o (zrd x d).t).length ≤ n := by
          cases hl : (zrd x d).lit with
          | true =>
            have := h3 hl
            rw [estp_lit o this.2.1, List.length_append, List.length_singleton]; omega
          | false =>
            rw [hl] at hg
            rcases hg with hg | hg
            · cases hg
            · refine ⟨?_, copyN_le hg⟩
              unfold okC at hg
              rw [estp_cpy o (by omega), copyN_len]; omega
        exact rdP_len (r := (ps, d')) h1 h2 hel.2 (by omega) e1
      · cases h
    · rw [rdP_end hlt] at h
      obtain rfl := Option.some.inj h
      show o.length = n; omega
theorem lzR_len {l : List UInt8} {n : Nat} (hl : l.length ≤ 1000000) (h : (lzR l n).2 = true) : (lzR l n).1.length = n := by
  unfold lzR at h ⊢
  cases e : rdP n n ms0 (dnew l) [] with
  | none => rw [e] at h; cases h
  | some r => exact rdP_len ms0_ok (dnew_ok hl) (Nat.zero_le _) (Nat.sub_le _ _) e
theorem Decode_any' (l : List UInt8) (most : Int) (h : SH) (hl : l.length ≤ 1000000) : SRun Try.prog 16 [S l, I most] h fun r q => r = .tuple #[S (lzD l most).1, Er (lzD l most).2] ∧ q = h := by
  have hR := fun n h => rNumber_any n l 4096 h hl
  have hok := rdN_ok l 4096
  obtain ⟨x, hx⟩ : ∃ x, lzD l most = x := ⟨_, rfl⟩
  rw [hx]
  unfold lzD at hx
  generalize rdN l 4096 = V at *
  obtain ⟨k, d, e⟩ := V
  dsimp only at *
  have hT := fun n h => rTake_any n d (d.length : Int) h (by omega) (by omega)
  rw [show ((d.length : Int)).toNat = d.length from rfl, List.take_length, List.drop_length] at hT
  by_cases he : e = 0
  case neg =>
    rw [if_pos he] at hx
    refine w_body2 Try.func16 rfl rfl ?_
    repeat' (first | apply w_seq | apply w_region | apply o_nil | (apply o_g tyOk; exact rfl; exact rfl) | (apply o_call; exact rfl; exact rfl; (focus (first | exact rfl | assumption)); exact rfl; (focus (exact ⟨_, NewReader_any _ _, by repeat (first | with_reducible exact Take.nil | with_reducible apply Take.c | with_reducible apply Take.drop)⟩)); rintro _ _ ⟨n, rfl, rfl⟩) | (apply o_call; exact rfl; exact rfl; (focus (first | exact rfl | assumption)); exact rfl; (focus (exact ⟨_, hR _ _, by repeat (first | with_reducible exact Take.nil | with_reducible apply Take.c | with_reducible apply Take.drop)⟩)); rintro _ _ ⟨rfl, rfl⟩) | (apply o_call; exact rfl; exact rfl; (focus (first | exact rfl | assumption)); exact rfl; (focus (exact ⟨_, rErr_any _ _ _ _, by repeat (first | with_reducible exact Take.nil | with_reducible apply Take.c | with_reducible apply Take.drop)⟩)); rintro _ _ ⟨rfl, rfl⟩) | (apply w_dT; exact rfl; (focus (first | exact ‹_› | with_reducible exact rfl | omega))) | apply thenS_normal | apply thenS_ret | apply w_ret | ((with_reducible apply Sd.mk); (first | exact True.intro | omega | (constructor <;> first | omega | (unfold maxLen; omega)) | (unfold maxLen; omega))))
    all_goals first
      | contradiction
      | (apply s_fin; (exact (show ResS _ _ _ _ [_, _] from ⟨rfl, ⟨rfl, trivial⟩⟩)); (focus (exact ⟨by subst hx; rfl, rfl⟩)); (focus (repeat (first | with_reducible exact Take.nil | with_reducible apply Take.c | ((with_reducible apply Take.cE); (first | exact rfl | (apply blkE; (focus (first | exact rfl | exact recs_snocE rfl | exact map_snocE rfl | exact congrArg (fun v => [v]) (gslE rfl rfl (by first | rfl | exact ‹_› | omega | (simp ; first | done | omega)) (by first | rfl | exact ‹_› | omega | (simp ; first | done | omega)) rfl)))))) | with_reducible apply Take.drop))))
      | trace_state
  subst he
  rw [if_neg (by decide)] at hx
  have hk := hok.2 rfl
  by_cases h1 : most < k
  case pos =>
    rw [if_pos h1] at hx
    refine w_body2 Try.func16 rfl rfl ?_
    repeat' (first | apply w_seq | apply w_region | apply o_nil | (apply o_g tyOk; exact rfl; exact rfl) | (apply o_call; exact rfl; exact rfl; (focus (first | exact rfl | assumption)); exact rfl; (focus (exact ⟨_, NewReader_any _ _, by repeat (first | with_reducible exact Take.nil | with_reducible apply Take.c | with_reducible apply Take.drop)⟩)); rintro _ _ ⟨n, rfl, rfl⟩) | (apply o_call; exact rfl; exact rfl; (focus (first | exact rfl | assumption)); exact rfl; (focus (exact ⟨_, hR _ _, by repeat (first | with_reducible exact Take.nil | with_reducible apply Take.c | with_reducible apply Take.drop)⟩)); rintro _ _ ⟨rfl, rfl⟩) | (apply o_call; exact rfl; exact rfl; (focus (first | exact rfl | assumption)); exact rfl; (focus (exact ⟨_, rErr_any _ _ _ _, by repeat (first | with_reducible exact Take.nil | with_reducible apply Take.c | with_reducible apply Take.drop)⟩)); rintro _ _ ⟨rfl, rfl⟩) | (apply w_false; exact rfl) | (apply w_dT; exact rfl; (focus (first | exact ‹_› | with_reducible exact rfl | omega))) | apply thenS_normal | apply thenS_ret | apply w_skip | apply w_ret | ((with_reducible apply Sd.mk); (first | exact True.intro | omega | (constructor <;> first | omega | (unfold maxLen; omega)) | (unfold maxLen; omega))))
    all_goals first
      | contradiction
      | (apply s_fin; (exact (show ResS _ _ _ _ [_, _] from ⟨rfl, ⟨rfl, trivial⟩⟩)); (focus (exact ⟨by subst hx; rfl, rfl⟩)); (focus (repeat (first | with_reducible exact Take.nil | with_reducible apply Take.c | ((with_reducible apply Take.cE); (first | exact rfl | (apply blkE; (focus (first | exact rfl | exact recs_snocE rfl | exact map_snocE rfl | exact congrArg (fun v => [v]) (gslE rfl rfl (by first | rfl | exact ‹_› | omega | (simp ; first | done | omega)) (by first | rfl | exact ‹_› | omega | (simp ; first | done | omega)) rfl)))))) | with_reducible apply Take.drop))))
      | trace_state
  rw [if_neg h1] at hx
  obtain ⟨m, rfl⟩ := Int.eq_ofNat_of_zero_le hk.1
  rw [Int.toNat_natCast] at hx
  have hRd := fun h => lzread_any d m h (by omega) (by omega)
  have hlen := lzR_len (l := d) (n := m) (by omega)
  obtain ⟨⟨s, b⟩, hs⟩ : ∃ R, lzR d m = R := ⟨_, rfl⟩
  rw [hs] at hRd hx hlen
  dsimp only at hRd hx hlen
  cases b with
  | false =>
    rw [if_pos rfl] at hx
    refine w_body2 Try.func16 rfl rfl ?_
    repeat' (first | apply w_seq | apply w_region | apply o_nil | (apply o_g tyOk; exact rfl; exact rfl) | (apply o_notB; exact rfl; exact rfl) | (apply o_call; exact rfl; exact rfl; (focus (first | exact rfl | assumption)); exact rfl; (focus (exact ⟨_, NewReader_any _ _, by repeat (first | with_reducible exact Take.nil | with_reducible apply Take.c | with_reducible apply Take.drop)⟩)); rintro _ _ ⟨n, rfl, rfl⟩) | (apply o_call; exact rfl; exact rfl; (focus (first | exact rfl | assumption)); exact rfl; (focus (exact ⟨_, hR _ _, by repeat (first | with_reducible exact Take.nil | with_reducible apply Take.c | with_reducible apply Take.drop)⟩)); rintro _ _ ⟨rfl, rfl⟩) | (apply o_call; exact rfl; exact rfl; (focus (first | exact rfl | assumption)); exact rfl; (focus (exact ⟨_, rErr_any _ _ _ _, by repeat (first | with_reducible exact Take.nil | with_reducible apply Take.c | with_reducible apply Take.drop)⟩)); rintro _ _ ⟨rfl, rfl⟩) | (apply o_call; exact rfl; exact rfl; (focus (first | exact rfl | assumption)); exact rfl; (focus (exact ⟨_, rLeft_any _ _ _ _, by repeat (first | with_reducible exact Take.nil | with_reducible apply Take.c | with_reducible apply Take.drop)⟩)); rintro _ _ ⟨rfl, rfl⟩) | (apply o_call; exact rfl; exact rfl; (focus (first | exact rfl | assumption)); exact rfl; (focus (exact ⟨_, hT _ _, by repeat (first | with_reducible exact Take.nil | with_reducible apply Take.c | with_reducible apply Take.drop)⟩)); rintro _ _ ⟨rfl, rfl⟩) | (apply o_call; exact rfl; exact rfl; (focus (first | exact rfl | assumption)); exact rfl; (focus (exact ⟨_, hRd _, by repeat (first | with_reducible exact Take.nil | with_reducible apply Take.c | with_reducible apply Take.drop)⟩)); rintro _ _ ⟨rfl, rfl⟩) | (apply w_true; exact rfl) | (apply w_false; exact rfl) | (apply w_dF; exact rfl; (focus (first | exact ‹_› | with_reducible exact rfl | omega))) | apply thenS_normal | apply thenS_ret | apply w_skip | apply w_ret | ((with_reducible apply Sd.mk); (first | exact True.intro | omega | (constructor <;> first | omega | (unfold maxLen; omega)) | (unfold maxLen; omega))))
    all_goals first
      | contradiction
      | (apply s_fin; (exact (show ResS _ _ _ _ [_, _] from ⟨rfl, ⟨rfl, trivial⟩⟩)); (focus (exact ⟨by subst hx; rfl, rfl⟩)); (focus (repeat (first | with_reducible exact Take.nil | with_reducible apply Take.c | ((with_reducible apply Take.cE); (first | exact rfl | (apply blkE; (focus (first | exact rfl | exact recs_snocE rfl | exact map_snocE rfl | exact congrArg (fun v => [v]) (gslE rfl rfl (by first | rfl | exact ‹_› | omega | (simp ; first | done | omega)) (by first | rfl | exact ‹_› | omega | (simp ; first | done | omega)) rfl)))))) | with_reducible apply Take.drop))))
      | trace_state
  | true =>
    rw [if_neg (by decide)] at hx
    have hlen := hlen rfl
    have hE := fun h => Encode_any' s h (by omega)
    obtain ⟨⟨t, g⟩, ht⟩ : ∃ R, lzE s = R := ⟨_, rfl⟩
    rw [ht] at hE hx
    dsimp only at hE hx
    refine w_body2 Try.func16 rfl rfl ?_
    repeat' (first | apply w_seq | apply w_region | apply o_nil | (apply o_g tyOk; exact rfl; exact rfl) | (apply o_notB; exact rfl; exact rfl) | (apply o_call; exact rfl; exact rfl; (focus (first | exact rfl | assumption)); exact rfl; (focus (exact ⟨_, NewReader_any _ _, by repeat (first | with_reducible exact Take.nil | with_reducible apply Take.c | with_reducible apply Take.drop)⟩)); rintro _ _ ⟨n, rfl, rfl⟩) | (apply o_call; exact rfl; exact rfl; (focus (first | exact rfl | assumption)); exact rfl; (focus (exact ⟨_, hR _ _, by repeat (first | with_reducible exact Take.nil | with_reducible apply Take.c | with_reducible apply Take.drop)⟩)); rintro _ _ ⟨rfl, rfl⟩) | (apply o_call; exact rfl; exact rfl; (focus (first | exact rfl | assumption)); exact rfl; (focus (exact ⟨_, rErr_any _ _ _ _, by repeat (first | with_reducible exact Take.nil | with_reducible apply Take.c | with_reducible apply Take.drop)⟩)); rintro _ _ ⟨rfl, rfl⟩) | (apply o_call; exact rfl; exact rfl; (focus (first | exact rfl | assumption)); exact rfl; (focus (exact ⟨_, rLeft_any _ _ _ _, by repeat (first | with_reducible exact Take.nil | with_reducible apply Take.c | with_reducible apply Take.drop)⟩)); rintro _ _ ⟨rfl, rfl⟩) | (apply o_call; exact rfl; exact rfl; (focus (first | exact rfl | assumption)); exact rfl; (focus (exact ⟨_, hT _ _, by repeat (first | with_reducible exact Take.nil | with_reducible apply Take.c | with_reducible apply Take.drop)⟩)); rintro _ _ ⟨rfl, rfl⟩) | (apply o_call; exact rfl; exact rfl; (focus (first | exact rfl | assumption)); exact rfl; (focus (exact ⟨_, hRd _, by repeat (first | with_reducible exact Take.nil | with_reducible apply Take.c | with_reducible apply Take.drop)⟩)); rintro _ _ ⟨rfl, rfl⟩) | (apply o_call; exact rfl; exact rfl; (focus (first | exact rfl | assumption)); exact rfl; (focus (exact ⟨_, hE _, by repeat (first | with_reducible exact Take.nil | with_reducible apply Take.c | with_reducible apply Take.drop)⟩)); rintro _ _ ⟨rfl, rfl⟩) | (apply o_want; exact rfl; exact rfl) | (apply o_skip; iterate 4 exact rfl) | (apply o_guardFN; (iterate 3 exact rfl); all_goals intro hc) | (apply w_true; exact rfl) | (apply w_false; exact rfl) | (apply w_dF; exact rfl; (focus (first | exact ‹_› | with_reducible exact rfl | omega))) | (apply w_ifN; exact rfl; all_goals intro hc) | apply thenS_normal | apply thenS_ret | apply w_skip | apply w_ret | ((with_reducible apply Sd.mk); (first | exact True.intro | omega | (constructor <;> first | omega | (unfold maxLen; omega)) | (unfold maxLen; omega))))
    all_goals first
      | contradiction
      | (rw [if_pos (by rw [show t = l by assumption, show g = 0 by assumption])] at hx; (apply s_fin; (exact (show ResS _ _ _ _ [_, _] from ⟨rfl, ⟨rfl, trivial⟩⟩)); (focus (exact ⟨by subst hx; rfl, rfl⟩)); (focus (repeat (first | with_reducible exact Take.nil | with_reducible apply Take.c | ((with_reducible apply Take.cE); (first | exact rfl | (apply blkE; (focus (first | exact rfl | exact recs_snocE rfl | exact map_snocE rfl | exact congrArg (fun v => [v]) (gslE rfl rfl (by first | rfl | exact ‹_› | omega | (simp ; first | done | omega)) (by first | rfl | exact ‹_› | omega | (simp ; first | done | omega)) rfl)))))) | with_reducible apply Take.drop)))))
      | (rw [if_neg (fun e => absurd (congrArg Prod.snd e) (by assumption))] at hx; (apply s_fin; (exact (show ResS _ _ _ _ [_, _] from ⟨rfl, ⟨rfl, trivial⟩⟩)); (focus (exact ⟨by subst hx; rfl, rfl⟩)); (focus (repeat (first | with_reducible exact Take.nil | with_reducible apply Take.c | ((with_reducible apply Take.cE); (first | exact rfl | (apply blkE; (focus (first | exact rfl | exact recs_snocE rfl | exact map_snocE rfl | exact congrArg (fun v => [v]) (gslE rfl rfl (by first | rfl | exact ‹_› | omega | (simp ; first | done | omega)) (by first | rfl | exact ‹_› | omega | (simp ; first | done | omega)) rfl)))))) | with_reducible apply Take.drop)))))
      | (rw [if_neg (fun e => absurd (congrArg Prod.fst e) (by assumption))] at hx; (apply s_fin; (exact (show ResS _ _ _ _ [_, _] from ⟨rfl, ⟨rfl, trivial⟩⟩)); (focus (exact ⟨by subst hx; rfl, rfl⟩)); (focus (repeat (first | with_reducible exact Take.nil | with_reducible apply Take.c | ((with_reducible apply Take.cE); (first | exact rfl | (apply blkE; (focus (first | exact rfl | exact recs_snocE rfl | exact map_snocE rfl | exact congrArg (fun v => [v]) (gslE rfl rfl (by first | rfl | exact ‹_› | omega | (simp ; first | done | omega)) (by first | rfl | exact ‹_› | omega | (simp ; first | done | omega)) rfl)))))) | with_reducible apply Take.drop)))))
      | trace_state
end Go.Proofs.Ytgooffiipnkmiaa
end
section
set_option linter.unusedVariables false
set_option linter.unusedSimpArgs false
set_option maxRecDepth 4000
namespace Go.Proofs.Ytgooffiipnkmiaa
open Go.Gh Go.RowKit

/-- Bytes that are there to be read. -/
def RO (h : SH) (o : List UInt8) (v : Value) : Prop := (o = [] ∧ v = .slice none 0 0) ∨ ∃ A h1, v = gsl A 0 o.length o.length 1 ∧ Pick h A ⟨bytesV o, false⟩ h1
theorem RO.re {h h' : SH} {o : List UInt8} {v : Value} (r : RO h o v) (t : Take h' h) : RO h' o v := by
  rcases r with r | ⟨A, h1, e, p⟩
  · exact .inl r
  · obtain ⟨h2, g, _⟩ := t.pick p
    exact .inr ⟨A, h2, e, g⟩
/-- The bytes behind a step: the same ones, or ones in a block of their own. -/
inductive ROut (h : SH) (o0 : List UInt8) (v : Value) : Bool → List UInt8 → Value → SH → Prop
  | same : ROut h o0 v false o0 v h
  | new (o : List UInt8) (A : Nat) : ROut h o0 v true o (gsl A 0 o.length o.length 1) ((A, ⟨bytesV o, false⟩) :: h)
theorem ROut.ro {h q : SH} {o0 o : List UInt8} {v v' : Value} {fr : Bool} (r : ROut h o0 v fr o v' q) (k : RO h o0 v) : RO q o v' := by
  cases r with
  | same => exact k
  | new => exact .inr ⟨_, _, rfl, .head⟩
theorem ROut.take {h q : SH} {o0 o : List UInt8} {v v' : Value} {fr : Bool} (r : ROut h o0 v fr o v' q) : Take q h := by
  cases r with
  | same => exact .nil
  | new => exact .drop .nil

theorem carried_any (o : List UInt8) (v : Value) (h : SH) (hv : RO h o v) (ho : o.length ≤ 1000000) :
    SRun Try.prog 127 [v] h fun r q => ∃ A, r = gsl A 0 o.length o.length 1 ∧ q = (A, ⟨bytesV (carry o), false⟩) :: h := by
  rcases hv with ⟨rfl, rfl⟩ | ⟨A', h1, rfl, hp⟩
  · refine w_body1 Try.func127 rfl rfl ?_
    repeat' (first | apply w_seq | apply w_region | apply o_nil | (apply o_g tyOk; exact rfl; exact rfl) | (apply o_ar tyOk; exact rfl; exact rfl) | (apply o_buildSlice tyOk; (iterate 5 exact rfl); (focus (decide)); exact rfl; (focus (decide)); (focus (repeat (first | exact CatR.nil | exact CatR.last rfl | (apply CatR.one; exact rfl; exact rfl) | (apply CatR.agg; exact rfl)))); exact rfl) | (apply o_append_none tyOk; (iterate 4 exact rfl); (focus (exact pk))) | apply thenS_normal | apply w_block | ((with_reducible apply Sd.mk); (first | exact True.intro | omega | (constructor <;> first | omega | (unfold maxLen; omega)) | (unfold maxLen; omega))) | ((with_reducible apply Ln.mk); (first | rfl | exact ‹_› | omega | (simp ; first | done | omega))) | ((with_reducible apply Wr.mk); (first | exact w_quoI (by omega) (by omega) | exact w_and1 _ | exact IntWalk.i64_in _ (by omega) | exact IntWalk.u8_in _ (by omega) | exact IntWalk.u32_in _ (by omega) | exact IntWalk.u64_in _ (by omega) | exact IntKind.wrap_u8 _ | exact IntKind.wrap_u32 _ | rfl)) | exact True.intro | intro A | exact rfl)
    refine w_loop (S := Unit) (fun x => [(3, gsl A 0 0 0 1), (4, I (0 - 1))]) (fun x => (A, ⟨[], false⟩) :: h) (fun _ => True) (fun _ => 0) () trivial (by repeat' (first | exact trivial | refine ⟨rfl, ?_⟩ | refine ⟨congrArg some ?_, ?_⟩)) (by repeat (first | with_reducible exact Take.nil | with_reducible apply Take.c | ((with_reducible apply Take.cE); (first | exact rfl | (apply blkE; (focus (first | exact rfl | exact recs_snocE rfl | exact map_snocE rfl | exact congrArg (fun v => [v]) (gslE rfl rfl (by first | rfl | exact ‹_› | omega | (simp ; first | done | omega)) (by first | rfl | exact ‹_› | omega | (simp ; first | done | omega)) rfl)))))) | with_reducible apply Take.drop)) ?_
    rintro - -
    repeat' (first | apply w_seq | apply w_region | apply o_nil | (apply o_g tyOk; exact rfl; exact rfl) | (apply w_false; exact rfl) | apply thenS_normal | apply thenS_exit | apply blockS_exit | apply w_ret | apply w_exit | ((with_reducible apply Sd.mk); (first | exact True.intro | omega | (constructor <;> first | omega | (unfold maxLen; omega)) | (unfold maxLen; omega))))
    (apply s_fin; (exact (show ResS _ _ _ _ [_] from ⟨rfl, trivial⟩)); (focus (exact ⟨A, rfl, rfl⟩)); (focus (repeat (first | with_reducible exact Take.nil | with_reducible apply Take.c | ((with_reducible apply Take.cE); (first | exact rfl | (apply blkE; (focus (first | exact rfl | exact recs_snocE rfl | exact map_snocE rfl | exact congrArg (fun v => [v]) (gslE rfl rfl (by first | rfl | exact ‹_› | omega | (simp ; first | done | omega)) (by first | rfl | exact ‹_› | omega | (simp ; first | done | omega)) rfl)))))) | with_reducible apply Take.drop))))
  · refine w_body1 Try.func127 rfl rfl ?_
    repeat' (first | apply w_seq | apply w_region | apply o_nil | (apply o_g tyOk; exact rfl; exact rfl) | (apply o_ar tyOk; exact rfl; exact rfl) | (apply o_buildSlice tyOk; (iterate 5 exact rfl); (focus (decide)); exact rfl; (focus (decide)); (focus (repeat (first | exact CatR.nil | exact CatR.last rfl | (apply CatR.one; exact rfl; exact rfl) | (apply CatR.agg; exact rfl)))); exact rfl) | (apply o_append tyOk; (iterate 5 exact rfl); (focus (exact ⟨by decide⟩)); (focus (exact up)); (focus (exact pk))) | apply thenS_normal | apply w_block | ((with_reducible apply Sd.mk); (first | exact True.intro | omega | (constructor <;> first | omega | (unfold maxLen; omega)) | (unfold maxLen; omega))) | ((with_reducible apply Ln.mk); (first | rfl | exact ‹_› | omega | (simp ; first | done | omega))) | ((with_reducible apply Wr.mk); (first | exact w_quoI (by omega) (by omega) | exact w_and1 _ | exact IntWalk.i64_in _ (by omega) | exact IntWalk.u8_in _ (by omega) | exact IntWalk.u32_in _ (by omega) | exact IntWalk.u64_in _ (by omega) | exact IntKind.wrap_u8 _ | exact IntKind.wrap_u32 _ | rfl)) | ((with_reducible apply Su.mk); (first | exact subAt_all | exact subAt_recZ (fun _ => rfl) (by omega) | exact subAt_rec (fun _ => rfl) (by omega))) | exact bytesV_all _ | exact True.intro | intro A | exact rfl)
    refine w_loop (S := Nat × List UInt8) (fun x => [(3, gsl A 0 o.length o.length 1), (4, I (x.1 - 1))]) (fun x => (A, ⟨bytesV x.2, false⟩) :: h)
      (fun x => x.1 ≤ o.length ∧ x.2.length = o.length ∧ carryAt x.2 x.1 = carry o) (fun x => x.1) (o.length, o) ⟨Nat.le_refl _, rfl, rfl⟩ ?_ (by repeat (first | with_reducible exact Take.nil | with_reducible apply Take.c | ((with_reducible apply Take.cE); (first | exact rfl | (apply blkE; (focus (first | exact rfl | exact recs_snocE rfl | exact map_snocE rfl | exact congrArg (fun v => [v]) (gslE rfl rfl (by first | rfl | exact ‹_› | omega | (simp ; first | done | omega)) (by first | rfl | exact ‹_› | omega | (simp ; first | done | omega)) rfl)))))) | with_reducible apply Take.drop)) ?_
    · exact ⟨congrArg some (gslE rfl rfl (by simp) (by simp) rfl), by show some (Value.int .i64 (((0 + o.length : Nat) : Int) - 1)) = some (Value.int .i64 ((o.length : Int) - 1)); rw [Nat.zero_add], trivial⟩
    rintro ⟨k, l⟩ ⟨hk, hl, he⟩
    dsimp only at hk hl he ⊢
    rw [← hl]
    cases k with
    | zero =>
      repeat' (first | apply w_seq | apply w_region | apply o_nil | (apply o_g tyOk; exact rfl; exact rfl) | (apply w_false; exact rfl) | apply thenS_normal | apply thenS_exit | apply blockS_exit | apply w_ret | apply w_exit | ((with_reducible apply Sd.mk); (first | exact True.intro | omega | (constructor <;> first | omega | (unfold maxLen; omega)) | (unfold maxLen; omega))))
      (apply s_fin; (exact (show ResS _ _ _ _ [_] from ⟨rfl, trivial⟩)); (focus (rw [← show l = carry o from he]; exact ⟨A, rfl, rfl⟩)); (focus (repeat (first | with_reducible exact Take.nil | with_reducible apply Take.c | ((with_reducible apply Take.cE); (first | exact rfl | (apply blkE; (focus (first | exact rfl | exact recs_snocE rfl | exact map_snocE rfl | exact congrArg (fun v => [v]) (gslE rfl rfl (by first | rfl | exact ‹_› | omega | (simp ; first | done | omega)) (by first | rfl | exact ‹_› | omega | (simp ; first | done | omega)) rfl)))))) | with_reducible apply Take.drop))))
    | succ k =>
      rw [show ((k + 1 : Nat) : Int) - 1 = k by omega]
      repeat' (first | apply w_seq | apply w_region | apply o_nil | (apply o_g tyOk; exact rfl; exact rfl) | (apply o_ar tyOk; exact rfl; exact rfl) | (apply o_load tyOk; (iterate 3 exact rfl); (focus (exact pk))) | (apply o_store tyOk; (iterate 4 exact rfl); (focus (exact up))) | (apply w_true; exact rfl) | (apply w_ifN; exact rfl; all_goals intro hc) | apply thenS_normal | apply thenS_ret | apply blockS_normal | apply blockS_ret | apply w_skip | apply w_ret | apply w_block | ((with_reducible apply Sd.mk); (first | exact True.intro | omega | (constructor <;> first | omega | (unfold maxLen; omega)) | (unfold maxLen; omega))) | ((with_reducible apply Ln.mk); (first | rfl | exact ‹_› | omega | (simp ; first | done | omega))) | ((with_reducible apply Wr.mk); (first | exact w_quoI (by omega) (by omega) | exact w_and1 _ | exact IntWalk.i64_in _ (by omega) | exact IntWalk.u8_in _ (by omega) | exact IntWalk.u32_in _ (by omega) | exact IntWalk.u64_in _ (by omega) | exact IntKind.wrap_u8 _ | exact IntKind.wrap_u32 _ | rfl)) | ((with_reducible apply Ce.mk); (first | rfl | exact ‹_› | exact cell_bytes_set (by omega) (by omega) | exact cell_recZ (fun _ => rfl) (by omega) (by decide) rfl | exact cell_rec (fun _ => rfl) (by omega) (by decide) rfl | exact cell_bytes (by omega) | exact cell_mapZ (by omega) | exact cell_map (by omega))) | ((with_reducible apply Se.mk); (first | (focus ((repeat (first | exact SetAt.zero | apply SetAt.succ)); done)) | exact setAt_bytes (by omega) (by omega) | exact setAt_mapZ (by omega) | exact setAt_map (by omega))) | exact True.intro | exact rfl)
      · (apply s_fin; (exact (show ResS _ _ _ _ [_] from ⟨rfl, trivial⟩)); (focus (rw [← he, carryAt, if_pos hc]; exact ⟨A, rfl, rfl⟩)); (focus (repeat (first | with_reducible exact Take.nil | with_reducible apply Take.c | ((with_reducible apply Take.cE); (first | exact rfl | (apply blkE; (focus (first | exact rfl | exact recs_snocE rfl | exact map_snocE rfl | exact congrArg (fun v => [v]) (gslE rfl rfl (by first | rfl | exact ‹_› | omega | (simp ; first | done | omega)) (by first | rfl | exact ‹_› | omega | (simp ; first | done | omega)) rfl)))))) | with_reducible apply Take.drop))))
      · refine ⟨(k, l.set k (b8 ((bat l k + 1) % 256))), ⟨by show k ≤ _; omega, by simp [hl], ?_⟩, by show k < k + 1; omega, ?_, (by repeat (first | with_reducible exact Take.nil | with_reducible apply Take.c | ((with_reducible apply Take.cE); (first | exact rfl | (apply blkE; (focus (first | exact rfl | exact recs_snocE rfl | exact map_snocE rfl | exact congrArg (fun v => [v]) (gslE rfl rfl (by first | rfl | exact ‹_› | omega | (simp ; first | done | omega)) (by first | rfl | exact ‹_› | omega | (simp ; first | done | omega)) rfl)))))) | with_reducible apply Take.drop))⟩
        · rw [← he, carryAt, if_neg (fun h => h hc)]
        · exact ⟨rfl, rfl, trivial⟩
abbrev reC (v : Value) (low size : Int) : List Value := [v, I low, I size]
abbrev reV (v : Value) (low size : Int) : Value := .agg ⟨reC v low size⟩
theorem rNewEncoder_any (h : SH) : SRun Try.prog 69 [] h fun r q => r = reV (.slice none 0 0) 0 4294967295 ∧ q = h := by
  refine w_body0 Try.func69 rfl rfl ?_
  repeat' (first | apply w_seq | apply w_region | apply o_nil | (apply o_stores tyOk; (iterate 4 exact rfl); (focus (exact ⟨rfl⟩)); (focus (exact up))) | (apply o_alloc tyOk; iterate 5 exact rfl) | (apply o_build tyOk; exact rfl; exact rfl; (focus (first | with_reducible exact pl123)); exact rfl; (focus (repeat (first | exact BuildR.nil | (apply BuildR.one; exact rfl; exact rfl; (first | (focus ((repeat (first | exact SetAt.zero | apply SetAt.succ)); done)) | exact setAt_bytes (by omega) (by omega) | exact setAt_mapZ (by omega) | exact setAt_map (by omega))) | (apply BuildR.agg; exact rfl; exact rfl; (first | exact putAt_all rfl | exact putAt_recZ (fun _ => rfl) (by omega) | exact putAt_rec (fun _ => rfl) (by omega)))))); exact rfl) | apply thenS_normal | apply w_ret | ((with_reducible apply Ln.mk); (first | rfl | exact ‹_› | omega | (simp ; first | done | omega))) | ((with_reducible apply Pu.mk); (first | exact putAt_all rfl | exact putAt_recZ (fun _ => rfl) (by omega) | exact putAt_rec (fun _ => rfl) (by omega))) | exact True.intro | intro A)
  (apply s_fin; (exact (show ResS _ _ _ _ [_] from (res_cell tyOk rfl rfl rfl (by exact pk) (by first | rfl | exact ‹_› | omega | (simp ; first | done | omega)) (by first | rfl | exact ‹_› | omega | (simp ; first | done | omega)) trivial))); (focus (exact ⟨rfl, rfl⟩)); (focus (repeat (first | with_reducible exact Take.nil | with_reducible apply Take.c | ((with_reducible apply Take.cE); (first | exact rfl | (apply blkE; (focus (first | exact rfl | exact recs_snocE rfl | exact map_snocE rfl | exact congrArg (fun v => [v]) (gslE rfl rfl (by first | rfl | exact ‹_› | omega | (simp ; first | done | omega)) (by first | rfl | exact ‹_› | omega | (simp ; first | done | omega)) rfl)))))) | with_reducible apply Take.drop))))
/-- Whether a step hands back a new block. -/
def carries (e : Enc) (z b : Int) : Bool := decide (b ≠ 0 ∧ 4294967296 ≤ e.low + bound e.size z)
def fresh (e : Enc) (z b : Int) : Bool := carries e z b || decide ((estep e z b).size < 16777216)
theorem rBit_any (e : Enc) (z b : Int) (v : Value) (h : SH) (hv : RO h e.out v) (hok : EncOk 1000000 e) :
    SRun Try.prog 123 [reV v e.low e.size, I z, I b] h fun r q => ∃ v', r = reV v' (ebit e z b).low (ebit e z b).size ∧ ROut h e.out v (fresh e z b) (ebit e z b).out v' q := by
  have hd := size_dvd hok.size z
  unfold bound at hd
  have hz := clp_in z
  have h1 := hok.low; have h2 := hok.size; have h3 := hok.out
  unfold ebit
  have h4 := estep_ok hok z b
  have hf : fresh e z b = (carries e z b || decide ((estep e z b).size < 16777216)) := rfl
  generalize hs : estep e z b = s at h4 hf
  generalize fresh e z b = fr at hf
  generalize hcr : carries e z b = cr at hf
  have hcr2 : cr = true ↔ (b ≠ 0 ∧ 4294967296 ≤ e.low + e.size / 2048 * clp z) := by rw [← hcr]; unfold carries bound; simp
  refine w_body3 Try.func123 rfl rfl ?_
  repeat' ((fail_if_success (show SWp _ _ (Code.cond (Operand.tmp 15) _ _) _ _ _)); first | apply w_seq | apply w_region | apply o_nil | (apply w_draw; (focus (kernel_rfl)); (focus (kernel_rfl))) | (apply o_g tyOk; exact rfl; exact rfl) | (apply o_ar tyOk; exact rfl; exact rfl) | (apply o_load tyOk; (iterate 3 exact rfl); (focus (exact pk))) | (apply o_alloc tyOk; iterate 5 exact rfl) | (apply o_box (tt := tyT); iterate 5 exact rfl) | (apply o_callD; (iterate 4 exact rfl); (focus (exact ⟨_, limit_any _ _, by repeat (first | with_reducible exact Take.nil | with_reducible apply Take.c | with_reducible apply Take.drop)⟩)); (focus (exact fun _ _ h => h.1)); (focus ((repeat (first | exact Flat.c rfl | apply flat_tuple | apply flat_agg | exact FlatL.nil | apply FlatL.cons))))) | apply thenS_normal | ((with_reducible apply Sd.mk); (first | exact True.intro | omega | (constructor <;> first | omega | (unfold maxLen; omega)) | (unfold maxLen; omega))) | ((with_reducible apply Ln.mk); (first | rfl | exact ‹_› | omega | (simp ; first | done | omega))) | ((with_reducible apply Wr.mk); (first | exact w_quoI (by omega) (by omega) | exact w_and1 _ | exact IntWalk.i64_in _ (by omega) | exact IntWalk.u8_in _ (by omega) | exact IntWalk.u32_in _ (by omega) | exact IntWalk.u64_in _ (by omega) | exact IntKind.wrap_u8 _ | exact IntKind.wrap_u32 _ | rfl)) | ((with_reducible apply Ce.mk); (first | rfl | exact ‹_› | exact cell_recZ (fun _ => rfl) (by omega) (by decide) rfl | exact cell_rec (fun _ => rfl) (by omega) (by decide) rfl | exact cell_bytes (by omega) | exact cell_mapZ (by omega) | exact cell_map (by omega))) | exact True.intro | intro A | exact rfl)
  rename_i A0
  refine w_meet (S := Value × SH) (fun _ => [(3, gptr A0 0 3), (6, gptr A 0 3)]) (fun x => (A, ⟨reC (.slice none 0 0) 0 0, false⟩) :: (A0, ⟨reC x.1 s.low s.size, false⟩) :: x.2) (fun x => ROut h e.out v cr s.out x.1 x.2) ?_ ?_
  · unfold estep bound at hs
    repeat' (first | apply w_seq | apply w_region | apply o_nil | (apply w_draw; (focus (kernel_rfl)); (focus (kernel_rfl))) | (apply o_g tyOk; exact rfl; exact rfl) | (apply o_ar tyOk; exact rfl; exact rfl) | (apply o_load tyOk; (iterate 3 exact rfl); (focus (exact pk))) | (apply o_store tyOk; (iterate 4 exact rfl); (focus (exact up))) | (apply o_callE1; (iterate 4 exact rfl); (focus (exact ⟨carried_any e.out v _ (hv.re (.drop (.drop .nil))) h3, by repeat (first | with_reducible exact Take.nil | with_reducible apply Take.c | with_reducible apply Take.drop)⟩)); (focus ((intro _; (first | exact List.Perm.refl _ | (simp; done) | exact List.Perm.swap _ _ _)))); (focus ((intro A1 A2 ρ D e1 d1 hρ hD; refine ⟨?_, ?_⟩; (focus (repeat (first | exact VR.const rfl | (apply VR.ptr'; (focus (first | exact e1 | exact e2 | exact e3 | ((apply rho_pick hρ); (exact pk)))); (focus (first | exact d1 | exact d2 | exact d3 | ((apply dom_pick hD); (exact pk))))) | (apply VR.slc'; (focus (first | exact e1 | exact e2 | exact e3 | ((apply rho_pick hρ); (exact pk)))); (focus (first | exact d1 | exact d2 | exact d3 | ((apply dom_pick hD); (exact pk))))) | exact VR.sdead | apply VRs.tuple | apply VRs.agg | exact VRs.nil | ((apply VRs.const); (focus (first | exact bytesV_const _ | exact map_const (fun _ => rfl) | exact recs_const (fun _ v hv => by simp only [List.mem_cons, List.not_mem_nil, or_false] at hv; rcases hv with rfl | rfl | rfl | rfl | rfl <;> rfl)))) | apply VRs.cons))); (focus (repeat (first | exact SHR.nil | ((apply SHR.same); (focus (intro x hx; (repeat (first | exact hx | apply List.mem_cons_of_mem)); done))) | ((apply SHR.keep); (focus ((repeat (first | with_reducible exact List.mem_cons_self | apply List.mem_cons_of_mem)); done))) | (apply SHR.cons; (focus (first | exact e1 | exact e2 | exact e3 | ((apply rho_pick hρ); (exact pk)))); (focus (repeat (first | exact VR.const rfl | (apply VR.ptr'; (focus (first | exact e1 | exact e2 | exact e3 | ((apply rho_pick hρ); (exact pk)))); (focus (first | exact d1 | exact d2 | exact d3 | ((apply dom_pick hD); (exact pk))))) | (apply VR.slc'; (focus (first | exact e1 | exact e2 | exact e3 | ((apply rho_pick hρ); (exact pk)))); (focus (first | exact d1 | exact d2 | exact d3 | ((apply dom_pick hD); (exact pk))))) | exact VR.sdead | apply VRs.tuple | apply VRs.agg | exact VRs.nil | ((apply VRs.const); (focus (first | exact bytesV_const _ | exact map_const (fun _ => rfl) | exact recs_const (fun _ v hv => by simp only [List.mem_cons, List.not_mem_nil, or_false] at hv; rcases hv with rfl | rfl | rfl | rfl | rfl <;> rfl)))) | apply VRs.cons))))))))))) | (apply w_if; exact rfl; all_goals intro hc) | apply thenS_normal | apply w_skip | ((with_reducible apply Sd.mk); (first | exact True.intro | omega | (constructor <;> first | omega | (unfold maxLen; omega)) | (unfold maxLen; omega))) | ((with_reducible apply Ln.mk); (first | rfl | exact ‹_› | omega | (simp ; first | done | omega))) | ((with_reducible apply Wr.mk); (first | exact w_quoI (by omega) (by omega) | exact w_and1 _ | exact IntWalk.i64_in _ (by omega) | exact IntWalk.u8_in _ (by omega) | exact IntWalk.u32_in _ (by omega) | exact IntWalk.u64_in _ (by omega) | exact IntKind.wrap_u8 _ | exact IntKind.wrap_u32 _ | rfl)) | ((with_reducible apply Ce.mk); (first | rfl | exact ‹_› | exact cell_recZ (fun _ => rfl) (by omega) (by decide) rfl | exact cell_rec (fun _ => rfl) (by omega) (by decide) rfl | exact cell_bytes (by omega) | exact cell_mapZ (by omega) | exact cell_map (by omega))) | ((with_reducible apply Se.mk); (first | (focus ((repeat (first | exact SetAt.zero | apply SetAt.succ)); done)) | exact setAt_bytes (by omega) (by omega) | exact setAt_mapZ (by omega) | exact setAt_map (by omega))) | exact True.intro | refine Rc.mk ⟨_, _, pk, ?_⟩ | exact Or.inl rfl | apply And.intro | apply Or.inr | intro A | exact rfl)
    · rw [if_pos hc] at hs; subst hs
      obtain rfl : cr = false := by cases hcb : cr with
        | false => rfl
        | true => exact absurd hc (hcr2.1 hcb).1
      exact ⟨(v, h), .same, (by repeat' (first | exact trivial | refine ⟨rfl, ?_⟩ | refine ⟨congrArg some ?_, ?_⟩)), (by repeat (first | with_reducible exact Take.nil | with_reducible apply Take.c | ((with_reducible apply Take.cE); (first | exact rfl | (apply blkE; (focus (first | exact rfl | exact recs_snocE rfl | exact map_snocE rfl | exact congrArg (fun v => [v]) (gslE rfl rfl (by first | rfl | exact ‹_› | omega | (simp ; first | done | omega)) (by first | rfl | exact ‹_› | omega | (simp ; first | done | omega)) rfl)))))) | with_reducible apply Take.drop))⟩
    · rw [if_neg ‹_›, if_pos hc] at hs; subst hs
      obtain rfl : cr = true := hcr2.2 ⟨‹_›, hc⟩
      exact ⟨(_, _), by have := ROut.new (h := h) (o0 := e.out) (v := v) (carry e.out) A; rw [carry_len] at this; exact this, (by repeat' (first | exact trivial | refine ⟨rfl, ?_⟩ | refine ⟨congrArg some ?_, ?_⟩)), (by repeat (first | with_reducible exact Take.nil | with_reducible apply Take.c | ((with_reducible apply Take.cE); (first | exact rfl | (apply blkE; (focus (first | exact rfl | exact recs_snocE rfl | exact map_snocE rfl | exact congrArg (fun v => [v]) (gslE rfl rfl (by first | rfl | exact ‹_› | omega | (simp ; first | done | omega)) (by first | rfl | exact ‹_› | omega | (simp ; first | done | omega)) rfl)))))) | with_reducible apply Take.drop))⟩
    · rw [if_neg ‹_›, if_neg hc] at hs; subst hs
      obtain rfl : cr = false := by cases hcb : cr with
        | false => rfl
        | true => exact absurd (hcr2.1 hcb).2 hc
      exact ⟨(v, h), .same, (by repeat' (first | exact trivial | refine ⟨rfl, ?_⟩ | refine ⟨congrArg some ?_, ?_⟩)), (by repeat (first | with_reducible exact Take.nil | with_reducible apply Take.c | ((with_reducible apply Take.cE); (first | exact rfl | (apply blkE; (focus (first | exact rfl | exact recs_snocE rfl | exact map_snocE rfl | exact congrArg (fun v => [v]) (gslE rfl rfl (by first | rfl | exact ‹_› | omega | (simp ; first | done | omega)) (by first | rfl | exact ‹_› | omega | (simp ; first | done | omega)) rfl)))))) | with_reducible apply Take.drop))⟩
  · rintro ⟨w, p⟩ hw
    dsimp only at hw ⊢
    repeat' (first | apply w_seq | apply w_block)
    refine w_loop (S := Nat × Enc × Bool × Value × SH) (fun x => [(3, gptr A0 0 3), (6, gptr A 0 3)]) (fun x => (A, ⟨reC (.slice none 0 0) 0 0, false⟩) :: (A0, ⟨reC x.2.2.2.1 x.2.1.low x.2.1.size, false⟩) :: x.2.2.2.2)
      (fun x => ROut h e.out v x.2.2.1 x.2.1.out x.2.2.2.1 x.2.2.2.2 ∧ norm x.1 x.2.1 = norm 2 s ∧ 16777216 ≤ x.2.1.size * 256 ^ x.1 ∧ 0 < x.2.1.size ∧ x.2.1.size ≤ 4294967295 ∧ (0 ≤ x.2.1.low ∧ x.2.1.low ≤ 4294967295) ∧ x.2.1.out.length + x.1 ≤ 1000002 ∧
        ((x.2.1 = s ∧ x.2.2.1 = cr) ∨ (s.size < 16777216 ∧ x.2.2.1 = true))) (fun x => x.1) (2, s, cr, w, p)
      ⟨hw, rfl, by show _ ≤ s.size * 256 ^ 2; omega, by show 0 < s.size; omega, by show s.size ≤ _; omega, h4.2.1, by show s.out.length + 2 ≤ _; omega, .inl ⟨rfl, rfl⟩⟩ (by repeat' (first | exact trivial | refine ⟨rfl, ?_⟩ | refine ⟨congrArg some ?_, ?_⟩)) (by repeat (first | with_reducible exact Take.nil | with_reducible apply Take.c | ((with_reducible apply Take.cE); (first | exact rfl | (apply blkE; (focus (first | exact rfl | exact recs_snocE rfl | exact map_snocE rfl | exact congrArg (fun v => [v]) (gslE rfl rfl (by first | rfl | exact ‹_› | omega | (simp ; first | done | omega)) (by first | rfl | exact ‹_› | omega | (simp ; first | done | omega)) rfl)))))) | with_reducible apply Take.drop)) ?_
    rintro ⟨k, d, g, w, q⟩ ⟨hw, he, g1, g2, g3, g4, g5, g6⟩
    dsimp only at hw he g1 g2 g3 g4 g5 g6 ⊢
    have hro := hw.ro hv
    by_cases hlt : d.size < 16777216
    · obtain ⟨k', rfl, e1, e2⟩ := norm_go hlt g1
      have hss : s.size < 16777216 := by
        rcases g6 with ⟨rfl, _⟩ | ⟨h, _⟩
        · exact hlt
        · exact h
      have hlen : (eshift d).out.length = d.out.length + 1 := by show (d.out ++ [_]).length = _; simp
      have hby : bytesV d.out ++ [.int .u8 (d.low / 16777216)] = bytesV (eshift d).out := bytesV_snoc (by omega)
      rcases hro with ⟨e0, rfl⟩ | ⟨A1, p1, rfl, hp⟩
      · repeat' (first | apply w_seq | apply w_region | apply o_nil | (apply w_draw; (focus (kernel_rfl)); (focus (kernel_rfl))) | (apply o_g tyOk; exact rfl; exact rfl) | (apply o_ar tyOk; exact rfl; exact rfl) | (apply o_ex; exact rfl; exact rfl) | (apply o_load tyOk; (iterate 3 exact rfl); (focus (exact pk))) | (apply o_store tyOk; (iterate 4 exact rfl); (focus (exact up))) | (apply o_buildSlice tyOk; (iterate 5 exact rfl); (focus (decide)); exact rfl; (focus (decide)); (focus (repeat (first | exact CatR.nil | exact CatR.last rfl | (apply CatR.one; exact rfl; exact rfl) | (apply CatR.agg; exact rfl)))); exact rfl) | (apply o_append tyOk; (iterate 5 exact rfl); (focus (exact ⟨by decide⟩)); (focus (exact up)); (focus (exact pk))) | (apply o_append_none tyOk; (iterate 4 exact rfl); (focus (exact pk))) | (apply w_dT; exact rfl; (focus (first | exact ‹_› | with_reducible exact rfl | omega))) | apply thenS_normal | apply blockS_normal | apply w_skip | apply w_block | ((with_reducible apply Sd.mk); (first | exact True.intro | omega | (constructor <;> first | omega | (unfold maxLen; omega)) | (unfold maxLen; omega))) | ((with_reducible apply Ln.mk); (first | rfl | exact ‹_› | omega | (simp ; first | done | omega))) | ((with_reducible apply Wr.mk); (first | exact w_quoI (by omega) (by omega) | exact w_and1 _ | exact IntWalk.i64_in _ (by omega) | exact IntWalk.u8_in _ (by omega) | exact IntWalk.u32_in _ (by omega) | exact IntWalk.u64_in _ (by omega) | exact IntKind.wrap_u8 _ | exact IntKind.wrap_u32 _ | rfl)) | ((with_reducible apply Ex.mk); (first | exact Int.tmod_eq_emod_of_nonneg (by omega) | exact ex8i _ | exact ex16i _ | exact ex24i _ | exact ex_shrk (by omega) | rfl)) | ((with_reducible apply Ce.mk); (first | rfl | exact ‹_› | exact cell_recZ (fun _ => rfl) (by omega) (by decide) rfl | exact cell_rec (fun _ => rfl) (by omega) (by decide) rfl | exact cell_bytes (by omega) | exact cell_mapZ (by omega) | exact cell_map (by omega))) | ((with_reducible apply Se.mk); (first | (focus ((repeat (first | exact SetAt.zero | apply SetAt.succ)); done)) | exact setAt_bytes (by omega) (by omega) | exact setAt_mapZ (by omega) | exact setAt_map (by omega))) | ((with_reducible apply Su.mk); (first | exact subAt_all | exact subAt_recZ (fun _ => rfl) (by omega) | exact subAt_rec (fun _ => rfl) (by omega))) | exact True.intro | refine Rc.mk ⟨_, _, pk, ?_⟩ | exact Or.inl rfl | apply And.intro | apply Or.inr | intro A | exact rfl)
        rw [e0] at hby
        have e0L : d.out.length = 0 := by rw [e0]; rfl
        rename_i A2
        exact ⟨(k', eshift d, true, gsl A2 0 (eshift d).out.length (eshift d).out.length 1, (A2, ⟨bytesV (eshift d).out, false⟩) :: h), ⟨.new _ _, by rw [← e1]; exact he, e2, by show 0 < d.size * 256; omega, by show d.size * 256 ≤ _; omega,
          by show 0 ≤ d.low * 256 % 4294967296 ∧ d.low * 256 % 4294967296 ≤ _; omega, by show (eshift d).out.length + k' ≤ _; omega, .inr ⟨hss, rfl⟩⟩, by show k' < k' + 1; omega, (by repeat' (first | exact trivial | refine ⟨rfl, ?_⟩ | refine ⟨congrArg some ?_, ?_⟩)),
          .drop (.cons (.tail .head) (.consE (.tail .head) (blkE (congrArg (fun v => [v, I (d.low * 256 % 4294967296), I (d.size * 256)]) (gslE rfl rfl (by rw [hlen]; omega) (by rw [hlen]; omega) rfl))) (.consE .head (blkE hby) hw.take)))⟩
      · repeat' (first | apply w_seq | apply w_region | apply o_nil | (apply w_draw; (focus (kernel_rfl)); (focus (kernel_rfl))) | (apply o_g tyOk; exact rfl; exact rfl) | (apply o_ar tyOk; exact rfl; exact rfl) | (apply o_ex; exact rfl; exact rfl) | (apply o_load tyOk; (iterate 3 exact rfl); (focus (exact pk))) | (apply o_store tyOk; (iterate 4 exact rfl); (focus (exact up))) | (apply o_buildSlice tyOk; (iterate 5 exact rfl); (focus (decide)); exact rfl; (focus (decide)); (focus (repeat (first | exact CatR.nil | exact CatR.last rfl | (apply CatR.one; exact rfl; exact rfl) | (apply CatR.agg; exact rfl)))); exact rfl) | (apply o_append tyOk; (iterate 5 exact rfl); (focus (exact ⟨by decide⟩)); (focus (exact up)); (focus (exact pk))) | (apply w_dT; exact rfl; (focus (first | exact ‹_› | with_reducible exact rfl | omega))) | apply thenS_normal | apply blockS_normal | apply w_skip | apply w_block | ((with_reducible apply Sd.mk); (first | exact True.intro | omega | (constructor <;> first | omega | (unfold maxLen; omega)) | (unfold maxLen; omega))) | ((with_reducible apply Ln.mk); (first | rfl | exact ‹_› | omega | (simp ; first | done | omega))) | ((with_reducible apply Wr.mk); (first | exact w_quoI (by omega) (by omega) | exact w_and1 _ | exact IntWalk.i64_in _ (by omega) | exact IntWalk.u8_in _ (by omega) | exact IntWalk.u32_in _ (by omega) | exact IntWalk.u64_in _ (by omega) | exact IntKind.wrap_u8 _ | exact IntKind.wrap_u32 _ | rfl)) | ((with_reducible apply Ex.mk); (first | exact Int.tmod_eq_emod_of_nonneg (by omega) | exact ex8i _ | exact ex16i _ | exact ex24i _ | exact ex_shrk (by omega) | rfl)) | ((with_reducible apply Ce.mk); (first | rfl | exact ‹_› | exact cell_recZ (fun _ => rfl) (by omega) (by decide) rfl | exact cell_rec (fun _ => rfl) (by omega) (by decide) rfl | exact cell_bytes (by omega) | exact cell_mapZ (by omega) | exact cell_map (by omega))) | ((with_reducible apply Se.mk); (first | (focus ((repeat (first | exact SetAt.zero | apply SetAt.succ)); done)) | exact setAt_bytes (by omega) (by omega) | exact setAt_mapZ (by omega) | exact setAt_map (by omega))) | ((with_reducible apply Su.mk); (first | exact subAt_all | exact subAt_recZ (fun _ => rfl) (by omega) | exact subAt_rec (fun _ => rfl) (by omega))) | exact bytesV_all _ | exact True.intro | refine Rc.mk ⟨_, _, pk, ?_⟩ | exact Or.inl rfl | refine Or.inr (And.intro ?_ ?_) | apply And.intro | apply Or.inr | intro A | exact rfl)
        have e0L : d.out.length = d.out.length := rfl
        rename_i A2
        exact ⟨(k', eshift d, true, gsl A2 0 (eshift d).out.length (eshift d).out.length 1, (A2, ⟨bytesV (eshift d).out, false⟩) :: h), ⟨.new _ _, by rw [← e1]; exact he, e2, by show 0 < d.size * 256; omega, by show d.size * 256 ≤ _; omega,
          by show 0 ≤ d.low * 256 % 4294967296 ∧ d.low * 256 % 4294967296 ≤ _; omega, by show (eshift d).out.length + k' ≤ _; omega, .inr ⟨hss, rfl⟩⟩, by show k' < k' + 1; omega, (by repeat' (first | exact trivial | refine ⟨rfl, ?_⟩ | refine ⟨congrArg some ?_, ?_⟩)),
          .drop (.cons (.tail .head) (.consE (.tail .head) (blkE (congrArg (fun v => [v, I (d.low * 256 % 4294967296), I (d.size * 256)]) (gslE rfl rfl (by rw [hlen]; omega) (by rw [hlen]; omega) rfl))) (.consE .head (blkE hby) hw.take)))⟩
    · rw [norm_end hlt] at he
      have hfr : g = fr := by
        rcases g6 with ⟨q1, q2⟩ | ⟨q1, q2⟩
        · rw [hf, q2, ← q1, decide_eq_false hlt, Bool.or_false]
        · rw [hf, q2, decide_eq_true q1, Bool.or_true]
      subst hfr
      rcases hro with ⟨e0, rfl⟩ | ⟨A1, p1, rfl, hp⟩
      · repeat' (first | apply w_seq | apply w_region | apply o_nil | (apply o_g tyOk; exact rfl; exact rfl) | (apply o_load tyOk; (iterate 3 exact rfl); (focus (exact pk))) | (apply o_loads tyOk; (iterate 3 exact rfl); (focus (exact pk))) | (apply o_stores tyOk; (iterate 4 exact rfl); (focus (exact ⟨rfl⟩)); (focus (exact up))) | (apply w_dF; exact rfl; (focus (first | exact ‹_› | with_reducible exact rfl | omega))) | apply thenS_normal | apply thenS_exit | apply blockS_exit | apply w_ret | apply w_exit | ((with_reducible apply Sd.mk); (first | exact True.intro | omega | (constructor <;> first | omega | (unfold maxLen; omega)) | (unfold maxLen; omega))) | ((with_reducible apply Ln.mk); (first | rfl | exact ‹_› | omega | (simp ; first | done | omega))) | ((with_reducible apply Ce.mk); (first | rfl | exact ‹_› | exact cell_recZ (fun _ => rfl) (by omega) (by decide) rfl | exact cell_rec (fun _ => rfl) (by omega) (by decide) rfl | exact cell_bytes (by omega) | exact cell_mapZ (by omega) | exact cell_map (by omega))) | ((with_reducible apply Pu.mk); (first | exact putAt_all rfl | exact putAt_recZ (fun _ => rfl) (by omega) | exact putAt_rec (fun _ => rfl) (by omega))) | ((with_reducible apply Su.mk); (first | exact subAt_all | exact subAt_recZ (fun _ => rfl) (by omega) | exact subAt_rec (fun _ => rfl) (by omega))) | exact True.intro | exact rfl)
        (apply s_fin; (exact (show ResS _ _ _ _ [_] from (res_cell tyOk rfl rfl rfl (by exact pk) (by first | rfl | exact ‹_› | omega | (simp ; first | done | omega)) (by first | rfl | exact ‹_› | omega | (simp ; first | done | omega)) trivial))); (focus (rw [← he]; exact ⟨_, rfl, hw⟩)); (focus (repeat (first | with_reducible exact Take.nil | with_reducible apply Take.c | ((with_reducible apply Take.cE); (first | exact rfl | (apply blkE; (focus (first | exact rfl | exact recs_snocE rfl | exact map_snocE rfl | exact congrArg (fun v => [v]) (gslE rfl rfl (by first | rfl | exact ‹_› | omega | (simp ; first | done | omega)) (by first | rfl | exact ‹_› | omega | (simp ; first | done | omega)) rfl)))))) | with_reducible apply Take.drop))))
      · repeat' (first | apply w_seq | apply w_region | apply o_nil | (apply o_g tyOk; exact rfl; exact rfl) | (apply o_load tyOk; (iterate 3 exact rfl); (focus (exact pk))) | (apply o_loads tyOk; (iterate 3 exact rfl); (focus (exact pk))) | (apply o_stores tyOk; (iterate 4 exact rfl); (focus (exact ⟨rfl⟩)); (focus (exact up))) | (apply w_dF; exact rfl; (focus (first | exact ‹_› | with_reducible exact rfl | omega))) | apply thenS_normal | apply thenS_exit | apply blockS_exit | apply w_ret | apply w_exit | ((with_reducible apply Sd.mk); (first | exact True.intro | omega | (constructor <;> first | omega | (unfold maxLen; omega)) | (unfold maxLen; omega))) | ((with_reducible apply Ln.mk); (first | rfl | exact ‹_› | omega | (simp ; first | done | omega))) | ((with_reducible apply Ce.mk); (first | rfl | exact ‹_› | exact cell_recZ (fun _ => rfl) (by omega) (by decide) rfl | exact cell_rec (fun _ => rfl) (by omega) (by decide) rfl | exact cell_bytes (by omega) | exact cell_mapZ (by omega) | exact cell_map (by omega))) | ((with_reducible apply Pu.mk); (first | exact putAt_all rfl | exact putAt_recZ (fun _ => rfl) (by omega) | exact putAt_rec (fun _ => rfl) (by omega))) | ((with_reducible apply Su.mk); (first | exact subAt_all | exact subAt_recZ (fun _ => rfl) (by omega) | exact subAt_rec (fun _ => rfl) (by omega))) | exact True.intro | exact rfl)
        (apply s_fin; (exact (show ResS _ _ _ _ [_] from (res_cell tyOk rfl rfl rfl (by exact pk) (by first | rfl | exact ‹_› | omega | (simp ; first | done | omega)) (by first | rfl | exact ‹_› | omega | (simp ; first | done | omega)) trivial))); (focus (rw [← he]; exact ⟨_, rfl, hw⟩)); (focus (repeat (first | with_reducible exact Take.nil | with_reducible apply Take.c | ((with_reducible apply Take.cE); (first | exact rfl | (apply blkE; (focus (first | exact rfl | exact recs_snocE rfl | exact map_snocE rfl | exact congrArg (fun v => [v]) (gslE rfl rfl (by first | rfl | exact ‹_› | omega | (simp ; first | done | omega)) (by first | rfl | exact ‹_› | omega | (simp ; first | done | omega)) rfl)))))) | with_reducible apply Take.drop))))
/-- The same, in the shape that calls in regions of a drawn order take. -/
theorem rBit_old (e : Enc) (z b : Int) (v : Value) (h : SH) (hv : RO h e.out v) (hok : EncOk 1000000 e) (hf : fresh e z b = false) :
    (ebit e z b).out = e.out ∧ SRun Try.prog 123 [reV v e.low e.size, I z, I b] h fun r q => r = reV v (ebit e z b).low (ebit e z b).size ∧ q = h := by
  have ho : (ebit e z b).out = e.out := by
    unfold fresh carries at hf
    simp only [Bool.or_eq_false_iff, decide_eq_false_iff_not] at hf
    unfold ebit
    rw [norm_end hf.2]
    unfold estep
    split
    · rfl
    · rw [if_neg (fun k => hf.1 ⟨‹_›, k⟩)]
  refine ⟨ho, (rBit_any e z b v h hv hok).mono ?_⟩
  rintro r q ⟨v', rfl, hr⟩
  rw [hf] at hr
  generalize (ebit e z b).out = o2 at hr
  cases hr
  exact ⟨rfl, rfl⟩
theorem rBit_new (e : Enc) (z b : Int) (v : Value) (h : SH) (hv : RO h e.out v) (hok : EncOk 1000000 e) (hf : fresh e z b = true) :
    SRun Try.prog 123 [reV v e.low e.size, I z, I b] h fun r q => ∃ A, r = reV (gsl A 0 (ebit e z b).out.length (ebit e z b).out.length 1) (ebit e z b).low (ebit e z b).size ∧ q = (A, ⟨bytesV (ebit e z b).out, false⟩) :: h := by
  refine (rBit_any e z b v h hv hok).mono ?_
  rintro r q ⟨v', rfl, hr⟩
  rw [hf] at hr
  cases hr with
  | new o A => exact ⟨A, rfl, rfl⟩
end Go.Proofs.Ytgooffiipnkmiaa
end
section
set_option linter.unusedVariables false
set_option linter.unusedSimpArgs false
set_option maxRecDepth 4000
namespace Go.Proofs.Ytgooffiipnkmiaa
open Go.Gh Go.RowKit

theorem rFinish_any (e : Enc) (v : Value) (h : SH) (hv : RO h e.out v) (ho : e.out.length ≤ 1000000) (hl : 0 ≤ e.low ∧ e.low ≤ 4294967295) :
    SRun Try.prog 72 [reV v e.low e.size] h fun r q => r = S (fin e) ∧ q = h := by
  rcases hv with ⟨e0, rfl⟩ | ⟨A', h1, rfl, hp⟩
  · refine w_body1 Try.func72 rfl rfl ?_
    repeat' (first | apply w_seq | apply w_region | apply o_nil | (apply o_g tyOk; exact rfl; exact rfl) | (apply o_ar tyOk; exact rfl; exact rfl) | (apply o_ex; exact rfl; exact rfl) | (apply o_load tyOk; (iterate 3 exact rfl); (focus (exact pk))) | (apply o_box (tt := tyT); iterate 5 exact rfl) | (apply o_buildSlice tyOk; (iterate 5 exact rfl); (focus (decide)); exact rfl; (focus (decide)); (focus (repeat (first | exact CatR.nil | exact CatR.last rfl | (apply CatR.one; exact rfl; exact rfl) | (apply CatR.agg; exact rfl)))); exact rfl) | (apply o_toString tyOk; (iterate 6 exact rfl); (focus (exact pk))) | (apply o_toString_nil tyOk; iterate 7 exact rfl) | apply thenS_normal | apply w_ret | ((with_reducible apply Sd.mk); (first | exact True.intro | omega | (constructor <;> first | omega | (unfold maxLen; omega)) | (unfold maxLen; omega) | (simp only [tail4_len, List.length_nil]; omega))) | ((with_reducible apply Ln.mk); (first | rfl | exact ‹_› | omega | (simp [tail4_len]; first | done | omega))) | ((with_reducible apply Wr.mk); (first | exact w_quoI (by omega) (by omega) | exact w_and1 _ | exact IntWalk.i64_in _ (by omega) | exact IntWalk.u8_in _ (by omega) | exact IntWalk.u32_in _ (by omega) | exact IntWalk.u64_in _ (by omega) | exact IntKind.wrap_u8 _ | exact IntKind.wrap_u32 _ | rfl)) | ((with_reducible apply Ex.mk); (first | exact Int.tmod_eq_emod_of_nonneg (by omega) | exact ex8i _ | exact ex16i _ | exact ex24i _ | exact ex_shrk (by omega) | rfl)) | ((with_reducible apply Ce.mk); (first | rfl | exact ‹_› | exact cell_recZ (fun _ => rfl) (by omega) (by decide) rfl | exact cell_rec (fun _ => rfl) (by omega) (by decide) rfl | exact cell_bytes (by omega) | exact cell_mapZ (by omega) | exact cell_map (by omega))) | ((with_reducible apply Su.mk); (first | exact subAt_tail (by omega) | exact subAt_all | exact subAt_recZ (fun _ => rfl) (by omega) | exact subAt_rec (fun _ => rfl) (by omega))) | exact True.intro | intro A | exact rfl)
    (apply s_fin; (exact (show ResS _ _ _ _ [_] from ⟨rfl, trivial⟩)); (focus (exact ⟨by unfold fin; rw [e0]; rfl, rfl⟩)); (focus (repeat (first | with_reducible exact Take.nil | with_reducible apply Take.c | ((with_reducible apply Take.cE); (first | exact rfl | (apply blkE; (focus (first | exact rfl | exact recs_snocE rfl | exact map_snocE rfl | exact congrArg (fun v => [v]) (gslE rfl rfl (by first | rfl | exact ‹_› | omega | (simp [tail4_len]; first | done | omega)) (by first | rfl | exact ‹_› | omega | (simp [tail4_len]; first | done | omega)) rfl)))))) | with_reducible apply Take.drop))))
  · refine w_body1 Try.func72 rfl rfl ?_
    repeat' (first | apply w_seq | apply w_region | apply o_nil | (apply o_g tyOk; exact rfl; exact rfl) | (apply o_ar tyOk; exact rfl; exact rfl) | (apply o_ex; exact rfl; exact rfl) | (apply o_load tyOk; (iterate 3 exact rfl); (focus (exact pk))) | (apply o_box (tt := tyT); iterate 5 exact rfl) | (apply o_buildSlice tyOk; (iterate 5 exact rfl); (focus (decide)); exact rfl; (focus (decide)); (focus (repeat (first | exact CatR.nil | exact CatR.last rfl | (apply CatR.one; exact rfl; exact rfl) | (apply CatR.agg; exact rfl)))); exact rfl) | (apply o_toString tyOk; (iterate 6 exact rfl); (focus (exact pk))) | apply thenS_normal | apply w_ret | ((with_reducible apply Sd.mk); (first | exact True.intro | omega | (constructor <;> first | omega | (unfold maxLen; omega)) | (unfold maxLen; omega) | (simp only [tail4_len, List.length_nil]; omega))) | ((with_reducible apply Ln.mk); (first | rfl | exact ‹_› | omega | (simp [tail4_len]; first | done | omega))) | ((with_reducible apply Wr.mk); (first | exact w_quoI (by omega) (by omega) | exact w_and1 _ | exact IntWalk.i64_in _ (by omega) | exact IntWalk.u8_in _ (by omega) | exact IntWalk.u32_in _ (by omega) | exact IntWalk.u64_in _ (by omega) | exact IntKind.wrap_u8 _ | exact IntKind.wrap_u32 _ | rfl)) | ((with_reducible apply Ex.mk); (first | exact Int.tmod_eq_emod_of_nonneg (by omega) | exact ex8i _ | exact ex16i _ | exact ex24i _ | exact ex_shrk (by omega) | rfl)) | ((with_reducible apply Ce.mk); (first | rfl | exact ‹_› | exact cell_recZ (fun _ => rfl) (by omega) (by decide) rfl | exact cell_rec (fun _ => rfl) (by omega) (by decide) rfl | exact cell_bytes (by omega) | exact cell_mapZ (by omega) | exact cell_map (by omega))) | ((with_reducible apply Su.mk); (first | exact subAt_tail (by omega) | exact subAt_all | exact subAt_recZ (fun _ => rfl) (by omega) | exact subAt_rec (fun _ => rfl) (by omega))) | exact True.intro | intro A | exact rfl)
    (apply s_fin; (exact (show ResS _ _ _ _ [_] from ⟨rfl, trivial⟩)); (focus (exact ⟨rfl, rfl⟩)); (focus (repeat (first | with_reducible exact Take.nil | with_reducible apply Take.c | ((with_reducible apply Take.cE); (first | exact rfl | (apply blkE; (focus (first | exact rfl | exact recs_snocE rfl | exact map_snocE rfl | exact congrArg (fun v => [v]) (gslE rfl rfl (by first | rfl | exact ‹_› | omega | (simp [tail4_len]; first | done | omega)) (by first | rfl | exact ‹_› | omega | (simp [tail4_len]; first | done | omega)) rfl)))))) | with_reducible apply Take.drop))))
/-- What Decode hands back, read. -/
theorem IsD.has {h q : SH} {x : List Int × Int} {r : Value} (d : IsD h x r q) : ∃ v, r = .tuple #[v, Er x.2] ∧ Has q (x.1.map inF) 1 x.1.length v ∧ Take q h := by
  rcases d with ⟨h1, h2, rfl, rfl⟩ | ⟨h1, A, rfl, rfl⟩
  · exact ⟨_, rfl, ⟨none, 0, by rw [h2]; rfl, fun h => absurd (by rw [h2]; rfl) h⟩, .nil⟩
  · exact ⟨_, by rw [h1], ⟨_, _, rfl, fun _ => ⟨A, false, _, by rw [Nat.one_mul], .head⟩⟩, .drop .nil⟩
end Go.Proofs.Ytgooffiipnkmiaa
end
section
set_option linter.unusedVariables false
set_option linter.unusedSimpArgs false
set_option maxRecDepth 4000
namespace Go.Proofs.Ytgooffiipnkmiaa
open Go.Gh Go.RowKit

theorem fin_len (e : Enc) : (fin e).length = e.out.length + 4 := by unfold fin; rw [List.length_append]; rfl
theorem EncB.re {n : Nat} {h h' p : SH} {e : Enc} (hb : EncB n h e p) (t : Take h h') : ∃ p', EncB n h' e p' ∧ Take p p' := by
  cases hb with
  | nil => exact ⟨_, .nil _ _, .cons .head t⟩
  | some => exact ⟨_, .some _ _ _ _, .cons .head (.cons .head t)⟩
theorem EncB.push {n : Nat} {h p : SH} {e : Enc} (hb : EncB n h e p) (x : Nat × Blk) : ∃ p', EncB n (x :: h) e p' ∧ Take (x :: p) p' := by
  cases hb with
  | nil => exact ⟨_, .nil _ _, .cons (.tail .head) .nil⟩
  | some => exact ⟨_, .some _ _ _ _, .cons (.tail .head) (.cons (.tail .head) .nil)⟩
theorem EncR.re {n : Nat} {p p' : SH} {e : Enc} (hr : EncR n p' e) (t : Take p p') : EncR n p e := by
  cases hr with
  | nil _ _ _ hp => obtain ⟨p1, g, _⟩ := t.pick hp; exact .nil _ _ _ g
  | some _ _ _ _ _ _ hp ha => obtain ⟨p1, g, _⟩ := t.pick hp; obtain ⟨p2, g2, _⟩ := t.pick ha; exact .some _ _ _ _ _ _ g g2
/-- Two encoders, in any order, over other blocks. -/
def E2 (n m : Nat) (h : SH) (e e2 : Enc) (p : SH) : Prop := ∃ q1 p', EncB m h e2 q1 ∧ EncB n q1 e p' ∧ Take p p'
theorem E2.swap {n m : Nat} {h p : SH} {e e2 : Enc} (k : E2 n m h e e2 p) : E2 m n h e2 e p := by
  obtain ⟨q1, p', h1, h2, t⟩ := k
  obtain ⟨r1, r, g1, g2, t2⟩ := h1.swap h2
  exact ⟨r1, r, g1, g2, t.trans t2⟩
theorem E2.re {n m : Nat} {h h' p : SH} {e e2 : Enc} (k : E2 n m h e e2 p) (t : Take h h') : E2 n m h' e e2 p := by
  obtain ⟨q1, p', h1, h2, t1⟩ := k
  obtain ⟨r1, g1, t2⟩ := h1.re t
  obtain ⟨r, g2, t3⟩ := h2.re t2
  exact ⟨r1, r, g1, g2, t1.trans t3⟩
theorem E2.push {n m : Nat} {h p : SH} {e e2 : Enc} (k : E2 n m h e e2 p) (x : Nat × Blk) : E2 n m (x :: h) e e2 (x :: p) := by
  obtain ⟨q1, p', h1, h2, t1⟩ := k
  obtain ⟨r1, g1, t2⟩ := h1.push x
  obtain ⟨r, g2, t3⟩ := h2.push x
  obtain ⟨r', g3, t4⟩ := g2.re t2
  exact ⟨r1, r', g1, g3, (Take.trans (h1 := x :: p') (by obtain ⟨A, b⟩ := x; exact .cons .head t1) t3).trans t4⟩
theorem E2.pick {n m : Nat} {h p : SH} {e e2 : Enc} (k : E2 n m h e e2 p) {A : Nat} {b : Blk} {h1 : SH} (hp : Pick h A b h1) : ∃ p1, Pick p A b p1 := by
  obtain ⟨q1, p', g1, g2, t1⟩ := k
  obtain ⟨r1, hp1⟩ := g1.pick hp
  obtain ⟨r2, hp2⟩ := g2.pick hp1
  obtain ⟨r3, hp3, _⟩ := t1.pick hp2
  exact ⟨r3, hp3⟩
theorem E2.r {n m : Nat} {h p : SH} {e e2 : Enc} (k : E2 n m h e e2 p) : EncR n p e := by
  obtain ⟨q1, p', g1, g2, t1⟩ := k
  exact g2.r.re t1
theorem E2.take {n m : Nat} {h p : SH} {e e2 : Enc} (k : E2 n m h e e2 p) : Take p h := by
  obtain ⟨q1, p', g1, g2, t1⟩ := k
  exact t1.trans (g2.take.trans g1.take)
end Go.Proofs.Ytgooffiipnkmiaa
end
section
set_option linter.unusedVariables false
set_option linter.unusedSimpArgs false
set_option maxRecDepth 4000
namespace Go.Proofs.Ytgooffiipnkmiaa
open Go.Gh Go.RowKit

structure Sz (N : Nat) (s k : Nat) : Prop where
  hi : s * 16384 ^ N ≤ 4294967295 * 256 ^ k * 8193 ^ N
  lo : 4294967295 * 256 ^ k * 8191 ^ N ≤ s * 16384 ^ N
theorem Sz.shift {N s k : Nat} (h : Sz N s k) : Sz N (s * 256) (k + 1) := by
  have e1 : ∀ c, 4294967295 * 256 ^ (k + 1) * c ^ N = 256 * (4294967295 * 256 ^ k * c ^ N) := fun c => by
    rw [Nat.pow_succ, Nat.mul_comm (256 ^ k) 256, ← Nat.mul_assoc, Nat.mul_comm 4294967295 256, Nat.mul_assoc 256, Nat.mul_assoc 256]
  have e2 : s * 256 * 16384 ^ N = 256 * (s * 16384 ^ N) := by rw [Nat.mul_comm s 256, Nat.mul_assoc]
  refine ⟨?_, ?_⟩
  · rw [e1, e2]; exact Nat.mul_le_mul_left _ h.hi
  · rw [e1, e2]; exact Nat.mul_le_mul_left _ h.lo
theorem sz0 : Sz 0 4294967295 0 := ⟨by decide, by decide⟩
theorem pow_small {a b : Nat} (hab : a ≤ b) (h : b ^ 1000 < 2 * a ^ 1000) {N : Nat} (hN : N ≤ 1000) : b ^ N < 2 * a ^ N := by
  rcases Nat.lt_or_ge (b ^ N) (2 * a ^ N) with k | k
  · exact k
  · exfalso
    have h1 : a ^ (1000 - N) ≤ b ^ (1000 - N) := Nat.pow_le_pow_left hab _
    have h2 := Nat.mul_le_mul k h1
    rw [Nat.mul_assoc, ← Nat.pow_add, ← Nat.pow_add, show N + (1000 - N) = 1000 by omega] at h2
    omega
theorem Sz.len {N s k : Nat} (h : Sz N s k) (hN : N ≤ 1000) (h1 : 16777216 ≤ s) (h2 : s ≤ 4294967295) : N / 8 ≤ k + 1 ∧ k ≤ N / 8 := by
  have p1 : 8193 ^ N < 2 * 8192 ^ N := pow_small (by decide) (by decide +kernel) hN
  have p2 : 8192 ^ N < 2 * 8191 ^ N := pow_small (by decide) (by decide +kernel) hN
  have e : 16384 ^ N = 2 ^ N * 8192 ^ N := by rw [← Nat.mul_pow]
  have e256 : 256 ^ k = 2 ^ (8 * k) := by rw [Nat.pow_mul]
  have a1 := h.hi
  have a2 := h.lo
  rw [e, e256] at a1 a2
  have q : 0 < 8192 ^ N := Nat.pow_pos (by decide)
  have q' : 0 < 8191 ^ N := Nat.pow_pos (by decide)
  generalize 8192 ^ N = x at *
  generalize 8193 ^ N = y at *
  generalize 8191 ^ N = z at *
  have b1 : 2 ^ N < 2 ^ (8 * k + 9) := by
    have c1 : 16777216 * (2 ^ N * x) ≤ s * (2 ^ N * x) := Nat.mul_le_mul_right _ h1
    have c2 : 4294967295 * 2 ^ (8 * k) * y ≤ 4294967295 * 2 ^ (8 * k) * (2 * x) := Nat.mul_le_mul_left _ (by omega)
    rcases Nat.lt_or_ge (2 ^ N) (2 ^ (8 * k + 9)) with g | g
    · exact g
    · exfalso
      have c3 : 16777216 * (2 ^ (8 * k + 9) * x) ≤ 16777216 * (2 ^ N * x) := Nat.mul_le_mul_left _ (Nat.mul_le_mul_right _ g)
      have c4 : 2 ^ (8 * k + 9) * x = 512 * (2 ^ (8 * k) * x) := by rw [Nat.pow_add, Nat.mul_comm (2 ^ (8 * k)), Nat.mul_assoc]
      have c5 : 4294967295 * 2 ^ (8 * k) * (2 * x) = 8589934590 * (2 ^ (8 * k) * x) := by rw [Nat.mul_left_comm, ← Nat.mul_assoc, ← Nat.mul_assoc, ← Nat.mul_assoc]
      have c6 : 0 < 2 ^ (8 * k) * x := Nat.mul_pos (Nat.pow_pos (by decide)) q
      omega
  have b2 : 2 ^ (8 * k) < 2 ^ (N + 1) := by
    have c1 : s * (2 ^ N * x) ≤ 4294967295 * (2 ^ N * x) := Nat.mul_le_mul_right _ h2
    have c2 : 2 ^ N * x < 2 ^ N * (2 * z) := Nat.mul_lt_mul_of_pos_left p2 (Nat.pow_pos (by decide))
    have c3 : 4294967295 * 2 ^ (8 * k) * z = 4294967295 * (2 ^ (8 * k) * z) := Nat.mul_assoc _ _ _
    have c4 : 2 ^ N * (2 * z) = 2 ^ (N + 1) * z := by rw [Nat.pow_succ, Nat.mul_assoc]
    have c5 : 2 ^ (8 * k) * z < 2 ^ (N + 1) * z := by omega
    exact Nat.lt_of_mul_lt_mul_right c5
  have d1 := (Nat.pow_lt_pow_iff_right (by decide : 1 < 2)).1 b1
  have d2 := (Nat.pow_lt_pow_iff_right (by decide : 1 < 2)).1 b2
  omega

abbrev boF (b : Bool) : List Value := [B b]
theorem boW (b : Bool) : (boF b).length = 1 := rfl
@[simp] theorem len_bos (l : List Bool) : (recs boF l).length = l.length := by rw [recs_len boW]; omega
end Go.Proofs.Ytgooffiipnkmiaa
end
section
set_option linter.unusedVariables false
set_option linter.unusedSimpArgs false
set_option maxRecDepth 4000
namespace Go.Proofs.Ytgooffiipnkmiaa
open Go.Gh Go.RowKit

def val (l : List UInt8) : Nat := l.foldl (fun a c => a * 256 + c.toNat) 0
theorem foldl_val (l : List UInt8) : ∀ a : Nat, l.foldl (fun a c => a * 256 + c.toNat) a = a * 256 ^ l.length + val l := by
  induction l with
  | nil => intro a; simp [val]
  | cons c r ih =>
    intro a
    have h1 := ih (a * 256 + c.toNat)
    have h2 := ih (0 * 256 + c.toNat)
    simp only [List.foldl_cons, List.length_cons]
    rw [h1, show val (c :: r) = (0 * 256 + c.toNat) * 256 ^ r.length + val r from h2, Nat.pow_succ]
    rw [Nat.add_mul, Nat.zero_mul, Nat.zero_add, Nat.mul_assoc, Nat.mul_comm 256]
    omega
theorem val_app (l m : List UInt8) : val (l ++ m) = val l * 256 ^ m.length + val m := by
  show (l ++ m).foldl _ 0 = _
  rw [List.foldl_append, foldl_val m]; rfl
theorem val_one (c : UInt8) : val [c] = c.toNat := by simp [val]
theorem val_cons (c : UInt8) (l : List UInt8) : val (c :: l) = c.toNat * 256 ^ l.length + val l := by
  have := val_app [c] l
  rw [val_one] at this; exact this
theorem b8_nat {n : Int} (h : 0 ≤ n ∧ n < 256) : ((b8 n).toNat : Int) = n := b8_val h

/-- The lower end of an encoder's interval, in units of 256^-(4 + bytes). -/
def num' (e : Enc) : Int := (val e.out : Int) * 4294967296 + e.low
theorem fin_val {e : Enc} (h : 0 ≤ e.low ∧ e.low ≤ 4294967295) : (val (fin e) : Int) = num' e := by
  unfold fin num'
  rw [val_app]
  have h4 : val (tail4 e.low) = e.low.toNat := by
    unfold tail4
    rw [val_cons, val_cons, val_cons, val_one]
    have a1 := b8_nat (n := e.low / 16777216) (by omega)
    have a2 := b8_nat (n := e.low / 65536 % 256) (by omega)
    have a3 := b8_nat (n := e.low / 256 % 256) (by omega)
    have a4 := b8_nat (n := e.low % 256) (by omega)
    simp only [List.length_cons, List.length_nil]
    omega
  rw [h4, show (tail4 e.low).length = 4 from rfl]
  omega
end Go.Proofs.Ytgooffiipnkmiaa
end
section
set_option linter.unusedVariables false
set_option linter.unusedSimpArgs false
set_option maxRecDepth 4000
namespace Go.Proofs.Ytgooffiipnkmiaa
open Go.Gh Go.RowKit

def ext (d : Dec) (c : UInt8) : Dec := ⟨d.rest ++ [c], d.code, d.size, d.missing, d.full⟩
end Go.Proofs.Ytgooffiipnkmiaa
end
section
set_option linter.unusedVariables false
set_option linter.unusedSimpArgs false
set_option maxRecDepth 4000
namespace Go.Proofs.Ytgooffiipnkmiaa
open Go.Gh Go.RowKit

/-- Steps that are put together. -/
def StI (base : SH) (l : List (Int × Int)) (v : Value) (p : SH) : Prop := (l = [] ∧ v = .slice none 0 0 ∧ p = base) ∨ ∃ A, v = gsl A 0 (2 * l.length) l.length 2 ∧ p = (A, ⟨recs stF l, false⟩) :: base
theorem StI.has {base p : SH} {l : List (Int × Int)} {v : Value} (s : StI base l v p) : Has p (recs stF l) 2 l.length v := by
  rcases s with ⟨rfl, rfl, rfl⟩ | ⟨A, rfl, rfl⟩
  · exact ⟨none, 0, rfl, fun h => absurd rfl h⟩
  · exact ⟨_, _, rfl, fun _ => ⟨A, false, _, rfl, .head⟩⟩
theorem StI.take {base p : SH} {l : List (Int × Int)} {v : Value} (s : StI base l v p) : Take p base := by
  rcases s with ⟨rfl, rfl, rfl⟩ | ⟨A, rfl, rfl⟩
  · exact .nil
  · exact .drop .nil
theorem StI.snoc {base : SH} {l : List (Int × Int)} {x : Int × Int} {A : Nat} : StI base (l ++ [x]) (gsl A 0 (2 * l.length + 1 * 2) (l.length + 1) 2) ((A, ⟨recs stF l ++ [I x.1, I x.2], false⟩) :: base) := by
  refine .inr ⟨A, gslE rfl rfl (by simp; omega) (by simp) rfl, ?_⟩
  rw [recs_snoc]
theorem StI.one {base : SH} {x : Int × Int} {A : Nat} : StI base ([] ++ [x]) (gsl A 0 (1 * 2) 1 2) ((A, ⟨[I x.1, I x.2], false⟩) :: base) := .inr ⟨A, rfl, rfl⟩
end Go.Proofs.Ytgooffiipnkmiaa
end
section
set_option linter.unusedVariables false
set_option linter.unusedSimpArgs false
set_option maxRecDepth 4000
namespace Go.Proofs.Ytgooffiipnkmiaa
open Go.Gh Go.RowKit

def pw (j : Nat) : Int := ((256 ^ j : Nat) : Int)
theorem pw_pos (j : Nat) : 0 < pw j := by
  have : 0 < 256 ^ j := Nat.pow_pos (by decide)
  unfold pw; omega
theorem pw_zero : pw 0 = 1 := rfl
theorem pw_add (i j : Nat) : pw (i + j) = pw i * pw j := by unfold pw; rw [Nat.pow_add, Int.natCast_mul]
/-- One interval within another. -/
def Within (e e' : Enc) : Prop := ∃ j, e'.out.length = e.out.length + j ∧ num' e * pw j ≤ num' e' ∧ num' e' + e'.size ≤ (num' e + e.size) * pw j
theorem Within.refl (e : Enc) : Within e e := ⟨0, rfl, by rw [pw_zero, Int.mul_one]; exact Int.le_refl _, by rw [pw_zero, Int.mul_one]; exact Int.le_refl _⟩
theorem Within.trans {e f g : Enc} (a : Within e f) (b : Within f g) : Within e g := by
  obtain ⟨i, a1, a2, a3⟩ := a
  obtain ⟨j, b1, b2, b3⟩ := b
  refine ⟨i + j, by omega, ?_, ?_⟩
  · rw [pw_add, ← Int.mul_assoc]
    exact Int.le_trans (Int.mul_le_mul_of_nonneg_right a2 (Int.le_of_lt (pw_pos j))) b2
  · rw [pw_add, ← Int.mul_assoc]
    exact Int.le_trans b3 (Int.mul_le_mul_of_nonneg_right a3 (Int.le_of_lt (pw_pos j)))
end Go.Proofs.Ytgooffiipnkmiaa
end
section
set_option linter.unusedVariables false
set_option linter.unusedSimpArgs false
set_option maxRecDepth 4000
namespace Go.Proofs.Ytgooffiipnkmiaa
open Go.Gh Go.RowKit

theorem four {D : List UInt8} (h : 4 ≤ D.length) : ∃ a b c d r, D = a :: b :: c :: d :: r := by
  match D, h with
  | a :: b :: c :: d :: r, _ => exact ⟨a, b, c, d, r, rfl⟩
end Go.Proofs.Ytgooffiipnkmiaa
end
section
set_option linter.unusedVariables false
set_option linter.unusedSimpArgs false
set_option maxRecDepth 4000
namespace Go.Proofs.Ytgooffiipnkmiaa
open Go.Gh Go.RowKit

/-- An end behind the encoder: the decoder's bytes are those of f. -/
structure Beh (D : List UInt8) (f : Enc) : Prop where
  len : D.length = f.out.length + 4
  val : (val D : Int) = num' f
  size : 0 < f.size
theorem Beh.fin {n : Nat} {f : Enc} (h : EncOk n f) : Beh (fin f) f := ⟨fin_len f, fin_val h.low, by have := h.size; omega⟩
theorem bit01 (v : Int) (k : Nat) : v / 2 ^ k % 2 = 0 ∨ v / 2 ^ k % 2 = 1 := by omega
end Go.Proofs.Ytgooffiipnkmiaa
end
section
set_option linter.unusedVariables false
set_option linter.unusedSimpArgs false
set_option maxRecDepth 4000
namespace Go.Proofs.Ytgooffiipnkmiaa
open Go.Gh Go.RowKit

theorem rNewTree_any (b : Nat) (h : SH) (hb : b ≤ 8) : SRun Try.prog 105 [I b] h fun r q =>
    ∃ A, r = gsl A 0 (2 ^ b) (2 ^ b) 1 ∧ q = (A, ⟨nodes (List.replicate (2 ^ b) 1024), false⟩) :: h := by
  obtain ⟨K, hK⟩ : ∃ K, K = 2 ^ b := ⟨_, rfl⟩
  have hK8 : K ≤ 256 := by rw [hK]; exact Nat.pow_le_pow_right (n := 2) (by decide) hb
  have hsh := shl_nat (m := 1) (b := b) (M := K) (by omega) hb (by omega)
  rw [← hK]
  refine w_body1 Try.func105 rfl rfl ?_
  repeat' (first | apply w_seq | apply w_region | apply o_nil | (apply o_g tyOk; exact rfl; exact rfl) | (apply o_buildSlice tyOk; (iterate 5 exact rfl); (focus (decide)); exact rfl; (focus (decide)); (focus (repeat (first | exact CatR.nil | exact CatR.last rfl | (apply CatR.one; exact rfl; exact rfl) | (apply CatR.agg; exact rfl)))); exact rfl) | apply thenS_normal | apply w_block | ((with_reducible apply Sd.mk); (first | exact True.intro | omega | (constructor <;> first | omega | (unfold maxLen; omega)) | (unfold maxLen; omega))) | intro A)
  refine w_loop (S := List Int) (fun x => [(0, I b), (3, gsl A 0 x.length x.length 1), (4, I x.length)]) (fun x => (A, ⟨nodes x, false⟩) :: h) (fun x => x.length ≤ K ∧ x = List.replicate x.length 1024) (fun x => K - x.length)
    [] ⟨Nat.zero_le _, rfl⟩ (by repeat' (first | exact trivial | refine ⟨rfl, ?_⟩ | refine ⟨congrArg some ?_, ?_⟩)) (by repeat (first | with_reducible exact Take.nil | with_reducible apply Take.c | ((with_reducible apply Take.cE); (first | exact rfl | (apply blkE; (focus (first | exact rfl | exact recs_snocE rfl | exact map_snocE rfl | exact congrArg (fun v => [v]) (gslE rfl rfl (by first | rfl | exact ‹_› | omega | (simp ; first | done | omega)) (by first | rfl | exact ‹_› | omega | (simp ; first | done | omega)) rfl)))))) | with_reducible apply Take.drop)) ?_
  rintro x ⟨hx, he⟩
  have hlb : (nodes x).length = x.length := by simp
  by_cases hlt : x.length < K
  · repeat' (first | apply w_seq | apply w_region | apply o_nil | (apply o_g tyOk; exact rfl; exact rfl) | (apply o_ar tyOk; exact rfl; exact rfl) | (apply o_buildSlice tyOk; (iterate 5 exact rfl); (focus (decide)); exact rfl; (focus (decide)); (focus (repeat (first | exact CatR.nil | exact CatR.last rfl | (apply CatR.one; exact rfl; exact rfl) | (apply CatR.agg; exact rfl)))); exact rfl) | (apply o_append tyOk; (iterate 5 exact rfl); (focus (exact ⟨by decide⟩)); (focus (exact up)); (focus (exact pk))) | (apply w_dT; exact rfl; (focus (first | exact ‹_› | with_reducible exact rfl | omega))) | apply thenS_normal | apply blockS_normal | apply w_skip | apply w_block | ((with_reducible apply Sd.mk); (first | exact True.intro | omega | (constructor <;> first | omega | (unfold maxLen; omega)) | (unfold maxLen; omega))) | ((with_reducible apply Ln.mk); (first | rfl | exact ‹_› | omega | (simp [hlb]; first | done | omega))) | ((with_reducible apply Wr.mk); (first | (rw [Int.one_mul] at hsh; exact hsh) | exact hsh | exact IntWalk.i64_in _ (by omega) | exact IntWalk.u8_in _ (by omega) | exact IntWalk.u32_in _ (by omega) | exact IntWalk.u64_in _ (by omega) | exact IntKind.wrap_u8 _ | exact IntKind.wrap_u32 _ | rfl)) | ((with_reducible apply Su.mk); (first | exact subAt_all | exact subAt_recZ (fun _ => rfl) (by omega) | exact subAt_rec (fun _ => rfl) (by omega))) | exact True.intro | intro A | exact rfl)
    all_goals first
      | (exfalso; omega)
      | exact ⟨x ++ [1024], ⟨by rw [List.length_append, List.length_singleton]; omega, by rw [List.length_append, List.length_singleton, List.replicate_succ', ← he]⟩, by rw [List.length_append, List.length_singleton]; omega, ⟨rfl, congrArg some (gslE rfl rfl (by simp) (by simp) rfl), congrArg some (congrArg (Value.int .i64) (by simp)), trivial⟩, .consE (.tail .head) (blkE (by simp [nodes])) (.drop .nil)⟩
      | trace_state
  · repeat' (first | apply w_seq | apply w_region | apply o_nil | (apply o_g tyOk; exact rfl; exact rfl) | (apply o_ar tyOk; exact rfl; exact rfl) | (apply w_dF; exact rfl; (focus (first | exact ‹_› | with_reducible exact rfl | omega))) | apply thenS_normal | apply thenS_exit | apply blockS_exit | apply w_ret | apply w_exit | ((with_reducible apply Sd.mk); (first | exact True.intro | omega | (constructor <;> first | omega | (unfold maxLen; omega)) | (unfold maxLen; omega))) | ((with_reducible apply Wr.mk); (first | (rw [Int.one_mul] at hsh; exact hsh) | exact hsh | exact IntWalk.i64_in _ (by omega) | exact IntWalk.u8_in _ (by omega) | exact IntWalk.u32_in _ (by omega) | exact IntWalk.u64_in _ (by omega) | exact IntKind.wrap_u8 _ | exact IntKind.wrap_u32 _ | rfl)))
    all_goals first
      | (exfalso; omega)
      | (obtain rfl : x.length = K := by omega
         (apply s_fin; (exact (show ResS _ _ _ _ [_] from ⟨rfl, trivial⟩)); (focus (exact ⟨A, rfl, by rw [← he]⟩)); (focus (repeat (first | with_reducible exact Take.nil | with_reducible apply Take.c | ((with_reducible apply Take.cE); (first | exact rfl | (apply blkE; (focus (first | exact rfl | exact recs_snocE rfl | exact map_snocE rfl | exact congrArg (fun v => [v]) (gslE rfl rfl (by first | rfl | exact ‹_› | omega | (simp ; first | done | omega)) (by first | rfl | exact ‹_› | omega | (simp ; first | done | omega)) rfl)))))) | with_reducible apply Take.drop)))))
      | trace_state
/-- A tree with a changed node. -/
theorem rset_any (A : Nat) (t : List Int) (m : Nat) (z : Int) (h h1 : SH) (hp : Pick h A ⟨nodes t, false⟩ h1) (hm : m < t.length) (hl : t.length ≤ 256) :
    SRun Try.prog 115 [gsl A 0 t.length t.length 1, I m, I z] h fun r q => ∃ B, r = gsl B 0 t.length t.length 1 ∧ q = (B, ⟨nodes (t.set m z), false⟩) :: h := by
  have hlb : (nodes t).length = t.length := by simp
  refine w_body3 Try.func115 rfl rfl ?_
  repeat' (first | apply w_seq | apply w_region | apply o_nil | (apply o_g tyOk; exact rfl; exact rfl) | (apply o_store tyOk; (iterate 4 exact rfl); (focus (exact up))) | (apply o_buildSlice tyOk; (iterate 5 exact rfl); (focus (decide)); exact rfl; (focus (decide)); (focus (repeat (first | exact CatR.nil | exact CatR.last rfl | (apply CatR.one; exact rfl; exact rfl) | (apply CatR.agg; exact rfl)))); exact rfl) | (apply o_append tyOk; (iterate 5 exact rfl); (focus (exact ⟨by decide⟩)); (focus (exact up)); (focus (exact pk))) | apply thenS_normal | apply w_ret | ((with_reducible apply Sd.mk); (first | exact True.intro | omega | (constructor <;> first | omega | (unfold maxLen; omega)) | (unfold maxLen; omega))) | ((with_reducible apply Ln.mk); (first | rfl | exact ‹_› | omega | (simp [hlb]; first | done | omega))) | ((with_reducible apply Se.mk); (first | (focus ((repeat (first | exact SetAt.zero | apply SetAt.succ)); done)) | exact setAt_bytes (by omega) (by omega) | exact setAt_mapZ (by omega) | exact setAt_map (by omega))) | ((with_reducible apply Su.mk); (first | exact subAt_all | exact subAt_recZ (fun _ => rfl) (by omega) | exact subAt_rec (fun _ => rfl) (by omega))) | exact all_map (fun _ => rfl) | exact True.intro | intro A | exact rfl)
  all_goals first
    | (exfalso; omega)
    | (apply s_fin; (exact (show ResS _ _ _ _ [_] from ⟨rfl, trivial⟩)); (focus (exact ⟨A, gslE rfl rfl (by simp) (by simp) rfl, rfl⟩)); (focus (repeat (first | with_reducible exact Take.nil | with_reducible apply Take.c | ((with_reducible apply Take.cE); (first | exact rfl | (apply blkE; (focus (first | exact rfl | exact recs_snocE rfl | exact map_snocE rfl | exact congrArg (fun v => [v]) (gslE rfl rfl (by first | rfl | exact ‹_› | omega | (simp ; first | done | omega)) (by first | rfl | exact ‹_› | omega | (simp ; first | done | omega)) rfl)))))) | with_reducible apply Take.drop))))
    | trace_state
theorem nat_and_pow (n k : Nat) : n &&& 2 ^ k = (n.testBit k).toNat * 2 ^ k := by
  refine Nat.eq_of_testBit_eq fun i => ?_
  rw [Nat.testBit_and, Nat.testBit_two_pow]
  cases hb : n.testBit k with
  | false =>
    rw [show false.toNat * 2 ^ k = 0 from Nat.zero_mul _, Nat.zero_testBit]
    by_cases e : k = i
    · subst e; rw [hb]; rfl
    · rw [decide_eq_false e, Bool.and_false]
  | true =>
    rw [show true.toNat * 2 ^ k = 2 ^ k from Nat.one_mul _, Nat.testBit_two_pow]
    by_cases e : k = i
    · subst e; rw [hb]; rfl
    · rw [decide_eq_false e, Bool.and_false]
theorem and_pow (v : Int) {k : Nat} (hk : k < 63) : IntKind.i64.wrap ((BitVec.ofInt IntKind.i64.bits v &&& BitVec.ofInt IntKind.i64.bits (2 ^ k)).toNat : Int) = v / 2 ^ k % 2 * 2 ^ k := by
  have hp : (2 : Nat) ^ k < 2 ^ 63 := Nat.pow_lt_pow_right (by decide) hk
  have h63 : (2 : Nat) ^ 63 = 9223372036854775808 := rfl
  have e1 : BitVec.ofInt 64 ((2 : Int) ^ k) = BitVec.ofNat 64 (2 ^ k) := by
    rw [show ((2 : Int) ^ k) = ((2 ^ k : Nat) : Int) by simp, BitVec.ofInt_natCast]
  have e2 : ((BitVec.ofInt 64 v &&& BitVec.ofInt 64 (2 ^ k)).toNat) = ((BitVec.ofInt 64 v).toNat.testBit k).toNat * 2 ^ k := by
    rw [e1, BitVec.toNat_and, BitVec.toNat_ofNat, Nat.mod_eq_of_lt (by omega), nat_and_pow]
  have e3 : (((BitVec.ofInt 64 v).toNat.testBit k).toNat : Int) = v / 2 ^ k % 2 := by
    rw [Nat.testBit_eq_decide_div_mod_eq, BitVec.toNat_ofInt]
    have h1 : ((v % ((2 ^ 64 : Nat) : Int)).toNat : Int) = v % ((2 ^ 64 : Nat) : Int) := Int.toNat_of_nonneg (Int.emod_nonneg _ (by decide))
    have h2 : (((v % ((2 ^ 64 : Nat) : Int)).toNat / 2 ^ k % 2 : Nat) : Int) = v / 2 ^ k % 2 := by
      rw [Int.natCast_emod, Int.natCast_ediv, h1]
      have h3 : (2 ^ 64 : Nat) = 2 ^ k * (2 * 2 ^ (63 - k)) := by
        rw [← Nat.mul_assoc, ← Nat.pow_succ, ← Nat.pow_add]; congr 1; omega
      have h4 := Int.emod_add_mul_ediv v ((2 ^ 64 : Nat) : Int)
      generalize v / ((2 ^ 64 : Nat) : Int) = q at h4
      rw [h3] at h4 ⊢
      rw [Int.natCast_mul, Int.natCast_mul] at h4 ⊢
      generalize v % (((2 ^ k : Nat) : Int) * (((2 : Nat) : Int) * ((2 ^ (63 - k) : Nat) : Int))) = r at *
      have hpos : (0 : Int) < ((2 ^ k : Nat) : Int) := by have := Nat.two_pow_pos k; omega
      rw [show ((2 : Int) ^ k) = ((2 ^ k : Nat) : Int) by simp]
      generalize ((2 ^ k : Nat) : Int) = p at *
      generalize ((2 ^ (63 - k) : Nat) : Int) = w at *
      rw [← h4, Int.mul_assoc, Int.add_mul_ediv_left _ _ (by omega)]
      have : ((2 : Nat) : Int) * w * q = 2 * (w * q) := by rw [Int.mul_assoc]; rfl
      rw [this]
      have h2' : ((2 : Nat) : Int) = 2 := rfl
      rw [h2']
      omega
    rw [← h2]
    rcases (show (v % ((2 ^ 64 : Nat) : Int)).toNat / 2 ^ k % 2 = 0 ∨ (v % ((2 ^ 64 : Nat) : Int)).toNat / 2 ^ k % 2 = 1 by omega) with g | g <;> rw [g] <;> rfl
  show IntKind.i64.wrap _ = _
  have hb := bit01 v k
  rw [show IntKind.i64.bits = 64 from rfl, e2, Int.natCast_mul, e3]
  have hc : ((2 ^ k : Nat) : Int) = 2 ^ k := by simp
  rw [hc]
  refine IntWalk.i64_in _ ?_
  have : (0 : Int) < 2 ^ k := Int.pow_pos (by decide)
  rcases hb with hb | hb <;> rw [hb] <;> omega
end Go.Proofs.Ytgooffiipnkmiaa
end
section
set_option linter.unusedVariables false
set_option linter.unusedSimpArgs false
set_option maxRecDepth 4000
namespace Go.Proofs.Ytgooffiipnkmiaa
open Go.Gh Go.RowKit

/-- Half of a power of 2, as the program counts down. -/
def hpw : Nat → Nat
  | 0 => 0
  | k + 1 => 2 ^ k
theorem hpw_half (k : Nat) : ((hpw (k + 1) : Nat) : Int) / 2 = hpw k := by
  cases k with
  | zero => rfl
  | succ k => show ((2 ^ (k + 1) : Nat) : Int) / 2 = ((2 ^ k : Nat) : Int); rw [Nat.pow_succ]; omega
theorem hpw_le {k bits : Nat} (h : k ≤ bits) (hb : bits ≤ 8) : hpw k ≤ 128 := by
  cases k with
  | zero => exact Nat.zero_le _
  | succ k => exact Nat.pow_le_pow_right (n := 2) (j := 7) (by decide) (by omega)
theorem and_hpw (v : Int) {k : Nat} (hk : k < 63) : IntKind.i64.wrap ((BitVec.ofInt IntKind.i64.bits v &&& BitVec.ofInt IntKind.i64.bits ((hpw (k + 1) : Nat) : Int)).toNat : Int) = v / 2 ^ k % 2 * ((hpw (k + 1) : Nat) : Int) := by
  have hat : ((hpw (k + 1) : Nat) : Int) = 2 ^ k := by show ((2 ^ k : Nat) : Int) = _; simp
  rw [hat]
  exact and_pow v hk
theorem way_step {k j K b : Nat} (h1 : K ≤ 2 ^ (k + 1) * j) (h2 : 2 ^ (k + 1) * (j + 1) ≤ 2 * K) (hb : b ≤ 1) : K ≤ 2 ^ k * (2 * j + b) ∧ 2 ^ k * (2 * j + b + 1) ≤ 2 * K ∧ j < K := by
  rw [Nat.pow_succ, Nat.mul_assoc] at h1 h2
  have a1 := Nat.mul_le_mul_left (2 ^ k) (show 2 * j ≤ 2 * j + b by omega)
  have a2 := Nat.mul_le_mul_left (2 ^ k) (show 2 * j + b + 1 ≤ 2 * (j + 1) by omega)
  have a3 := Nat.mul_le_mul_right (2 * (j + 1)) (Nat.one_le_two_pow (n := k))
  exact ⟨Nat.le_trans h1 a1, Nat.le_trans a2 h2, by omega⟩
end Go.Proofs.Ytgooffiipnkmiaa
end
