/- Part 8 of the proof of the law Lz77Runs: texts merged. No condition. -/
import Derived.Test.YtgooffiipnkmiaaZLz77RunsG
import Derived.Shelf.Strings.Builder1
import Derived.Shelf.Strings.Builder2
import Derived.Shelf.Strings.BuilderF
import Derived.Shelf.Strings.Prefix
import Derived.Shelf.Bits.Mul64
import Derived.Shelf.Strings.Repeat
import Derived.Test.YtgooffiipnkmiaaProg
section
set_option linter.unusedVariables false
set_option linter.unusedSimpArgs false
set_option maxRecDepth 4000
namespace Go.Proofs.Ytgooffiipnkmiaa
open Go.Gh Go.RowKit

/-- A piece is read: the models, the decoder, whether it is a literal, the piece. -/
structure Rd1 where
  x : Ms
  d : Dec
  lit : Bool
  t : Pc
def zrd (x : Ms) (d : Dec) : Rd1 :=
  if (tdec 1 x.K d 1).2.2 = 2 then
    ⟨{ x with K := (tdec 1 x.K d 1).1, P := (bdec x.P x.c (tdec 1 x.K d 1).2.1).1, c := (bdec x.P x.c (tdec 1 x.K d 1).2.1).2.2 }, (bdec x.P x.c (tdec 1 x.K d 1).2.1).2.1, true, (1, 0, (bdec x.P x.c (tdec 1 x.K d 1).2.1).2.2)⟩
  else
    ⟨{ x with K := (tdec 1 x.K d 1).1, L := (ndec x.L (tdec 1 x.K d 1).2.1).1, D := (ndec x.D (ndec x.L (tdec 1 x.K d 1).2.1).2.1).1 }, (ndec x.D (ndec x.L (tdec 1 x.K d 1).2.1).2.1).2.1, false,
      ((ndec x.L (tdec 1 x.K d 1).2.1).2.2 + 2, (ndec x.D (ndec x.L (tdec 1 x.K d 1).2.1).2.1).2.2 + 1, 0)⟩
abbrev okC (n : Nat) (o : List UInt8) (t : Pc) : Prop := 2 ≤ t.1 ∧ t.1 ≤ 273 ∧ t.1 + o.length ≤ n ∧ 1 ≤ t.2.1 ∧ t.2.1 ≤ o.length
/-- The pieces that are read behind some bytes, up to n bytes, and the decoder behind them. -/
def rdP (n : Nat) : Nat → Ms → Dec → List UInt8 → Option (List Pc × Dec)
  | 0, _, d, _ => some ([], d)
  | f + 1, x, d, o => if o.length < n then
      (if (zrd x d).lit = true ∨ okC n o (zrd x d).t then (rdP n f (zrd x d).x (zrd x d).d (estp o (zrd x d).t)).map fun r => ((zrd x d).t :: r.1, r.2) else none)
    else some ([], d)
def exps (ps : List Pc) (o : List UInt8) : List UInt8 := ps.foldl estp o
/-- What read gives. -/
def lzR (D : List UInt8) (n : Nat) : List UInt8 × Bool := match rdP n n ms0 (dnew D) [] with
  | some r => (exps r.1 [], true)
  | none => ([], false)
theorem rstp_ok {x : Ms} {d : Dec} (hx : MsOk x) (hd : DecOk d) : MsOk (zrd x d).x ∧ DecOk (zrd x d).d ∧ ((zrd x d).lit = true → (zrd x d).t.1 = 1 ∧ (zrd x d).t.2.1 = 0 ∧ 0 ≤ (zrd x d).t.2.2 ∧ (zrd x d).t.2.2 ≤ 255) ∧ ((zrd x d).lit = false → (zrd x d).t.2.2 = 0) := by
  obtain ⟨h1, h2, _⟩ := tdec_ok (k := 1) (t := x.K) (j := 1) hd
  unfold zrd
  split
  · obtain ⟨g1, g2, g3⟩ := bdec_ok (P := x.P) (c := x.c) h1 hx.P hx.c
    exact ⟨⟨h2.trans hx.K, g2, g3, hx.L, hx.D⟩, g1, fun _ => ⟨rfl, rfl, g3⟩, fun g => (by cases g)⟩
  · obtain ⟨g1, g2⟩ := ndec_ok (t := x.L) h1 hx.L
    obtain ⟨k1, k2⟩ := ndec_ok (t := x.D) g1 hx.D
    exact ⟨⟨h2.trans hx.K, hx.P, hx.c, g2, k2⟩, k1, fun g => (by cases g), fun _ => rfl⟩
theorem rdP_go {n f : Nat} {x : Ms} {d : Dec} {o : List UInt8} (h : o.length < n) (hf : n - o.length ≤ f) : ∃ f', f = f' + 1 ∧ rdP n f x d o = (if (zrd x d).lit = true ∨ okC n o (zrd x d).t then (rdP n f' (zrd x d).x (zrd x d).d (estp o (zrd x d).t)).map fun r => ((zrd x d).t :: r.1, r.2) else none) := by
  cases f with
  | zero => omega
  | succ f => exact ⟨f, rfl, if_pos h⟩
theorem rdP_end {n f : Nat} {x : Ms} {d : Dec} {o : List UInt8} (h : ¬ o.length < n) : rdP n f x d o = some ([], d) := by
  cases f with
  | zero => rfl
  | succ f => exact if_neg h
/-- A slice of bytes that grows beside a decoder and the models. -/
inductive OR (a : Mad) (s nd : Nat) (x : Ms) (d : Dec) (h : SH) : List UInt8 → Value → SH → Prop
  | nil : OR a s nd x d h [] (.slice none 0 0) (decB nd d :: msB a x ((s, ⟨setC a, false⟩) :: h))
  | some (A : Nat) (o : List UInt8) : OR a s nd x d h o (gsl A 0 o.length o.length 1) (decB nd d :: msB a x ((A, ⟨bytesV o, false⟩) :: (s, ⟨setC a, false⟩) :: h))
def outR (o : List UInt8) (r : Option (List Pc × Dec)) : List UInt8 × Bool := match r with
  | some r => (exps r.1 o, true)
  | none => ([], false)
theorem outR_map {o : List UInt8} {t : Pc} {r : Option (List Pc × Dec)} : outR o (r.map fun r => (t :: r.1, r.2)) = outR (estp o t) r := by cases r <;> rfl
theorem rstp_lit {x : Ms} {d d1 d2 : Dec} {K1 P2 : List Int} {c2 : Int} (h1 : tdec 1 x.K d 1 = (K1, d1, 2)) (h2 : bdec x.P x.c d1 = (P2, d2, c2)) : zrd x d = ⟨⟨K1, P2, c2, x.L, x.D⟩, d2, true, (1, 0, c2)⟩ := by
  unfold zrd
  rw [h1]
  dsimp only
  rw [if_pos rfl, h2]
theorem rstp_cpy {x : Ms} {d d1 d2 d3 : Dec} {j : Nat} {K1 L2 D3 : List Int} {l2 dd : Int} (h1 : tdec 1 x.K d 1 = (K1, d1, j)) (hj : j ≠ 2) (h2 : ndec x.L d1 = (L2, d2, l2)) (h3 : ndec x.D d2 = (D3, d3, dd)) : zrd x d = ⟨⟨K1, x.P, x.c, L2, D3⟩, d3, false, (l2 + 2, dd + 1, 0)⟩ := by
  unfold zrd
  rw [h1]
  dsimp only
  rw [if_neg hj, h2]
  dsimp only
  rw [h3]
theorem lzread_any (l : List UInt8) (n : Nat) (h : SH) (hl : l.length ≤ 1000000) (hn : n ≤ 4096) :
    SRun Try.prog 36 [S l, I n] h fun r q => r = .tuple #[S (lzR l n).1, B (lzR l n).2] ∧ q = h := by
  obtain ⟨R, hR⟩ : ∃ R, R = lzR l n := ⟨_, rfl⟩
  rw [← hR]
  have hR : outR [] (rdP n n ms0 (dnew l) []) = R := hR.symm
  have hd0 := dnew_ok (l := l) (by omega)
  have hND : ∀ h, SRun Try.prog 75 [S l] h fun r q => ∃ n, r = gptr n 0 5 ∧ q = decB n (dnew l) :: h := fun h => NewDecoder_any l h (by omega)
  have hNS : ∀ h, SRun Try.prog 25 [] h fun r q => ∃ a : Mad, r = .agg ⟨setC a⟩ ∧ q = msB a ms0 h := newSet_any
  have hm0 := ms0_ok
  generalize ms0 = x0 at hR hm0 hNS
  generalize dnew l = d0 at hR hd0 hND
  refine w_body2 Try.func36 rfl rfl ?_
  repeat' (first | apply w_seq | apply w_region | apply o_nil | (apply o_g tyOk; exact rfl; exact rfl) | (apply o_stores tyOk; (iterate 4 exact rfl); (focus (exact ⟨rfl⟩)); (focus (exact up))) | (apply o_alloc tyOk; iterate 5 exact rfl) | (apply o_call; exact rfl; exact rfl; (focus (first | exact rfl | assumption)); exact rfl; (focus (exact ⟨_, hNS _, by repeat (first | with_reducible exact Take.nil | with_reducible apply Take.c | with_reducible apply Take.drop)⟩)); rintro _ _ ⟨a, rfl, rfl⟩) | (apply o_call; exact rfl; exact rfl; (focus (first | exact rfl | assumption)); exact rfl; (focus (exact ⟨_, hND _, by repeat (first | with_reducible exact Take.nil | with_reducible apply Take.c | with_reducible apply Take.drop)⟩)); rintro _ _ ⟨nd, rfl, rfl⟩) | apply thenS_normal | apply w_block | ((with_reducible apply Sd.mk); (first | exact True.intro | omega | (constructor <;> first | omega | (unfold maxLen; omega)) | (unfold maxLen; omega))) | ((with_reducible apply Ln.mk); (first | rfl | exact ‹_› | omega | (simp ; first | done | omega))) | ((with_reducible apply Pu.mk); (first | exact putAt_all rfl | exact putAt_recZ (fun _ => rfl) (by omega) | exact putAt_rec (fun _ => rfl) (by omega))) | exact True.intro | intro A)
  obtain ⟨s, rfl⟩ : ∃ s, s = A := ⟨_, rfl⟩
  refine w_loop (S := Nat × Ms × Dec × List UInt8 × Value × SH) (fun y => [(1, I n), (6, gptr s 0 4), (7, gptr nd 0 5), (8, y.2.2.2.2.1)]) (fun y => y.2.2.2.2.2)
    (fun y => n - y.2.2.2.1.length ≤ y.1 ∧ MsOk y.2.1 ∧ DecOk y.2.2.1 ∧ y.2.2.2.1.length ≤ n ∧ OR a s nd y.2.1 y.2.2.1 h y.2.2.2.1 y.2.2.2.2.1 y.2.2.2.2.2 ∧ outR y.2.2.2.1 (rdP n y.1 y.2.1 y.2.2.1 y.2.2.2.1) = R) (fun y => y.1)
    (n, x0, d0, [], .slice none 0 0, decB nd d0 :: msB a x0 ((s, ⟨setC a, false⟩) :: h)) ⟨Nat.sub_le _ _, hm0, hd0, Nat.zero_le _, .nil, hR⟩ (by repeat' (first | exact trivial | refine ⟨rfl, ?_⟩ | refine ⟨congrArg some ?_, ?_⟩)) (by repeat (first | with_reducible exact Take.nil | with_reducible apply Take.c | ((with_reducible apply Take.cE); (first | exact rfl | (apply blkE; (focus (first | exact rfl | exact recs_snocE rfl | exact map_snocE rfl | exact congrArg (fun v => [v]) (gslE rfl rfl (by first | rfl | exact ‹_› | omega | (simp ; first | done | omega)) (by first | rfl | exact ‹_› | omega | (simp ; first | done | omega)) rfl)))))) | with_reducible apply Take.drop)) ?_
  rintro ⟨f, x, d, o, w, p⟩ ⟨hf, hx, hd, ho, hb, he⟩
  dsimp only at hf hx hd ho hb he ⊢
  by_cases hlt : o.length < n
  · obtain ⟨f', rfl, e⟩ := rdP_go (x := x) (d := d) hlt hf
    rw [e] at he
    clear e
    have hrs := rstp_ok hx hd
    have hK := fun h => kDecW a nd x d h hx hd
    obtain ⟨h1, h2, h3⟩ := tdec_ok (k := 1) (t := x.K) (j := 1) hd
    obtain ⟨⟨K1, d1, j⟩, hT⟩ : ∃ T, tdec 1 x.K d 1 = T := ⟨_, rfl⟩
    rw [hT] at hK h1 h2 h3
    dsimp only at hK h1 h2 h3
    have h2' := h2.trans hx.K
    by_cases hj : j = 2
    · subst hj
      have hB := fun h => bDecW a nd { x with K := K1 } d1 h ⟨h2', hx.P, hx.c, hx.L, hx.D⟩ h1
      obtain ⟨⟨P2, d2, c2⟩, hV⟩ : ∃ V, bdec x.P x.c d1 = V := ⟨_, rfl⟩
      dsimp only at hB
      rw [hV] at hB
      dsimp only at hB
      rw [rstp_lit hT hV] at he hrs
      dsimp only at he hrs
      rw [if_pos (.inl rfl), outR_map, estp_lit o rfl] at he
      have hc2 := (hrs.2.2.1 rfl).2.2
      dsimp only at hc2 he
      cases hb with
      | nil =>
        repeat' (first | apply w_seq | apply w_region | apply o_nil | (apply o_g tyOk; exact rfl; exact rfl) | (apply o_load tyOk; (iterate 3 exact rfl); (focus (exact pk))) | (apply o_buildSlice tyOk; (iterate 5 exact rfl); (focus (decide)); exact rfl; (focus (decide)); (focus (repeat (first | exact CatR.nil | exact CatR.last rfl | (apply CatR.one; exact rfl; exact rfl) | (apply CatR.agg; exact rfl)))); exact rfl) | (apply o_append_nil tyOk; (iterate 5 exact rfl); (focus (exact ⟨by decide⟩)); (focus (exact pk))) | (apply o_call; exact rfl; exact rfl; (focus (first | exact rfl | assumption)); exact rfl; (focus (exact ⟨_, hK _, by repeat (first | with_reducible exact Take.nil | with_reducible apply Take.c | with_reducible apply Take.drop)⟩)); rintro _ _ ⟨rfl, rfl⟩) | (apply o_call; exact rfl; exact rfl; (focus (first | exact rfl | assumption)); exact rfl; (focus (exact ⟨_, hB _, by repeat (first | with_reducible exact Take.nil | with_reducible apply Take.c | with_reducible apply Take.drop)⟩)); rintro _ _ ⟨rfl, rfl⟩) | (apply w_true; exact rfl) | (apply w_dT; exact rfl; (focus (first | exact ‹_› | with_reducible exact rfl | omega))) | apply thenS_normal | apply thenS_exit | apply blockS_exit | apply w_skip | apply w_exit | apply w_block | ((with_reducible apply Sd.mk); (first | exact True.intro | omega | (constructor <;> first | omega | (unfold maxLen; omega)) | (unfold maxLen; omega))) | ((with_reducible apply Ln.mk); (first | rfl | exact ‹_› | omega | (simp ; first | done | omega))) | ((with_reducible apply Ce.mk); (first | rfl | exact ‹_› | exact cell_recZ (fun _ => rfl) (by omega) (by decide) rfl | exact cell_rec (fun _ => rfl) (by omega) (by decide) rfl | exact cell_bytes (by omega) | exact cell_mapZ (by omega) | exact cell_map (by omega))) | ((with_reducible apply Su.mk); (first | exact subAt_all | exact subAt_recZ (fun _ => rfl) (by omega) | exact subAt_rec (fun _ => rfl) (by omega))) | exact True.intro | intro A | exact rfl)
        all_goals first
          | (exfalso; omega)
          | skip
        all_goals (rw [show Y c2 = byteV (byt c2) from byteV_byt hc2]; exact ⟨(f', ⟨K1, P2, c2, x.L, x.D⟩, d2, [byt c2], gsl A 0 1 1 1, decB nd d2 :: msB a ⟨K1, P2, c2, x.L, x.D⟩ ((A, ⟨bytesV [byt c2], false⟩) :: (s, ⟨setC a, false⟩) :: h)), ⟨by show n - 1 ≤ f'; simp only [List.length_nil] at hf; omega, hrs.1, hrs.2.1, by show 1 ≤ n; omega,   .some A [byt c2], he⟩, by show f' < f' + 1; omega, (by repeat' (first | exact trivial | refine ⟨rfl, ?_⟩ | refine ⟨congrArg some ?_, ?_⟩)), (by repeat (first | with_reducible exact Take.nil | with_reducible apply Take.c | ((with_reducible apply Take.cE); (first | exact rfl | (apply blkE; (focus (first | exact rfl | exact recs_snocE rfl | exact map_snocE rfl | exact congrArg (fun v => [v]) (gslE rfl rfl (by first | rfl | exact ‹_› | omega | (simp ; first | done | omega)) (by first | rfl | exact ‹_› | omega | (simp ; first | done | omega)) rfl)))))) | with_reducible apply Take.drop))⟩)
      | some A0 o =>
        repeat' (first | apply w_seq | apply w_region | apply o_nil | (apply o_g tyOk; exact rfl; exact rfl) | (apply o_load tyOk; (iterate 3 exact rfl); (focus (exact pk))) | (apply o_buildSlice tyOk; (iterate 5 exact rfl); (focus (decide)); exact rfl; (focus (decide)); (focus (repeat (first | exact CatR.nil | exact CatR.last rfl | (apply CatR.one; exact rfl; exact rfl) | (apply CatR.agg; exact rfl)))); exact rfl) | (apply o_append tyOk; (iterate 5 exact rfl); (focus (exact ⟨by decide⟩)); (focus (exact up)); (focus (exact pk))) | (apply o_call; exact rfl; exact rfl; (focus (first | exact rfl | assumption)); exact rfl; (focus (exact ⟨_, hK _, by repeat (first | with_reducible exact Take.nil | with_reducible apply Take.c | with_reducible apply Take.drop)⟩)); rintro _ _ ⟨rfl, rfl⟩) | (apply o_call; exact rfl; exact rfl; (focus (first | exact rfl | assumption)); exact rfl; (focus (exact ⟨_, hB _, by repeat (first | with_reducible exact Take.nil | with_reducible apply Take.c | with_reducible apply Take.drop)⟩)); rintro _ _ ⟨rfl, rfl⟩) | (apply w_true; exact rfl) | (apply w_dT; exact rfl; (focus (first | exact ‹_› | with_reducible exact rfl | omega))) | apply thenS_normal | apply thenS_exit | apply blockS_exit | apply w_skip | apply w_exit | apply w_block | ((with_reducible apply Sd.mk); (first | exact True.intro | omega | (constructor <;> first | omega | (unfold maxLen; omega)) | (unfold maxLen; omega))) | ((with_reducible apply Ln.mk); (first | rfl | exact ‹_› | omega | (simp ; first | done | omega))) | ((with_reducible apply Ce.mk); (first | rfl | exact ‹_› | exact cell_recZ (fun _ => rfl) (by omega) (by decide) rfl | exact cell_rec (fun _ => rfl) (by omega) (by decide) rfl | exact cell_bytes (by omega) | exact cell_mapZ (by omega) | exact cell_map (by omega))) | ((with_reducible apply Su.mk); (first | exact subAt_all | exact subAt_recZ (fun _ => rfl) (by omega) | exact subAt_rec (fun _ => rfl) (by omega))) | exact True.intro | intro A | exact rfl)
        all_goals first
          | (exfalso; omega)
          | skip
        all_goals
          (rw [show Y c2 = byteV (byt c2) from byteV_byt hc2]
           exact ⟨(f', ⟨K1, P2, c2, x.L, x.D⟩, d2, o ++ [byt c2], gsl A0 0 (o ++ [byt c2]).length (o ++ [byt c2]).length 1, decB nd d2 :: msB a ⟨K1, P2, c2, x.L, x.D⟩ ((A0, ⟨bytesV (o ++ [byt c2]), false⟩) :: (s, ⟨setC a, false⟩) :: h)), ⟨by show n - (o ++ [byt c2]).length ≤ f'; rw [List.length_append, List.length_singleton]; omega, hrs.1, hrs.2.1, by show (o ++ [byt c2]).length ≤ n; rw [List.length_append, List.length_singleton]; omega, .some A0 (o ++ [byt c2]), he⟩, by show f' < f' + 1; omega,
               ⟨rfl, rfl, rfl, congrArg some (gslE rfl rfl (by simp) (by simp) rfl), trivial⟩, (by repeat (first | with_reducible exact Take.nil | with_reducible apply Take.c | ((with_reducible apply Take.cE); (first | exact rfl | (apply blkE; (focus (first | exact rfl | exact recs_snocE rfl | exact map_snocE rfl | exact congrArg (fun v => [v]) (gslE rfl rfl (by first | rfl | exact ‹_› | omega | (simp ; first | done | omega)) (by first | rfl | exact ‹_› | omega | (simp ; first | done | omega)) rfl)))))) | with_reducible apply Take.drop))⟩)
    · have hx1 : MsOk { x with K := K1 } := ⟨h2', hx.P, hx.c, hx.L, hx.D⟩
      have hL := fun h => lDecW a nd { x with K := K1 } d1 h hx1 h1
      obtain ⟨⟨L2, d2, l2⟩, hV⟩ : ∃ V, ndec x.L d1 = V := ⟨_, rfl⟩
      have okL := ndec_ok (t := x.L) h1 hx.L
      dsimp only at hL
      rw [hV] at hL okL
      dsimp only at hL okL
      have hD := fun h => dDecW a nd { x with K := K1, L := L2 } d2 h ⟨h2', hx.P, hx.c, okL.2, hx.D⟩ okL.1
      obtain ⟨⟨D3, d3, dd⟩, hW⟩ : ∃ V, ndec x.D d2 = V := ⟨_, rfl⟩
      dsimp only at hD
      rw [hW] at hD
      dsimp only at hD
      rw [rstp_cpy hT hj hV hW] at he hrs
      dsimp only at he hrs
      have hj3 : (j : Int) - 2 ≠ 0 := by omega
      cases hb with
      | nil =>
        rw [if_neg (by rintro (g | g); cases g; unfold okC at g; simp only [List.length_nil] at g; omega)] at he
        repeat' (first | apply w_seq | apply w_region | apply o_nil | (apply w_draw; (focus (kernel_rfl)); (focus (kernel_rfl))) | (apply o_g tyOk; exact rfl; exact rfl) | (apply o_ar tyOk; exact rfl; exact rfl) | (apply o_load tyOk; (iterate 3 exact rfl); (focus (exact pk))) | (apply o_call; exact rfl; exact rfl; (focus (first | exact rfl | assumption)); exact rfl; (focus (exact ⟨_, hK _, by repeat (first | with_reducible exact Take.nil | with_reducible apply Take.c | with_reducible apply Take.drop)⟩)); rintro _ _ ⟨rfl, rfl⟩) | (apply o_callE0; (iterate 4 exact rfl); (focus (exact ⟨hL _, by repeat (first | with_reducible exact Take.nil | with_reducible apply Take.c | with_reducible apply Take.drop)⟩)); (focus (first | exact List.Perm.refl _ | (simp; done) | exact List.Perm.swap _ _ _)); (focus ((intro ρ D hρ hD; refine ⟨?_, ?_⟩; (focus (repeat (first | exact VR.const rfl | (apply VR.ptr'; (focus (first | exact e1 | exact e2 | exact e3 | ((apply rho_pick hρ); (exact pk)))); (focus (first | exact d1 | exact d2 | exact d3 | ((apply dom_pick hD); (exact pk))))) | (apply VR.slc'; (focus (first | exact e1 | exact e2 | exact e3 | ((apply rho_pick hρ); (exact pk)))); (focus (first | exact d1 | exact d2 | exact d3 | ((apply dom_pick hD); (exact pk))))) | exact VR.sdead | apply VRs.tuple | apply VRs.agg | exact VRs.nil | ((apply VRs.const); (focus (first | exact bytesV_const _ | exact map_const (fun _ => rfl) | exact recs_const (fun _ v hv => by simp only [List.mem_cons, List.not_mem_nil, or_false] at hv; rcases hv with rfl | rfl | rfl | rfl | rfl <;> rfl)))) | apply VRs.cons))); (focus (repeat (first | exact SHR.nil | ((apply SHR.same); (focus (intro x hx; (repeat (first | exact hx | apply List.mem_cons_of_mem)); done))) | ((apply SHR.keep); (focus ((repeat (first | with_reducible exact List.mem_cons_self | apply List.mem_cons_of_mem)); done))) | (apply SHR.cons; (focus (first | exact e1 | exact e2 | exact e3 | ((apply rho_pick hρ); (exact pk)))); (focus (repeat (first | exact VR.const rfl | (apply VR.ptr'; (focus (first | exact e1 | exact e2 | exact e3 | ((apply rho_pick hρ); (exact pk)))); (focus (first | exact d1 | exact d2 | exact d3 | ((apply dom_pick hD); (exact pk))))) | (apply VR.slc'; (focus (first | exact e1 | exact e2 | exact e3 | ((apply rho_pick hρ); (exact pk)))); (focus (first | exact d1 | exact d2 | exact d3 | ((apply dom_pick hD); (exact pk))))) | exact VR.sdead | apply VRs.tuple | apply VRs.agg | exact VRs.nil | ((apply VRs.const); (focus (first | exact bytesV_const _ | exact map_const (fun _ => rfl) | exact recs_const (fun _ v hv => by simp only [List.mem_cons, List.not_mem_nil, or_false] at hv; rcases hv with rfl | rfl | rfl | rfl | rfl <;> rfl)))) | apply VRs.cons))))))))))) | (apply o_callE0; (iterate 4 exact rfl); (focus (exact ⟨hD _, by repeat (first | with_reducible exact Take.nil | with_reducible apply Take.c | with_reducible apply Take.drop)⟩)); (focus (first | exact List.Perm.refl _ | (simp; done) | exact List.Perm.swap _ _ _)); (focus ((intro ρ D hρ hD; refine ⟨?_, ?_⟩; (focus (repeat (first | exact VR.const rfl | (apply VR.ptr'; (focus (first | exact e1 | exact e2 | exact e3 | ((apply rho_pick hρ); (exact pk)))); (focus (first | exact d1 | exact d2 | exact d3 | ((apply dom_pick hD); (exact pk))))) | (apply VR.slc'; (focus (first | exact e1 | exact e2 | exact e3 | ((apply rho_pick hρ); (exact pk)))); (focus (first | exact d1 | exact d2 | exact d3 | ((apply dom_pick hD); (exact pk))))) | exact VR.sdead | apply VRs.tuple | apply VRs.agg | exact VRs.nil | ((apply VRs.const); (focus (first | exact bytesV_const _ | exact map_const (fun _ => rfl) | exact recs_const (fun _ v hv => by simp only [List.mem_cons, List.not_mem_nil, or_false] at hv; rcases hv with rfl | rfl | rfl | rfl | rfl <;> rfl)))) | apply VRs.cons))); (focus (repeat (first | exact SHR.nil | ((apply SHR.same); (focus (intro x hx; (repeat (first | exact hx | apply List.mem_cons_of_mem)); done))) | ((apply SHR.keep); (focus ((repeat (first | with_reducible exact List.mem_cons_self | apply List.mem_cons_of_mem)); done))) | (apply SHR.cons; (focus (first | exact e1 | exact e2 | exact e3 | ((apply rho_pick hρ); (exact pk)))); (focus (repeat (first | exact VR.const rfl | (apply VR.ptr'; (focus (first | exact e1 | exact e2 | exact e3 | ((apply rho_pick hρ); (exact pk)))); (focus (first | exact d1 | exact d2 | exact d3 | ((apply dom_pick hD); (exact pk))))) | (apply VR.slc'; (focus (first | exact e1 | exact e2 | exact e3 | ((apply rho_pick hρ); (exact pk)))); (focus (first | exact d1 | exact d2 | exact d3 | ((apply dom_pick hD); (exact pk))))) | exact VR.sdead | apply VRs.tuple | apply VRs.agg | exact VRs.nil | ((apply VRs.const); (focus (first | exact bytesV_const _ | exact map_const (fun _ => rfl) | exact recs_const (fun _ v hv => by simp only [List.mem_cons, List.not_mem_nil, or_false] at hv; rcases hv with rfl | rfl | rfl | rfl | rfl <;> rfl)))) | apply VRs.cons))))))))))) | (apply o_want; exact rfl; exact rfl) | (apply o_skip; iterate 4 exact rfl) | (apply o_guardF; (iterate 3 exact rfl); all_goals intro hc) | (apply w_true; exact rfl) | (apply w_dT; exact rfl; (focus (first | exact ‹_› | with_reducible exact rfl | omega))) | (apply w_dF; exact rfl; (focus (first | exact ‹_› | with_reducible exact rfl | omega))) | apply thenS_normal | apply thenS_ret | apply blockS_ret | apply w_skip | apply w_ret | apply w_block | ((with_reducible apply Sd.mk); (first | exact True.intro | omega | (constructor <;> first | omega | (unfold maxLen; omega)) | (unfold maxLen; omega))) | ((with_reducible apply Ln.mk); (first | rfl | exact ‹_› | omega | (simp ; first | done | omega))) | ((with_reducible apply Wr.mk); (first | exact IntWalk.i64_in _ (by omega) | exact IntWalk.u8_in _ (by omega) | exact IntWalk.u32_in _ (by omega) | exact IntWalk.u64_in _ (by omega) | exact IntKind.wrap_u8 _ | exact IntKind.wrap_u32 _ | rfl)) | ((with_reducible apply Ce.mk); (first | rfl | exact ‹_› | exact cell_recZ (fun _ => rfl) (by omega) (by decide) rfl | exact cell_rec (fun _ => rfl) (by omega) (by decide) rfl | exact cell_bytes (by omega) | exact cell_mapZ (by omega) | exact cell_map (by omega))) | exact True.intro | refine Rc.mk ⟨_, _, pk, ?_⟩ | exact Or.inl rfl | refine Or.inr (And.intro ?_ ?_) | apply And.intro | exact rfl)
        all_goals first
          | (exfalso; omega)
          | (apply s_fin; (exact (show ResS _ _ _ _ [_, _] from ⟨rfl, ⟨rfl, trivial⟩⟩)); (focus (exact ⟨by rw [← he]; rfl, rfl⟩)); (focus (repeat (first | with_reducible exact Take.nil | with_reducible apply Take.c | ((with_reducible apply Take.cE); (first | exact rfl | (apply blkE; (focus (first | exact rfl | exact recs_snocE rfl | exact map_snocE rfl | exact congrArg (fun v => [v]) (gslE rfl rfl (by first | rfl | exact ‹_› | omega | (simp ; first | done | omega)) (by first | rfl | exact ‹_› | omega | (simp ; first | done | omega)) rfl)))))) | with_reducible apply Take.drop))))
          | trace_state
      | some A0 o =>
        repeat' (first | apply w_seq | apply w_region | apply o_nil | (apply w_draw; (focus (kernel_rfl)); (focus (kernel_rfl))) | (apply o_g tyOk; exact rfl; exact rfl) | (apply o_ar tyOk; exact rfl; exact rfl) | (apply o_load tyOk; (iterate 3 exact rfl); (focus (exact pk))) | (apply o_call; exact rfl; exact rfl; (focus (first | exact rfl | assumption)); exact rfl; (focus (exact ⟨_, hK _, by repeat (first | with_reducible exact Take.nil | with_reducible apply Take.c | with_reducible apply Take.drop)⟩)); rintro _ _ ⟨rfl, rfl⟩) | (apply o_callE0; (iterate 4 exact rfl); (focus (exact ⟨hL _, by repeat (first | with_reducible exact Take.nil | with_reducible apply Take.c | with_reducible apply Take.drop)⟩)); (focus (first | exact List.Perm.refl _ | (simp; done) | exact List.Perm.swap _ _ _)); (focus ((intro ρ D hρ hD; refine ⟨?_, ?_⟩; (focus (repeat (first | exact VR.const rfl | (apply VR.ptr'; (focus (first | exact e1 | exact e2 | exact e3 | ((apply rho_pick hρ); (exact pk)))); (focus (first | exact d1 | exact d2 | exact d3 | ((apply dom_pick hD); (exact pk))))) | (apply VR.slc'; (focus (first | exact e1 | exact e2 | exact e3 | ((apply rho_pick hρ); (exact pk)))); (focus (first | exact d1 | exact d2 | exact d3 | ((apply dom_pick hD); (exact pk))))) | exact VR.sdead | apply VRs.tuple | apply VRs.agg | exact VRs.nil | ((apply VRs.const); (focus (first | exact bytesV_const _ | exact map_const (fun _ => rfl) | exact recs_const (fun _ v hv => by simp only [List.mem_cons, List.not_mem_nil, or_false] at hv; rcases hv with rfl | rfl | rfl | rfl | rfl <;> rfl)))) | apply VRs.cons))); (focus (repeat (first | exact SHR.nil | ((apply SHR.same); (focus (intro x hx; (repeat (first | exact hx | apply List.mem_cons_of_mem)); done))) | ((apply SHR.keep); (focus ((repeat (first | with_reducible exact List.mem_cons_self | apply List.mem_cons_of_mem)); done))) | (apply SHR.cons; (focus (first | exact e1 | exact e2 | exact e3 | ((apply rho_pick hρ); (exact pk)))); (focus (repeat (first | exact VR.const rfl | (apply VR.ptr'; (focus (first | exact e1 | exact e2 | exact e3 | ((apply rho_pick hρ); (exact pk)))); (focus (first | exact d1 | exact d2 | exact d3 | ((apply dom_pick hD); (exact pk))))) | (apply VR.slc'; (focus (first | exact e1 | exact e2 | exact e3 | ((apply rho_pick hρ); (exact pk)))); (focus (first | exact d1 | exact d2 | exact d3 | ((apply dom_pick hD); (exact pk))))) | exact VR.sdead | apply VRs.tuple | apply VRs.agg | exact VRs.nil | ((apply VRs.const); (focus (first | exact bytesV_const _ | exact map_const (fun _ => rfl) | exact recs_const (fun _ v hv => by simp only [List.mem_cons, List.not_mem_nil, or_false] at hv; rcases hv with rfl | rfl | rfl | rfl | rfl <;> rfl)))) | apply VRs.cons))))))))))) | (apply o_callE0; (iterate 4 exact rfl); (focus (exact ⟨hD _, by repeat (first | with_reducible exact Take.nil | with_reducible apply Take.c | with_reducible apply Take.drop)⟩)); (focus (first | exact List.Perm.refl _ | (simp; done) | exact List.Perm.swap _ _ _)); (focus ((intro ρ D hρ hD; refine ⟨?_, ?_⟩; (focus (repeat (first | exact VR.const rfl | (apply VR.ptr'; (focus (first | exact e1 | exact e2 | exact e3 | ((apply rho_pick hρ); (exact pk)))); (focus (first | exact d1 | exact d2 | exact d3 | ((apply dom_pick hD); (exact pk))))) | (apply VR.slc'; (focus (first | exact e1 | exact e2 | exact e3 | ((apply rho_pick hρ); (exact pk)))); (focus (first | exact d1 | exact d2 | exact d3 | ((apply dom_pick hD); (exact pk))))) | exact VR.sdead | apply VRs.tuple | apply VRs.agg | exact VRs.nil | ((apply VRs.const); (focus (first | exact bytesV_const _ | exact map_const (fun _ => rfl) | exact recs_const (fun _ v hv => by simp only [List.mem_cons, List.not_mem_nil, or_false] at hv; rcases hv with rfl | rfl | rfl | rfl | rfl <;> rfl)))) | apply VRs.cons))); (focus (repeat (first | exact SHR.nil | ((apply SHR.same); (focus (intro x hx; (repeat (first | exact hx | apply List.mem_cons_of_mem)); done))) | ((apply SHR.keep); (focus ((repeat (first | with_reducible exact List.mem_cons_self | apply List.mem_cons_of_mem)); done))) | (apply SHR.cons; (focus (first | exact e1 | exact e2 | exact e3 | ((apply rho_pick hρ); (exact pk)))); (focus (repeat (first | exact VR.const rfl | (apply VR.ptr'; (focus (first | exact e1 | exact e2 | exact e3 | ((apply rho_pick hρ); (exact pk)))); (focus (first | exact d1 | exact d2 | exact d3 | ((apply dom_pick hD); (exact pk))))) | (apply VR.slc'; (focus (first | exact e1 | exact e2 | exact e3 | ((apply rho_pick hρ); (exact pk)))); (focus (first | exact d1 | exact d2 | exact d3 | ((apply dom_pick hD); (exact pk))))) | exact VR.sdead | apply VRs.tuple | apply VRs.agg | exact VRs.nil | ((apply VRs.const); (focus (first | exact bytesV_const _ | exact map_const (fun _ => rfl) | exact recs_const (fun _ v hv => by simp only [List.mem_cons, List.not_mem_nil, or_false] at hv; rcases hv with rfl | rfl | rfl | rfl | rfl <;> rfl)))) | apply VRs.cons))))))))))) | (apply o_want; exact rfl; exact rfl) | (apply o_skip; iterate 4 exact rfl) | (apply o_guardF; (iterate 3 exact rfl); all_goals intro hc) | (apply w_true; exact rfl) | (apply w_dT; exact rfl; (focus (first | exact ‹_› | with_reducible exact rfl | omega))) | (apply w_dF; exact rfl; (focus (first | exact ‹_› | with_reducible exact rfl | omega))) | (apply w_if; exact rfl; all_goals intro hc) | apply thenS_normal | apply thenS_ret | apply blockS_ret | apply w_skip | apply w_ret | apply w_block | ((with_reducible apply Sd.mk); (first | exact True.intro | omega | (constructor <;> first | omega | (unfold maxLen; omega)) | (unfold maxLen; omega))) | ((with_reducible apply Ln.mk); (first | rfl | exact ‹_› | omega | (simp ; first | done | omega))) | ((with_reducible apply Wr.mk); (first | exact IntWalk.i64_in _ (by omega) | exact IntWalk.u8_in _ (by omega) | exact IntWalk.u32_in _ (by omega) | exact IntWalk.u64_in _ (by omega) | exact IntKind.wrap_u8 _ | exact IntKind.wrap_u32 _ | rfl)) | ((with_reducible apply Ce.mk); (first | rfl | exact ‹_› | exact cell_recZ (fun _ => rfl) (by omega) (by decide) rfl | exact cell_rec (fun _ => rfl) (by omega) (by decide) rfl | exact cell_bytes (by omega) | exact cell_mapZ (by omega) | exact cell_map (by omega))) | exact True.intro | refine Rc.mk ⟨_, _, pk, ?_⟩ | exact Or.inl rfl | refine Or.inr (And.intro ?_ ?_) | apply And.intro | exact rfl)
        all_goals first
          | (exfalso; omega)
          | (rw [if_neg (by rintro (g | g); cases g; unfold okC at g; dsimp only at g; omega)] at he; (apply s_fin; (exact (show ResS _ _ _ _ [_, _] from ⟨rfl, ⟨rfl, trivial⟩⟩)); (focus (exact ⟨by rw [← he]; rfl, rfl⟩)); (focus (repeat (first | with_reducible exact Take.nil | with_reducible apply Take.c | ((with_reducible apply Take.cE); (first | exact rfl | (apply blkE; (focus (first | exact rfl | exact recs_snocE rfl | exact map_snocE rfl | exact congrArg (fun v => [v]) (gslE rfl rfl (by first | rfl | exact ‹_› | omega | (simp ; first | done | omega)) (by first | rfl | exact ‹_› | omega | (simp ; first | done | omega)) rfl)))))) | with_reducible apply Take.drop)))))
          | skip
        have hg : 2 ≤ l2 + 2 ∧ l2 + 2 ≤ 273 ∧ l2 + 2 + o.length ≤ n ∧ 1 ≤ dd + 1 ∧ dd + 1 ≤ o.length := by omega
        rw [if_pos (.inr hg), outR_map, estp_cpy o (by show dd + 1 ≠ 0; omega)] at he
        dsimp only at he
        obtain ⟨N, hN⟩ : ∃ N, N = (l2 + 2).toNat := ⟨_, rfl⟩
        obtain ⟨D, hDD⟩ : ∃ D, D = (dd + 1).toNat := ⟨_, rfl⟩
        rw [← hN, ← hDD] at he
        refine w_loop (S := Nat × List UInt8) (fun y => [(1, I n), (6, gptr s 0 4), (7, gptr nd 0 5), (8, gsl A0 0 y.2.length y.2.length 1), (10, I dd), (64, I (l2 + 2)), (65, I y.1)])
          (fun y => decB nd d3 :: msB a ⟨K1, x.P, x.c, L2, D3⟩ ((A0, ⟨bytesV y.2, false⟩) :: (s, ⟨setC a, false⟩) :: h))
          (fun y => y.1 ≤ N ∧ y.2.length = o.length + y.1 ∧ copyN D (N - y.1) y.2 = copyN D N o) (fun y => N - y.1) (0, o) ⟨Nat.zero_le _, rfl, rfl⟩ (by repeat' (first | exact trivial | refine ⟨rfl, ?_⟩ | refine ⟨congrArg some ?_, ?_⟩)) (by repeat (first | with_reducible exact Take.nil | with_reducible apply Take.c | ((with_reducible apply Take.cE); (first | exact rfl | (apply blkE; (focus (first | exact rfl | exact recs_snocE rfl | exact map_snocE rfl | exact congrArg (fun v => [v]) (gslE rfl rfl (by first | rfl | exact ‹_› | omega | (simp ; first | done | omega)) (by first | rfl | exact ‹_› | omega | (simp ; first | done | omega)) rfl)))))) | with_reducible apply Take.drop)) ?_
        rintro ⟨k, o2⟩ ⟨hk, hol, hcp⟩
        dsimp only at hk hol hcp ⊢
        by_cases hkN : k < N
        · rw [show N - k = (N - (k + 1)) + 1 by omega, copyN] at hcp
          have hbt : Value.int .u8 (bat o2 ((o2.length : Int) - dd - 1)) = byteV o2[o2.length - D]! := by
            show _ = Value.int .u8 _
            congr 1
            unfold bat
            rw [show ((o2.length : Int) - dd - 1).toNat = o2.length - D by omega, List.getD_eq_getElem?_getD, getElem!_pos o2 _ (by omega), List.getElem?_eq_getElem (by omega)]; rfl
          repeat' (first | apply w_seq | apply w_region | apply o_nil | (apply o_g tyOk; exact rfl; exact rfl) | (apply o_ar tyOk; exact rfl; exact rfl) | (apply o_load tyOk; (iterate 3 exact rfl); (focus (exact pk))) | (apply o_buildSlice tyOk; (iterate 5 exact rfl); (focus (decide)); exact rfl; (focus (decide)); (focus (repeat (first | exact CatR.nil | exact CatR.last rfl | (apply CatR.one; exact rfl; exact rfl) | (apply CatR.agg; exact rfl)))); exact rfl) | (apply o_append tyOk; (iterate 5 exact rfl); (focus (exact ⟨by decide⟩)); (focus (exact up)); (focus (exact pk))) | (apply w_dT; exact rfl; (focus (first | exact ‹_› | with_reducible exact rfl | omega))) | apply thenS_normal | apply blockS_normal | apply w_skip | apply w_block | ((with_reducible apply Sd.mk); (first | exact True.intro | omega | (constructor <;> first | omega | (unfold maxLen; omega)) | (unfold maxLen; omega))) | ((with_reducible apply Ln.mk); (first | rfl | exact ‹_› | omega | (simp ; first | done | omega))) | ((with_reducible apply Wr.mk); (first | exact IntWalk.i64_in _ (by omega) | exact IntWalk.u8_in _ (by omega) | exact IntWalk.u32_in _ (by omega) | exact IntWalk.u64_in _ (by omega) | exact IntKind.wrap_u8 _ | exact IntKind.wrap_u32 _ | rfl)) | ((with_reducible apply Ce.mk); (first | rfl | exact ‹_› | exact cell_recZ (fun _ => rfl) (by omega) (by decide) rfl | exact cell_rec (fun _ => rfl) (by omega) (by decide) rfl | exact cell_bytes (by omega) | exact cell_mapZ (by omega) | exact cell_map (by omega))) | ((with_reducible apply Su.mk); (first | exact subAt_all | exact subAt_recZ (fun _ => rfl) (by omega) | exact subAt_rec (fun _ => rfl) (by omega))) | exact True.intro | intro A | exact rfl)
          all_goals first
            | (exfalso; omega)
            | skip
          rw [hbt]
          exact ⟨(k + 1, o2 ++ [o2[o2.length - D]!]), ⟨hkN, by show (o2 ++ [_]).length = _; rw [List.length_append, List.length_singleton]; omega, hcp⟩, by show N - (k + 1) < N - k; omega, ⟨rfl, rfl, rfl, congrArg some (gslE rfl rfl (by simp) (by simp) rfl), by repeat' (first | exact trivial | refine ⟨rfl, ?_⟩)⟩, (by repeat (first | with_reducible exact Take.nil | with_reducible apply Take.c | ((with_reducible apply Take.cE); (first | exact rfl | (apply blkE; (focus (first | exact rfl | exact recs_snocE rfl | exact map_snocE rfl | exact congrArg (fun v => [v]) (gslE rfl rfl (by first | rfl | exact ‹_› | omega | (simp ; first | done | omega)) (by first | rfl | exact ‹_› | omega | (simp ; first | done | omega)) rfl)))))) | with_reducible apply Take.drop))⟩
        · obtain rfl : k = N := by omega
          rw [Nat.sub_self, copyN] at hcp
          rw [← hcp] at he
          repeat' (first | apply w_seq | apply w_region | apply o_nil | (apply o_g tyOk; exact rfl; exact rfl) | (apply w_dF; exact rfl; (focus (first | exact ‹_› | with_reducible exact rfl | omega))) | apply thenS_normal | apply thenS_exit | apply blockS_normal | apply blockS_exit | apply w_exit | ((with_reducible apply Sd.mk); (first | exact True.intro | omega | (constructor <;> first | omega | (unfold maxLen; omega)) | (unfold maxLen; omega))))
          all_goals first
            | (exfalso; omega)
            | skip
          exact ⟨(f', ⟨K1, x.P, x.c, L2, D3⟩, d3, o2, gsl A0 0 o2.length o2.length 1, decB nd d3 :: msB a ⟨K1, x.P, x.c, L2, D3⟩ ((A0, ⟨bytesV o2, false⟩) :: (s, ⟨setC a, false⟩) :: h)), ⟨by show n - o2.length ≤ f'; omega, hrs.1, hrs.2.1, by show o2.length ≤ n; omega, .some A0 o2, he⟩, by show f' < f' + 1; omega, (by repeat' (first | exact trivial | refine ⟨rfl, ?_⟩ | refine ⟨congrArg some ?_, ?_⟩)), (by repeat (first | with_reducible exact Take.nil | with_reducible apply Take.c | ((with_reducible apply Take.cE); (first | exact rfl | (apply blkE; (focus (first | exact rfl | exact recs_snocE rfl | exact map_snocE rfl | exact congrArg (fun v => [v]) (gslE rfl rfl (by first | rfl | exact ‹_› | omega | (simp ; first | done | omega)) (by first | rfl | exact ‹_› | omega | (simp ; first | done | omega)) rfl)))))) | with_reducible apply Take.drop))⟩
  · rw [rdP_end hlt] at he
    have he : (o, true) = R := he
    cases hb with
    | nil =>
      rw [List.length_nil] at hlt
      repeat' (first | apply w_seq | apply w_region | apply o_nil | (apply o_g tyOk; exact rfl; exact rfl) | (apply o_toString_nil tyOk; iterate 7 exact rfl) | (apply w_dF; exact rfl; (focus (first | exact ‹_› | with_reducible exact rfl | omega))) | apply thenS_normal | apply thenS_exit | apply blockS_exit | apply w_ret | apply w_exit | ((with_reducible apply Sd.mk); (first | exact True.intro | omega | (constructor <;> first | omega | (unfold maxLen; omega)) | (unfold maxLen; omega))))
      all_goals first
        | (exfalso; omega)
        | (apply s_fin; (exact (show ResS _ _ _ _ [_, _] from ⟨rfl, ⟨rfl, trivial⟩⟩)); (focus (exact ⟨by subst he; rfl, rfl⟩)); (focus (repeat (first | with_reducible exact Take.nil | with_reducible apply Take.c | ((with_reducible apply Take.cE); (first | exact rfl | (apply blkE; (focus (first | exact rfl | exact recs_snocE rfl | exact map_snocE rfl | exact congrArg (fun v => [v]) (gslE rfl rfl (by first | rfl | exact ‹_› | omega | (simp ; first | done | omega)) (by first | rfl | exact ‹_› | omega | (simp ; first | done | omega)) rfl)))))) | with_reducible apply Take.drop))))
        | trace_state
    | some A0 o =>
      repeat' (first | apply w_seq | apply w_region | apply o_nil | (apply o_g tyOk; exact rfl; exact rfl) | (apply o_toString tyOk; (iterate 6 exact rfl); (focus (exact pk))) | (apply w_dF; exact rfl; (focus (first | exact ‹_› | with_reducible exact rfl | omega))) | apply thenS_normal | apply thenS_exit | apply blockS_exit | apply w_ret | apply w_exit | ((with_reducible apply Sd.mk); (first | exact True.intro | omega | (constructor <;> first | omega | (unfold maxLen; omega)) | (unfold maxLen; omega))) | ((with_reducible apply Ln.mk); (first | rfl | exact ‹_› | omega | (simp ; first | done | omega))) | ((with_reducible apply Su.mk); (first | exact subAt_all | exact subAt_recZ (fun _ => rfl) (by omega) | exact subAt_rec (fun _ => rfl) (by omega))) | exact True.intro | exact rfl)
      all_goals first
        | (exfalso; omega)
        | (apply s_fin; (exact (show ResS _ _ _ _ [_, _] from ⟨rfl, ⟨rfl, trivial⟩⟩)); (focus (exact ⟨by subst he; rfl, rfl⟩)); (focus (repeat (first | with_reducible exact Take.nil | with_reducible apply Take.c | ((with_reducible apply Take.cE); (first | exact rfl | (apply blkE; (focus (first | exact rfl | exact recs_snocE rfl | exact map_snocE rfl | exact congrArg (fun v => [v]) (gslE rfl rfl (by first | rfl | exact ‹_› | omega | (simp ; first | done | omega)) (by first | rfl | exact ‹_› | omega | (simp ; first | done | omega)) rfl)))))) | with_reducible apply Take.drop))))
        | trace_state
end Go.Proofs.Ytgooffiipnkmiaa
end
section
set_option linter.unusedVariables false
set_option linter.unusedSimpArgs false
set_option maxRecDepth 4000
namespace Go.Proofs.Ytgooffiipnkmiaa
open Go.Gh Go.RowKit

/-- What Decode gives. -/
def lzD (D : List UInt8) (most : Int) : List UInt8 × Int :=
  if (rdN D 4096).2.2 ≠ 0 then ([], 12) else if most < (rdN D 4096).1 then ([], 2)
  else if (lzR (rdN D 4096).2.1 (rdN D 4096).1.toNat).2 = false then ([], 12)
  else if lzE (lzR (rdN D 4096).2.1 (rdN D 4096).1.toNat).1 = (D, 0) then ((lzR (rdN D 4096).2.1 (rdN D 4096).1.toNat).1, 0) else ([], 12)
theorem copyN_le {n : Nat} {o : List UInt8} {t : Pc} (h : okC n o t) : (estp o t).length ≤ n := by
  unfold okC at h
  rw [estp_cpy o (by omega), copyN_len]; omega
theorem rdP_len {n : Nat} : ∀ {f : Nat} {x : Ms} {d : Dec} {o : List UInt8} {r : List Pc × Dec}, MsOk x → DecOk d → o.length ≤ n → n - o.length ≤ f → rdP n f x d o = some r → (exps r.1 o).length = n
  | 0, x, d, o, r, _, _, ho, hf, h => by
    obtain rfl := Option.some.inj h
    show o.length = n; omega
  | f + 1, x, d, o, r, hx, hd, ho, hf, h => by
    by_cases hlt : o.length < n
    · rw [show rdP n (f + 1) x d o = _ from if_pos hlt] at h
      obtain ⟨h1, h2, h3, h4⟩ := rstp_ok hx hd
      split at h
      · rename_i hg
        obtain ⟨⟨ps, d'⟩, e1, rfl⟩ := Option.map_eq_some_iff.1 h
        have hel : o.length + 1 ≤ (estp o (zrd x d).t).length ∧ (estp o (zrd x d).t).length ≤ n := by
          cases hl : (zrd x d).lit with
          | true =>
            have := h3 hl
            rw [estp_lit o this.2.1, List.length_append, List.length_singleton]; omega
          | false =>
            rw [hl] at hg
            rcases hg with hg | hg
            · cases hg
            · refine ⟨?_, copyN_le hg⟩
              unfold okC at hg
              rw [estp_cpy o (by omega), copyN_len]; omega
        exact rdP_len (r := (ps, d')) h1 h2 hel.2 (by omega) e1
      · cases h
    · rw [rdP_end hlt] at h
      obtain rfl := Option.some.inj h
      show o.length = n; omega
theorem lzR_len {l : List UInt8} {n : Nat} (hl : l.length ≤ 1000000) (h : (lzR l n).2 = true) : (lzR l n).1.length = n := by
  unfold lzR at h ⊢
  cases e : rdP n n ms0 (dnew l) [] with
  | none => rw [e] at h; cases h
  | some r => exact rdP_len ms0_ok (dnew_ok hl) (Nat.zero_le _) (Nat.sub_le _ _) e
theorem Decode_any' (l : List UInt8) (most : Int) (h : SH) (hl : l.length ≤ 1000000) : SRun Try.prog 16 [S l, I most] h fun r q => r = .tuple #[S (lzD l most).1, Er (lzD l most).2] ∧ q = h := by
  have hR := fun n h => rNumber_any n l 4096 h hl
  have hok := rdN_ok l 4096
  obtain ⟨x, hx⟩ : ∃ x, lzD l most = x := ⟨_, rfl⟩
  rw [hx]
  unfold lzD at hx
  generalize rdN l 4096 = V at *
  obtain ⟨k, d, e⟩ := V
  dsimp only at *
  have hT := fun n h => rTake_any n d (d.length : Int) h (by omega) (by omega)
  rw [show ((d.length : Int)).toNat = d.length from rfl, List.take_length, List.drop_length] at hT
  by_cases he : e = 0
  case neg =>
    rw [if_pos he] at hx
    refine w_body2 Try.func16 rfl rfl ?_
    repeat' (first | apply w_seq | apply w_region | apply o_nil | (apply o_g tyOk; exact rfl; exact rfl) | (apply o_call; exact rfl; exact rfl; (focus (first | exact rfl | assumption)); exact rfl; (focus (exact ⟨_, NewReader_any _ _, by repeat (first | with_reducible exact Take.nil | with_reducible apply Take.c | with_reducible apply Take.drop)⟩)); rintro _ _ ⟨n, rfl, rfl⟩) | (apply o_call; exact rfl; exact rfl; (focus (first | exact rfl | assumption)); exact rfl; (focus (exact ⟨_, hR _ _, by repeat (first | with_reducible exact Take.nil | with_reducible apply Take.c | with_reducible apply Take.drop)⟩)); rintro _ _ ⟨rfl, rfl⟩) | (apply o_call; exact rfl; exact rfl; (focus (first | exact rfl | assumption)); exact rfl; (focus (exact ⟨_, rErr_any _ _ _ _, by repeat (first | with_reducible exact Take.nil | with_reducible apply Take.c | with_reducible apply Take.drop)⟩)); rintro _ _ ⟨rfl, rfl⟩) | (apply w_dT; exact rfl; (focus (first | exact ‹_› | with_reducible exact rfl | omega))) | apply thenS_normal | apply thenS_ret | apply w_ret | ((with_reducible apply Sd.mk); (first | exact True.intro | omega | (constructor <;> first | omega | (unfold maxLen; omega)) | (unfold maxLen; omega))))
    all_goals first
      | contradiction
      | (apply s_fin; (exact (show ResS _ _ _ _ [_, _] from ⟨rfl, ⟨rfl, trivial⟩⟩)); (focus (exact ⟨by subst hx; rfl, rfl⟩)); (focus (repeat (first | with_reducible exact Take.nil | with_reducible apply Take.c | ((with_reducible apply Take.cE); (first | exact rfl | (apply blkE; (focus (first | exact rfl | exact recs_snocE rfl | exact map_snocE rfl | exact congrArg (fun v => [v]) (gslE rfl rfl (by first | rfl | exact ‹_› | omega | (simp ; first | done | omega)) (by first | rfl | exact ‹_› | omega | (simp ; first | done | omega)) rfl)))))) | with_reducible apply Take.drop))))
      | trace_state
  subst he
  rw [if_neg (by decide)] at hx
  have hk := hok.2 rfl
  by_cases h1 : most < k
  case pos =>
    rw [if_pos h1] at hx
    refine w_body2 Try.func16 rfl rfl ?_
    repeat' (first | apply w_seq | apply w_region | apply o_nil | (apply o_g tyOk; exact rfl; exact rfl) | (apply o_call; exact rfl; exact rfl; (focus (first | exact rfl | assumption)); exact rfl; (focus (exact ⟨_, NewReader_any _ _, by repeat (first | with_reducible exact Take.nil | with_reducible apply Take.c | with_reducible apply Take.drop)⟩)); rintro _ _ ⟨n, rfl, rfl⟩) | (apply o_call; exact rfl; exact rfl; (focus (first | exact rfl | assumption)); exact rfl; (focus (exact ⟨_, hR _ _, by repeat (first | with_reducible exact Take.nil | with_reducible apply Take.c | with_reducible apply Take.drop)⟩)); rintro _ _ ⟨rfl, rfl⟩) | (apply o_call; exact rfl; exact rfl; (focus (first | exact rfl | assumption)); exact rfl; (focus (exact ⟨_, rErr_any _ _ _ _, by repeat (first | with_reducible exact Take.nil | with_reducible apply Take.c | with_reducible apply Take.drop)⟩)); rintro _ _ ⟨rfl, rfl⟩) | (apply w_false; exact rfl) | (apply w_dT; exact rfl; (focus (first | exact ‹_› | with_reducible exact rfl | omega))) | apply thenS_normal | apply thenS_ret | apply w_skip | apply w_ret | ((with_reducible apply Sd.mk); (first | exact True.intro | omega | (constructor <;> first | omega | (unfold maxLen; omega)) | (unfold maxLen; omega))))
    all_goals first
      | contradiction
      | (apply s_fin; (exact (show ResS _ _ _ _ [_, _] from ⟨rfl, ⟨rfl, trivial⟩⟩)); (focus (exact ⟨by subst hx; rfl, rfl⟩)); (focus (repeat (first | with_reducible exact Take.nil | with_reducible apply Take.c | ((with_reducible apply Take.cE); (first | exact rfl | (apply blkE; (focus (first | exact rfl | exact recs_snocE rfl | exact map_snocE rfl | exact congrArg (fun v => [v]) (gslE rfl rfl (by first | rfl | exact ‹_› | omega | (simp ; first | done | omega)) (by first | rfl | exact ‹_› | omega | (simp ; first | done | omega)) rfl)))))) | with_reducible apply Take.drop))))
      | trace_state
  rw [if_neg h1] at hx
  obtain ⟨m, rfl⟩ := Int.eq_ofNat_of_zero_le hk.1
  rw [Int.toNat_natCast] at hx
  have hRd := fun h => lzread_any d m h (by omega) (by omega)
  have hlen := lzR_len (l := d) (n := m) (by omega)
  obtain ⟨⟨s, b⟩, hs⟩ : ∃ R, lzR d m = R := ⟨_, rfl⟩
  rw [hs] at hRd hx hlen
  dsimp only at hRd hx hlen
  cases b with
  | false =>
    rw [if_pos rfl] at hx
    refine w_body2 Try.func16 rfl rfl ?_
    repeat' (first | apply w_seq | apply w_region | apply o_nil | (apply o_g tyOk; exact rfl; exact rfl) | (apply o_notB; exact rfl; exact rfl) | (apply o_call; exact rfl; exact rfl; (focus (first | exact rfl | assumption)); exact rfl; (focus (exact ⟨_, NewReader_any _ _, by repeat (first | with_reducible exact Take.nil | with_reducible apply Take.c | with_reducible apply Take.drop)⟩)); rintro _ _ ⟨n, rfl, rfl⟩) | (apply o_call; exact rfl; exact rfl; (focus (first | exact rfl | assumption)); exact rfl; (focus (exact ⟨_, hR _ _, by repeat (first | with_reducible exact Take.nil | with_reducible apply Take.c | with_reducible apply Take.drop)⟩)); rintro _ _ ⟨rfl, rfl⟩) | (apply o_call; exact rfl; exact rfl; (focus (first | exact rfl | assumption)); exact rfl; (focus (exact ⟨_, rErr_any _ _ _ _, by repeat (first | with_reducible exact Take.nil | with_reducible apply Take.c | with_reducible apply Take.drop)⟩)); rintro _ _ ⟨rfl, rfl⟩) | (apply o_call; exact rfl; exact rfl; (focus (first | exact rfl | assumption)); exact rfl; (focus (exact ⟨_, rLeft_any _ _ _ _, by repeat (first | with_reducible exact Take.nil | with_reducible apply Take.c | with_reducible apply Take.drop)⟩)); rintro _ _ ⟨rfl, rfl⟩) | (apply o_call; exact rfl; exact rfl; (focus (first | exact rfl | assumption)); exact rfl; (focus (exact ⟨_, hT _ _, by repeat (first | with_reducible exact Take.nil | with_reducible apply Take.c | with_reducible apply Take.drop)⟩)); rintro _ _ ⟨rfl, rfl⟩) | (apply o_call; exact rfl; exact rfl; (focus (first | exact rfl | assumption)); exact rfl; (focus (exact ⟨_, hRd _, by repeat (first | with_reducible exact Take.nil | with_reducible apply Take.c | with_reducible apply Take.drop)⟩)); rintro _ _ ⟨rfl, rfl⟩) | (apply w_true; exact rfl) | (apply w_false; exact rfl) | (apply w_dF; exact rfl; (focus (first | exact ‹_› | with_reducible exact rfl | omega))) | apply thenS_normal | apply thenS_ret | apply w_skip | apply w_ret | ((with_reducible apply Sd.mk); (first | exact True.intro | omega | (constructor <;> first | omega | (unfold maxLen; omega)) | (unfold maxLen; omega))))
    all_goals first
      | contradiction
      | (apply s_fin; (exact (show ResS _ _ _ _ [_, _] from ⟨rfl, ⟨rfl, trivial⟩⟩)); (focus (exact ⟨by subst hx; rfl, rfl⟩)); (focus (repeat (first | with_reducible exact Take.nil | with_reducible apply Take.c | ((with_reducible apply Take.cE); (first | exact rfl | (apply blkE; (focus (first | exact rfl | exact recs_snocE rfl | exact map_snocE rfl | exact congrArg (fun v => [v]) (gslE rfl rfl (by first | rfl | exact ‹_› | omega | (simp ; first | done | omega)) (by first | rfl | exact ‹_› | omega | (simp ; first | done | omega)) rfl)))))) | with_reducible apply Take.drop))))
      | trace_state
  | true =>
    rw [if_neg (by decide)] at hx
    have hlen := hlen rfl
    have hE := fun h => Encode_any' s h (by omega)
    obtain ⟨⟨t, g⟩, ht⟩ : ∃ R, lzE s = R := ⟨_, rfl⟩
    rw [ht] at hE hx
    dsimp only at hE hx
    refine w_body2 Try.func16 rfl rfl ?_
    repeat' (first | apply w_seq | apply w_region | apply o_nil | (apply o_g tyOk; exact rfl; exact rfl) | (apply o_notB; exact rfl; exact rfl) | (apply o_call; exact rfl; exact rfl; (focus (first | exact rfl | assumption)); exact rfl; (focus (exact ⟨_, NewReader_any _ _, by repeat (first | with_reducible exact Take.nil | with_reducible apply Take.c | with_reducible apply Take.drop)⟩)); rintro _ _ ⟨n, rfl, rfl⟩) | (apply o_call; exact rfl; exact rfl; (focus (first | exact rfl | assumption)); exact rfl; (focus (exact ⟨_, hR _ _, by repeat (first | with_reducible exact Take.nil | with_reducible apply Take.c | with_reducible apply Take.drop)⟩)); rintro _ _ ⟨rfl, rfl⟩) | (apply o_call; exact rfl; exact rfl; (focus (first | exact rfl | assumption)); exact rfl; (focus (exact ⟨_, rErr_any _ _ _ _, by repeat (first | with_reducible exact Take.nil | with_reducible apply Take.c | with_reducible apply Take.drop)⟩)); rintro _ _ ⟨rfl, rfl⟩) | (apply o_call; exact rfl; exact rfl; (focus (first | exact rfl | assumption)); exact rfl; (focus (exact ⟨_, rLeft_any _ _ _ _, by repeat (first | with_reducible exact Take.nil | with_reducible apply Take.c | with_reducible apply Take.drop)⟩)); rintro _ _ ⟨rfl, rfl⟩) | (apply o_call; exact rfl; exact rfl; (focus (first | exact rfl | assumption)); exact rfl; (focus (exact ⟨_, hT _ _, by repeat (first | with_reducible exact Take.nil | with_reducible apply Take.c | with_reducible apply Take.drop)⟩)); rintro _ _ ⟨rfl, rfl⟩) | (apply o_call; exact rfl; exact rfl; (focus (first | exact rfl | assumption)); exact rfl; (focus (exact ⟨_, hRd _, by repeat (first | with_reducible exact Take.nil | with_reducible apply Take.c | with_reducible apply Take.drop)⟩)); rintro _ _ ⟨rfl, rfl⟩) | (apply o_call; exact rfl; exact rfl; (focus (first | exact rfl | assumption)); exact rfl; (focus (exact ⟨_, hE _, by repeat (first | with_reducible exact Take.nil | with_reducible apply Take.c | with_reducible apply Take.drop)⟩)); rintro _ _ ⟨rfl, rfl⟩) | (apply o_want; exact rfl; exact rfl) | (apply o_skip; iterate 4 exact rfl) | (apply o_guardFN; (iterate 3 exact rfl); all_goals intro hc) | (apply w_true; exact rfl) | (apply w_false; exact rfl) | (apply w_dF; exact rfl; (focus (first | exact ‹_› | with_reducible exact rfl | omega))) | (apply w_ifN; exact rfl; all_goals intro hc) | apply thenS_normal | apply thenS_ret | apply w_skip | apply w_ret | ((with_reducible apply Sd.mk); (first | exact True.intro | omega | (constructor <;> first | omega | (unfold maxLen; omega)) | (unfold maxLen; omega))))
    all_goals first
      | contradiction
      | (rw [if_pos (by rw [show t = l by assumption, show g = 0 by assumption])] at hx; (apply s_fin; (exact (show ResS _ _ _ _ [_, _] from ⟨rfl, ⟨rfl, trivial⟩⟩)); (focus (exact ⟨by subst hx; rfl, rfl⟩)); (focus (repeat (first | with_reducible exact Take.nil | with_reducible apply Take.c | ((with_reducible apply Take.cE); (first | exact rfl | (apply blkE; (focus (first | exact rfl | exact recs_snocE rfl | exact map_snocE rfl | exact congrArg (fun v => [v]) (gslE rfl rfl (by first | rfl | exact ‹_› | omega | (simp ; first | done | omega)) (by first | rfl | exact ‹_› | omega | (simp ; first | done | omega)) rfl)))))) | with_reducible apply Take.drop)))))
      | (rw [if_neg (fun e => absurd (congrArg Prod.snd e) (by assumption))] at hx; (apply s_fin; (exact (show ResS _ _ _ _ [_, _] from ⟨rfl, ⟨rfl, trivial⟩⟩)); (focus (exact ⟨by subst hx; rfl, rfl⟩)); (focus (repeat (first | with_reducible exact Take.nil | with_reducible apply Take.c | ((with_reducible apply Take.cE); (first | exact rfl | (apply blkE; (focus (first | exact rfl | exact recs_snocE rfl | exact map_snocE rfl | exact congrArg (fun v => [v]) (gslE rfl rfl (by first | rfl | exact ‹_› | omega | (simp ; first | done | omega)) (by first | rfl | exact ‹_› | omega | (simp ; first | done | omega)) rfl)))))) | with_reducible apply Take.drop)))))
      | (rw [if_neg (fun e => absurd (congrArg Prod.fst e) (by assumption))] at hx; (apply s_fin; (exact (show ResS _ _ _ _ [_, _] from ⟨rfl, ⟨rfl, trivial⟩⟩)); (focus (exact ⟨by subst hx; rfl, rfl⟩)); (focus (repeat (first | with_reducible exact Take.nil | with_reducible apply Take.c | ((with_reducible apply Take.cE); (first | exact rfl | (apply blkE; (focus (first | exact rfl | exact recs_snocE rfl | exact map_snocE rfl | exact congrArg (fun v => [v]) (gslE rfl rfl (by first | rfl | exact ‹_› | omega | (simp ; first | done | omega)) (by first | rfl | exact ‹_› | omega | (simp ; first | done | omega)) rfl)))))) | with_reducible apply Take.drop)))))
      | trace_state
end Go.Proofs.Ytgooffiipnkmiaa
end
section
set_option linter.unusedVariables false
set_option linter.unusedSimpArgs false
set_option maxRecDepth 4000
namespace Go.Proofs.Ytgooffiipnkmiaa
open Go.Gh Go.RowKit

theorem zx1 : lzE [] = ([0], 0) := by decide +kernel
theorem zx2 : pcs [97, 97, 97, 97] = [(1, 0, 97), (3, 1, 0)] := by decide +kernel
theorem zx3 : (lzE [97, 97, 97, 97]).2 = 0 ∧ lzD (lzE [97, 97, 97, 97]).1 4 = ([97, 97, 97, 97], 0) ∧ (lzE [97, 97, 97, 97]).1.length ≤ 1000000 := by decide +kernel
theorem awakeZ_any (h : SH) : SRun Try.prog 10 [] h fun r q => r = B true ∧ q = h := by
  have hE1 := fun h => Encode_any' [] h (by decide)
  rw [zx1] at hE1
  have hP := fun h => Pieces_any [97, 97, 97, 97] h (by decide)
  rw [zx2] at hP
  rw [if_neg (show ¬ 4096 < ([97, 97, 97, 97] : List UInt8).length by decide)] at hP
  have hE2 := fun h => Encode_any' [97, 97, 97, 97] h (by decide)
  obtain ⟨x1, x2, x3⟩ := zx3
  have hD := fun h => Decode_any' (lzE [97, 97, 97, 97]).1 4 h x3
  rw [x1] at hE2
  rw [x2] at hD
  clear x1 x2
  generalize (lzE [97, 97, 97, 97]).1 = z at *
  have hsub : SubAt (recs pcC [(1, 0, 97), (3, 1, 0)]) (0 + Int.toNat 1 * 3) [I 3, I 1, .int .u8 0] := fun i v h => by
    match i, h with
    | 0, h => exact h
    | 1, h => exact h
    | 2, h => exact h
    | i + 3, h => cases h
  have hP' : ∀ h, SRun Try.prog 11 [S [97, 97, 97, 97]] h fun r q => ∃ fl A ro h1, r = .tuple #[.slice (some ⟨A, 0, some 6⟩) 2 fl, I 0] ∧ Pick q A ⟨recs pcC [(1, 0, 97), (3, 1, 0)], ro⟩ h1 ∧ Take q h := fun h =>
    (hP h).mono fun r q ⟨v, g1, ⟨ad, fl, g2, g3⟩, g4⟩ => by
      obtain ⟨A, ro, h1, g5, g6⟩ := g3 (by decide)
      exact ⟨fl, A, ro, h1, by rw [g1, g2, g5]; rfl, g6, g4⟩
  refine w_body0 Try.func10 rfl rfl ?_
  repeat' (first | apply w_seq | apply w_region | apply o_nil | (apply o_g tyOk; exact rfl; exact rfl) | (apply o_loads tyOk; (iterate 3 exact rfl); (focus (exact pk))) | (apply o_eqs; (iterate 3 exact rfl); (focus (kernel_rfl)); exact rfl; exact rfl; (focus (kernel_rfl)); exact rfl) | (apply o_build tyOk; exact rfl; exact rfl; (focus (first | with_reducible exact pl18 | with_reducible exact pl38 | with_reducible exact pl97)); exact rfl; (focus (repeat (first | exact BuildR.nil | (apply BuildR.one; exact rfl; exact rfl; (first | (focus ((repeat (first | exact SetAt.zero | apply SetAt.succ)); done)) | exact setAt_bytes (by omega) (by omega) | exact setAt_mapZ (by omega) | exact setAt_map (by omega))) | (apply BuildR.agg; exact rfl; exact rfl; (first | exact putAt_all rfl | exact putAt_recZ (fun _ => rfl) (by omega) | exact putAt_rec (fun _ => rfl) (by omega)))))); exact rfl) | (apply o_call; exact rfl; exact rfl; (focus (first | exact rfl | assumption)); exact rfl; (focus (exact ⟨_, hE1 _, by repeat (first | with_reducible exact Take.nil | with_reducible apply Take.c | with_reducible apply Take.drop)⟩)); rintro _ _ ⟨rfl, rfl⟩) | (apply o_call; exact rfl; exact rfl; (focus (first | exact rfl | assumption)); exact rfl; (focus (exact ⟨_, hP' _, by repeat (first | with_reducible exact Take.nil | with_reducible apply Take.c | with_reducible apply Take.drop)⟩)); rintro _ _ ⟨fl, A, ro, h1, rfl, hp, ht⟩) | (apply o_call; exact rfl; exact rfl; (focus (first | exact rfl | assumption)); exact rfl; (focus (exact ⟨_, hE2 _, by repeat (first | with_reducible exact Take.nil | with_reducible apply Take.c | with_reducible apply Take.drop)⟩)); rintro _ _ ⟨rfl, rfl⟩) | (apply o_call; exact rfl; exact rfl; (focus (first | exact rfl | assumption)); exact rfl; (focus (exact ⟨_, hD _, by repeat (first | with_reducible exact Take.nil | with_reducible apply Take.c | with_reducible apply Take.drop)⟩)); rintro _ _ ⟨rfl, rfl⟩) | (apply o_want; exact rfl; exact rfl) | apply thenS_normal | apply w_ret | ((with_reducible apply Sd.mk); (first | exact True.intro | omega | (constructor <;> first | omega | (unfold maxLen; omega)) | (unfold maxLen; omega))) | ((with_reducible apply Ln.mk); (first | rfl | exact ‹_› | omega | (simp ; first | done | omega))) | ((with_reducible apply Su.mk); (first | exact hsub | exact subAt_all | exact subAt_recZ (fun _ => rfl) (by omega) | exact subAt_rec (fun _ => rfl) (by omega))) | exact True.intro | exact rfl)
  all_goals first
    | (apply s_fin; (exact (show ResS _ _ _ _ [_] from ⟨rfl, trivial⟩)); (focus (exact ⟨rfl, rfl⟩)); (focus (repeat (first | with_reducible exact Take.nil | exact ht | with_reducible apply Take.c | ((with_reducible apply Take.cE); (first | exact rfl | (apply blkE; (focus (first | exact rfl | exact recs_snocE rfl | exact map_snocE rfl | exact congrArg (fun v => [v]) (gslE rfl rfl (by first | rfl | exact ‹_› | omega | (simp ; first | done | omega)) (by first | rfl | exact ‹_› | omega | (simp ; first | done | omega)) rfl)))))) | with_reducible apply Take.drop))))
    | (apply s_fin; (exact (show ResS _ _ _ _ [_] from ⟨rfl, trivial⟩)); (focus (exact ⟨by show B _ = B true; congr 1, rfl⟩)); (focus (repeat (first | with_reducible exact Take.nil | exact ht | with_reducible apply Take.c | ((with_reducible apply Take.cE); (first | exact rfl | (apply blkE; (focus (first | exact rfl | exact recs_snocE rfl | exact map_snocE rfl | exact congrArg (fun v => [v]) (gslE rfl rfl (by first | rfl | exact ‹_› | omega | (simp ; first | done | omega)) (by first | rfl | exact ‹_› | omega | (simp ; first | done | omega)) rfl)))))) | with_reducible apply Take.drop))))
    | trace_state
end Go.Proofs.Ytgooffiipnkmiaa
end
section
set_option linter.unusedVariables false
set_option linter.unusedSimpArgs false
set_option maxRecDepth 4000
namespace Go.Proofs.Ytgooffiipnkmiaa
open Go.Gh Go.RowKit

theorem norm_out : ∀ (k : Nat) (e : Enc), e.out.length ≤ (norm k e).out.length
  | 0, e => Nat.le_refl _
  | k + 1, e => by
    unfold norm
    split
    · have := norm_out k (eshift e)
      have h2 : (eshift e).out.length = e.out.length + 1 := by show (e.out ++ [_]).length = _; simp
      omega
    · exact Nat.le_refl _
theorem fin_len (e : Enc) : (fin e).length = e.out.length + 4 := by unfold fin; rw [List.length_append]; rfl
abbrev e00 : Enc := ⟨[], 0, 4294967295⟩
theorem EncB.re {n : Nat} {h h' p : SH} {e : Enc} (hb : EncB n h e p) (t : Take h h') : ∃ p', EncB n h' e p' ∧ Take p p' := by
  cases hb with
  | nil => exact ⟨_, .nil _ _, .cons .head t⟩
  | some => exact ⟨_, .some _ _ _ _, .cons .head (.cons .head t)⟩
theorem EncB.push {n : Nat} {h p : SH} {e : Enc} (hb : EncB n h e p) (x : Nat × Blk) : ∃ p', EncB n (x :: h) e p' ∧ Take (x :: p) p' := by
  cases hb with
  | nil => exact ⟨_, .nil _ _, .cons (.tail .head) .nil⟩
  | some => exact ⟨_, .some _ _ _ _, .cons (.tail .head) (.cons (.tail .head) .nil)⟩
theorem EncR.re {n : Nat} {p p' : SH} {e : Enc} (hr : EncR n p' e) (t : Take p p') : EncR n p e := by
  cases hr with
  | nil _ _ _ hp => obtain ⟨p1, g, _⟩ := t.pick hp; exact .nil _ _ _ g
  | some _ _ _ _ _ _ hp ha => obtain ⟨p1, g, _⟩ := t.pick hp; obtain ⟨p2, g2, _⟩ := t.pick ha; exact .some _ _ _ _ _ _ g g2
/-- Two encoders, in any order, over other blocks. -/
def E2 (n m : Nat) (h : SH) (e e2 : Enc) (p : SH) : Prop := ∃ q1 p', EncB m h e2 q1 ∧ EncB n q1 e p' ∧ Take p p'
theorem E2.swap {n m : Nat} {h p : SH} {e e2 : Enc} (k : E2 n m h e e2 p) : E2 m n h e2 e p := by
  obtain ⟨q1, p', h1, h2, t⟩ := k
  obtain ⟨r1, r, g1, g2, t2⟩ := h1.swap h2
  exact ⟨r1, r, g1, g2, t.trans t2⟩
theorem E2.re {n m : Nat} {h h' p : SH} {e e2 : Enc} (k : E2 n m h e e2 p) (t : Take h h') : E2 n m h' e e2 p := by
  obtain ⟨q1, p', h1, h2, t1⟩ := k
  obtain ⟨r1, g1, t2⟩ := h1.re t
  obtain ⟨r, g2, t3⟩ := h2.re t2
  exact ⟨r1, r, g1, g2, t1.trans t3⟩
theorem E2.push {n m : Nat} {h p : SH} {e e2 : Enc} (k : E2 n m h e e2 p) (x : Nat × Blk) : E2 n m (x :: h) e e2 (x :: p) := by
  obtain ⟨q1, p', h1, h2, t1⟩ := k
  obtain ⟨r1, g1, t2⟩ := h1.push x
  obtain ⟨r, g2, t3⟩ := h2.push x
  obtain ⟨r', g3, t4⟩ := g2.re t2
  exact ⟨r1, r', g1, g3, (Take.trans (h1 := x :: p') (by obtain ⟨A, b⟩ := x; exact .cons .head t1) t3).trans t4⟩
theorem E2.pick {n m : Nat} {h p : SH} {e e2 : Enc} (k : E2 n m h e e2 p) {A : Nat} {b : Blk} {h1 : SH} (hp : Pick h A b h1) : ∃ p1, Pick p A b p1 := by
  obtain ⟨q1, p', g1, g2, t1⟩ := k
  obtain ⟨r1, hp1⟩ := g1.pick hp
  obtain ⟨r2, hp2⟩ := g2.pick hp1
  obtain ⟨r3, hp3, _⟩ := t1.pick hp2
  exact ⟨r3, hp3⟩
theorem E2.r {n m : Nat} {h p : SH} {e e2 : Enc} (k : E2 n m h e e2 p) : EncR n p e := by
  obtain ⟨q1, p', g1, g2, t1⟩ := k
  exact g2.r.re t1
theorem E2.take {n m : Nat} {h p : SH} {e e2 : Enc} (k : E2 n m h e e2 p) : Take p h := by
  obtain ⟨q1, p', g1, g2, t1⟩ := k
  exact t1.trans (g2.take.trans g1.take)
end Go.Proofs.Ytgooffiipnkmiaa
end
section
set_option linter.unusedVariables false
set_option linter.unusedSimpArgs false
set_option maxRecDepth 4000
namespace Go.Proofs.Ytgooffiipnkmiaa
open Go.Gh Go.RowKit

structure Sz (N : Nat) (s k : Nat) : Prop where
  hi : s * 16384 ^ N ≤ 4294967295 * 256 ^ k * 8193 ^ N
  lo : 4294967295 * 256 ^ k * 8191 ^ N ≤ s * 16384 ^ N
theorem Sz.shift {N s k : Nat} (h : Sz N s k) : Sz N (s * 256) (k + 1) := by
  have e1 : ∀ c, 4294967295 * 256 ^ (k + 1) * c ^ N = 256 * (4294967295 * 256 ^ k * c ^ N) := fun c => by
    rw [Nat.pow_succ, Nat.mul_comm (256 ^ k) 256, ← Nat.mul_assoc, Nat.mul_comm 4294967295 256, Nat.mul_assoc 256, Nat.mul_assoc 256]
  have e2 : s * 256 * 16384 ^ N = 256 * (s * 16384 ^ N) := by rw [Nat.mul_comm s 256, Nat.mul_assoc]
  refine ⟨?_, ?_⟩
  · rw [e1, e2]; exact Nat.mul_le_mul_left _ h.hi
  · rw [e1, e2]; exact Nat.mul_le_mul_left _ h.lo
theorem pow_small {a b : Nat} (hab : a ≤ b) (h : b ^ 1000 < 2 * a ^ 1000) {N : Nat} (hN : N ≤ 1000) : b ^ N < 2 * a ^ N := by
  rcases Nat.lt_or_ge (b ^ N) (2 * a ^ N) with k | k
  · exact k
  · exfalso
    have h1 : a ^ (1000 - N) ≤ b ^ (1000 - N) := Nat.pow_le_pow_left hab _
    have h2 := Nat.mul_le_mul k h1
    rw [Nat.mul_assoc, ← Nat.pow_add, ← Nat.pow_add, show N + (1000 - N) = 1000 by omega] at h2
    omega
theorem Sz.len {N s k : Nat} (h : Sz N s k) (hN : N ≤ 1000) (h1 : 16777216 ≤ s) (h2 : s ≤ 4294967295) : N / 8 ≤ k + 1 ∧ k ≤ N / 8 := by
  have p1 : 8193 ^ N < 2 * 8192 ^ N := pow_small (by decide) (by decide +kernel) hN
  have p2 : 8192 ^ N < 2 * 8191 ^ N := pow_small (by decide) (by decide +kernel) hN
  have e : 16384 ^ N = 2 ^ N * 8192 ^ N := by rw [← Nat.mul_pow]
  have e256 : 256 ^ k = 2 ^ (8 * k) := by rw [Nat.pow_mul]
  have a1 := h.hi
  have a2 := h.lo
  rw [e, e256] at a1 a2
  have q : 0 < 8192 ^ N := Nat.pow_pos (by decide)
  have q' : 0 < 8191 ^ N := Nat.pow_pos (by decide)
  generalize 8192 ^ N = x at *
  generalize 8193 ^ N = y at *
  generalize 8191 ^ N = z at *
  have b1 : 2 ^ N < 2 ^ (8 * k + 9) := by
    have c1 : 16777216 * (2 ^ N * x) ≤ s * (2 ^ N * x) := Nat.mul_le_mul_right _ h1
    have c2 : 4294967295 * 2 ^ (8 * k) * y ≤ 4294967295 * 2 ^ (8 * k) * (2 * x) := Nat.mul_le_mul_left _ (by omega)
    rcases Nat.lt_or_ge (2 ^ N) (2 ^ (8 * k + 9)) with g | g
    · exact g
    · exfalso
      have c3 : 16777216 * (2 ^ (8 * k + 9) * x) ≤ 16777216 * (2 ^ N * x) := Nat.mul_le_mul_left _ (Nat.mul_le_mul_right _ g)
      have c4 : 2 ^ (8 * k + 9) * x = 512 * (2 ^ (8 * k) * x) := by rw [Nat.pow_add, Nat.mul_comm (2 ^ (8 * k)), Nat.mul_assoc]
      have c5 : 4294967295 * 2 ^ (8 * k) * (2 * x) = 8589934590 * (2 ^ (8 * k) * x) := by rw [Nat.mul_left_comm, ← Nat.mul_assoc, ← Nat.mul_assoc, ← Nat.mul_assoc]
      have c6 : 0 < 2 ^ (8 * k) * x := Nat.mul_pos (Nat.pow_pos (by decide)) q
      omega
  have b2 : 2 ^ (8 * k) < 2 ^ (N + 1) := by
    have c1 : s * (2 ^ N * x) ≤ 4294967295 * (2 ^ N * x) := Nat.mul_le_mul_right _ h2
    have c2 : 2 ^ N * x < 2 ^ N * (2 * z) := Nat.mul_lt_mul_of_pos_left p2 (Nat.pow_pos (by decide))
    have c3 : 4294967295 * 2 ^ (8 * k) * z = 4294967295 * (2 ^ (8 * k) * z) := Nat.mul_assoc _ _ _
    have c4 : 2 ^ N * (2 * z) = 2 ^ (N + 1) * z := by rw [Nat.pow_succ, Nat.mul_assoc]
    have c5 : 2 ^ (8 * k) * z < 2 ^ (N + 1) * z := by omega
    exact Nat.lt_of_mul_lt_mul_right c5
  have d1 := (Nat.pow_lt_pow_iff_right (by decide : 1 < 2)).1 b1
  have d2 := (Nat.pow_lt_pow_iff_right (by decide : 1 < 2)).1 b2
  omega

abbrev boF (b : Bool) : List Value := [B b]
theorem boW (b : Bool) : (boF b).length = 1 := rfl
@[simp] theorem len_bos (l : List Bool) : (recs boF l).length = l.length := by rw [recs_len boW]; omega
end Go.Proofs.Ytgooffiipnkmiaa
end
section
set_option linter.unusedVariables false
set_option linter.unusedSimpArgs false
set_option maxRecDepth 4000
namespace Go.Proofs.Ytgooffiipnkmiaa
open Go.Gh Go.RowKit

def val (l : List UInt8) : Nat := l.foldl (fun a c => a * 256 + c.toNat) 0
theorem foldl_val (l : List UInt8) : ∀ a : Nat, l.foldl (fun a c => a * 256 + c.toNat) a = a * 256 ^ l.length + val l := by
  induction l with
  | nil => intro a; simp [val]
  | cons c r ih =>
    intro a
    have h1 := ih (a * 256 + c.toNat)
    have h2 := ih (0 * 256 + c.toNat)
    simp only [List.foldl_cons, List.length_cons]
    rw [h1, show val (c :: r) = (0 * 256 + c.toNat) * 256 ^ r.length + val r from h2, Nat.pow_succ]
    rw [Nat.add_mul, Nat.zero_mul, Nat.zero_add, Nat.mul_assoc, Nat.mul_comm 256]
    omega
theorem val_app (l m : List UInt8) : val (l ++ m) = val l * 256 ^ m.length + val m := by
  show (l ++ m).foldl _ 0 = _
  rw [List.foldl_append, foldl_val m]; rfl
theorem val_one (c : UInt8) : val [c] = c.toNat := by simp [val]
theorem val_snoc (l : List UInt8) (c : UInt8) : val (l ++ [c]) = val l * 256 + c.toNat := by rw [val_app, val_one]; rfl
theorem val_cons (c : UInt8) (l : List UInt8) : val (c :: l) = c.toNat * 256 ^ l.length + val l := by
  have := val_app [c] l
  rw [val_one] at this; exact this
theorem val_lt : ∀ l : List UInt8, val l < 256 ^ l.length
  | [] => by decide
  | c :: r => by
    have h1 := val_lt r
    have h2 := c.toNat_lt
    rw [val_cons, List.length_cons, Nat.pow_succ]
    have h3 : c.toNat * 256 ^ r.length ≤ 255 * 256 ^ r.length := Nat.mul_le_mul_right _ (by omega)
    omega
theorem b8_nat {n : Int} (h : 0 ≤ n ∧ n < 256) : ((b8 n).toNat : Int) = n := b8_val h

theorem bat_mid (P R : List UInt8) (c : UInt8) : bat (P ++ c :: R) (P.length : Nat) = c.toNat := by
  unfold bat
  rw [Int.toNat_natCast, List.getD_eq_getElem?_getD, List.getElem?_append_right (Nat.le_refl _), Nat.sub_self]; rfl
theorem set_mid (P R : List UInt8) (c d : UInt8) : (P ++ c :: R).set P.length d = P ++ d :: R := by
  rw [List.set_append_right _ _ (Nat.le_refl _), Nat.sub_self]; rfl
/-- One more, where there is room for it. -/
theorem carryAt_val : ∀ (n : Nat) (P R : List UInt8), P.length = n → val P + 1 < 256 ^ n → ∃ P', carryAt (P ++ R) n = P' ++ R ∧ P'.length = n ∧ val P' = val P + 1
  | 0, P, R, h, hv => by simp at hv
  | n + 1, P, R, h, hv => by
    obtain ⟨Q, c, rfl⟩ : ∃ Q c, P = Q ++ [c] := ⟨P.dropLast, P.getLast (fun e => by subst e; simp at h), (List.dropLast_concat_getLast _).symm⟩
    have hQ : Q.length = n := by simpa using h
    subst hQ
    rw [List.append_assoc, List.singleton_append]
    have hc := c.toNat_lt
    unfold carryAt
    rw [bat_mid, set_mid]
    split
    · rename_i h1
      refine ⟨Q ++ [b8 (((c.toNat : Int) + 1) % 256)], by simp, by simp, ?_⟩
      rw [val_snoc, val_snoc]
      have := b8_nat (n := ((c.toNat : Int) + 1) % 256) (by omega)
      omega
    · rename_i h1
      have h2 : ((c.toNat : Int) + 1) % 256 = 0 := Classical.not_not.1 h1
      have h3 : c.toNat = 255 := by omega
      rw [val_snoc, Nat.pow_succ] at hv
      obtain ⟨Q', g1, g2, g3⟩ := carryAt_val Q.length Q (b8 (((c.toNat : Int) + 1) % 256) :: R) rfl (by omega)
      refine ⟨Q' ++ [b8 (((c.toNat : Int) + 1) % 256)], by rw [g1]; simp, by simp [g2], ?_⟩
      rw [val_snoc, val_snoc, g3]
      have := b8_nat (n := ((c.toNat : Int) + 1) % 256) (by omega)
      omega
theorem carry_val {l : List UInt8} (h : val l + 1 < 256 ^ l.length) : val (carry l) = val l + 1 := by
  obtain ⟨P, g1, g2, g3⟩ := carryAt_val l.length l [] rfl h
  rw [List.append_nil, List.append_nil] at g1
  unfold carry; rw [g1, g3]

/-- The lower end of an encoder's interval, in units of 256^-(4 + bytes). -/
def num' (e : Enc) : Int := (val e.out : Int) * 4294967296 + e.low
/-- The interval lies between 0 and 1. -/
def InB (e : Enc) : Prop := num' e + e.size ≤ 4294967296 * ((256 ^ e.out.length : Nat) : Int)
theorem fin_val {e : Enc} (h : 0 ≤ e.low ∧ e.low ≤ 4294967295) : (val (fin e) : Int) = num' e := by
  unfold fin num'
  rw [val_app]
  have h4 : val (tail4 e.low) = e.low.toNat := by
    unfold tail4
    rw [val_cons, val_cons, val_cons, val_one]
    have a1 := b8_nat (n := e.low / 16777216) (by omega)
    have a2 := b8_nat (n := e.low / 65536 % 256) (by omega)
    have a3 := b8_nat (n := e.low / 256 % 256) (by omega)
    have a4 := b8_nat (n := e.low % 256) (by omega)
    simp only [List.length_cons, List.length_nil]
    omega
  rw [h4, show (tail4 e.low).length = 4 from rfl]
  omega
theorem estep_num {n : Nat} {e : Enc} (hok : EncOk n e) (hi : InB e) (z b : Int) : num' (estep e z b) = num' e + (if b = 0 then 0 else bound e.size z) ∧ InB (estep e z b) ∧ (estep e z b).out.length = e.out.length ∧
    (estep e z b).size = if b = 0 then bound e.size z else e.size - bound e.size z := by
  have hd := size_dvd hok.size z
  have hl := hok.low
  unfold InB num' at hi
  unfold estep
  split
  · refine ⟨by unfold num'; dsimp only; omega, ?_, rfl, rfl⟩
    unfold InB num'; dsimp only; omega
  · split
    · have hlt : val e.out + 1 < 256 ^ e.out.length := by
        generalize 256 ^ e.out.length = w at *; omega
      have hc := carry_val hlt
      refine ⟨by unfold num'; dsimp only; rw [hc]; omega, ?_, carry_len _, rfl⟩
      unfold InB num'; dsimp only; rw [hc, carry_len]; omega
    · refine ⟨by unfold num'; dsimp only; omega, ?_, rfl, rfl⟩
      unfold InB num'; dsimp only; omega
theorem eshift_num {e : Enc} (h : 0 ≤ e.low ∧ e.low ≤ 4294967295) : num' (eshift e) = num' e * 256 ∧ (eshift e).out.length = e.out.length + 1 ∧ (eshift e).size = e.size * 256 := by
  refine ⟨?_, by show (e.out ++ [_]).length = _; simp, rfl⟩
  show (val (e.out ++ [_]) : Int) * 4294967296 + e.low * 256 % 4294967296 = ((val e.out : Int) * 4294967296 + e.low) * 256
  rw [val_snoc]
  have := b8_nat (n := e.low / 16777216) (by omega)
  omega
end Go.Proofs.Ytgooffiipnkmiaa
end
section
set_option linter.unusedVariables false
set_option linter.unusedSimpArgs false
set_option maxRecDepth 4000
namespace Go.Proofs.Ytgooffiipnkmiaa
open Go.Gh Go.RowKit

/-- The decoder of D stands where the encoder stands. -/
structure Syn (D : List UInt8) (e : Enc) (d : Dec) : Prop where
  size : d.size = e.size
  len : e.out.length + 4 ≤ D.length
  rest : d.rest = D.drop (e.out.length + 4)
  miss : d.missing = false
  code : d.code = (val (D.take (e.out.length + 4)) : Int) - num' e
  rng : 0 ≤ d.code ∧ d.code < d.size
theorem dstep_syn {D : List UInt8} {n : Nat} {e : Enc} {d : Dec} (s : Syn D e d) (hok : EncOk n e) (hi : InB e) (z b : Int) (hb : b = 0 ↔ (dstep d z).2 = 0) : Syn D (estep e z b) (dstep d z).1 := by
  obtain ⟨h1, h2, h3, h4⟩ := estep_num hok hi z b
  have hd := size_dvd hok.size z
  have hs := s.size
  have hr := s.rng
  have hc := s.code
  unfold dstep at hb ⊢
  rw [hs] at hb ⊢
  split at hb
  · rename_i hlt
    rw [if_pos hlt]
    have hb0 : b = 0 := hb.2 rfl
    rw [if_pos hb0] at h1 h4
    exact ⟨h4.symm, by rw [h3]; exact s.len, by rw [h3]; exact s.rest, s.miss, by rw [h3, h1]; dsimp only; omega, by dsimp only; omega⟩
  · rename_i hlt
    rw [if_neg hlt]
    have hb0 : ¬ b = 0 := fun h => by have := hb.1 h; cases this
    rw [if_neg hb0] at h1 h4
    exact ⟨h4.symm, by rw [h3]; exact s.len, by rw [h3]; exact s.rest, s.miss, by rw [h3, h1]; dsimp only; omega, by dsimp only; omega⟩
/-- A byte more. -/
theorem dnext_syn {D : List UInt8} {e : Enc} {d : Dec} (s : Syn D e d) (hl : 0 ≤ e.low ∧ e.low ≤ 4294967295) (hsz : e.size < 16777216) (hD : e.out.length + 5 ≤ D.length) : Syn D (eshift e) { dnext d with size := (dnext d).size * 256 } := by
  obtain ⟨h1, h2, h3⟩ := eshift_num hl
  have hlt : e.out.length + 4 < D.length := by omega
  have hr : d.rest = D[e.out.length + 4] :: D.drop (e.out.length + 4 + 1) := by rw [s.rest, List.drop_eq_getElem_cons hlt]
  have hc := (D[e.out.length + 4]).toNat_lt
  have hv : val (D.take (e.out.length + 5)) = val (D.take (e.out.length + 4)) * 256 + (D[e.out.length + 4]).toNat := by
    rw [← val_snoc, List.take_append_getElem hlt]
  have hsi := s.size
  have hrg := s.rng
  have hco := s.code
  obtain ⟨rest, code, size, missing, full⟩ := d
  dsimp only at hr hsi hrg hco
  subst hr
  have e5 : (eshift e).out.length + 4 = e.out.length + 5 := by omega
  refine ⟨by rw [h3, ← hsi]; rfl, by omega, ?_, s.miss, ?_, ?_⟩
  · show D.drop (e.out.length + 4 + 1) = _
    rw [e5]
  · show code * 256 % 4294967296 + ((D[e.out.length + 4]).toNat : Int) = _
    rw [e5, hv, h1]
    omega
  · show 0 ≤ code * 256 % 4294967296 + ((D[e.out.length + 4]).toNat : Int) ∧ code * 256 % 4294967296 + ((D[e.out.length + 4]).toNat : Int) < size * 256
    omega
theorem norm_len (k : Nat) (e : Enc) : e.out.length ≤ (norm k e).out.length := norm_out k e
theorem eshift_low (e : Enc) : 0 ≤ (eshift e).low ∧ (eshift e).low ≤ 4294967295 := by
  show 0 ≤ e.low * 256 % 4294967296 ∧ e.low * 256 % 4294967296 ≤ 4294967295; omega
theorem norm_syn {D : List UInt8} : ∀ (k : Nat) {e : Enc} {d : Dec}, Syn D e d → (0 ≤ e.low ∧ e.low ≤ 4294967295) → (norm k e).out.length + 4 ≤ D.length → Syn D (norm k e) (dnorm k d)
  | 0, _, _, s, _, _ => s
  | k + 1, e, d, s, hl, hD => by
    unfold norm at hD ⊢
    unfold dnorm
    rw [s.size]
    by_cases hc : e.size < 16777216
    · rw [if_pos hc] at hD ⊢
      rw [if_pos hc]
      have h2 : (eshift e).out.length = e.out.length + 1 := (eshift_num hl).2.1
      have h3 := norm_len k (eshift e)
      exact norm_syn k (dnext_syn s hl hc (by omega)) (eshift_low e) hD
    · rw [if_neg hc, if_neg hc]; exact s
/-- Once a byte is missing, it is missing. -/
theorem dnext_miss {d : Dec} (h : (dnext d).missing = false) : d.missing = false ∧ d.rest ≠ [] := by
  obtain ⟨rest, code, size, missing, full⟩ := d
  cases rest with
  | nil => cases h
  | cons c r => exact ⟨h, by simp⟩
theorem dnorm_miss : ∀ (k : Nat) {d : Dec}, (dnorm k d).missing = false → d.missing = false
  | 0, _, h => h
  | k + 1, d, h => by
    unfold dnorm at h
    split at h
    · have h0 := dnorm_miss k h
      exact (dnext_miss (d := d) h0).1
    · exact h
theorem eshift_InB {e : Enc} (hl : 0 ≤ e.low ∧ e.low ≤ 4294967295) (h : InB e) : InB (eshift e) := by
  obtain ⟨h1, h2, h3⟩ := eshift_num hl
  unfold InB at h ⊢
  rw [h1, h2, h3, Nat.pow_succ]
  generalize 256 ^ e.out.length = w at *
  omega
theorem norm_InB (k : Nat) : ∀ {e : Enc}, (0 ≤ e.low ∧ e.low ≤ 4294967295) → InB e → InB (norm k e) := by
  induction k with
  | zero => intro e _ h; exact h
  | succ k ih =>
    intro e hl h
    unfold norm
    split
    · exact ih (eshift_low e) (eshift_InB hl h)
    · exact h
theorem ebit_InB {n : Nat} {e : Enc} (hok : EncOk n e) (hi : InB e) (z b : Int) : InB (ebit e z b) := norm_InB 2 (estep_ok hok z b).2.1 (estep_num hok hi z b).2.1
theorem ebit_syn {D : List UInt8} {n : Nat} {e : Enc} {d : Dec} (s : Syn D e d) (hok : EncOk n e) (hi : InB e) (z b : Int) (hb : b = 0 ↔ (dbit d z).2 = 0) (hD : (ebit e z b).out.length + 4 ≤ D.length) : Syn D (ebit e z b) (dbit d z).1 :=
  norm_syn 2 (dstep_syn s hok hi z b hb) (estep_ok hok z b).2.1 hD
theorem e00_InB : InB e00 := by unfold InB; decide
/-- The start. -/
theorem dnew_syn {D : List UInt8} (h4 : 4 ≤ D.length) (hf : (dnew D).full = false) : Syn D e00 (dnew D) := by
  match D, h4 with
  | a :: b :: c :: d :: r, _ =>
    have h1 := a.toNat_lt; have h2 := b.toNat_lt; have h3 := c.toNat_lt; have h5 := d.toNat_lt
    have hv : val [a, b, c, d] = ((a.toNat * 256 + b.toNat) * 256 + c.toNat) * 256 + d.toNat := by simp [val]
    have hcode : (dnew (a :: b :: c :: d :: r)).code = (val [a, b, c, d] : Int) := by
      rw [hv]
      show (((0 * 256 % 4294967296 + (a.toNat : Int)) * 256 % 4294967296 + (b.toNat : Int)) * 256 % 4294967296 + (c.toNat : Int)) * 256 % 4294967296 + (d.toNat : Int) = _
      omega
    have hne : (dnew (a :: b :: c :: d :: r)).code ≠ 4294967295 := fun h => by
      have : (dnew (a :: b :: c :: d :: r)).full = true := by
        show decide ((dnew (a :: b :: c :: d :: r)).code = 4294967295) = true
        rw [h]; rfl
      rw [hf] at this; cases this
    refine ⟨rfl, by simp, rfl, rfl, ?_, ?_⟩
    · rw [hcode]; show _ = (val [a, b, c, d] : Int) - num' e00
      show _ = (val [a, b, c, d] : Int) - ((0 : Nat) * 4294967296 + 0 : Int)
      omega
    · show 0 ≤ (dnew (a :: b :: c :: d :: r)).code ∧ (dnew (a :: b :: c :: d :: r)).code < 4294967295
      rw [hcode] at hne ⊢
      rw [hv] at hne ⊢
      omega
end Go.Proofs.Ytgooffiipnkmiaa
end
section
set_option linter.unusedVariables false
set_option linter.unusedSimpArgs false
set_option maxRecDepth 4000
namespace Go.Proofs.Ytgooffiipnkmiaa
open Go.Gh Go.RowKit

theorem dnext_full (d : Dec) : (dnext d).full = d.full := by
  obtain ⟨rest, code, size, missing, full⟩ := d
  cases rest <;> rfl
theorem dnorm_full (k : Nat) : ∀ (d : Dec), (dnorm k d).full = d.full := by
  induction k with
  | zero => intro d; rfl
  | succ k ih =>
    intro d
    unfold dnorm
    split
    · rw [ih]; exact dnext_full d
    · rfl
theorem dbit_full (d : Dec) (z : Int) : (dbit d z).1.full = d.full := by
  show (dnorm 2 (dstep d z).1).full = _
  rw [dnorm_full]; unfold dstep; split <;> rfl
theorem dbit_miss {d : Dec} {z : Int} (h : (dbit d z).1.missing = false) : d.missing = false := by
  have := dnorm_miss 2 h
  unfold dstep at this
  split at this <;> exact this
theorem dbit_01 (d : Dec) (z : Int) : (dbit d z).2 = 0 ∨ (dbit d z).2 = 1 := by have := dbit_bit d z; omega
theorem dend_zero {d : Dec} (h : dend d = 0) : d.missing = false ∧ d.full = false ∧ d.rest = [] ∧ d.code = 0 := by
  unfold dend at h
  split at h
  · cases h
  · rename_i hn
    simp only [not_or, Bool.not_eq_true, ne_eq, Classical.not_not] at hn
    exact hn
end Go.Proofs.Ytgooffiipnkmiaa
end
section
set_option linter.unusedVariables false
set_option linter.unusedSimpArgs false
set_option maxRecDepth 4000
namespace Go.Proofs.Ytgooffiipnkmiaa
open Go.Gh Go.RowKit

def ext (d : Dec) (c : UInt8) : Dec := ⟨d.rest ++ [c], d.code, d.size, d.missing, d.full⟩
theorem dnext_ext {d : Dec} {c : UInt8} (h : (dnext d).missing = false) : dnext (ext d c) = ext (dnext d) c := by
  obtain ⟨rest, code, size, missing, full⟩ := d
  cases rest with
  | nil => cases h
  | cons x r => rfl
theorem dnorm_ext {c : UInt8} (k : Nat) : ∀ {d : Dec}, (dnorm k d).missing = false → dnorm k (ext d c) = ext (dnorm k d) c := by
  induction k with
  | zero => intro d _; rfl
  | succ k ih =>
    intro d h
    unfold dnorm at h ⊢
    rw [show (ext d c).size = d.size from rfl]
    split
    · rename_i hc
      rw [if_pos hc] at h
      have h0 := dnorm_miss k h
      rw [dnext_ext (d := d) h0]
      exact ih h
    · rfl
theorem dbit_ext {d : Dec} {c : UInt8} {z : Int} (h : (dbit d z).1.missing = false) : dbit (ext d c) z = (ext (dbit d z).1 c, (dbit d z).2) := by
  have e : dstep (ext d c) z = (ext (dstep d z).1 c, (dstep d z).2) := by
    unfold dstep
    rw [show (ext d c).size = d.size from rfl, show (ext d c).code = d.code from rfl]
    split <;> rfl
  unfold dbit
  rw [e]
  have := dnorm_ext (c := c) 2 (d := (dstep d z).1) h
  rw [this]
theorem dnew_ext {D : List UInt8} {c : UInt8} (h : 4 ≤ D.length) : dnew (D ++ [c]) = ext (dnew D) c := by
  match D, h with
  | _ :: _ :: _ :: _ :: _, _ => rfl
end Go.Proofs.Ytgooffiipnkmiaa
end
section
set_option linter.unusedVariables false
set_option linter.unusedSimpArgs false
set_option maxRecDepth 4000
namespace Go.Proofs.Ytgooffiipnkmiaa
open Go.Gh Go.RowKit

/-- Steps that are put together. -/
def StI (base : SH) (l : List (Int × Int)) (v : Value) (p : SH) : Prop := (l = [] ∧ v = .slice none 0 0 ∧ p = base) ∨ ∃ A, v = gsl A 0 (2 * l.length) l.length 2 ∧ p = (A, ⟨recs stF l, false⟩) :: base
theorem StI.has {base p : SH} {l : List (Int × Int)} {v : Value} (s : StI base l v p) : Has p (recs stF l) 2 l.length v := by
  rcases s with ⟨rfl, rfl, rfl⟩ | ⟨A, rfl, rfl⟩
  · exact ⟨none, 0, rfl, fun h => absurd rfl h⟩
  · exact ⟨_, _, rfl, fun _ => ⟨A, false, _, rfl, .head⟩⟩
theorem StI.take {base p : SH} {l : List (Int × Int)} {v : Value} (s : StI base l v p) : Take p base := by
  rcases s with ⟨rfl, rfl, rfl⟩ | ⟨A, rfl, rfl⟩
  · exact .nil
  · exact .drop .nil
theorem StI.one {base : SH} {x : Int × Int} {A : Nat} : StI base ([] ++ [x]) (gsl A 0 (1 * 2) 1 2) ((A, ⟨[I x.1, I x.2], false⟩) :: base) := .inr ⟨A, rfl, rfl⟩
end Go.Proofs.Ytgooffiipnkmiaa
end
section
set_option linter.unusedVariables false
set_option linter.unusedSimpArgs false
set_option maxRecDepth 4000
namespace Go.Proofs.Ytgooffiipnkmiaa
open Go.Gh Go.RowKit

def pw (j : Nat) : Int := ((256 ^ j : Nat) : Int)
theorem pw_pos (j : Nat) : 0 < pw j := by
  have : 0 < 256 ^ j := Nat.pow_pos (by decide)
  unfold pw; omega
theorem pw_zero : pw 0 = 1 := rfl
theorem pw_succ (j : Nat) : pw (j + 1) = 256 * pw j := by unfold pw; rw [Nat.pow_succ]; omega
theorem pw_add (i j : Nat) : pw (i + j) = pw i * pw j := by unfold pw; rw [Nat.pow_add, Int.natCast_mul]
theorem norm_in (k : Nat) : ∀ {e : Enc}, (0 ≤ e.low ∧ e.low ≤ 4294967295) → ∃ j, (norm k e).out.length = e.out.length + j ∧ num' (norm k e) = num' e * pw j ∧ (norm k e).size = e.size * pw j := by
  induction k with
  | zero => intro e _; exact ⟨0, rfl, by rw [pw_zero, Int.mul_one]; rfl, by rw [pw_zero, Int.mul_one]; rfl⟩
  | succ k ih =>
    intro e hl
    unfold norm
    split
    · obtain ⟨h1, h2, h3⟩ := eshift_num hl
      obtain ⟨j, g1, g2, g3⟩ := ih (eshift_low e)
      exact ⟨j + 1, by rw [g1, h2]; omega, by rw [g2, h1, pw_succ, Int.mul_assoc], by rw [g3, h3, pw_succ, Int.mul_assoc]⟩
    · exact ⟨0, rfl, by rw [pw_zero, Int.mul_one], by rw [pw_zero, Int.mul_one]⟩
/-- One interval within another. -/
def Within (e e' : Enc) : Prop := ∃ j, e'.out.length = e.out.length + j ∧ num' e * pw j ≤ num' e' ∧ num' e' + e'.size ≤ (num' e + e.size) * pw j
theorem Within.refl (e : Enc) : Within e e := ⟨0, rfl, by rw [pw_zero, Int.mul_one]; exact Int.le_refl _, by rw [pw_zero, Int.mul_one]; exact Int.le_refl _⟩
theorem Within.trans {e f g : Enc} (a : Within e f) (b : Within f g) : Within e g := by
  obtain ⟨i, a1, a2, a3⟩ := a
  obtain ⟨j, b1, b2, b3⟩ := b
  refine ⟨i + j, by omega, ?_, ?_⟩
  · rw [pw_add, ← Int.mul_assoc]
    exact Int.le_trans (Int.mul_le_mul_of_nonneg_right a2 (Int.le_of_lt (pw_pos j))) b2
  · rw [pw_add, ← Int.mul_assoc]
    exact Int.le_trans b3 (Int.mul_le_mul_of_nonneg_right a3 (Int.le_of_lt (pw_pos j)))
theorem within_norm {k : Nat} {e : Enc} (hl : 0 ≤ e.low ∧ e.low ≤ 4294967295) : Within e (norm k e) := by
  obtain ⟨j, g1, g2, g3⟩ := norm_in k hl
  exact ⟨j, g1, by rw [g2]; exact Int.le_refl _, by rw [g2, g3, Int.add_mul]; exact Int.le_refl _⟩
theorem within_ebit {n : Nat} {e : Enc} (hok : EncOk n e) (hi : InB e) (z b : Int) : Within (estep e z b) (ebit e z b) := within_norm (estep_ok hok z b).2.1
theorem within_estep {n : Nat} {e : Enc} (hok : EncOk n e) (hi : InB e) (z b : Int) : Within e (estep e z b) := by
  obtain ⟨h1, h2, h3, h4⟩ := estep_num hok hi z b
  have hd := size_dvd hok.size z
  refine ⟨0, h3, ?_, ?_⟩
  · rw [pw_zero, Int.mul_one, h1]; split <;> omega
  · rw [pw_zero, Int.mul_one, h1, h4]; split <;> omega
/-- Where a number lies whose end lies within. -/
theorem within_at {e f : Enc} {D : List UInt8} (w : Within e f) (hD : D.length = f.out.length + 4) (hv : (val D : Int) = num' f) (hs : 0 < f.size) :
    num' e ≤ (val (D.take (e.out.length + 4)) : Int) ∧ (val (D.take (e.out.length + 4)) : Int) < num' e + e.size := by
  obtain ⟨j, h1, h2, h3⟩ := w
  have hsp : val D = val (D.take (e.out.length + 4)) * 256 ^ j + val (D.drop (e.out.length + 4)) := by
    have := val_app (D.take (e.out.length + 4)) (D.drop (e.out.length + 4))
    rw [List.take_append_drop, List.length_drop, show D.length - (e.out.length + 4) = j by omega] at this
    exact this
  have hlt := val_lt (D.drop (e.out.length + 4))
  rw [List.length_drop, show D.length - (e.out.length + 4) = j by omega] at hlt
  have hp := pw_pos j
  have e1 : (val D : Int) = (val (D.take (e.out.length + 4)) : Int) * pw j + (val (D.drop (e.out.length + 4)) : Int) := by rw [hsp]; unfold pw; rw [Int.natCast_add, Int.natCast_mul]
  have e2 : (val (D.drop (e.out.length + 4)) : Int) < pw j := by unfold pw; omega
  generalize (val (D.take (e.out.length + 4)) : Int) = V at *
  have e3 : num' e * pw j < (V + 1) * pw j := by rw [Int.add_mul, Int.one_mul]; omega
  have e4 : V * pw j < (num' e + e.size) * pw j := by omega
  have e5 := Int.lt_of_mul_lt_mul_right e3 (Int.le_of_lt hp)
  have e6 := Int.lt_of_mul_lt_mul_right e4 (Int.le_of_lt hp)
  omega
/-- The decoder reads the bit that was written. -/
theorem bit_read {D : List UInt8} {n : Nat} {e f : Enc} {d : Dec} (s : Syn D e d) (hok : EncOk n e) (hi : InB e) (z b : Int) (w : Within (ebit e z b) f) (hD : D.length = f.out.length + 4) (hv : (val D : Int) = num' f) (hs : 0 < f.size) :
    b = 0 ↔ (dbit d z).2 = 0 := by
  obtain ⟨h1, h2, h3, h4⟩ := estep_num hok hi z b
  have hw := within_at ((within_ebit hok hi z b).trans w) hD hv hs
  have hd := size_dvd hok.size z
  rw [h3, h1, h4] at hw
  have hc := s.code
  show b = 0 ↔ (dstep d z).2 = 0
  unfold dstep
  rw [s.size]
  split
  · rename_i hlt
    refine ⟨fun _ => rfl, fun _ => ?_⟩
    by_cases hb : b = 0
    · exact hb
    · rw [if_neg hb, if_neg hb] at hw; omega
  · rename_i hlt
    refine ⟨fun hb => ?_, fun h => by cases h⟩
    rw [if_pos hb, if_pos hb] at hw; omega
end Go.Proofs.Ytgooffiipnkmiaa
end
section
set_option linter.unusedVariables false
set_option linter.unusedSimpArgs false
set_option maxRecDepth 4000
namespace Go.Proofs.Ytgooffiipnkmiaa
open Go.Gh Go.RowKit

theorem within_len {e f : Enc} (w : Within e f) : e.out.length ≤ f.out.length := by obtain ⟨j, h, _⟩ := w; omega
theorem within_ebits {v : Int} (k : Nat) : ∀ {n : Nat} {e : Enc}, EncOk n e → InB e → Within e (ebits v k e) ∧ InB (ebits v k e) := by
  induction k with
  | zero => intro n e _ hi; exact ⟨.refl _, hi⟩
  | succ k ih =>
    intro n e hok hi
    obtain ⟨h1, h2⟩ := ih (ebit_ok hok 1024 (v / 2 ^ k % 2)) (ebit_InB hok hi 1024 (v / 2 ^ k % 2))
    exact ⟨((within_estep hok hi _ _).trans (within_ebit hok hi _ _)).trans h1, h2⟩
theorem bits_read {D : List UInt8} {f : Enc} {v : Int} (hD : D.length = f.out.length + 4) (hv : (val D : Int) = num' f) (hs : 0 < f.size) (k : Nat) : ∀ {n : Nat} {e : Enc} {d : Dec} {a : Int}, Syn D e d → EncOk n e → InB e → Within (ebits v k e) f →
    Syn D (ebits v k e) (dbits k d a).1 ∧ (dbits k d a).2 = a * 2 ^ k + v % 2 ^ k := by
  induction k with
  | zero => intro n e d a s _ _ _; exact ⟨s, by show a = a * 2 ^ 0 + v % 2 ^ 0; rw [Int.pow_zero, Int.mul_one, Int.emod_one, Int.add_zero]⟩
  | succ k ih =>
    intro n e d a s hok hi w
    have hb1 := ebit_ok hok 1024 (v / 2 ^ k % 2)
    have hb2 := ebit_InB hok hi 1024 (v / 2 ^ k % 2)
    have w1 : Within (ebit e 1024 (v / 2 ^ k % 2)) f := (within_ebits k hb1 hb2).1.trans w
    have hr := bit_read s hok hi 1024 (v / 2 ^ k % 2) w1 hD hv hs
    have hbd := dbit_01 d 1024
    have hval : (dbit d 1024).2 = v / 2 ^ k % 2 := by omega
    obtain ⟨g1, g2⟩ := ih (a := a * 2 + (dbit d 1024).2) (ebit_syn s hok hi 1024 _ hr (by have := within_len w1; omega)) hb1 hb2 w
    refine ⟨g1, ?_⟩
    show (dbits k _ _).2 = _
    rw [g2, hval]
    have h1 := Int.emod_add_mul_ediv v (2 ^ k)
    have h2 := Int.emod_add_mul_ediv (v / 2 ^ k) 2
    have h3 := Int.emod_add_mul_ediv v (2 ^ (k + 1))
    have h4 : v / 2 ^ k / 2 = v / (2 ^ k * 2) := by rw [Int.ediv_ediv_of_nonneg (Int.le_of_lt (Int.pow_pos (by decide)))]
    rw [h4] at h2
    rw [Int.pow_succ] at h3 ⊢
    generalize v / (2 ^ k * 2) = q at *
    generalize v / 2 ^ k = p at *
    generalize (2 : Int) ^ k = t at *
    have h5 : t * p = t * (p % 2) + 2 * (t * q) := by
      conv => lhs; rw [← h2]
      rw [Int.mul_add, Int.mul_left_comm]
    have h6 : t * 2 * q = 2 * (t * q) := by rw [Int.mul_comm t 2, Int.mul_assoc]
    have h7 : (a * 2 + p % 2) * t = a * (t * 2) + t * (p % 2) := by rw [Int.add_mul, Int.mul_assoc, Int.mul_comm 2 t, Int.mul_comm (p % 2) t]
    omega
end Go.Proofs.Ytgooffiipnkmiaa
end
section
set_option linter.unusedVariables false
set_option linter.unusedSimpArgs false
set_option maxRecDepth 4000
namespace Go.Proofs.Ytgooffiipnkmiaa
open Go.Gh Go.RowKit

theorem four {D : List UInt8} (h : 4 ≤ D.length) : ∃ a b c d r, D = a :: b :: c :: d :: r := by
  match D, h with
  | a :: b :: c :: d :: r, _ => exact ⟨a, b, c, d, r, rfl⟩
theorem ddir_full (d : Dec) (x : Int) : (ddir d x).1.full = d.full := by
  have h : ∀ (k : Nat) (d : Dec) (a : Int), (dbits k d a).1.full = d.full := by
    intro k
    induction k with
    | zero => intro d a; rfl
    | succ k ih => intro d a; unfold dbits; rw [ih, dbit_full]
  unfold ddir
  split
  · rfl
  · exact h _ _ _
/-- The end. -/
theorem inv_end {e : Enc} {d : Dec} (hl : 0 ≤ e.low ∧ e.low ≤ 4294967295) (s : Syn (fin e) e d) (hf : d.full = false) : dend d = 0 := by
  have h1 := s.rest
  have h2 := s.code
  rw [← fin_len] at h1 h2
  rw [List.drop_length] at h1
  rw [List.take_length, fin_val hl] at h2
  unfold dend
  rw [if_neg]
  rintro (h | h | h | h)
  · rw [s.miss] at h; cases h
  · rw [hf] at h; cases h
  · exact h h1
  · exact h (by omega)
end Go.Proofs.Ytgooffiipnkmiaa
end
section
set_option linter.unusedVariables false
set_option linter.unusedSimpArgs false
set_option maxRecDepth 4000
namespace Go.Proofs.Ytgooffiipnkmiaa
open Go.Gh Go.RowKit

/-- An end behind the encoder: the decoder's bytes are those of f. -/
structure Beh (D : List UInt8) (f : Enc) : Prop where
  len : D.length = f.out.length + 4
  val : (val D : Int) = num' f
  size : 0 < f.size
theorem Beh.fin {n : Nat} {f : Enc} (h : EncOk n f) : Beh (fin f) f := ⟨fin_len f, fin_val h.low, by have := h.size; omega⟩
theorem bit01 (v : Int) (k : Nat) : v / 2 ^ k % 2 = 0 ∨ v / 2 ^ k % 2 = 1 := by omega
theorem mod_split (v : Int) (k : Nat) : v % 2 ^ (k + 1) = 2 ^ k * (v / 2 ^ k % 2) + v % 2 ^ k := by
  have h1 := Int.emod_add_mul_ediv v (2 ^ k)
  have h2 := Int.emod_add_mul_ediv (v / 2 ^ k) 2
  have h3 := Int.emod_add_mul_ediv v (2 ^ (k + 1))
  have h4 : v / 2 ^ k / 2 = v / (2 ^ k * 2) := by rw [Int.ediv_ediv_of_nonneg (Int.le_of_lt (Int.pow_pos (by decide)))]
  rw [h4] at h2
  rw [Int.pow_succ] at h3 ⊢
  generalize v / (2 ^ k * 2) = q at *
  generalize v / 2 ^ k = p at *
  generalize (2 : Int) ^ k = t at *
  have h5 : t * p = t * (p % 2) + 2 * (t * q) := by
    conv => lhs; rw [← h2]
    rw [Int.mul_add, Int.mul_left_comm]
  have h6 : t * 2 * q = 2 * (t * q) := by rw [Int.mul_comm t 2, Int.mul_assoc]
  omega
theorem tenc_in {v : Int} (k : Nat) : ∀ {n : Nat} {t : List Int} {e : Enc} {j : Nat}, EncOk n e → InB e → Within e (tenc v k t e j).2 ∧ InB (tenc v k t e j).2 := by
  induction k with
  | zero => intro n t e j _ hi; exact ⟨.refl _, hi⟩
  | succ k ih =>
    intro n t e j hok hi
    obtain ⟨h1, h2⟩ := ih (t := t.set j (adp t[j]! (v / 2 ^ k % 2))) (j := 2 * j + (v / 2 ^ k % 2).toNat) (ebit_ok hok t[j]! (v / 2 ^ k % 2)) (ebit_InB hok hi t[j]! (v / 2 ^ k % 2))
    exact ⟨((within_estep hok hi _ _).trans (within_ebit hok hi _ _)).trans h1, h2⟩
/-- A tree reads what it wrote. -/
theorem tenc_read {D : List UInt8} {f : Enc} {v : Int} (hf : Beh D f) (k : Nat) : ∀ {n : Nat} {t : List Int} {e : Enc} {d : Dec} {j : Nat}, Syn D e d → EncOk n e → InB e → Within (tenc v k t e j).2 f →
    Syn D (tenc v k t e j).2 (tdec k t d j).2.1 ∧ (tdec k t d j).1 = (tenc v k t e j).1 ∧ ((tdec k t d j).2.2 : Int) = 2 ^ k * j + v % 2 ^ k := by
  induction k with
  | zero => intro n t e d j s _ _ _; exact ⟨s, rfl, by show (j : Int) = 2 ^ 0 * j + v % 2 ^ 0; rw [Int.pow_zero, Int.emod_one]; omega⟩
  | succ k ih =>
    intro n t e d j s hok hi w
    have hb1 := ebit_ok hok t[j]! (v / 2 ^ k % 2)
    have hb2 := ebit_InB hok hi t[j]! (v / 2 ^ k % 2)
    have w1 : Within (ebit e t[j]! (v / 2 ^ k % 2)) f := (tenc_in k hb1 hb2).1.trans w
    have hr := bit_read s hok hi t[j]! (v / 2 ^ k % 2) w1 hf.len hf.val hf.size
    have hbd := dbit_01 d t[j]!
    have hval : (dbit d t[j]!).2 = v / 2 ^ k % 2 := by omega
    have s1 := ebit_syn s hok hi t[j]! _ hr (by have := within_len w1; have := hf.len; omega)
    have ih := ih (t := t.set j (adp t[j]! (v / 2 ^ k % 2))) (j := 2 * j + (v / 2 ^ k % 2).toNat) s1 hb1 hb2 w
    have e1 : tdec (k + 1) t d j = tdec k (t.set j (adp t[j]! (v / 2 ^ k % 2))) (dbit d t[j]!).1 (2 * j + (v / 2 ^ k % 2).toNat) := by rw [← hval]; rfl
    rw [e1]
    refine ⟨ih.1, ih.2.1, ?_⟩
    rw [ih.2.2, mod_split, Int.pow_succ]
    have e2 : ((2 * j + (v / 2 ^ k % 2).toNat : Nat) : Int) = 2 * (j : Int) + v / 2 ^ k % 2 := by omega
    rw [e2, Int.mul_add, ← Int.mul_assoc]
    omega
theorem tdec_miss : ∀ (k : Nat) {t : List Int} {d : Dec} {j : Nat}, (tdec k t d j).2.1.missing = false → d.missing = false
  | 0, _, _, _, h => h
  | k + 1, t, d, j, h => dbit_miss (tdec_miss k (t := t.set j (adp t[j]! (dbit d t[j]!).2)) (j := 2 * j + (dbit d t[j]!).2.toNat) h)
theorem tdec_full : ∀ (k : Nat) {t : List Int} {d : Dec} {j : Nat}, (tdec k t d j).2.1.full = d.full
  | 0, _, _, _ => rfl
  | k + 1, t, d, j => (tdec_full k (t := t.set j (adp t[j]! (dbit d t[j]!).2)) (j := 2 * j + (dbit d t[j]!).2.toNat)).trans (dbit_full d _)
theorem tdec_ext {c : UInt8} : ∀ (k : Nat) {t : List Int} {d : Dec} {j : Nat}, (tdec k t d j).2.1.missing = false → tdec k t (ext d c) j = ((tdec k t d j).1, ext (tdec k t d j).2.1 c, (tdec k t d j).2.2)
  | 0, _, _, _, _ => rfl
  | k + 1, t, d, j, h => by
    have h1 : (dbit d t[j]!).1.missing = false := tdec_miss k (t := t.set j (adp t[j]! (dbit d t[j]!).2)) (j := 2 * j + (dbit d t[j]!).2.toNat) h
    show tdec k (t.set j (adp t[j]! (dbit (ext d c) t[j]!).2)) (dbit (ext d c) t[j]!).1 (2 * j + (dbit (ext d c) t[j]!).2.toNat) = _
    rw [dbit_ext h1]
    exact tdec_ext k h
theorem dbits_miss : ∀ (k : Nat) {d : Dec} {a : Int}, (dbits k d a).1.missing = false → d.missing = false
  | 0, _, _, h => h
  | k + 1, d, a, h => dbit_miss (dbits_miss k (a := a * 2 + (dbit d 1024).2) h)
theorem dbits_ext {c : UInt8} : ∀ (k : Nat) {d : Dec} {a : Int}, (dbits k d a).1.missing = false → dbits k (ext d c) a = (ext (dbits k d a).1 c, (dbits k d a).2)
  | 0, _, _, _ => rfl
  | k + 1, d, a, h => by
    have h1 : (dbit d 1024).1.missing = false := dbits_miss k (a := a * 2 + (dbit d 1024).2) h
    show dbits k (dbit (ext d c) 1024).1 (a * 2 + (dbit (ext d c) 1024).2) = _
    rw [dbit_ext h1]
    exact dbits_ext k h
end Go.Proofs.Ytgooffiipnkmiaa
end
section
set_option linter.unusedVariables false
set_option linter.unusedSimpArgs false
set_option maxRecDepth 4000
namespace Go.Proofs.Ytgooffiipnkmiaa
open Go.Gh Go.RowKit

theorem edir_in {n : Nat} {e : Enc} (hok : EncOk n e) (hi : InB e) (x v : Int) : Within e (edir e x v) ∧ InB (edir e x v) := by
  unfold edir
  split
  · exact ⟨.refl _, hi⟩
  · exact within_ebits _ hok hi
theorem ddir_miss {d : Dec} {x : Int} (h : (ddir d x).1.missing = false) : d.missing = false := by
  unfold ddir at h
  split at h
  · exact h
  · exact dbits_miss _ h
theorem ddir_ext {c : UInt8} {d : Dec} {x : Int} (h : (ddir d x).1.missing = false) : ddir (ext d c) x = (ext (ddir d x).1 c, (ddir d x).2) := by
  unfold ddir at h ⊢
  split
  · rfl
  · rename_i hx
    rw [if_neg hx] at h
    exact dbits_ext _ h
/-- The model of bytes. -/
theorem benc_in {P : List Int} {c v : Int} {n : Nat} {e : Enc} (hok : EncOk n e) (hi : InB e) : Within e (benc P c e v).2 ∧ InB (benc P c e v).2 := tenc_in (v := v) 8 (t := bsel P (c / 32).toNat) (j := 1) hok hi
theorem benc_read {D : List UInt8} {f : Enc} {P : List Int} {c v : Int} {n : Nat} {e : Enc} {d : Dec} (hf : Beh D f) (s : Syn D e d) (hok : EncOk n e) (hi : InB e) (w : Within (benc P c e v).2 f) :
    Syn D (benc P c e v).2 (bdec P c d).2.1 ∧ (bdec P c d).1 = (benc P c e v).1 ∧ (bdec P c d).2.2 = v % 256 := by
  obtain ⟨h1, h2, h3⟩ := tenc_read (v := v) hf 8 (t := bsel P (c / 32).toNat) (j := 1) s hok hi w
  refine ⟨h1, congrArg (bput P (c / 32).toNat) h2, ?_⟩
  show ((((tdec 8 (bsel P (c / 32).toNat) d 1).2.2 - 256 : Nat)) : Int) = v % 256
  have h28 : (2 ^ 8 : Int) = 256 := rfl
  rw [h28] at h3
  omega
theorem bdec_miss {P : List Int} {c : Int} {d : Dec} (h : (bdec P c d).2.1.missing = false) : d.missing = false := tdec_miss 8 (t := bsel P (c / 32).toNat) (j := 1) h
theorem bdec_full {P : List Int} {c : Int} {d : Dec} : (bdec P c d).2.1.full = d.full := tdec_full 8 (t := bsel P (c / 32).toNat) (j := 1)
theorem bdec_ext {P : List Int} {c : Int} {d : Dec} {x : UInt8} (h : (bdec P c d).2.1.missing = false) : bdec P c (ext d x) = ((bdec P c d).1, ext (bdec P c d).2.1 x, (bdec P c d).2.2) := by
  have := tdec_ext (c := x) 8 (t := bsel P (c / 32).toNat) (j := 1) h
  unfold bdec
  rw [this]
/-- The model of numbers. -/
theorem nenc_in {t : List Int} {v : Int} {n : Nat} {e : Enc} (hok : EncOk n e) (hi : InB e) : Within e (nenc t e v).2 ∧ InB (nenc t e v).2 := by
  have h1 := tenc_in (v := (blen (ncut v).toNat : Int)) 6 (t := t) (j := 1) hok hi
  have h2 := (tenc_ok (v := (blen (ncut v).toNat : Int)) (k := 6) (t := t) (j := 1) hok).1
  show Within e (if _ then _ else _) ∧ InB (if _ then _ else _)
  split
  · have h3 := edir_in h2 h1.2 ((blen (ncut v).toNat : Int) - 1) (ncut v)
    exact ⟨h1.1.trans h3.1, h3.2⟩
  · exact h1
theorem ncut_in (v : Int) : 0 ≤ ncut v ∧ ncut v ≤ 4611686018427387903 := by unfold ncut; split <;> omega
theorem blen_lt (x : Nat) : x < 2 ^ blen x := by
  unfold blen
  split
  · rename_i h; subst h; decide
  · exact Nat.lt_log2_self
theorem blen_ge {x : Nat} (h : x ≠ 0) : 2 ^ (blen x - 1) ≤ x := by
  unfold blen
  rw [if_neg h, Nat.add_sub_cancel]
  exact Nat.log2_self_le h
theorem nenc_read {D : List UInt8} {f : Enc} {t : List Int} {v : Int} {n : Nat} {e : Enc} {d : Dec} (hf : Beh D f) (s : Syn D e d) (hok : EncOk n e) (hi : InB e) (w : Within (nenc t e v).2 f) :
    Syn D (nenc t e v).2 (ndec t d).2.1 ∧ (ndec t d).1 = (nenc t e v).1 ∧ (ndec t d).2.2 = ncut v := by
  have hcut := ncut_in v
  unfold nenc at w ⊢
  unfold ndec
  obtain ⟨x, hx⟩ := Int.eq_ofNat_of_zero_le hcut.1
  rw [hx] at hcut w ⊢
  rw [Int.toNat_natCast] at w ⊢
  have hl : blen x ≤ 62 := blen_le (by have : (2 : Nat) ^ 62 = 4611686018427387904 := rfl; omega)
  have h1 := tenc_in (v := (blen x : Int)) 6 (t := t) (j := 1) hok hi
  have h2 := (tenc_ok (v := (blen x : Int)) (k := 6) (t := t) (j := 1) hok).1
  have hlt := blen_lt x
  have hge := fun h => blen_ge (x := x) h
  have hz2 : x = 0 → blen x = 0 := fun h => by rw [h]; rfl
  have w1 : Within (tenc (blen x) 6 t e 1).2 f := by
    dsimp only at w
    split at w
    · exact (edir_in h2 h1.2 _ _).1.trans w
    · exact w
  obtain ⟨g1, g2, g3⟩ := tenc_read (v := (blen x : Int)) hf 6 (t := t) (j := 1) s hok hi w1
  have h26 : (2 ^ 6 : Int) = 64 := rfl
  rw [h26] at g3
  have hj : (tdec 6 t d 1).2.2 - 64 = blen x := by omega
  rw [hj]
  dsimp only at w ⊢
  generalize blen x = l at *
  by_cases h0 : l ≤ 1
  · rw [if_neg (show ¬ 2 ≤ l by omega), if_pos (show l ≤ 1 ∨ l = 63 from .inl h0), if_pos h0]
    refine ⟨g1, g2, ?_⟩
    have : l = 0 ∨ l = 1 := by omega
    rcases this with rfl | rfl
    · rw [Nat.pow_zero] at hlt; omega
    · rw [Nat.pow_one] at hlt
      have : x ≠ 0 := fun h => absurd (hz2 h) (by decide)
      omega
  · rw [if_pos (show 2 ≤ l by omega), if_neg (show ¬ (l ≤ 1 ∨ l = 63) by omega), if_neg h0, if_neg (show ¬ l = 63 by omega)]
    rw [if_pos (show 2 ≤ l by omega)] at w
    have hx0 : x ≠ 0 := fun h => by have := hz2 h; omega
    have e1 : ∀ E V, edir E ((l : Int) - 1) V = ebits V (l - 1) E := fun E V => by unfold edir; rw [if_neg (by omega), show ((l : Int) - 1).toNat = l - 1 by omega]
    have e2 : ∀ D, ddir D ((l : Int) - 1) = dbits (l - 1) D 0 := fun D => by unfold ddir; rw [if_neg (by omega), show ((l : Int) - 1).toNat = l - 1 by omega]
    rw [e1] at w ⊢
    rw [e2]
    obtain ⟨k1, k2⟩ := bits_read hf.len hf.val hf.size (v := (x : Int)) (l - 1) (a := 0) g1 h2 h1.2 w
    refine ⟨k1, g2, ?_⟩
    rw [k2]
    have hg := hge hx0
    have hp2 : 2 ^ l = 2 ^ (l - 1) * 2 := by rw [← Nat.pow_succ]; congr 1; omega
    rw [hp2] at hlt
    have hc : ((2 : Int) ^ (l - 1)) = ((2 ^ (l - 1) : Nat) : Int) := by simp
    rw [hc]
    generalize 2 ^ (l - 1) = p at *
    have : x % p = x - p := by rw [Nat.mod_eq_sub_mod hg, Nat.mod_eq_of_lt (by omega)]
    rw [← Int.natCast_emod, this]
    omega
theorem ndec_miss {t : List Int} {d : Dec} (h : (ndec t d).2.1.missing = false) : d.missing = false ∧ (tdec 6 t d 1).2.1.missing = false := by
  have : (tdec 6 t d 1).2.1.missing = false := by
    unfold ndec at h
    dsimp only at h
    split at h
    · exact h
    · exact ddir_miss h
  exact ⟨tdec_miss 6 (t := t) (j := 1) this, this⟩
theorem ndec_full {t : List Int} {d : Dec} : (ndec t d).2.1.full = d.full := by
  unfold ndec
  dsimp only
  split
  · exact tdec_full 6 (t := t) (j := 1)
  · exact (ddir_full _ _).trans (tdec_full 6 (t := t) (j := 1))
theorem ndec_ext {t : List Int} {d : Dec} {x : UInt8} (h : (ndec t d).2.1.missing = false) : ndec t (ext d x) = ((ndec t d).1, ext (ndec t d).2.1 x, (ndec t d).2.2) := by
  have h1 := tdec_ext (c := x) 6 (t := t) (j := 1) (ndec_miss h).2
  unfold ndec at h ⊢
  rw [h1]
  dsimp only at h ⊢
  generalize tdec 6 t d 1 = T at *
  by_cases h0 : T.2.2 - 64 ≤ 1 ∨ T.2.2 - 64 = 63
  · rw [if_pos h0, if_pos h0]
    by_cases h2 : T.2.2 - 64 ≤ 1
    · rw [if_pos h2, if_pos h2]
    · rw [if_neg h2, if_neg h2, if_pos (by omega), if_pos (by omega)]
  · rw [if_neg h0] at h
    rw [if_neg h0, if_neg h0, if_neg (by omega), if_neg (by omega), if_neg (by omega), if_neg (by omega), ddir_ext h]
end Go.Proofs.Ytgooffiipnkmiaa
end
section
set_option linter.unusedVariables false
set_option linter.unusedSimpArgs false
set_option maxRecDepth 4000
namespace Go.Proofs.Ytgooffiipnkmiaa
open Go.Gh Go.RowKit

/-- The start behind an encoder. -/
theorem start_full {n : Nat} {f : Enc} (hok : EncOk n f) (w : Within encZ f) : (dnew (fin f)).full = false := by
  have hv := fin_val hok.low
  have ha := within_at w (fin_len _) hv (by have := hok.size; omega)
  have hlen : 4 ≤ (fin f).length := by rw [fin_len]; omega
  generalize fin f = D at *
  obtain ⟨a, b, c, d, r, rfl⟩ := four hlen
  · have h1 := a.toNat_lt; have h2 := b.toNat_lt; have h3 := c.toNat_lt; have h5 := d.toNat_lt
    have hv4 : val [a, b, c, d] = ((a.toNat * 256 + b.toNat) * 256 + c.toNat) * 256 + d.toNat := by simp [val]
    have ha2 : (val [a, b, c, d] : Int) < 4294967295 := by
      have := ha.2
      rw [show num' encZ + encZ.size = 4294967295 from rfl] at this
      exact this
    show decide ((((0 * 256 % 4294967296 + (a.toNat : Int)) * 256 % 4294967296 + (b.toNat : Int)) * 256 % 4294967296 + (c.toNat : Int)) * 256 % 4294967296 + (d.toNat : Int) = 4294967295) = false
    rw [decide_eq_false_iff_not]
    omega
theorem start_syn {n : Nat} {f : Enc} (hok : EncOk n f) (w : Within encZ f) : Syn (fin f) encZ (dnew (fin f)) := dnew_syn (by rw [fin_len]; omega) (start_full hok w)
end Go.Proofs.Ytgooffiipnkmiaa
end
section
set_option linter.unusedVariables false
set_option linter.unusedSimpArgs false
set_option maxRecDepth 4000
namespace Go.Proofs.Ytgooffiipnkmiaa
open Go.Gh Go.RowKit

theorem lead_fin : ∀ f : Nat, f < 256 → (f < 128 → vlead (f : Int) 8 0 = 0 ∧ vlow (f : Int) 0 = f) ∧ (128 ≤ f → f < 192 → vlead (f : Int) 8 0 = 1 ∧ vlow (f : Int) 1 = (f : Int) - 128) ∧ (192 ≤ f → 2 ≤ vlead (f : Int) 8 0) := by decide +kernel
theorem hd_fin : ∀ m : Nat, m < 128 → vhd 0 (m : Int) = m ∧ (m < 64 → vhd 1 (m : Int) = 128 + (m : Int)) := by decide +kernel
theorem vbnd0 : vbnd 0 = 0 := rfl
theorem vbnd1 : vbnd 1 = 128 := by decide
theorem vbnd2 : vbnd 2 = 16512 := by decide
theorem vk_lo {n : Int} (h : n < 128) : vk n = 0 := by
  show (if vbnd 1 ≤ n then vks n 7 1 else 0) = 0
  rw [vbnd1, if_neg (by omega)]
theorem vk_hi {n : Int} (h : 128 ≤ n) (h2 : n < 16512) : vk n = 1 := by
  show (if vbnd 1 ≤ n then (if vbnd 2 ≤ n then vks n 6 2 else 1) else 0) = 1
  rw [vbnd1, vbnd2, if_pos h, if_neg (by omega)]
theorem vnum_lo {n : Int} (h0 : 0 ≤ n) (h : n < 128) : vnum n = [b8 n] := by
  obtain ⟨m, rfl⟩ := Int.eq_ofNat_of_zero_le h0
  unfold vnum
  rw [if_neg (by omega), vk_lo h, vbnd0, Int.sub_zero]
  show [b8 (vhd 0 (m : Int))] = _
  rw [(hd_fin m (by omega)).1]
theorem vnum_hi {n : Int} (h0 : 128 ≤ n) (h : n < 16512) : vnum n = [b8 (128 + (n - 128) / 256), b8 ((n - 128) % 256)] := by
  unfold vnum
  rw [if_neg (by omega), vk_hi h0 h, vbnd1]
  show [b8 (vhd 1 ((n - 128) / 256)), b8 ((n - 128) % 256)] = _
  obtain ⟨m, hm⟩ := Int.eq_ofNat_of_zero_le (show 0 ≤ (n - 128) / 256 by omega)
  rw [hm, (hd_fin m (by omega)).2 (by omega)]
theorem bat_zero (x : UInt8) (r : List UInt8) : bat (x :: r) 0 = x.toNat := rfl
theorem vpeek_lo {x : UInt8} {r : List UInt8} (h : x.toNat < 128) : vpeek (x :: r) = ((x.toNat : Int), 1, true) := by
  have hl := (lead_fin x.toNat (by omega)).1 h
  unfold vpeek
  rw [if_neg (by simp), bat_zero, hl.1, if_neg (by simp), hl.2, vbnd0]
  rw [show vacc (x :: r) 0 1 (x.toNat : Int) = x.toNat from rfl, if_neg (by omega), Int.add_zero]
  rfl
theorem vpeek_hi {x y : UInt8} {r : List UInt8} (h : 128 ≤ x.toNat) (h2 : x.toNat < 192) : vpeek (x :: y :: r) = (((x.toNat : Int) - 128) * 256 + y.toNat + 128, 2, true) := by
  have hl := (lead_fin x.toNat (by omega)).2.1 h h2
  have hy := y.toNat_lt
  unfold vpeek
  rw [if_neg (by simp), bat_zero, hl.1, if_neg (by simp), hl.2, vbnd1]
  rw [show vacc (x :: y :: r) 1 1 ((x.toNat : Int) - 128) = ((x.toNat : Int) - 128) * 256 + y.toNat from rfl, if_neg (by omega)]
  rfl
theorem vpeek_num {n : Int} (h0 : 0 ≤ n) (h : n ≤ 4096) (r : List UInt8) : vpeek (vnum n ++ r) = (n, ((vnum n).length : Int), true) := by
  by_cases h1 : n < 128
  · rw [vnum_lo h0 h1]
    have := b8_val (n := n) (by omega)
    show vpeek (b8 n :: r) = _
    rw [vpeek_lo (by omega), this]
    rfl
  · rw [vnum_hi (by omega) (by omega)]
    have e1 := b8_val (n := 128 + (n - 128) / 256) (by omega)
    have e2 := b8_val (n := (n - 128) % 256) (by omega)
    show vpeek (b8 (128 + (n - 128) / 256) :: b8 ((n - 128) % 256) :: r) = _
    rw [vpeek_hi (by omega) (by omega), e1, e2]
    have : (128 + (n - 128) / 256 - 128) * 256 + (n - 128) % 256 + 128 = n := by omega
    rw [this]
    rfl
theorem rdN_num {n : Int} (h0 : 0 ≤ n) (h : n ≤ 4096) (r : List UInt8) : rdN (vnum n ++ r) 4096 = (n, r, 0) := by
  unfold rdN
  rw [vpeek_num h0 h]
  dsimp only
  rw [if_neg (by decide), if_neg (by omega), Int.toNat_natCast, List.drop_left]
end Go.Proofs.Ytgooffiipnkmiaa
end
section
set_option linter.unusedVariables false
set_option linter.unusedSimpArgs false
set_option maxRecDepth 4000
namespace Go.Proofs.Ytgooffiipnkmiaa
open Go.Gh Go.RowKit

theorem wst_in {n : Nat} {s : Ms × Enc} {t : Pc} (hok : EncOk n s.2) (hi : InB s.2) : Within s.2 (wst s t).2 ∧ InB (wst s t).2 := by
  unfold wst
  split
  · have h1 := tenc_ok (v := 0) (k := 1) (t := s.1.K) (j := 1) hok
    have g1 := tenc_in (v := 0) 1 (t := s.1.K) (j := 1) hok hi
    have g2 := benc_in (P := s.1.P) (c := s.1.c) (v := t.2.2) h1.1 g1.2
    exact ⟨g1.1.trans g2.1, g2.2⟩
  · have h1 := tenc_ok (v := 1) (k := 1) (t := s.1.K) (j := 1) hok
    have h2 := nenc_ok (t := s.1.L) h1.1 (t.1 - 2)
    have g1 := tenc_in (v := 1) 1 (t := s.1.K) (j := 1) hok hi
    have g2 := nenc_in (t := s.1.L) (v := t.1 - 2) h1.1 g1.2
    have g3 := nenc_in (t := s.1.D) (v := t.2.1 - 1) h2.1 g2.2
    exact ⟨(g1.1.trans g2.1).trans g3.1, g3.2⟩
theorem wrun_in (l : List Pc) : ∀ {n : Nat} {s : Ms × Enc}, MsOk s.1 → EncOk n s.2 → InB s.2 → (∀ t ∈ l, vPb t) → Within s.2 (wrun l s).2 ∧ InB (wrun l s).2 := by
  induction l with
  | nil => intro n s _ _ hi _; exact ⟨.refl _, hi⟩
  | cons t r ih =>
    intro n s hx hok hi ht
    have h1 := wst_ok hx hok (ht t (by simp))
    have g1 := wst_in (t := t) hok hi
    have g2 := ih h1.1 h1.2 g1.2 (fun u hu => ht u (by simp [hu]))
    rw [wrun_cons]
    exact ⟨g1.1.trans g2.1, g2.2⟩
theorem wst_read {D : List UInt8} {f : Enc} {n : Nat} {s : Ms × Enc} {d : Dec} {t : Pc} (hf : Beh D f) (sy : Syn D s.2 d) (hok : EncOk n s.2) (hi : InB s.2) (ht : vPb t) (w : Within (wst s t).2 f) :
    Syn D (wst s t).2 (zrd s.1 d).d ∧ (zrd s.1 d).x = (wst s t).1 ∧ (zrd s.1 d).t = t ∧ ((zrd s.1 d).lit = true ↔ t.2.1 = 0) ∧ (zrd s.1 d).d.full = d.full := by
  obtain ⟨hv, hy⟩ := ht
  obtain ⟨a, b, y⟩ := t
  dsimp only at hv hy
  unfold wst at w ⊢
  dsimp only at w ⊢
  by_cases h0 : b = 0
  · have ha : a = 1 := by rcases hv with g | g <;> (dsimp only at g; omega)
    subst h0 ha
    rw [if_pos rfl] at w ⊢
    dsimp only at w ⊢
    have h1 := tenc_ok (v := 0) (k := 1) (t := s.1.K) (j := 1) hok
    have g1 := tenc_in (v := 0) 1 (t := s.1.K) (j := 1) hok hi
    have g2 := benc_in (P := s.1.P) (c := s.1.c) (v := y) h1.1 g1.2
    obtain ⟨k1, k2, k3⟩ := tenc_read (v := 0) hf 1 (t := s.1.K) (j := 1) sy hok hi (g2.1.trans w)
    obtain ⟨m1, m2, m3⟩ := benc_read hf k1 h1.1 g1.2 (P := s.1.P) (c := s.1.c) (v := y) w
    have hj : (tdec 1 s.1.K d 1).2.2 = 2 := by
      have e : (2 : Int) ^ 1 * ((1 : Nat) : Int) + 0 % 2 ^ 1 = 2 := by decide
      rw [e] at k3; omega
    have hfu := tdec_full 1 (t := s.1.K) (d := d) (j := 1)
    have hfu2 := bdec_full (P := s.1.P) (c := s.1.c) (d := (tdec 1 s.1.K d 1).2.1)
    have hyy : y % 256 = y := by omega
    unfold zrd
    rw [if_pos hj]
    dsimp only
    rw [m2, m3, k2, hyy]
    exact ⟨m1, rfl, rfl, ⟨fun _ => rfl, fun _ => rfl⟩, hfu2.trans hfu⟩
  · have hg : 1 ≤ b ∧ b ≤ 4096 ∧ 2 ≤ a ∧ a ≤ 273 ∧ y = 0 := by rcases hv with g | g <;> (dsimp only at g; omega)
    rw [if_neg h0] at w ⊢
    dsimp only at w ⊢
    have h1 := tenc_ok (v := 1) (k := 1) (t := s.1.K) (j := 1) hok
    have h2 := nenc_ok (t := s.1.L) h1.1 (a - 2)
    have g1 := tenc_in (v := 1) 1 (t := s.1.K) (j := 1) hok hi
    have g2 := nenc_in (t := s.1.L) (v := a - 2) h1.1 g1.2
    have g3 := nenc_in (t := s.1.D) (v := b - 1) h2.1 g2.2
    obtain ⟨k1, k2, k3⟩ := tenc_read (v := 1) hf 1 (t := s.1.K) (j := 1) sy hok hi ((g2.1.trans g3.1).trans w)
    obtain ⟨m1, m2, m3⟩ := nenc_read hf k1 h1.1 g1.2 (t := s.1.L) (v := a - 2) (g3.1.trans w)
    obtain ⟨p1, p2, p3⟩ := nenc_read hf m1 h2.1 g2.2 (t := s.1.D) (v := b - 1) w
    have hj : ¬ (tdec 1 s.1.K d 1).2.2 = 2 := by
      have e : (2 : Int) ^ 1 * ((1 : Nat) : Int) + 1 % 2 ^ 1 = 3 := by decide
      rw [e] at k3; omega
    have hfu := tdec_full 1 (t := s.1.K) (d := d) (j := 1)
    have hfu2 := ndec_full (t := s.1.L) (d := (tdec 1 s.1.K d 1).2.1)
    have hfu3 := ndec_full (t := s.1.D) (d := (ndec s.1.L (tdec 1 s.1.K d 1).2.1).2.1)
    rw [show ncut (a - 2) = a - 2 from if_neg (by omega)] at m3
    rw [show ncut (b - 1) = b - 1 from if_neg (by omega)] at p3
    unfold zrd
    rw [if_neg hj]
    dsimp only
    rw [p2, p3, m2, m3, k2, Int.sub_add_cancel, Int.sub_add_cancel, hg.2.2.2.2]
    exact ⟨p1, rfl, rfl, ⟨fun g => (by cases g), fun g => absurd g h0⟩, (hfu3.trans hfu2).trans hfu⟩
/-- Pieces that make bytes of n bytes. -/
def Fit (n : Nat) : List UInt8 → List Pc → Prop
  | o, [] => o.length = n
  | o, t :: r => o.length < n ∧ (t.2.1 = 0 ∨ okC n o t) ∧ Fit n (estp o t) r
theorem rdP_read {D : List UInt8} {f : Enc} {n : Nat} (hf : Beh D f) (ps : List Pc) : ∀ {m k : Nat} {s : Ms × Enc} {d : Dec} {o : List UInt8}, MsOk s.1 → EncOk m s.2 → InB s.2 → Syn D s.2 d → Fit n o ps → (∀ t ∈ ps, vPb t) → Within (wrun ps s).2 f → n - o.length ≤ k →
    ∃ d', rdP n k s.1 d o = some (ps, d') ∧ Syn D (wrun ps s).2 d' ∧ d'.full = d.full := by
  induction ps with
  | nil => intro m k s d o _ _ _ sy hfit _ _ _; exact ⟨d, rdP_end (by have : o.length = n := hfit; omega), sy, rfl⟩
  | cons t r ih =>
    intro m k s d o hx hok hi sy hfit ht w hk
    obtain ⟨f1, f2, f3⟩ := hfit
    have h1 := wst_ok hx hok (ht t (by simp))
    have g1 := wst_in (t := t) hok hi
    have htr : ∀ u ∈ r, vPb u := fun u hu => ht u (by simp [hu])
    have g2 := wrun_in r h1.1 h1.2 g1.2 htr
    rw [wrun_cons] at w ⊢
    obtain ⟨q1, q2, q3, q4, q5⟩ := wst_read hf sy hok hi (ht t (by simp)) (g2.1.trans w)
    obtain ⟨k', rfl, e⟩ := rdP_go (x := s.1) (d := d) f1 hk
    have hlen : o.length + 1 ≤ (estp o t).length := by
      have hv := (ht t (by simp)).1
      have := estp_len (o := o) hv
      rcases hv with g | g <;> omega
    obtain ⟨d', e1, e2, e3⟩ := ih (k := k') (o := estp o t) h1.1 h1.2 g1.2 q1 f3 htr w (by omega)
    rw [e, q3, q2, e1, if_pos (f2.imp q4.2 id)]
    exact ⟨d', rfl, e2, e3.trans q5⟩
theorem cov_fit {l : List UInt8} {w : Int} (hw : w ≤ 4096) : ∀ {ps : List Pc} {i : Nat}, i ≤ l.length → Cov l w i ps → Fit l.length (l.take i) ps ∧ exps ps (l.take i) = l
  | [], i, _, h => by
    obtain rfl : i = l.length := h
    rw [List.take_length]; exact ⟨rfl, rfl⟩
  | t :: r, i, hi, h => by
    have hl : (l.take i).length = i := by rw [List.length_take]; omega
    have hf := h.1.fits hw
    have hest : estp (l.take i) t = l.take (i + t.1.toNat) ∧ (t.2.1 = 0 ∨ okC l.length (l.take i) t) := by
      rcases h.1 with ⟨hil, rfl⟩ | ⟨n, d, rfl, h1, h2, h3, h4, h5, h6, h7⟩
      · refine ⟨?_, .inl (litP_at l i)⟩
        unfold estp
        rw [if_pos (litP_at l i)]
        show l.take i ++ [byt (bat l i)] = l.take (i + 1)
        rw [byt_bat hil, List.take_append_getElem hil]
      · refine ⟨?_, .inr (by unfold okC; rw [hl]; dsimp only; omega)⟩
        unfold estp
        rw [if_neg (by show ¬ (d : Int) = 0; omega)]
        show copyN (d : Int).toNat (n : Int).toNat _ = l.take (i + (n : Int).toNat)
        rw [Int.toNat_natCast, Int.toNat_natCast]
        exact copyN_take h3 n i h5 h6 h7
    have hn := cov_fit hw (ps := r) (i := i + t.1.toNat) (by omega) h.2
    refine ⟨⟨by rw [hl]; omega, hest.2, by rw [hest.1]; exact hn.1⟩, ?_⟩
    show exps r (estp (l.take i) t) = l
    rw [hest.1]; exact hn.2
theorem rstp_miss {x : Ms} {d : Dec} (h : (zrd x d).d.missing = false) : d.missing = false := by
  unfold zrd at h
  split at h
  · exact tdec_miss 1 (bdec_miss h)
  · exact tdec_miss 1 (ndec_miss (ndec_miss h).1).1
theorem rstp_ext {x : Ms} {d : Dec} {c : UInt8} (h : (zrd x d).d.missing = false) : zrd x (ext d c) = ⟨(zrd x d).x, ext (zrd x d).d c, (zrd x d).lit, (zrd x d).t⟩ := by
  unfold zrd at h ⊢
  by_cases hj : (tdec 1 x.K d 1).2.2 = 2
  · rw [if_pos hj] at h ⊢
    have h1 := tdec_ext (c := c) 1 (t := x.K) (j := 1) (bdec_miss h)
    have h2 := bdec_ext (x := c) h
    rw [h1]
    dsimp only
    rw [if_pos hj, h2]
  · rw [if_neg hj] at h ⊢
    have h1 := tdec_ext (c := c) 1 (t := x.K) (j := 1) (ndec_miss (ndec_miss h).1).1
    have h2 := ndec_ext (x := c) (ndec_miss h).1
    have h3 := ndec_ext (x := c) h
    rw [h1]
    dsimp only
    rw [if_neg hj, h2]
    dsimp only
    rw [h3]
theorem rdP_miss {n : Nat} : ∀ {f : Nat} {x : Ms} {d : Dec} {o : List UInt8} {r : List Pc × Dec}, rdP n f x d o = some r → r.2.missing = false → d.missing = false
  | 0, x, d, o, r, h, hm => by obtain rfl := Option.some.inj h; exact hm
  | f + 1, x, d, o, r, h, hm => by
    by_cases hlt : o.length < n
    · rw [show rdP n (f + 1) x d o = _ from if_pos hlt] at h
      split at h
      · obtain ⟨r', e1, rfl⟩ := Option.map_eq_some_iff.1 h
        exact rstp_miss (rdP_miss e1 hm)
      · cases h
    · rw [rdP_end hlt] at h
      obtain rfl := Option.some.inj h; exact hm
theorem rdP_ext {n : Nat} {c : UInt8} : ∀ {f : Nat} {x : Ms} {d : Dec} {o : List UInt8} {r : List Pc × Dec}, rdP n f x d o = some r → r.2.missing = false → rdP n f x (ext d c) o = some (r.1, ext r.2 c)
  | 0, x, d, o, r, h, hm => by obtain rfl := Option.some.inj h; rfl
  | f + 1, x, d, o, r, h, hm => by
    by_cases hlt : o.length < n
    · rw [show rdP n (f + 1) x d o = _ from if_pos hlt] at h
      rw [show rdP n (f + 1) x (ext d c) o = _ from if_pos hlt]
      split at h
      · rename_i hg
        obtain ⟨r', e1, rfl⟩ := Option.map_eq_some_iff.1 h
        have hm1 := rdP_miss e1 hm
        rw [rstp_ext hm1]
        dsimp only
        rw [if_pos hg, rdP_ext e1 hm]
        rfl
      · cases h
    · rw [rdP_end hlt] at h ⊢
      obtain rfl := Option.some.inj h; rfl
/-- What is written as pieces is read. -/
theorem lzR_wrt {l : List UInt8} {w : Int} {ps : List Pc} (hw : w ≤ 4096) (hc : Cov l w 0 ps) : ∃ d', rdP l.length l.length ms0 (dnew (fin (wrun ps zs0).2)) [] = some (ps, d') ∧ dend d' = 0 ∧ (∀ c, rdP l.length l.length ms0 (dnew (fin (wrun ps zs0).2 ++ [c])) [] = some (ps, ext d' c)) ∧ exps ps [] = l := by
  have hv := cov_vPb hw hc
  have h1 := wrun_ok (s := zs0) ms0_ok encZ_ok hv
  have h2 := wrun_in ps (s := zs0) ms0_ok encZ_ok e00_InB hv
  have hfit := cov_fit hw (Nat.zero_le _) hc
  rw [List.take_zero] at hfit
  obtain ⟨d', e1, e2, e3⟩ := rdP_read (n := l.length) (Beh.fin h1.2) ps (k := l.length) (s := zs0) (o := []) ms0_ok encZ_ok e00_InB (start_syn h1.2 h2.1) hfit.1 hv (.refl _) (Nat.sub_le _ _)
  have hend := inv_end h1.2.low e2 (e3.trans (start_full h1.2 h2.1))
  obtain ⟨k1, _⟩ := dend_zero hend
  refine ⟨d', e1, hend, fun c => ?_, hfit.2⟩
  rw [dnew_ext (by rw [fin_len]; omega)]
  exact rdP_ext e1 k1
end Go.Proofs.Ytgooffiipnkmiaa
end
section
set_option linter.unusedVariables false
set_option linter.unusedSimpArgs false
set_option maxRecDepth 4000
namespace Go.Proofs.Ytgooffiipnkmiaa
open Go.Gh Go.RowKit

theorem lzE_ne {l : List UInt8} (hl : l.length ≤ 4096) (h0 : l ≠ []) : lzE l = (wrt l.length (pcs l), 0) := by unfold lzE; rw [if_neg (by omega), if_neg h0]
/-- A text that is written as some pieces. -/
theorem lzD_wrt {l : List UInt8} {w : Int} {ps : List Pc} (hl : l.length ≤ 4096) (hw : w ≤ 4096) (hc : Cov l w 0 ps) (most : Int) :
    lzD (wrt l.length ps) most = (if most < l.length then ([], 2) else if lzE l = (wrt l.length ps, 0) then (l, 0) else ([], 12)) ∧
    ∀ c, lzD (wrt l.length ps ++ [c]) most = (if most < l.length then ([], 2) else if lzE l = (wrt l.length ps ++ [c], 0) then (l, 0) else ([], 12)) := by
  obtain ⟨d', e1, e2, e3, e4⟩ := lzR_wrt hw hc
  have k1 : lzR (fin (wrun ps zs0).2) l.length = (l, true) := by unfold lzR; rw [e1]; dsimp only; rw [e4]
  have k2 : ∀ c, lzR (fin (wrun ps zs0).2 ++ [c]) l.length = (l, true) := fun c => by unfold lzR; rw [e3 c]; dsimp only; rw [e4]
  have key : ∀ (R : List UInt8), lzR R l.length = (l, true) → lzD (vnum l.length ++ R) most = (if most < l.length then ([], 2) else if lzE l = (vnum l.length ++ R, 0) then (l, 0) else ([], 12)) := fun R hR => by
    unfold lzD
    rw [rdN_num (by omega) (by omega)]
    dsimp only
    rw [Int.toNat_natCast, hR]
    dsimp only
    rw [if_neg (by decide)]
    by_cases h : most < (l.length : Int)
    · rw [if_pos h, if_pos h]
    · rw [if_neg h, if_neg h, if_neg (by decide)]
  refine ⟨key _ k1, fun c => ?_⟩
  unfold wrt
  rw [List.append_assoc]
  exact key _ (k2 c)
theorem lzD_nil (c : UInt8) : lzD [0] 0 = ([], 0) ∧ lzD [0] (-1) = ([], 2) ∧ lzD [0, c] 0 = ([], 12) := by
  refine ⟨by decide +kernel, by decide +kernel, ?_⟩
  have e : rdN [0, c] 4096 = (0, [c], 0) := rdN_num (n := 0) (by decide) (by decide) [c]
  unfold lzD
  rw [e]
  dsimp only
  rw [if_neg (by decide), if_neg (by decide), if_neg (by show ¬ true = false; decide), if_neg]
  show ¬ lzE (exps [] []) = ([0, c], 0)
  rw [show lzE (exps [] []) = ([0], 0) from zx1]
  intro g
  have := congrArg List.length (congrArg Prod.fst g)
  cases this
theorem lzD_own {l : List UInt8} (hl : l.length ≤ 4096) : (lzE l).2 = 0 ∧ lzD (lzE l).1 l.length = (l, 0) ∧ lzD (lzE l).1 ((l.length : Int) - 1) = ([], 2) ∧ ∀ c, lzD ((lzE l).1 ++ [c]) l.length = ([], 12) := by
  by_cases h0 : l = []
  · subst h0
    rw [zx1]
    refine ⟨rfl, (lzD_nil 0).1, (lzD_nil 0).2.1, fun c => (lzD_nil c).2.2⟩
  · have h1 := lzE_ne hl h0
    have h2 := lzD_wrt hl (by omega) (pcs_cov hl)
    rw [h1]
    refine ⟨rfl, ?_, ?_, fun c => ?_⟩
    · show lzD (wrt l.length (pcs l)) l.length = _
      rw [(h2 l.length).1, if_neg (by omega), if_pos h1]
    · show lzD (wrt l.length (pcs l)) ((l.length : Int) - 1) = _
      rw [(h2 _).1, if_pos (by omega)]
    · show lzD (wrt l.length (pcs l) ++ [c]) l.length = _
      rw [(h2 l.length).2, if_neg (by omega), if_neg]
      rw [h1]
      intro g
      have := congrArg List.length (congrArg Prod.fst g)
      dsimp only at this
      rw [List.length_append, List.length_singleton] at this
      omega
end Go.Proofs.Ytgooffiipnkmiaa
end
section
set_option linter.unusedVariables false
set_option linter.unusedSimpArgs false
set_option maxRecDepth 4000
namespace Go.Proofs.Ytgooffiipnkmiaa
open Go.Gh Go.RowKit

/-- The probability of a bit that comes again and again, as it grows. -/
def qn (q : Nat) : Nat := q + (2048 - q) / 32
def qs : Nat → Nat
  | 0 => 1024
  | t + 1 => qn (qs t)
/-- What such a bit costs at most, in parts of 64 of a bit. -/
def gq (q : Nat) : Nat := Nat.log2 ((2 ^ 24) ^ 64 / (q * 8191) ^ 64) + 1
theorem gq_ok {q : Nat} (h : 0 < q) : (2 ^ 24) ^ 64 ≤ (q * 8191) ^ 64 * 2 ^ gq q := by
  have hy : 0 < (q * 8191) ^ 64 := Nat.pow_pos (by omega)
  unfold gq
  generalize (2 ^ 24) ^ 64 = x
  generalize (q * 8191) ^ 64 = y at *
  have h1 : x / y < 2 ^ ((x / y).log2 + 1) := Nat.lt_log2_self
  have h2 := (Nat.div_lt_iff_lt_mul hy).1 h1
  rw [Nat.mul_comm] at h2
  omega
def lnC : Nat := 4294967295 ^ 64
/-- The bytes that were written so far, beside the size of the interval and what was paid. -/
def Paid (e : Enc) (G : Nat) : Prop := (256 ^ e.out.length) ^ 64 * lnC ≤ e.size.toNat ^ 64 * 2 ^ G
theorem Paid.mono {e : Enc} {G H : Nat} (h : Paid e G) (g : G ≤ H) : Paid e H :=
  Nat.le_trans h (Nat.mul_le_mul_left _ (Nat.pow_le_pow_right (by decide) g))
theorem paid_step {s s1 q L : Nat} {G : Nat} (hq : 0 < q) (h1 : s * (q * 8191) ≤ s1 * 2 ^ 24) (h : (256 ^ L) ^ 64 * lnC ≤ s ^ 64 * 2 ^ G) (j : Nat) : (256 ^ (L + j)) ^ 64 * lnC ≤ (s1 * 256 ^ j) ^ 64 * 2 ^ (G + gq q) := by
  have h2 := Nat.pow_le_pow_left h1 64
  rw [Nat.mul_pow s (q * 8191), Nat.mul_pow s1 (2 ^ 24)] at h2
  have h3 := gq_ok hq
  have hy : 0 < (q * 8191) ^ 64 := Nat.pow_pos (by omega)
  have h4 : s ^ 64 ≤ s1 ^ 64 * 2 ^ gq q := by
    refine Nat.le_of_mul_le_mul_right (Nat.le_trans h2 ?_) hy
    rw [Nat.mul_assoc, Nat.mul_comm (2 ^ gq q)]
    exact Nat.mul_le_mul_left _ h3
  rw [Nat.pow_add, Nat.mul_pow, Nat.mul_pow, Nat.pow_add]
  generalize (256 ^ L) ^ 64 = a at *
  generalize (256 ^ j) ^ 64 = b at *
  generalize s ^ 64 = u at *
  generalize s1 ^ 64 = w at *
  generalize 2 ^ G = g at *
  generalize 2 ^ gq q = p at *
  generalize lnC = c at *
  calc a * b * c = a * c * b := by rw [Nat.mul_assoc, Nat.mul_comm b, ← Nat.mul_assoc]
    _ ≤ u * g * b := Nat.mul_le_mul_right _ h
    _ ≤ w * p * g * b := Nat.mul_le_mul_right _ (Nat.mul_le_mul_right _ h4)
    _ = w * b * (g * p) := by rw [Nat.mul_assoc w, Nat.mul_assoc w, Nat.mul_assoc w, Nat.mul_comm p, Nat.mul_comm (g * p)]
theorem paid_bit {n : Nat} {e : Enc} {z b : Int} {q G : Nat} (hok : EncOk n e) (hi : InB e) (hq : 1 ≤ q ∧ q ≤ 2047) (hz : z = if b = 0 then (q : Int) else 2048 - q) (h : Paid e G) : Paid (ebit e z b) (G + gq q) := by
  obtain ⟨h1, h2, h3, h4⟩ := estep_num hok hi z b
  have hl := (estep_ok hok z b).2.1
  obtain ⟨j, j1, j2, j3⟩ := norm_in 2 hl
  have hsz := hok.size
  have hcl : clp z = z := by
    unfold clp
    split at hz <;> omega
  have hb : bound e.size z = e.size / 2048 * z := by unfold bound; rw [hcl]
  rw [hb] at h4
  obtain ⟨s, hs⟩ := Int.eq_ofNat_of_zero_le (show 0 ≤ e.size by omega)
  have key : ∃ s1 : Nat, (estep e z b).size = s1 ∧ s * (q * 8191) ≤ s1 * 2 ^ 24 := by
    rw [hs] at h4 hsz
    have hu : ((s : Int) / 2048) = ((s / 2048 : Nat) : Int) := by omega
    rw [hu] at h4
    obtain ⟨u, hu2⟩ : ∃ u, u = s / 2048 := ⟨_, rfl⟩
    rw [← hu2] at h4
    have a1 : s ≤ 2048 * u + 2047 := by omega
    have a2 : 2048 * u ≤ s := by omega
    have a3 : 8192 ≤ u := by omega
    by_cases hb0 : b = 0
    · rw [if_pos hb0] at h4 hz
      refine ⟨u * q, by rw [h4, hz, Int.natCast_mul], ?_⟩
      have : s * 8191 ≤ u * 16777216 := by omega
      have := Nat.mul_le_mul_right q this
      rw [show (2 : Nat) ^ 24 = 16777216 from rfl, Nat.mul_comm q, ← Nat.mul_assoc, Nat.mul_assoc u q, Nat.mul_comm q, ← Nat.mul_assoc]
      exact this
    · rw [if_neg hb0] at h4 hz
      have hp : (2048 - (q : Int)) = ((2048 - q : Nat) : Int) := by omega
      have h4 : (estep e z b).size = (s : Int) - ((u * (2048 - q) : Nat) : Int) := by rw [h4, hz, hp, Int.natCast_mul]
      have m1 := Nat.mul_le_mul_right (2048 - q) a2
      have m2 : s * (2048 - q) + s * q = s * 2048 := by rw [← Nat.mul_add]; congr 1; omega
      have m3 : 2048 * u * (2048 - q) = 2048 * (u * (2048 - q)) := Nat.mul_assoc _ _ _
      have m4 : s * (2048 - q) ≤ s * 2048 := Nat.mul_le_mul_left _ (by omega)
      refine ⟨s - u * (2048 - q), by rw [h4]; omega, ?_⟩
      rw [show (2 : Nat) ^ 24 = 16777216 from rfl, ← Nat.mul_assoc]
      generalize u * (2048 - q) = x at *
      generalize s * q = y at *
      generalize s * (2048 - q) = w at *
      omega
  obtain ⟨s1, hs1, hk⟩ := key
  have hp0 : Paid e G := h
  unfold Paid at hp0 ⊢
  rw [hs, Int.toNat_natCast] at hp0
  have := paid_step (L := e.out.length) (by omega) hk hp0 j
  have e1 : (ebit e z b).out.length = e.out.length + j := by show (norm 2 (estep e z b)).out.length = _; rw [j1, h3]
  have e2 : (ebit e z b).size.toNat = s1 * 256 ^ j := by
    show (norm 2 (estep e z b)).size.toNat = _
    rw [j3, hs1]; unfold pw
    rw [← Int.natCast_mul, Int.toNat_natCast]
  rw [e1, e2]
  exact this
end Go.Proofs.Ytgooffiipnkmiaa
end
section
set_option linter.unusedVariables false
set_option linter.unusedSimpArgs false
set_option maxRecDepth 4000
namespace Go.Proofs.Ytgooffiipnkmiaa
open Go.Gh Go.RowKit

/-- On the way of a number through a tree, all bits have the same probability. -/
def PathQ (t : List Int) (v : Int) (q : Nat) : Nat → Nat → Prop
  | 0, _ => True
  | k + 1, j => j < t.length ∧ t[j]! = (if v / 2 ^ k % 2 = 0 then (q : Int) else 2048 - q) ∧ PathQ t v q k (2 * j + (v / 2 ^ k % 2).toNat)
theorem set_far {t : List Int} {j i : Nat} {x : Int} (h : j ≠ i) : (t.set j x)[i]! = t[i]! := by
  rw [List.getElem!_eq_getElem?_getD, List.getElem!_eq_getElem?_getD, List.getElem?_set_ne h]
theorem set_here {t : List Int} {j : Nat} {x : Int} (h : j < t.length) : (t.set j x)[j]! = x := by
  rw [List.getElem!_eq_getElem?_getD, List.getElem?_set_self h]; rfl
theorem PathQ.set {t : List Int} {v : Int} {q i : Nat} {x : Int} : ∀ (k j : Nat), i < j → PathQ t v q k j → PathQ (t.set i x) v q k j
  | 0, _, _, _ => trivial
  | k + 1, j, hij, h => ⟨by rw [List.length_set]; exact h.1, by rw [set_far (by omega)]; exact h.2.1, PathQ.set k _ (by omega) h.2.2⟩
theorem tenc_low {v : Int} : ∀ (k : Nat) {t : List Int} {e : Enc} {j i : Nat}, i < j → (tenc v k t e j).1[i]! = t[i]!
  | 0, _, _, _, _, _ => rfl
  | k + 1, t, e, j, i, h => by
    have := tenc_low (v := v) k (t := t.set j (adp t[j]! (v / 2 ^ k % 2))) (e := ebit e t[j]! (v / 2 ^ k % 2)) (j := 2 * j + (v / 2 ^ k % 2).toNat) (i := i) (by omega)
    exact this.trans (set_far (by omega))
theorem tenc_len2 {v : Int} : ∀ (k : Nat) {t : List Int} {e : Enc} {j : Nat}, (tenc v k t e j).1.length = t.length
  | 0, _, _, _ => rfl
  | k + 1, t, e, j => (tenc_len2 k (t := t.set j (adp t[j]! (v / 2 ^ k % 2)))).trans List.length_set
theorem adp_q {q : Nat} (h : 1 ≤ q ∧ q ≤ 2047) (b : Int) (hb : b = 0 ∨ b = 1) : adp (if b = 0 then (q : Int) else 2048 - q) b = if b = 0 then (qn q : Int) else 2048 - qn q := by
  unfold adp qn
  rcases hb with rfl | rfl
  · rw [if_pos rfl, if_pos rfl, if_pos rfl]
    have : clp (q : Int) = q := by unfold clp; omega
    rw [this]; omega
  · rw [if_neg (by decide), if_neg (by decide), if_neg (by decide)]
    have : clp (2048 - (q : Int)) = 2048 - q := by unfold clp; omega
    rw [this]; omega
theorem PathQ.next {v : Int} {q : Nat} (hq : 1 ≤ q ∧ q ≤ 2047) : ∀ (k : Nat) {t : List Int} {e : Enc} {j : Nat}, 1 ≤ j → PathQ t v q k j → PathQ (tenc v k t e j).1 v (qn q) k j
  | 0, _, _, _, _, _ => trivial
  | k + 1, t, e, j, hj, h => by
    obtain ⟨h1, h2, h3⟩ := h
    have hb := bit01 v k
    show PathQ (tenc v k (t.set j (adp t[j]! (v / 2 ^ k % 2))) (ebit e t[j]! (v / 2 ^ k % 2)) (2 * j + (v / 2 ^ k % 2).toNat)).1 v (qn q) (k + 1) j
    refine ⟨by rw [tenc_len2, List.length_set]; exact h1, ?_, ?_⟩
    · rw [tenc_low k (by omega), set_here h1, h2]
      exact adp_q hq _ hb
    · exact PathQ.next hq k (by omega) (PathQ.set k _ (by omega) h3)
theorem paid_cut {L G S C : Nat} (m : Nat) (hm : 0 < m) (hC : (2 ^ 31) ^ m ≤ C) (hS : S < 2 ^ 32) (h : (256 ^ L) ^ m * C ≤ S ^ m * 2 ^ G) : 8 * (L * m) + 31 * m < 32 * m + G := by
  have h2 : S ^ m < (2 ^ 32) ^ m := Nat.pow_lt_pow_left hS (by omega)
  have h3 : (256 ^ L) ^ m * (2 ^ 31) ^ m < (2 ^ 32) ^ m * 2 ^ G :=
    Nat.lt_of_le_of_lt (Nat.le_trans (Nat.mul_le_mul_left _ hC) h) (Nat.mul_lt_mul_of_pos_right h2 (Nat.two_pow_pos G))
  rw [show (256 : Nat) = 2 ^ 8 from rfl, ← Nat.pow_mul, ← Nat.pow_mul, ← Nat.pow_mul, ← Nat.pow_mul, ← Nat.pow_add, ← Nat.pow_add] at h3
  exact (Nat.pow_lt_pow_iff_right (a := 2) (by decide)).1 h3
theorem paid_len {n : Nat} {e : Enc} {G : Nat} (hok : EncOk n e) (h : Paid e G) : 512 * e.out.length ≤ 64 + G := by
  have hsz := hok.size
  have h1 : (2 ^ 31) ^ 64 ≤ lnC := Nat.pow_le_pow_left (show 2 ^ 31 ≤ 4294967295 by decide) 64
  have := paid_cut 64 (by decide) h1 (by have : (2 : Nat) ^ 32 = 4294967296 := rfl; omega) h
  omega
end Go.Proofs.Ytgooffiipnkmiaa
end
section
set_option linter.unusedVariables false
set_option linter.unusedSimpArgs false
set_option maxRecDepth 4000
namespace Go.Proofs.Ytgooffiipnkmiaa
open Go.Gh Go.RowKit

/-- The least probability behind k changes. -/
def los : Nat → Nat
  | 0 => 1024
  | k + 1 => los k - los k / 32
theorem los_in : ∀ k, 1 ≤ los k ∧ los k ≤ 1024
  | 0 => by decide
  | k + 1 => by have := los_in k; show 1 ≤ los k - los k / 32 ∧ los k - los k / 32 ≤ 1024; omega
theorem lg_mono {x y : Nat} (h : x ≤ y) : Nat.log2 x ≤ Nat.log2 y := by
  by_cases h0 : x = 0
  · subst h0; exact Nat.zero_le _
  · exact (Nat.le_log2 (by omega)).2 (Nat.le_trans (Nat.log2_self_le h0) h)
theorem lgd_mono {x a b : Nat} (h : a ≤ b) (h0 : 0 < a) : Nat.log2 (x / b) + 1 ≤ Nat.log2 (x / a) + 1 := Nat.succ_le_succ (lg_mono (Nat.div_le_div_left h h0))
theorem gq_mono {p q : Nat} (h : p ≤ q) (hp : 0 < p) : gq q ≤ gq p := by
  unfold gq
  exact lgd_mono (Nat.pow_le_pow_left (Nat.mul_le_mul_right _ h) _) (Nat.pow_pos (by omega))
theorem gq_los : ∀ k, k < 45 → gq (los k) ≤ 66 + 3 * k := by decide +kernel
/-- All nodes are in the middle. -/
def InT (lo : Nat) (t : List Int) : Prop := ∀ i, i < t.length → (lo : Int) ≤ t[i]! ∧ t[i]! ≤ 2048 - lo
theorem adp_in2 {lo : Nat} {z b : Int} (hl : 1 ≤ lo ∧ lo ≤ 1024) (hz : (lo : Int) ≤ z ∧ z ≤ 2048 - lo) (hb : b = 0 ∨ b = 1) : ((lo - lo / 32 : Nat) : Int) ≤ adp z b ∧ adp z b ≤ 2048 - ((lo - lo / 32 : Nat) : Int) := by
  have hc : clp z = z := by unfold clp; omega
  unfold adp
  rcases hb with rfl | rfl
  · rw [if_pos rfl, hc]; omega
  · rw [if_neg (by decide), hc]; omega
theorem tenc_paid {v : Int} {lo : Nat} (hl : 1 ≤ lo ∧ lo ≤ 1024) (k : Nat) : ∀ {n : Nat} {t : List Int} {e : Enc} {j G : Nat}, 1 ≤ j → 2 ^ k * (j + 1) ≤ 2 * t.length → (∀ i, i < t.length → ((lo - lo / 32 : Nat) : Int) ≤ t[i]! ∧ t[i]! ≤ 2048 - ((lo - lo / 32 : Nat) : Int)) →
    (∀ i, j ≤ i → i < t.length → (lo : Int) ≤ t[i]! ∧ t[i]! ≤ 2048 - lo) → EncOk n e → InB e → Paid e G → Paid (tenc v k t e j).2 (G + k * gq lo) ∧ InT (lo - lo / 32) (tenc v k t e j).1 := by
  induction k with
  | zero => intro n t e j G _ _ h1 _ _ _ hp; exact ⟨by rw [Nat.zero_mul, Nat.add_zero]; exact hp, h1⟩
  | succ k ih =>
    intro n t e j G hj hlen h1 h2 hok hi hp
    have hb := bit01 v k
    have a2 := Nat.mul_le_mul_left (2 ^ k) (show 2 * j + (v / 2 ^ k % 2).toNat + 1 ≤ 2 * (j + 1) by omega)
    rw [Nat.pow_succ, Nat.mul_assoc] at hlen
    have a3 := Nat.mul_le_mul_right (2 * (j + 1)) (Nat.one_le_two_pow (n := k))
    have hjt : j < t.length := by omega
    have hz := h2 j (Nat.le_refl _) hjt
    obtain ⟨z, hzz⟩ : ∃ z, t[j]! = z := ⟨_, rfl⟩
    rw [hzz] at hz
    have had := adp_in2 hl hz hb
    obtain ⟨q, hq, hq2⟩ : ∃ q : Nat, (1 ≤ q ∧ q ≤ 2047 ∧ lo ≤ q) ∧ z = if v / 2 ^ k % 2 = 0 then (q : Int) else 2048 - q := by
      rcases hb with e1 | e1
      · exact ⟨z.toNat, by omega, by rw [e1, if_pos rfl]; omega⟩
      · exact ⟨(2048 - z).toNat, by omega, by rw [e1, if_neg (by decide)]; omega⟩
    have hpb := (paid_bit hok hi ⟨hq.1, hq.2.1⟩ hq2 hp).mono (H := G + gq lo) (by have := gq_mono hq.2.2 (by omega); omega)
    have hset : ∀ i, (t.set j (adp z (v / 2 ^ k % 2)))[i]! = if i = j then adp z (v / 2 ^ k % 2) else t[i]! := fun i => by
      by_cases e1 : i = j
      · subst e1; rw [if_pos rfl, set_here hjt]
      · rw [if_neg e1, set_far (fun g => e1 g.symm)]
    have := ih (t := t.set j (adp z (v / 2 ^ k % 2))) (j := 2 * j + (v / 2 ^ k % 2).toNat) (by omega) (by rw [List.length_set]; omega)
      (fun i hi => by rw [hset i]; rw [List.length_set] at hi; split; exact had; exact h1 i hi)
      (fun i hji hi => by rw [hset i, if_neg (by omega)]; rw [List.length_set] at hi; exact h2 i (by omega) hi)
      (ebit_ok hok z (v / 2 ^ k % 2)) (ebit_InB hok hi z (v / 2 ^ k % 2)) hpb
    show Paid (tenc v k (t.set j (adp t[j]! (v / 2 ^ k % 2))) (ebit e t[j]! (v / 2 ^ k % 2)) (2 * j + (v / 2 ^ k % 2).toNat)).2 _ ∧ InT _ (tenc v k (t.set j (adp t[j]! (v / 2 ^ k % 2))) (ebit e t[j]! (v / 2 ^ k % 2)) (2 * j + (v / 2 ^ k % 2).toNat)).1
    rw [hzz, show G + (k + 1) * gq lo = G + gq lo + k * gq lo by rw [Nat.add_mul]; omega]
    exact this
theorem InT.le {lo lo' : Nat} {t : List Int} (h : InT lo t) (hl : lo' ≤ lo) : InT lo' t := fun i hi => by have := h i hi; omega
theorem tree_paid {v : Int} {lo k n G : Nat} {t : List Int} {e : Enc} (hl : 1 ≤ lo ∧ lo ≤ 1024) (ht : t.length = 2 ^ k) (hI : InT lo t) (hok : EncOk n e) (hi : InB e) (hp : Paid e G) : Paid (tenc v k t e 1).2 (G + k * gq lo) ∧ InT (lo - lo / 32) (tenc v k t e 1).1 :=
  tenc_paid hl k (Nat.le_refl 1) (by rw [ht]; omega) (hI.le (by omega)) (fun i _ hi => hI i hi) hok hi hp
theorem ebits_paid {v : Int} (k : Nat) : ∀ {n : Nat} {e : Enc} {G : Nat}, EncOk n e → InB e → Paid e G → Paid (ebits v k e) (G + k * 65) := by
  induction k with
  | zero => intro n e G _ _ hp; rw [Nat.zero_mul, Nat.add_zero]; exact hp
  | succ k ih =>
    intro n e G hok hi hp
    have hb := bit01 v k
    have h1 := paid_bit (z := 1024) (b := v / 2 ^ k % 2) (q := 1024) hok hi (by decide) (by rcases hb with e1 | e1 <;> rw [e1] <;> decide) hp
    rw [show gq 1024 = 65 by decide +kernel] at h1
    have := ih (ebit_ok hok 1024 (v / 2 ^ k % 2)) (ebit_InB hok hi 1024 (v / 2 ^ k % 2)) h1
    rw [show G + (k + 1) * 65 = G + 65 + k * 65 by omega]
    exact this
end Go.Proofs.Ytgooffiipnkmiaa
end
section
set_option linter.unusedVariables false
set_option linter.unusedSimpArgs false
set_option maxRecDepth 4000
namespace Go.Gh
open Go.RowKit

theorem vrel_det {φ : Nat → Loc} {L : Lens} {as0 : List Value} {vs : Array Value} (hc : as0.all constOk = true) (h : VRel φ L as0 vs) : vs = as0.toArray := by
  obtain ⟨hs, hg⟩ := h
  refine Array.ext (by simpa using hs) fun i hi hi' => ?_
  have hl : i < as0.length := by simpa using hi'
  obtain ⟨v, g1, g2⟩ := hg i as0[i] (by simp [hl])
  have := Val.det ((List.all_eq_true.1 hc) as0[i] (List.getElem_mem hl)) g2
  rw [Array.getElem?_eq_getElem hi] at g1
  simp only [Option.some.injEq] at g1
  rw [g1, this]; simp
/-- A call that hands back a value without addresses and makes new blocks alone. -/
theorem srun_lib {P : Program} {f : FuncId} {as0 : List Value} {v : Value} {h : SH} (hc : as0.all constOk = true) (hv : constOk v = true)
    (k : ∀ w : World, Calls P f as0.toArray w fun e w' => e = .returned v ∧ Below w.heap.size w w') : SRun P f as0 h fun r q => r = v ∧ q = h := by
  unfold SRun
  intro H i
  unfold Run
  intro B0 w0 φs Ls φ w vs he hr hvs
  rw [vrel_det hc hvs]
  refine (k w).mono ?_
  rintro e w' ⟨rfl, hb⟩
  exact ⟨φ, v, H, v, he, hr.later hb, rfl, Val.const hv, h, ⟨rfl, rfl⟩, i⟩
end Go.Gh
end
section
namespace Go.Proofs
open Go.Shelf
open Go.RowKit in
open Go.RowKit in
open Go.RowKit in
open Go.RowKit in
open Go.RowKit in
open Go.RowKit in
open Go.RowKit in
open Go.RowKit in
open Go.RowKit in
open Go.RowKit in
open Go.RowKit Go.Lib in
open Go.RowKit Go.Lib in
open Go.RowKit Go.Lib in
open Go.RowKit Go.Lib in
def Try.lays105_ren : Go.Shelf.Ren := ⟨fun | 105 => 20 | 212 => 47 | 99 => 48 | 165 => 49 | 166 => 50 | 170 => 51 | 169 => 52 | 263 => 89 | 264 => 90 | 206 => 91 | 240 => 92 | 241 => 93 | 276 => 121 | 277 => 122 | n => n, fun | 9 => 9 | 3 => 3 | 4 => 4 | 20 => 20 | 0 => 0 | 46 => 83 | 109 => 84 | 5 => 5 | 72 => 89 | 76 => 93 | 51 => 107 | 146 => 153 | 53 => 155 | 148 => 156 | 70 => 87 | 37 => 33 | 75 => 92 | 127 => 158 | 164 => 178 | 80 => 59 | n => n, fun | n => n⟩
theorem Try.lays105 : Go.Proofs.Lays.n105 Try.prog Try.lays105_ren := {
  mixed := by kernel_rfl
  f99 := Try.func48.trans (congrArg some (by kernel_rfl))
  f105 := Try.func20.trans (congrArg some (by kernel_rfl))
  f165 := Try.func49.trans (congrArg some (by kernel_rfl))
  f166 := Try.func50.trans (congrArg some (by kernel_rfl))
  f169 := Try.func52.trans (congrArg some (by kernel_rfl))
  f170 := Try.func51.trans (congrArg some (by kernel_rfl))
  f206 := Try.func91.trans (congrArg some (by kernel_rfl))
  f212 := Try.func47.trans (congrArg some (by kernel_rfl))
  f240 := Try.func92.trans (congrArg some (by kernel_rfl))
  f241 := Try.func93.trans (congrArg some (by kernel_rfl))
  f263 := Try.func89.trans (congrArg some (by kernel_rfl))
  f264 := Try.func90.trans (congrArg some (by kernel_rfl))
  f276 := Try.func121.trans (congrArg some (by kernel_rfl))
  f277 := Try.func122.trans (congrArg some (by kernel_rfl))
  t0 := Try.underlying0
  a0 := Try.isAgg0
  z0 := Try.sizeOf0
  v0 := Try.zeroValue0
  t3 := Try.underlying3
  a3 := Try.isAgg3
  z3 := Try.sizeOf3
  v3 := Try.zeroValue3
  t4 := Try.underlying4
  a4 := Try.isAgg4
  z4 := Try.sizeOf4
  v4 := Try.zeroValue4
  t5 := Try.underlying5
  a5 := Try.isAgg5
  z5 := Try.sizeOf5
  v5 := Try.zeroValue5
  t9 := Try.underlying9
  a9 := Try.isAgg9
  z9 := Try.sizeOf9
  v9 := Try.zeroValue9
  t20 := Try.underlying20
  a20 := Try.isAgg20
  z20 := Try.sizeOf20
  v20 := Try.zeroValue20
  t37 := Try.underlying33
  a37 := Try.isAgg33
  z37 := Try.sizeOf33
  v37 := Try.zeroValue33
  t46 := Try.underlying83
  a46 := Try.isAgg83
  z46 := Try.sizeOf83
  v46 := Try.zeroValue83
  t51 := Try.underlying107
  a51 := Try.isAgg107
  z51 := Try.sizeOf107
  v51 := Try.zeroValue107
  t53 := Try.underlying155
  a53 := Try.isAgg155
  z53 := Try.sizeOf155
  v53 := Try.zeroValue155
  t70 := Try.underlying87
  a70 := Try.isAgg87
  z70 := Try.sizeOf87
  v70 := Try.zeroValue87
  t72 := Try.underlying89
  a72 := Try.isAgg89
  z72 := Try.sizeOf89
  v72 := Try.zeroValue89
  t75 := Try.underlying92
  a75 := Try.isAgg92
  z75 := Try.sizeOf92
  v75 := Try.zeroValue92
  t76 := Try.underlying93
  a76 := Try.isAgg93
  z76 := Try.sizeOf93
  v76 := Try.zeroValue93
  t109 := Try.underlying84
  a109 := Try.isAgg84
  z109 := Try.sizeOf84
  v109 := Try.zeroValue84
  t127 := Try.underlying158
  a127 := Try.isAgg158
  z127 := Try.sizeOf158
  v127 := Try.zeroValue158
  t146 := Try.underlying153
  a146 := Try.isAgg153
  z146 := Try.sizeOf153
  v146 := Try.zeroValue153
  t148 := Try.underlying156
  a148 := Try.isAgg156
  z148 := Try.sizeOf156
  v148 := Try.zeroValue156
  t164 := Try.underlying178
  a164 := Try.isAgg178
  z164 := Try.sizeOf178
  v164 := Try.zeroValue178 }
theorem Try.Builder_Extra_105 : Builder.Extra Try.prog Try.lays105_ren := {
  sizeBuilder := by kernel_rfl
  liesBuilder := by kernel_rfl
  t5 := Try.underlying5
  a5 := Try.isAgg5
  z5 := Try.sizeOf5
  v5 := Try.zeroValue5
  infoByte := by kernel_rfl
  cellsByte := by kernel_rfl
  sizeByte := by kernel_rfl
  neB5 := by decide }
open Go.RowKit Go.Lib in
open Go.RowKit Go.Lib in
open Go.RowKit Go.Lib in
open Go.RowKit Go.Lib in
open Go.RowKit Go.Lib in
open Go.RowKit Go.Lib in
open Go.RowKit Go.Lib in
/-- **strings.Repeat: count ≥ 0, the result within one allocation: count copies of s.** (LAID: no walk: one application.) -/
theorem Try.strings_Repeat (s : ByteArray) (c : Nat) (w : World) (hc : c ≤ 9223372036854775807) (hlen : s.size * c ≤ 140737488355328) :
    Calls Try.prog 20 #[.string s, .int .i64 c] w fun e w' => e = .returned (.string ⟨(Lib.repeatL s.data.toList c).toArray⟩) ∧ Below w.heap.size w w' := Any.strings_Repeat Try.lays105 Try.Builder_Extra_105 s c w hc hlen
end Go.Proofs
end
section
set_option linter.unusedVariables false
set_option linter.unusedSimpArgs false
set_option maxRecDepth 4000
namespace Go.Proofs.Ytgooffiipnkmiaa
open Go.Gh Go.RowKit

theorem Repeat_any (l : List UInt8) (n : Nat) (h : SH) (hn : n ≤ 9223372036854775807) (hl : l.length * n ≤ 140737488355328) : SRun Try.prog 20 [S l, I n] h fun r q => r = S (Lib.repeatL l n) ∧ q = h :=
  srun_lib rfl rfl fun w => Try.strings_Repeat ⟨⟨l⟩⟩ n w hn hl
end Go.Proofs.Ytgooffiipnkmiaa
end
