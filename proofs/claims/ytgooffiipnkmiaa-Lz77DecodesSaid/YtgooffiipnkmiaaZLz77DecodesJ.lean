/- Part 10 of the proof of the law Lz77Decodes: texts merged. No condition. -/
import Derived.Test.YtgooffiipnkmiaaZLz77DecodesI
section
set_option linter.unusedVariables false
set_option linter.unusedSimpArgs false
set_option maxRecDepth 4000
namespace Go.Proofs.Ytgooffiipnkmiaa
open Go.Gh Go.RowKit

theorem Pick.other {q q1 q2 : SH} {A B : Nat} {b c : Blk} (p : Pick q A b q1) (hc : c ≠ b) (k : Pick q B c q2) : ∃ q3, Pick q1 B c q3 := by
  induction p generalizing q2 with
  | head =>
    cases k with
    | head => exact absurd rfl hc
    | tail k => exact ⟨_, k⟩
  | tail p ih =>
    cases k with
    | head => exact ⟨_, .head⟩
    | tail k =>
      obtain ⟨q3, g⟩ := ih hc k
      exact ⟨_, .tail g⟩
/-- Where the models of the reference lie. -/
structure RAd where
  k : Nat
  l : Nat
  d : Nat
  C : Nat
abbrev rmC (a : RAd) (c : Int) : List Value := [gsl a.k 0 2 2 1, gsl a.l 0 64 64 1, gsl a.d 0 64 64 1, gsl a.C 0 8 8 1, Y c]
abbrev rmV (a : RAd) (c : Int) : Value := .agg ⟨rmC a c⟩
theorem putAt_t5 {a b c d e x y : Value} : PutAt [a, b, c, d, e] 3 [x, y] [a, b, c, x, y] := ⟨Nat.le_refl 5, rfl⟩
theorem subAt_t5 {a b c d e : Value} : SubAt [a, b, c, d, e] 3 [d, e] := fun i v h => by
  match i, h with
  | 0, h => exact h
  | 1, h => exact h
  | i + 2, h => exact absurd h (by simp)
structure RM (h : SH) (x : Ms) (a : RAd) (ts : List Value) : Prop where
  K : ∃ p, Pick h a.k ⟨nodes x.K, false⟩ p
  L : ∃ p, Pick h a.l ⟨nodes x.L, false⟩ p
  D : ∃ p, Pick h a.d ⟨nodes x.D, false⟩ p
  C : ∃ p, Pick h a.C ⟨ts, false⟩ p
  B : BTs h x.P 8 ts
theorem RM.re {h h' : SH} {x : Ms} {a : RAd} {ts : List Value} (b : RM h x a ts) (t : Take h' h) : RM h' x a ts := by
  obtain ⟨⟨_, p1⟩, ⟨_, p2⟩, ⟨_, p3⟩, ⟨_, p4⟩, p5⟩ := b
  obtain ⟨_, g1, _⟩ := t.pick p1
  obtain ⟨_, g2, _⟩ := t.pick p2
  obtain ⟨_, g3, _⟩ := t.pick p3
  obtain ⟨_, g4, _⟩ := t.pick p4
  exact ⟨⟨_, g1⟩, ⟨_, g2⟩, ⟨_, g3⟩, ⟨_, g4⟩, p5.re t⟩
theorem BTs.other {q q1 : SH} {X : List Int} {ts : List Value} {A : Nat} {b : Blk} (hb : BTs q X 8 ts) (hX : X.length = 2048) (p : Pick q A b q1) (hl : b.cells.length = 5) : BTs q1 X 8 ts :=
  ⟨hb.1, fun k hk => by
    obtain ⟨B, h2, e, g⟩ := hb.2 k hk
    obtain ⟨q3, g3⟩ := Pick.other p (fun k2 => by
      have h1 : (nodes (bsel X k)).length = 256 := by rw [List.length_map]; exact bsel_len hX hk
      have h2 := congrArg (fun b : Blk => b.cells.length) k2
      dsimp only at h2
      omega) g
    exact ⟨B, q3, e, g3⟩⟩
theorem rNewModels_any (h : SH) : SRun Try.prog 70 [] h fun r q => ∃ a ts, r = rmV a 0 ∧ RM q ms0 a ts ∧ Take q h := by
  have hT1 : ∀ h, SRun Try.prog 105 [I 1] h fun r q => ∃ A, r = gsl A 0 2 2 1 ∧ q = (A, ⟨nodes (List.replicate 2 1024), false⟩) :: h := fun h => rNewTree_any 1 h (by decide)
  have hT6 : ∀ h, SRun Try.prog 105 [I 6] h fun r q => ∃ A, r = gsl A 0 64 64 1 ∧ q = (A, ⟨nodes nu0, false⟩) :: h := fun h => rNewTree_any 6 h (by decide)
  have hB : ∀ (h : SH) (A1 A2 A3 A0 : Nat) (b1 b2 b3 : Blk), SRun Try.prog 106 [] ((A1, b1) :: (A2, b2) :: (A3, b3) :: (A0, ⟨[.slice none 0 0, .slice none 0 0, .slice none 0 0, .slice none 0 0, Y 0], false⟩) :: h) fun r q =>
      ∃ C ts q1 h2, r = mbV C 0 ∧ q = (A0, ⟨[.slice none 0 0, .slice none 0 0, .slice none 0 0, .slice none 0 0, Y 0], false⟩) :: q1 ∧ Pick q1 C ⟨ts, false⟩ h2 ∧ BTs q1 by0 8 ts ∧ Take q1 ((A1, b1) :: (A2, b2) :: (A3, b3) :: h) := fun h A1 A2 A3 A0 b1 b2 b3 =>
    srun_post ((rNewBytes_any _).mono fun r q ⟨C, ts, h2, e, pC, bT, tH⟩ => by
      obtain ⟨q1, p1, t1⟩ := tH.pick (.tail (.tail (.tail .head)))
      obtain ⟨q3, p3⟩ := Pick.other p1 (fun k2 => by
        have h2 := congrArg (fun b : Blk => b.cells.length) k2
        have h3 := bT.1
        dsimp only at h2
        rw [h3] at h2
        exact absurd h2 (by decide)) pC
      exact ⟨_, ⟨C, ts, q1, q3, e, rfl, p3, bT.other List.length_replicate p1 rfl, t1⟩, .cons p1 .nil⟩)
  unfold ms0
  generalize by0 = X at *
  generalize nu0 = Z at *
  generalize List.replicate 2 (1024 : Int) = Y at *
  refine w_body0 Try.func70 rfl rfl ?_
  repeat' (first | apply w_seq | apply w_region | apply o_nil | (apply o_stores tyOk; (iterate 4 exact rfl); (focus (exact ⟨rfl⟩)); (focus (exact up))) | (apply o_alloc tyOk; iterate 5 exact rfl) | (apply o_build tyOk; exact rfl; exact rfl; (focus (first | with_reducible exact pl130)); exact rfl; (focus (repeat (first | exact BuildR.nil | (apply BuildR.one; exact rfl; exact rfl; (first | (focus ((repeat (first | exact SetAt.zero | apply SetAt.succ)); done)) | exact setAt_bytes (by omega) (by omega) | exact setAt_mapZ (by omega) | exact setAt_map (by omega))) | (apply BuildR.agg; exact rfl; exact rfl; (first | exact putAt_all rfl | exact putAt_t5 | exact putAt_recZ (fun _ => rfl) (by omega) | exact putAt_rec (fun _ => rfl) (by omega)))))); exact rfl) | (apply o_call; exact rfl; exact rfl; (focus (first | exact rfl | assumption)); exact rfl; (focus (exact ⟨_, hT1 _, by repeat (first | with_reducible exact Take.nil | with_reducible apply Take.c | with_reducible apply Take.drop)⟩)); rintro _ _ ⟨B1, rfl, rfl⟩) | (apply o_call; exact rfl; exact rfl; (focus (first | exact rfl | assumption)); exact rfl; (focus (exact ⟨_, hT6 _, by repeat (first | with_reducible exact Take.nil | with_reducible apply Take.c | with_reducible apply Take.drop)⟩)); rintro _ _ ⟨B2, rfl, rfl⟩) | (apply o_call; exact rfl; exact rfl; (focus (first | exact rfl | assumption)); exact rfl; (focus (exact ⟨_, hB _ _ _ _ _ _ _ _, by repeat (first | with_reducible exact Take.nil | with_reducible apply Take.c | with_reducible apply Take.drop)⟩)); rintro _ _ ⟨C, ts, q1, h2, rfl, rfl, pC, bT, tq⟩) | apply thenS_normal | apply w_ret | ((with_reducible apply Ln.mk); (first | rfl | exact ‹_› | omega | (simp ; first | done | omega))) | ((with_reducible apply Pu.mk); (first | exact putAt_all rfl | exact putAt_t5 | exact putAt_recZ (fun _ => rfl) (by omega) | exact putAt_rec (fun _ => rfl) (by omega))) | exact True.intro | intro A)
  rename_i B3
  obtain ⟨_, k1, _⟩ := tq.pick (.tail (.tail .head))
  obtain ⟨_, k2, _⟩ := tq.pick (.tail .head)
  obtain ⟨_, k3, _⟩ := tq.pick .head
  (apply s_fin; (exact (show ResS _ _ _ _ [_] from (res_cell tyOk rfl rfl rfl (by exact pk) (by first | rfl | exact ‹_› | omega | (simp ; first | done | omega)) (by first | rfl | exact ‹_› | omega | (simp ; first | done | omega)) trivial))); (focus (exact ⟨⟨B1, B3, B2, C⟩, ts, rfl, ⟨⟨_, k1⟩, ⟨_, k2⟩, ⟨_, k3⟩, ⟨_, pC⟩, bT⟩, tq.trans (.drop (.drop (.drop .nil)))⟩)); (focus (repeat (first | with_reducible exact Take.nil | with_reducible apply Take.c | with_reducible apply Take.drop))))
theorem rCosts_any (h : SH) : SRun Try.prog 24 [] h fun r q => r = csV ⟨9, 12, 1, 1⟩ ∧ q = h := by
  refine w_body0 Try.func24 rfl rfl ?_
  repeat' (first | apply w_seq | apply w_region | apply o_nil | (apply o_stores tyOk; (iterate 4 exact rfl); (focus (exact ⟨rfl⟩)); (focus (exact up))) | (apply o_alloc tyOk; iterate 5 exact rfl) | (apply o_build tyOk; exact rfl; exact rfl; (focus (first | with_reducible exact pl46)); exact rfl; (focus (repeat (first | exact BuildR.nil | (apply BuildR.one; exact rfl; exact rfl; (first | (focus ((repeat (first | exact SetAt.zero | apply SetAt.succ)); done)) | exact setAt_bytes (by omega) (by omega) | exact setAt_mapZ (by omega) | exact setAt_map (by omega))) | (apply BuildR.agg; exact rfl; exact rfl; (first | exact putAt_all rfl | exact putAt_recZ (fun _ => rfl) (by omega) | exact putAt_rec (fun _ => rfl) (by omega)))))); exact rfl) | apply thenS_normal | apply w_ret | ((with_reducible apply Ln.mk); (first | rfl | exact ‹_› | omega | (simp ; first | done | omega))) | ((with_reducible apply Pu.mk); (first | exact putAt_all rfl | exact putAt_recZ (fun _ => rfl) (by omega) | exact putAt_rec (fun _ => rfl) (by omega))) | exact True.intro | intro A)
  (apply s_fin; (exact (show ResS _ _ _ _ [_] from (res_cell tyOk rfl rfl rfl (by exact pk) (by first | rfl | exact ‹_› | omega | (simp ; first | done | omega)) (by first | rfl | exact ‹_› | omega | (simp ; first | done | omega)) trivial))); (focus (exact ⟨rfl, rfl⟩)); (focus (repeat (first | with_reducible exact Take.nil | with_reducible apply Take.c | with_reducible apply Take.drop))))
theorem rzPieces_any (l : List UInt8) (h : SH) (hl : l.length ≤ 4611686018427387904) : SRun Try.prog 12 [S l] h fun r q =>
    ∃ v, r = .tuple #[v, I (if 4096 < l.length then 9 else 0)] ∧ Has q (recs pcC (pcs l)) 3 (pcs l).length v ∧ Take q h := by
  have hP : ∀ h, SRun Try.prog 23 [csV ⟨9, 12, 1, 1⟩, S l, I 4096] h fun r q => ∃ v, r = .tuple #[v, I (if 4096 < l.length then 9 else 0)] ∧ Has q (recs pcC (pcs l)) 3 (pcs l).length v ∧ Take q h :=
    fun h => (rParse_any lcst l 4096 h hl).mono fun r q ⟨v, g1, g2, g3⟩ => ⟨v, by rw [g1, pcs_err], g2, g3⟩
  generalize pcs l = L at *
  generalize (if 4096 < l.length then (9 : Int) else 0) = E at *
  refine w_body1 Try.func12 rfl rfl ?_
  repeat' (first | apply w_seq | apply w_region | apply o_nil | (apply o_g tyOk; exact rfl; exact rfl) | (apply o_call; exact rfl; exact rfl; (focus (first | exact rfl | assumption)); exact rfl; (focus (exact ⟨_, rCosts_any _, by repeat (first | with_reducible exact Take.nil | with_reducible apply Take.c | with_reducible apply Take.drop)⟩)); rintro _ _ ⟨rfl, rfl⟩) | (apply o_call; exact rfl; exact rfl; (focus (first | exact rfl | assumption)); exact rfl; (focus (exact ⟨_, hP _, by repeat (first | with_reducible exact Take.nil | with_reducible apply Take.c | with_reducible apply Take.drop)⟩)); rintro _ _ ⟨v, rfl, hv, ht⟩) | apply thenS_normal | apply w_ret | ((with_reducible apply Sd.mk); (first | exact True.intro | omega | (constructor <;> first | omega | (unfold maxLen; omega)) | (unfold maxLen; omega))))
  (apply s_fin; (exact (show ResS _ _ _ _ [_, _] from ⟨rfl, ⟨rfl, trivial⟩⟩)); (focus (exact ⟨v, rfl, hv, ht⟩)); (focus (repeat (first | with_reducible exact Take.nil | with_reducible apply Take.c | with_reducible apply Take.drop))))
end Go.Proofs.Ytgooffiipnkmiaa
end
section
set_option linter.unusedVariables false
set_option linter.unusedSimpArgs false
set_option maxRecDepth 4000
namespace Go.Proofs.Ytgooffiipnkmiaa
open Go.Gh Go.RowKit

theorem rEncByteR_any (P : List Int) (c v : Int) (e : Enc) (w : Value) (C : Nat) (ts : List Value) (h h1 : SH) (hp : Pick h C ⟨ts, false⟩ h1) (hb : BTs h P 8 ts) (hv : RO h e.out w) (hP : P.length = 2048) (hc0 : 0 ≤ c ∧ c ≤ 255) (hv0 : 0 ≤ v ∧ v ≤ 255) (hok : EncOk 900000 e) :
    SRun Try.prog 108 [reV w e.low e.size, mbV C c, Y v] h fun r q =>
      ∃ B C' w' qo, r = .tuple ⟨[reV w' (benc P c e v).2.low (benc P c e v).2.size, mbV C' v]⟩ ∧ ROut h e.out w (tfr v 8 (bsel P (c / 32).toNat) e 1) (benc P c e v).2.out w' qo ∧
        q = (C', ⟨ts.set (c / 32).toNat (tsl B), false⟩) :: (B, ⟨nodes (tenc v 8 (bsel P (c / 32).toNat) e 1).1, false⟩) :: qo := by
  cases hfr : tfr v 8 (bsel P (c / 32).toNat) e 1 with
  | false =>
    obtain ⟨ho, hr⟩ := rEncByte_old P c v e w C ts h h1 hp hb hv hP hc0 hv0 hok hfr
    exact hr.mono fun r q ⟨B, C', e1, e2⟩ => ⟨B, C', w, h, e1, by rw [ho]; exact .same, e2⟩
  | true =>
    exact srun_post ((rEncByte_new P c v e w C ts h h1 hp hb hv hP hc0 hv0 hok hfr).mono fun r q ⟨O, B, C', e1, e2⟩ => ⟨_, ⟨B, C', _, _, e1, .new _ O, rfl⟩, by rw [e2]; exact .cons (.tail (.tail .head)) (.cons (.tail .head) (.cons .head .nil))⟩)
/-- Whether the encoder makes new bytes for a literal, for a copy. -/
def wfl (s : Ms × Enc) (y : Int) : Bool := tfr 0 1 s.1.K s.2 1 || tfr y 8 (bsel s.1.P (s.1.c / 32).toNat) (tenc 0 1 s.1.K s.2 1).2 1
def wfc (s : Ms × Enc) (l d : Int) : Bool := tfr 1 1 s.1.K s.2 1 || (nfr s.1.L (tenc 1 1 s.1.K s.2 1).2 (l - 2) || nfr s.1.D (nenc s.1.L (tenc 1 1 s.1.K s.2 1).2 (l - 2)).2 (d - 1))
theorem rWriteL_any (x : Ms) (e : Enc) (l y : Int) (w : Value) (a : RAd) (ts : List Value) (h : SH) (hR : RM h x a ts) (hv : RO h e.out w) (hx : MsOk x) (hok : EncOk 799000 e) (hy : 0 ≤ y ∧ y ≤ 255) :
    SRun Try.prog 71 [reV w e.low e.size, rmV a x.c, .agg ⟨[I l, I 0, Y y]⟩] h fun r q =>
      ∃ B1 B2 C' w' qo, r = .tuple ⟨[reV w' (wst (x, e) (l, 0, y)).2.low (wst (x, e) (l, 0, y)).2.size, rmV ⟨B1, a.l, a.d, C'⟩ y]⟩ ∧ ROut h e.out w (wfl (x, e) y) (wst (x, e) (l, 0, y)).2.out w' qo ∧
        q = (C', ⟨ts.set (x.c / 32).toNat (tsl B2), false⟩) :: (B2, ⟨nodes (tenc y 8 (bsel x.P (x.c / 32).toNat) (tenc 0 1 x.K e 1).2 1).1, false⟩) :: (B1, ⟨nodes (tenc 0 1 x.K e 1).1, false⟩) :: qo := by
  obtain ⟨⟨_, pK⟩, ⟨_, pL⟩, ⟨_, pD⟩, ⟨_, pC⟩, hB⟩ := hR
  have ok1 := tenc_ok (v := 0) (k := 1) (t := x.K) (j := 1) hok
  have hK := fun h h1 hp hr => rTEnc_any 1 x.K 0 e w a.k h h1 hp hr (hx.K.trans (by decide)) (by decide) (hok.mono (by omega))
  have hE := fun w h h1 hp hb hr => rEncByteR_any x.P x.c y (tenc 0 1 x.K e 1).2 w a.C ts h h1 hp hb hr hx.P hx.c hy (ok1.1.mono (by omega))
  unfold wst wfl
  rw [if_pos rfl]
  rw [hx.K] at hK
  have hc0 := hx.c
  clear ok1 hok
  dsimp only at hE ⊢
  generalize tfr 0 1 x.K e 1 = F1 at *
  generalize tenc 0 1 x.K e 1 = T at *
  obtain ⟨K1, o1, lo1, sz1⟩ := T
  obtain ⟨o0, lo0, sz0⟩ := e
  dsimp only at *
  generalize tfr y 8 (bsel x.P (x.c / 32).toNat) ⟨o1, lo1, sz1⟩ 1 = F2 at *
  generalize tenc y 8 (bsel x.P (x.c / 32).toNat) ⟨o1, lo1, sz1⟩ 1 = T2 at *
  generalize benc x.P x.c ⟨o1, lo1, sz1⟩ y = E at *
  obtain ⟨P2, o2, lo2, sz2⟩ := E
  dsimp only at *
  rcases id hv with ⟨e0, rfl⟩ | ⟨A1, p2, rfl, hp2⟩
  all_goals
    refine w_body3 Try.func71 rfl rfl ?_
    repeat' (first | apply w_seq | apply w_region | apply o_nil | (apply o_g tyOk; exact rfl; exact rfl) | (apply o_load tyOk; (iterate 3 exact rfl); (focus (exact pk))) | (apply o_loads tyOk; (iterate 3 exact rfl); (focus (exact pk))) | (apply o_alloc tyOk; iterate 5 exact rfl) | (apply o_box (tt := tyT); iterate 5 exact rfl) | (apply o_call; exact rfl; exact rfl; (focus (first | exact rfl | assumption)); exact rfl; (focus (exact ⟨_, hK _ _ (.tail (.tail (.tail (.tail (.tail pK))))) (hv.re (.drop (.drop (.drop (.drop (.drop .nil)))))), by repeat (first | with_reducible exact Take.nil | with_reducible apply Take.c | with_reducible apply Take.drop)⟩)); rintro _ _ ⟨B1, w1, qo, rfl, ro, rfl⟩) | (apply w_false; exact rfl) | apply thenS_normal | apply w_skip | ((with_reducible apply Sd.mk); (first | exact True.intro | omega | (constructor <;> first | omega | (unfold maxLen; omega)) | (unfold maxLen; omega))) | ((with_reducible apply Ln.mk); (first | rfl | exact ‹_› | omega | (simp ; first | done | omega))) | ((with_reducible apply Ce.mk); (first | rfl | exact ‹_› | exact cell_recZ (fun _ => rfl) (by omega) (by decide) rfl | exact cell_rec (fun _ => rfl) (by omega) (by decide) rfl | exact cell_bytes (by omega) | exact cell_mapZ (by omega) | exact cell_map (by omega))) | ((with_reducible apply Su.mk); (first | exact subAt_t5 | exact subAt_all | exact subAt_recZ (fun _ => rfl) (by omega) | exact subAt_rec (fun _ => rfl) (by omega))) | exact True.intro | intro A | exact rfl)
    all_goals first | (exfalso; omega) | skip
    cases ro with
    | same =>
      repeat' (first | apply w_seq | apply w_region | apply o_nil | (apply o_g tyOk; exact rfl; exact rfl) | (apply o_load tyOk; (iterate 3 exact rfl); (focus (exact pk))) | (apply o_loads tyOk; (iterate 3 exact rfl); (focus (exact pk))) | (apply o_store tyOk; (iterate 4 exact rfl); (focus (exact up))) | (apply o_stores tyOk; (iterate 4 exact rfl); (focus (exact ⟨rfl⟩)); (focus (exact up))) | (apply o_alloc tyOk; iterate 5 exact rfl) | (apply o_call; exact rfl; exact rfl; (focus (first | exact rfl | assumption)); exact rfl; (focus (exact ⟨_, hE _ _ _ (.tail (.tail (.tail (.tail (.tail (.tail (.tail pC))))))) (hB.re (.drop (.drop (.drop (.drop (.drop (.drop (.drop .nil)))))))) (hv.re (.drop (.drop (.drop (.drop (.drop (.drop (.drop .nil)))))))), by repeat (first | with_reducible exact Take.nil | with_reducible apply Take.c | with_reducible apply Take.drop)⟩)); rintro _ _ ⟨B2, C2, w2, qo2, rfl, rd, rfl⟩) | (apply w_true; exact rfl) | apply thenS_normal | ((with_reducible apply Sd.mk); (first | exact True.intro | omega | (constructor <;> first | omega | (unfold maxLen; omega)) | (unfold maxLen; omega))) | ((with_reducible apply Ln.mk); (first | rfl | exact ‹_› | omega | (simp ; first | done | omega))) | ((with_reducible apply Ce.mk); (first | rfl | exact ‹_› | exact cell_recZ (fun _ => rfl) (by omega) (by decide) rfl | exact cell_rec (fun _ => rfl) (by omega) (by decide) rfl | exact cell_bytes (by omega) | exact cell_mapZ (by omega) | exact cell_map (by omega))) | ((with_reducible apply Se.mk); (first | (focus ((repeat (first | exact SetAt.zero | apply SetAt.succ)); done)) | exact setAt_bytes (by omega) (by omega) | exact setAt_mapZ (by omega) | exact setAt_map (by omega))) | ((with_reducible apply Pu.mk); (first | exact putAt_all rfl | exact putAt_t5 | exact putAt_recZ (fun _ => rfl) (by omega) | exact putAt_rec (fun _ => rfl) (by omega))) | ((with_reducible apply Su.mk); (first | exact subAt_t5 | exact subAt_all | exact subAt_recZ (fun _ => rfl) (by omega) | exact subAt_rec (fun _ => rfl) (by omega))) | exact True.intro | intro A | exact rfl)
      all_goals first | (exfalso; omega) | skip
      cases rd
      all_goals
        repeat' (first | apply w_seq | apply w_region | apply o_nil | (apply w_draw; (focus (kernel_rfl)); (focus (kernel_rfl))) | (apply o_g tyOk; exact rfl; exact rfl) | (apply o_loads tyOk; (iterate 3 exact rfl); (focus (exact pk))) | (apply o_stores tyOk; (iterate 4 exact rfl); (focus (exact ⟨rfl⟩)); (focus (exact up))) | apply thenS_normal | apply thenS_ret | apply w_ret | ((with_reducible apply Sd.mk); (first | exact True.intro | omega | (constructor <;> first | omega | (unfold maxLen; omega)) | (unfold maxLen; omega))) | ((with_reducible apply Ln.mk); (first | rfl | exact ‹_› | omega | (simp ; first | done | omega))) | ((with_reducible apply Pu.mk); (first | exact putAt_all rfl | exact putAt_t5 | exact putAt_recZ (fun _ => rfl) (by omega) | exact putAt_rec (fun _ => rfl) (by omega))) | ((with_reducible apply Su.mk); (first | exact subAt_t5 | exact subAt_all | exact subAt_recZ (fun _ => rfl) (by omega) | exact subAt_rec (fun _ => rfl) (by omega))) | exact True.intro | refine Rc.mk ⟨_, _, pk, ?_⟩ | exact Or.inl rfl | apply And.intro | apply Or.inr | exact rfl)
        all_goals first
          | (exfalso; omega)
          | (apply s_fin; (exact (show ResS _ _ _ _ [_, _] from (res_cell tyOk rfl rfl rfl (by exact pk) (by first | rfl | exact ‹_› | omega | (simp ; first | done | omega)) (by first | rfl | exact ‹_› | omega | (simp ; first | done | omega)) (res_cell tyOk rfl rfl rfl (by exact pk) (by first | rfl | exact ‹_› | omega | (simp ; first | done | omega)) (by first | rfl | exact ‹_› | omega | (simp ; first | done | omega)) trivial)))); (focus (first | exact ⟨B1, B2, C2, _, _, rfl, .same, rfl⟩ | exact ⟨B1, B2, C2, _, _, rfl, .new _ _, rfl⟩)); (focus (repeat (first | with_reducible exact Take.nil | with_reducible apply Take.c | with_reducible apply Take.drop))))
          | trace_state
    | new o O =>
      repeat' (first | apply w_seq | apply w_region | apply o_nil | (apply o_g tyOk; exact rfl; exact rfl) | (apply o_load tyOk; (iterate 3 exact rfl); (focus (exact pk))) | (apply o_loads tyOk; (iterate 3 exact rfl); (focus (exact pk))) | (apply o_store tyOk; (iterate 4 exact rfl); (focus (exact up))) | (apply o_stores tyOk; (iterate 4 exact rfl); (focus (exact ⟨rfl⟩)); (focus (exact up))) | (apply o_alloc tyOk; iterate 5 exact rfl) | (apply o_call; exact rfl; exact rfl; (focus (first | exact rfl | assumption)); exact rfl; (focus (exact ⟨_, hE _ _ _ (.tail (.tail (.tail (.tail (.tail (.tail (.tail (.tail pC)))))))) (hB.re (.drop (.drop (.drop (.drop (.drop (.drop (.drop (.drop .nil))))))))) (.inr ⟨_, _, rfl, .tail (.tail .head)⟩), by repeat (first | with_reducible exact Take.nil | with_reducible apply Take.c | with_reducible apply Take.drop)⟩)); rintro _ _ ⟨B2, C2, w2, qo2, rfl, rd, rfl⟩) | (apply w_true; exact rfl) | apply thenS_normal | ((with_reducible apply Sd.mk); (first | exact True.intro | omega | (constructor <;> first | omega | (unfold maxLen; omega)) | (unfold maxLen; omega))) | ((with_reducible apply Ln.mk); (first | rfl | exact ‹_› | omega | (simp ; first | done | omega))) | ((with_reducible apply Ce.mk); (first | rfl | exact ‹_› | exact cell_recZ (fun _ => rfl) (by omega) (by decide) rfl | exact cell_rec (fun _ => rfl) (by omega) (by decide) rfl | exact cell_bytes (by omega) | exact cell_mapZ (by omega) | exact cell_map (by omega))) | ((with_reducible apply Se.mk); (first | (focus ((repeat (first | exact SetAt.zero | apply SetAt.succ)); done)) | exact setAt_bytes (by omega) (by omega) | exact setAt_mapZ (by omega) | exact setAt_map (by omega))) | ((with_reducible apply Pu.mk); (first | exact putAt_all rfl | exact putAt_t5 | exact putAt_recZ (fun _ => rfl) (by omega) | exact putAt_rec (fun _ => rfl) (by omega))) | ((with_reducible apply Su.mk); (first | exact subAt_t5 | exact subAt_all | exact subAt_recZ (fun _ => rfl) (by omega) | exact subAt_rec (fun _ => rfl) (by omega))) | exact True.intro | intro A | exact rfl)
      all_goals first | (exfalso; omega) | skip
      cases rd
      all_goals
        repeat' (first | apply w_seq | apply w_region | apply o_nil | (apply w_draw; (focus (kernel_rfl)); (focus (kernel_rfl))) | (apply o_g tyOk; exact rfl; exact rfl) | (apply o_loads tyOk; (iterate 3 exact rfl); (focus (exact pk))) | (apply o_stores tyOk; (iterate 4 exact rfl); (focus (exact ⟨rfl⟩)); (focus (exact up))) | apply thenS_normal | apply thenS_ret | apply w_ret | ((with_reducible apply Sd.mk); (first | exact True.intro | omega | (constructor <;> first | omega | (unfold maxLen; omega)) | (unfold maxLen; omega))) | ((with_reducible apply Ln.mk); (first | rfl | exact ‹_› | omega | (simp ; first | done | omega))) | ((with_reducible apply Pu.mk); (first | exact putAt_all rfl | exact putAt_t5 | exact putAt_recZ (fun _ => rfl) (by omega) | exact putAt_rec (fun _ => rfl) (by omega))) | ((with_reducible apply Su.mk); (first | exact subAt_t5 | exact subAt_all | exact subAt_recZ (fun _ => rfl) (by omega) | exact subAt_rec (fun _ => rfl) (by omega))) | exact True.intro | refine Rc.mk ⟨_, _, pk, ?_⟩ | exact Or.inl rfl | apply And.intro | apply Or.inr | exact rfl)
        all_goals first
          | (exfalso; omega)
          | (apply s_fin; (exact (show ResS _ _ _ _ [_, _] from (res_cell tyOk rfl rfl rfl (by exact pk) (by first | rfl | exact ‹_› | omega | (simp ; first | done | omega)) (by first | rfl | exact ‹_› | omega | (simp ; first | done | omega)) (res_cell tyOk rfl rfl rfl (by exact pk) (by first | rfl | exact ‹_› | omega | (simp ; first | done | omega)) (by first | rfl | exact ‹_› | omega | (simp ; first | done | omega)) trivial)))); (focus (exact ⟨B1, B2, C2, _, _, rfl, .new _ _, rfl⟩)); (focus (repeat (first | with_reducible exact Take.nil | with_reducible apply Take.c | with_reducible apply Take.drop))))
          | trace_state
theorem rWriteC_nil (x : Ms) (e : Enc) (l d y : Int) (w : Value) (a : RAd) (ts : List Value) (h : SH) (hR : RM h x a ts) (hv : RO h e.out w) (hw : e.out = [] ∧ w = .slice none 0 0) (hx : MsOk x) (hok : EncOk 799000 e) (hl : 2 ≤ l ∧ l ≤ 5000) (hd : 1 ≤ d ∧ d ≤ 5000) :
    SRun Try.prog 71 [reV w e.low e.size, rmV a x.c, .agg ⟨[I l, I d, Y y]⟩] h fun r q =>
      ∃ B1 B2 B3 w' qo, r = .tuple ⟨[reV w' (wst (x, e) (l, d, y)).2.low (wst (x, e) (l, d, y)).2.size, rmV ⟨B1, B2, B3, a.C⟩ x.c]⟩ ∧ ROut h e.out w (wfc (x, e) l d) (wst (x, e) (l, d, y)).2.out w' qo ∧
        q = (B3, ⟨nodes (wst (x, e) (l, d, y)).1.D, false⟩) :: (B2, ⟨nodes (wst (x, e) (l, d, y)).1.L, false⟩) :: (B1, ⟨nodes (wst (x, e) (l, d, y)).1.K, false⟩) :: qo := by
  obtain ⟨⟨_, pK⟩, ⟨_, pL⟩, ⟨_, pD⟩, ⟨_, pC⟩, hB⟩ := hR
  have ok1 := tenc_ok (v := 1) (k := 1) (t := x.K) (j := 1) hok
  have ok2 := nenc_ok (t := x.L) ok1.1 (l - 2)
  have hK := fun h h1 hp hr => rTEnc_any 1 x.K 1 e w a.k h h1 hp hr (hx.K.trans (by decide)) (by decide) (hok.mono (by omega))
  have hL := fun w h h1 hp hr => rEncNum_any x.L (l - 2) (tenc 1 1 x.K e 1).2 w a.l h h1 hp hr hx.L (ok1.1.mono (by omega))
  have hD := fun w h h1 hp hr => rEncNum_any x.D (d - 1) (nenc x.L (tenc 1 1 x.K e 1).2 (l - 2)).2 w a.d h h1 hp hr hx.D (ok2.1.mono (by omega))
  unfold wst wfc
  rw [if_neg (show ¬ d = 0 by omega)]
  rw [hx.K] at hK
  clear ok1 ok2 hok
  dsimp only at hL hD ⊢
  generalize tfr 1 1 x.K e 1 = F1 at *
  generalize tenc 1 1 x.K e 1 = T at *
  obtain ⟨K1, o1, lo1, sz1⟩ := T
  obtain ⟨o0, lo0, sz0⟩ := e
  dsimp only at *
  generalize nfr x.L ⟨o1, lo1, sz1⟩ (l - 2) = F2 at *
  generalize nenc x.L ⟨o1, lo1, sz1⟩ (l - 2) = E at *
  obtain ⟨L2, o2, lo2, sz2⟩ := E
  dsimp only at *
  generalize nfr x.D ⟨o2, lo2, sz2⟩ (d - 1) = F3 at *
  generalize nenc x.D ⟨o2, lo2, sz2⟩ (d - 1) = E at *
  obtain ⟨D3, o3, lo3, sz3⟩ := E
  dsimp only at *
  obtain ⟨e0, rfl⟩ := hw
  all_goals
    refine w_body3 Try.func71 rfl rfl ?_
    repeat' (first | apply w_seq | apply w_region | apply o_nil | (apply o_g tyOk; exact rfl; exact rfl) | (apply o_load tyOk; (iterate 3 exact rfl); (focus (exact pk))) | (apply o_loads tyOk; (iterate 3 exact rfl); (focus (exact pk))) | (apply o_alloc tyOk; iterate 5 exact rfl) | (apply o_box (tt := tyT); iterate 5 exact rfl) | (apply o_call; exact rfl; exact rfl; (focus (first | exact rfl | assumption)); exact rfl; (focus (exact ⟨_, hK _ _ (.tail (.tail (.tail (.tail (.tail pK))))) (hv.re (.drop (.drop (.drop (.drop (.drop .nil)))))), by repeat (first | with_reducible exact Take.nil | with_reducible apply Take.c | with_reducible apply Take.drop)⟩)); rintro _ _ ⟨B1, w1, qo, rfl, ro, rfl⟩) | (apply w_dT; exact rfl; (focus (first | exact ‹_› | with_reducible exact rfl | omega))) | apply thenS_normal | ((with_reducible apply Sd.mk); (first | exact True.intro | omega | (constructor <;> first | omega | (unfold maxLen; omega)) | (unfold maxLen; omega))) | ((with_reducible apply Ln.mk); (first | rfl | exact ‹_› | omega | (simp ; first | done | omega))) | ((with_reducible apply Ce.mk); (first | rfl | exact ‹_› | exact cell_recZ (fun _ => rfl) (by omega) (by decide) rfl | exact cell_rec (fun _ => rfl) (by omega) (by decide) rfl | exact cell_bytes (by omega) | exact cell_mapZ (by omega) | exact cell_map (by omega))) | ((with_reducible apply Su.mk); (first | exact subAt_t5 | exact subAt_all | exact subAt_recZ (fun _ => rfl) (by omega) | exact subAt_rec (fun _ => rfl) (by omega))) | exact True.intro | intro A | exact rfl)
    all_goals first | (exfalso; omega) | skip
    cases ro with
    | same =>
      repeat' (first | apply w_seq | apply w_region | apply o_nil | (apply o_g tyOk; exact rfl; exact rfl) | (apply o_ar tyOk; exact rfl; exact rfl) | (apply o_load tyOk; (iterate 3 exact rfl); (focus (exact pk))) | (apply o_loads tyOk; (iterate 3 exact rfl); (focus (exact pk))) | (apply o_store tyOk; (iterate 4 exact rfl); (focus (exact up))) | (apply o_stores tyOk; (iterate 4 exact rfl); (focus (exact ⟨rfl⟩)); (focus (exact up))) | (apply o_alloc tyOk; iterate 5 exact rfl) | (apply o_call; exact rfl; exact rfl; (focus (first | exact rfl | assumption)); exact rfl; (focus (exact ⟨_, hL _ _ _ (.tail (.tail (.tail (.tail (.tail (.tail (.tail pL))))))) (hv.re (.drop (.drop (.drop (.drop (.drop (.drop (.drop .nil)))))))), by repeat (first | with_reducible exact Take.nil | with_reducible apply Take.c | with_reducible apply Take.drop)⟩)); rintro _ _ ⟨B2, w2, qo2, rfl, rd, rfl⟩) | (apply w_false; exact rfl) | apply thenS_normal | apply w_skip | ((with_reducible apply Sd.mk); (first | exact True.intro | omega | (constructor <;> first | omega | (unfold maxLen; omega)) | (unfold maxLen; omega))) | ((with_reducible apply Ln.mk); (first | rfl | exact ‹_› | omega | (simp ; first | done | omega))) | ((with_reducible apply Wr.mk); (first | exact IntWalk.i64_in _ (by omega) | exact IntWalk.u8_in _ (by omega) | exact IntWalk.u32_in _ (by omega) | exact IntWalk.u64_in _ (by omega) | exact IntKind.wrap_u8 _ | exact IntKind.wrap_u32 _ | rfl)) | ((with_reducible apply Ce.mk); (first | rfl | exact ‹_› | exact cell_recZ (fun _ => rfl) (by omega) (by decide) rfl | exact cell_rec (fun _ => rfl) (by omega) (by decide) rfl | exact cell_bytes (by omega) | exact cell_mapZ (by omega) | exact cell_map (by omega))) | ((with_reducible apply Se.mk); (first | (focus ((repeat (first | exact SetAt.zero | apply SetAt.succ)); done)) | exact setAt_bytes (by omega) (by omega) | exact setAt_mapZ (by omega) | exact setAt_map (by omega))) | ((with_reducible apply Pu.mk); (first | exact putAt_all rfl | exact putAt_t5 | exact putAt_recZ (fun _ => rfl) (by omega) | exact putAt_rec (fun _ => rfl) (by omega))) | ((with_reducible apply Su.mk); (first | exact subAt_t5 | exact subAt_all | exact subAt_recZ (fun _ => rfl) (by omega) | exact subAt_rec (fun _ => rfl) (by omega))) | exact True.intro | intro A | exact rfl)
      all_goals first | (exfalso; omega) | skip
      cases rd with
      | same =>
        repeat' (first | apply w_seq | apply w_region | apply o_nil | (apply o_g tyOk; exact rfl; exact rfl) | (apply o_ar tyOk; exact rfl; exact rfl) | (apply o_load tyOk; (iterate 3 exact rfl); (focus (exact pk))) | (apply o_loads tyOk; (iterate 3 exact rfl); (focus (exact pk))) | (apply o_stores tyOk; (iterate 4 exact rfl); (focus (exact ⟨rfl⟩)); (focus (exact up))) | (apply o_alloc tyOk; iterate 5 exact rfl) | (apply o_call; exact rfl; exact rfl; (focus (first | exact rfl | assumption)); exact rfl; (focus (exact ⟨_, hD _ _ _ (.tail (.tail (.tail (.tail (.tail (.tail (.tail (.tail (.tail pD))))))))) (hv.re (.drop (.drop (.drop (.drop (.drop (.drop (.drop (.drop (.drop .nil)))))))))), by repeat (first | with_reducible exact Take.nil | with_reducible apply Take.c | with_reducible apply Take.drop)⟩)); rintro _ _ ⟨B3, w3, qo3, rfl, rh, rfl⟩) | apply thenS_normal | ((with_reducible apply Sd.mk); (first | exact True.intro | omega | (constructor <;> first | omega | (unfold maxLen; omega)) | (unfold maxLen; omega))) | ((with_reducible apply Ln.mk); (first | rfl | exact ‹_› | omega | (simp ; first | done | omega))) | ((with_reducible apply Wr.mk); (first | exact IntWalk.i64_in _ (by omega) | exact IntWalk.u8_in _ (by omega) | exact IntWalk.u32_in _ (by omega) | exact IntWalk.u64_in _ (by omega) | exact IntKind.wrap_u8 _ | exact IntKind.wrap_u32 _ | rfl)) | ((with_reducible apply Ce.mk); (first | rfl | exact ‹_› | exact cell_recZ (fun _ => rfl) (by omega) (by decide) rfl | exact cell_rec (fun _ => rfl) (by omega) (by decide) rfl | exact cell_bytes (by omega) | exact cell_mapZ (by omega) | exact cell_map (by omega))) | ((with_reducible apply Pu.mk); (first | exact putAt_all rfl | exact putAt_t5 | exact putAt_recZ (fun _ => rfl) (by omega) | exact putAt_rec (fun _ => rfl) (by omega))) | ((with_reducible apply Su.mk); (first | exact subAt_t5 | exact subAt_all | exact subAt_recZ (fun _ => rfl) (by omega) | exact subAt_rec (fun _ => rfl) (by omega))) | exact True.intro | intro A | exact rfl)
        all_goals first | (exfalso; omega) | skip
        cases rh
        all_goals
          repeat' (first | apply w_seq | apply w_region | apply o_nil | (apply w_draw; (focus (kernel_rfl)); (focus (kernel_rfl))) | (apply o_g tyOk; exact rfl; exact rfl) | (apply o_loads tyOk; (iterate 3 exact rfl); (focus (exact pk))) | (apply o_store tyOk; (iterate 4 exact rfl); (focus (exact up))) | (apply o_stores tyOk; (iterate 4 exact rfl); (focus (exact ⟨rfl⟩)); (focus (exact up))) | apply thenS_normal | apply w_ret | ((with_reducible apply Sd.mk); (first | exact True.intro | omega | (constructor <;> first | omega | (unfold maxLen; omega)) | (unfold maxLen; omega))) | ((with_reducible apply Ln.mk); (first | rfl | exact ‹_› | omega | (simp ; first | done | omega))) | ((with_reducible apply Se.mk); (first | (focus ((repeat (first | exact SetAt.zero | apply SetAt.succ)); done)) | exact setAt_bytes (by omega) (by omega) | exact setAt_mapZ (by omega) | exact setAt_map (by omega))) | ((with_reducible apply Pu.mk); (first | exact putAt_all rfl | exact putAt_t5 | exact putAt_recZ (fun _ => rfl) (by omega) | exact putAt_rec (fun _ => rfl) (by omega))) | ((with_reducible apply Su.mk); (first | exact subAt_t5 | exact subAt_all | exact subAt_recZ (fun _ => rfl) (by omega) | exact subAt_rec (fun _ => rfl) (by omega))) | exact True.intro | refine Rc.mk ⟨_, _, pk, ?_⟩ | exact Or.inl rfl | apply And.intro | apply Or.inr | exact rfl)
          all_goals first
            | (exfalso; omega)
            | (apply s_fin; (exact (show ResS _ _ _ _ [_, _] from (res_cell tyOk rfl rfl rfl (by exact pk) (by first | rfl | exact ‹_› | omega | (simp ; first | done | omega)) (by first | rfl | exact ‹_› | omega | (simp ; first | done | omega)) (res_cell tyOk rfl rfl rfl (by exact pk) (by first | rfl | exact ‹_› | omega | (simp ; first | done | omega)) (by first | rfl | exact ‹_› | omega | (simp ; first | done | omega)) trivial)))); (focus (first | exact ⟨B1, B2, B3, _, _, rfl, .same, rfl⟩ | exact ⟨B1, B2, B3, _, _, rfl, .new _ _, rfl⟩)); (focus (repeat (first | with_reducible exact Take.nil | with_reducible apply Take.c | with_reducible apply Take.drop))))
            | trace_state
      | new o3 O3 =>
        repeat' (first | apply w_seq | apply w_region | apply o_nil | (apply o_g tyOk; exact rfl; exact rfl) | (apply o_ar tyOk; exact rfl; exact rfl) | (apply o_load tyOk; (iterate 3 exact rfl); (focus (exact pk))) | (apply o_loads tyOk; (iterate 3 exact rfl); (focus (exact pk))) | (apply o_stores tyOk; (iterate 4 exact rfl); (focus (exact ⟨rfl⟩)); (focus (exact up))) | (apply o_alloc tyOk; iterate 5 exact rfl) | (apply o_call; exact rfl; exact rfl; (focus (first | exact rfl | assumption)); exact rfl; (focus (exact ⟨_, hD _ _ _ (.tail (.tail (.tail (.tail (.tail (.tail (.tail (.tail (.tail (.tail pD)))))))))) (.inr ⟨_, _, rfl, .tail (.tail .head)⟩), by repeat (first | with_reducible exact Take.nil | with_reducible apply Take.c | with_reducible apply Take.drop)⟩)); rintro _ _ ⟨B3, w3, qo3, rfl, rh, rfl⟩) | apply thenS_normal | ((with_reducible apply Sd.mk); (first | exact True.intro | omega | (constructor <;> first | omega | (unfold maxLen; omega)) | (unfold maxLen; omega))) | ((with_reducible apply Ln.mk); (first | rfl | exact ‹_› | omega | (simp ; first | done | omega))) | ((with_reducible apply Wr.mk); (first | exact IntWalk.i64_in _ (by omega) | exact IntWalk.u8_in _ (by omega) | exact IntWalk.u32_in _ (by omega) | exact IntWalk.u64_in _ (by omega) | exact IntKind.wrap_u8 _ | exact IntKind.wrap_u32 _ | rfl)) | ((with_reducible apply Ce.mk); (first | rfl | exact ‹_› | exact cell_recZ (fun _ => rfl) (by omega) (by decide) rfl | exact cell_rec (fun _ => rfl) (by omega) (by decide) rfl | exact cell_bytes (by omega) | exact cell_mapZ (by omega) | exact cell_map (by omega))) | ((with_reducible apply Pu.mk); (first | exact putAt_all rfl | exact putAt_t5 | exact putAt_recZ (fun _ => rfl) (by omega) | exact putAt_rec (fun _ => rfl) (by omega))) | ((with_reducible apply Su.mk); (first | exact subAt_t5 | exact subAt_all | exact subAt_recZ (fun _ => rfl) (by omega) | exact subAt_rec (fun _ => rfl) (by omega))) | exact True.intro | intro A | exact rfl)
        all_goals first | (exfalso; omega) | skip
        cases rh
        all_goals
          repeat' (first | apply w_seq | apply w_region | apply o_nil | (apply w_draw; (focus (kernel_rfl)); (focus (kernel_rfl))) | (apply o_g tyOk; exact rfl; exact rfl) | (apply o_loads tyOk; (iterate 3 exact rfl); (focus (exact pk))) | (apply o_store tyOk; (iterate 4 exact rfl); (focus (exact up))) | (apply o_stores tyOk; (iterate 4 exact rfl); (focus (exact ⟨rfl⟩)); (focus (exact up))) | apply thenS_normal | apply w_ret | ((with_reducible apply Sd.mk); (first | exact True.intro | omega | (constructor <;> first | omega | (unfold maxLen; omega)) | (unfold maxLen; omega))) | ((with_reducible apply Ln.mk); (first | rfl | exact ‹_› | omega | (simp ; first | done | omega))) | ((with_reducible apply Se.mk); (first | (focus ((repeat (first | exact SetAt.zero | apply SetAt.succ)); done)) | exact setAt_bytes (by omega) (by omega) | exact setAt_mapZ (by omega) | exact setAt_map (by omega))) | ((with_reducible apply Pu.mk); (first | exact putAt_all rfl | exact putAt_t5 | exact putAt_recZ (fun _ => rfl) (by omega) | exact putAt_rec (fun _ => rfl) (by omega))) | ((with_reducible apply Su.mk); (first | exact subAt_t5 | exact subAt_all | exact subAt_recZ (fun _ => rfl) (by omega) | exact subAt_rec (fun _ => rfl) (by omega))) | exact True.intro | refine Rc.mk ⟨_, _, pk, ?_⟩ | exact Or.inl rfl | apply And.intro | apply Or.inr | exact rfl)
          all_goals first
            | (exfalso; omega)
            | (apply s_fin; (exact (show ResS _ _ _ _ [_, _] from (res_cell tyOk rfl rfl rfl (by exact pk) (by first | rfl | exact ‹_› | omega | (simp ; first | done | omega)) (by first | rfl | exact ‹_› | omega | (simp ; first | done | omega)) (res_cell tyOk rfl rfl rfl (by exact pk) (by first | rfl | exact ‹_› | omega | (simp ; first | done | omega)) (by first | rfl | exact ‹_› | omega | (simp ; first | done | omega)) trivial)))); (focus (first | exact ⟨B1, B2, B3, _, _, rfl, .same, rfl⟩ | exact ⟨B1, B2, B3, _, _, rfl, .new _ _, rfl⟩)); (focus (repeat (first | with_reducible exact Take.nil | with_reducible apply Take.c | with_reducible apply Take.drop))))
            | trace_state
    | new o O =>
      repeat' (first | apply w_seq | apply w_region | apply o_nil | (apply o_g tyOk; exact rfl; exact rfl) | (apply o_ar tyOk; exact rfl; exact rfl) | (apply o_load tyOk; (iterate 3 exact rfl); (focus (exact pk))) | (apply o_loads tyOk; (iterate 3 exact rfl); (focus (exact pk))) | (apply o_store tyOk; (iterate 4 exact rfl); (focus (exact up))) | (apply o_stores tyOk; (iterate 4 exact rfl); (focus (exact ⟨rfl⟩)); (focus (exact up))) | (apply o_alloc tyOk; iterate 5 exact rfl) | (apply o_call; exact rfl; exact rfl; (focus (first | exact rfl | assumption)); exact rfl; (focus (exact ⟨_, hL _ _ _ (.tail (.tail (.tail (.tail (.tail (.tail (.tail (.tail pL)))))))) (.inr ⟨_, _, rfl, .tail (.tail .head)⟩), by repeat (first | with_reducible exact Take.nil | with_reducible apply Take.c | with_reducible apply Take.drop)⟩)); rintro _ _ ⟨B2, w2, qo2, rfl, rd, rfl⟩) | (apply w_false; exact rfl) | apply thenS_normal | apply w_skip | ((with_reducible apply Sd.mk); (first | exact True.intro | omega | (constructor <;> first | omega | (unfold maxLen; omega)) | (unfold maxLen; omega))) | ((with_reducible apply Ln.mk); (first | rfl | exact ‹_› | omega | (simp ; first | done | omega))) | ((with_reducible apply Wr.mk); (first | exact IntWalk.i64_in _ (by omega) | exact IntWalk.u8_in _ (by omega) | exact IntWalk.u32_in _ (by omega) | exact IntWalk.u64_in _ (by omega) | exact IntKind.wrap_u8 _ | exact IntKind.wrap_u32 _ | rfl)) | ((with_reducible apply Ce.mk); (first | rfl | exact ‹_› | exact cell_recZ (fun _ => rfl) (by omega) (by decide) rfl | exact cell_rec (fun _ => rfl) (by omega) (by decide) rfl | exact cell_bytes (by omega) | exact cell_mapZ (by omega) | exact cell_map (by omega))) | ((with_reducible apply Se.mk); (first | (focus ((repeat (first | exact SetAt.zero | apply SetAt.succ)); done)) | exact setAt_bytes (by omega) (by omega) | exact setAt_mapZ (by omega) | exact setAt_map (by omega))) | ((with_reducible apply Pu.mk); (first | exact putAt_all rfl | exact putAt_t5 | exact putAt_recZ (fun _ => rfl) (by omega) | exact putAt_rec (fun _ => rfl) (by omega))) | ((with_reducible apply Su.mk); (first | exact subAt_t5 | exact subAt_all | exact subAt_recZ (fun _ => rfl) (by omega) | exact subAt_rec (fun _ => rfl) (by omega))) | exact True.intro | intro A | exact rfl)
      all_goals first | (exfalso; omega) | skip
      cases rd with
      | same =>
        repeat' (first | apply w_seq | apply w_region | apply o_nil | (apply o_g tyOk; exact rfl; exact rfl) | (apply o_ar tyOk; exact rfl; exact rfl) | (apply o_load tyOk; (iterate 3 exact rfl); (focus (exact pk))) | (apply o_loads tyOk; (iterate 3 exact rfl); (focus (exact pk))) | (apply o_stores tyOk; (iterate 4 exact rfl); (focus (exact ⟨rfl⟩)); (focus (exact up))) | (apply o_alloc tyOk; iterate 5 exact rfl) | (apply o_call; exact rfl; exact rfl; (focus (first | exact rfl | assumption)); exact rfl; (focus (exact ⟨_, hD _ _ _ (.tail (.tail (.tail (.tail (.tail (.tail (.tail (.tail (.tail (.tail pD)))))))))) (.inr ⟨_, _, rfl, .tail (.tail (.tail (.tail .head)))⟩), by repeat (first | with_reducible exact Take.nil | with_reducible apply Take.c | with_reducible apply Take.drop)⟩)); rintro _ _ ⟨B3, w3, qo3, rfl, rh, rfl⟩) | apply thenS_normal | ((with_reducible apply Sd.mk); (first | exact True.intro | omega | (constructor <;> first | omega | (unfold maxLen; omega)) | (unfold maxLen; omega))) | ((with_reducible apply Ln.mk); (first | rfl | exact ‹_› | omega | (simp ; first | done | omega))) | ((with_reducible apply Wr.mk); (first | exact IntWalk.i64_in _ (by omega) | exact IntWalk.u8_in _ (by omega) | exact IntWalk.u32_in _ (by omega) | exact IntWalk.u64_in _ (by omega) | exact IntKind.wrap_u8 _ | exact IntKind.wrap_u32 _ | rfl)) | ((with_reducible apply Ce.mk); (first | rfl | exact ‹_› | exact cell_recZ (fun _ => rfl) (by omega) (by decide) rfl | exact cell_rec (fun _ => rfl) (by omega) (by decide) rfl | exact cell_bytes (by omega) | exact cell_mapZ (by omega) | exact cell_map (by omega))) | ((with_reducible apply Pu.mk); (first | exact putAt_all rfl | exact putAt_t5 | exact putAt_recZ (fun _ => rfl) (by omega) | exact putAt_rec (fun _ => rfl) (by omega))) | ((with_reducible apply Su.mk); (first | exact subAt_t5 | exact subAt_all | exact subAt_recZ (fun _ => rfl) (by omega) | exact subAt_rec (fun _ => rfl) (by omega))) | exact True.intro | intro A | exact rfl)
        all_goals first | (exfalso; omega) | skip
        cases rh
        all_goals
          repeat' (first | apply w_seq | apply w_region | apply o_nil | (apply w_draw; (focus (kernel_rfl)); (focus (kernel_rfl))) | (apply o_g tyOk; exact rfl; exact rfl) | (apply o_loads tyOk; (iterate 3 exact rfl); (focus (exact pk))) | (apply o_store tyOk; (iterate 4 exact rfl); (focus (exact up))) | (apply o_stores tyOk; (iterate 4 exact rfl); (focus (exact ⟨rfl⟩)); (focus (exact up))) | apply thenS_normal | apply w_ret | ((with_reducible apply Sd.mk); (first | exact True.intro | omega | (constructor <;> first | omega | (unfold maxLen; omega)) | (unfold maxLen; omega))) | ((with_reducible apply Ln.mk); (first | rfl | exact ‹_› | omega | (simp ; first | done | omega))) | ((with_reducible apply Se.mk); (first | (focus ((repeat (first | exact SetAt.zero | apply SetAt.succ)); done)) | exact setAt_bytes (by omega) (by omega) | exact setAt_mapZ (by omega) | exact setAt_map (by omega))) | ((with_reducible apply Pu.mk); (first | exact putAt_all rfl | exact putAt_t5 | exact putAt_recZ (fun _ => rfl) (by omega) | exact putAt_rec (fun _ => rfl) (by omega))) | ((with_reducible apply Su.mk); (first | exact subAt_t5 | exact subAt_all | exact subAt_recZ (fun _ => rfl) (by omega) | exact subAt_rec (fun _ => rfl) (by omega))) | exact True.intro | refine Rc.mk ⟨_, _, pk, ?_⟩ | exact Or.inl rfl | apply And.intro | apply Or.inr | exact rfl)
          all_goals first
            | (exfalso; omega)
            | (apply s_fin; (exact (show ResS _ _ _ _ [_, _] from (res_cell tyOk rfl rfl rfl (by exact pk) (by first | rfl | exact ‹_› | omega | (simp ; first | done | omega)) (by first | rfl | exact ‹_› | omega | (simp ; first | done | omega)) (res_cell tyOk rfl rfl rfl (by exact pk) (by first | rfl | exact ‹_› | omega | (simp ; first | done | omega)) (by first | rfl | exact ‹_› | omega | (simp ; first | done | omega)) trivial)))); (focus (first | exact ⟨B1, B2, B3, _, _, rfl, .same, rfl⟩ | exact ⟨B1, B2, B3, _, _, rfl, .new _ _, rfl⟩)); (focus (repeat (first | with_reducible exact Take.nil | with_reducible apply Take.c | with_reducible apply Take.drop))))
            | trace_state
      | new o3 O3 =>
        repeat' (first | apply w_seq | apply w_region | apply o_nil | (apply o_g tyOk; exact rfl; exact rfl) | (apply o_ar tyOk; exact rfl; exact rfl) | (apply o_load tyOk; (iterate 3 exact rfl); (focus (exact pk))) | (apply o_loads tyOk; (iterate 3 exact rfl); (focus (exact pk))) | (apply o_stores tyOk; (iterate 4 exact rfl); (focus (exact ⟨rfl⟩)); (focus (exact up))) | (apply o_alloc tyOk; iterate 5 exact rfl) | (apply o_call; exact rfl; exact rfl; (focus (first | exact rfl | assumption)); exact rfl; (focus (exact ⟨_, hD _ _ _ (.tail (.tail (.tail (.tail (.tail (.tail (.tail (.tail (.tail (.tail (.tail pD))))))))))) (.inr ⟨_, _, rfl, .tail (.tail .head)⟩), by repeat (first | with_reducible exact Take.nil | with_reducible apply Take.c | with_reducible apply Take.drop)⟩)); rintro _ _ ⟨B3, w3, qo3, rfl, rh, rfl⟩) | apply thenS_normal | ((with_reducible apply Sd.mk); (first | exact True.intro | omega | (constructor <;> first | omega | (unfold maxLen; omega)) | (unfold maxLen; omega))) | ((with_reducible apply Ln.mk); (first | rfl | exact ‹_› | omega | (simp ; first | done | omega))) | ((with_reducible apply Wr.mk); (first | exact IntWalk.i64_in _ (by omega) | exact IntWalk.u8_in _ (by omega) | exact IntWalk.u32_in _ (by omega) | exact IntWalk.u64_in _ (by omega) | exact IntKind.wrap_u8 _ | exact IntKind.wrap_u32 _ | rfl)) | ((with_reducible apply Ce.mk); (first | rfl | exact ‹_› | exact cell_recZ (fun _ => rfl) (by omega) (by decide) rfl | exact cell_rec (fun _ => rfl) (by omega) (by decide) rfl | exact cell_bytes (by omega) | exact cell_mapZ (by omega) | exact cell_map (by omega))) | ((with_reducible apply Pu.mk); (first | exact putAt_all rfl | exact putAt_t5 | exact putAt_recZ (fun _ => rfl) (by omega) | exact putAt_rec (fun _ => rfl) (by omega))) | ((with_reducible apply Su.mk); (first | exact subAt_t5 | exact subAt_all | exact subAt_recZ (fun _ => rfl) (by omega) | exact subAt_rec (fun _ => rfl) (by omega))) | exact True.intro | intro A | exact rfl)
        all_goals first | (exfalso; omega) | skip
        cases rh
        all_goals
          repeat' (first | apply w_seq | apply w_region | apply o_nil | (apply w_draw; (focus (kernel_rfl)); (focus (kernel_rfl))) | (apply o_g tyOk; exact rfl; exact rfl) | (apply o_loads tyOk; (iterate 3 exact rfl); (focus (exact pk))) | (apply o_store tyOk; (iterate 4 exact rfl); (focus (exact up))) | (apply o_stores tyOk; (iterate 4 exact rfl); (focus (exact ⟨rfl⟩)); (focus (exact up))) | apply thenS_normal | apply w_ret | ((with_reducible apply Sd.mk); (first | exact True.intro | omega | (constructor <;> first | omega | (unfold maxLen; omega)) | (unfold maxLen; omega))) | ((with_reducible apply Ln.mk); (first | rfl | exact ‹_› | omega | (simp ; first | done | omega))) | ((with_reducible apply Se.mk); (first | (focus ((repeat (first | exact SetAt.zero | apply SetAt.succ)); done)) | exact setAt_bytes (by omega) (by omega) | exact setAt_mapZ (by omega) | exact setAt_map (by omega))) | ((with_reducible apply Pu.mk); (first | exact putAt_all rfl | exact putAt_t5 | exact putAt_recZ (fun _ => rfl) (by omega) | exact putAt_rec (fun _ => rfl) (by omega))) | ((with_reducible apply Su.mk); (first | exact subAt_t5 | exact subAt_all | exact subAt_recZ (fun _ => rfl) (by omega) | exact subAt_rec (fun _ => rfl) (by omega))) | exact True.intro | refine Rc.mk ⟨_, _, pk, ?_⟩ | exact Or.inl rfl | apply And.intro | apply Or.inr | exact rfl)
          all_goals first
            | (exfalso; omega)
            | (apply s_fin; (exact (show ResS _ _ _ _ [_, _] from (res_cell tyOk rfl rfl rfl (by exact pk) (by first | rfl | exact ‹_› | omega | (simp ; first | done | omega)) (by first | rfl | exact ‹_› | omega | (simp ; first | done | omega)) (res_cell tyOk rfl rfl rfl (by exact pk) (by first | rfl | exact ‹_› | omega | (simp ; first | done | omega)) (by first | rfl | exact ‹_› | omega | (simp ; first | done | omega)) trivial)))); (focus (first | exact ⟨B1, B2, B3, _, _, rfl, .same, rfl⟩ | exact ⟨B1, B2, B3, _, _, rfl, .new _ _, rfl⟩)); (focus (repeat (first | with_reducible exact Take.nil | with_reducible apply Take.c | with_reducible apply Take.drop))))
            | trace_state
theorem rWriteC_some (x : Ms) (e : Enc) (l d y : Int) (w : Value) (a : RAd) (ts : List Value) (h : SH) (hR : RM h x a ts) (hv : RO h e.out w) (hw : ∃ A1 p2, w = gsl A1 0 e.out.length e.out.length 1 ∧ Pick h A1 ⟨bytesV e.out, false⟩ p2) (hx : MsOk x) (hok : EncOk 799000 e) (hl : 2 ≤ l ∧ l ≤ 5000) (hd : 1 ≤ d ∧ d ≤ 5000) :
    SRun Try.prog 71 [reV w e.low e.size, rmV a x.c, .agg ⟨[I l, I d, Y y]⟩] h fun r q =>
      ∃ B1 B2 B3 w' qo, r = .tuple ⟨[reV w' (wst (x, e) (l, d, y)).2.low (wst (x, e) (l, d, y)).2.size, rmV ⟨B1, B2, B3, a.C⟩ x.c]⟩ ∧ ROut h e.out w (wfc (x, e) l d) (wst (x, e) (l, d, y)).2.out w' qo ∧
        q = (B3, ⟨nodes (wst (x, e) (l, d, y)).1.D, false⟩) :: (B2, ⟨nodes (wst (x, e) (l, d, y)).1.L, false⟩) :: (B1, ⟨nodes (wst (x, e) (l, d, y)).1.K, false⟩) :: qo := by
  obtain ⟨⟨_, pK⟩, ⟨_, pL⟩, ⟨_, pD⟩, ⟨_, pC⟩, hB⟩ := hR
  have ok1 := tenc_ok (v := 1) (k := 1) (t := x.K) (j := 1) hok
  have ok2 := nenc_ok (t := x.L) ok1.1 (l - 2)
  have hK := fun h h1 hp hr => rTEnc_any 1 x.K 1 e w a.k h h1 hp hr (hx.K.trans (by decide)) (by decide) (hok.mono (by omega))
  have hL := fun w h h1 hp hr => rEncNum_any x.L (l - 2) (tenc 1 1 x.K e 1).2 w a.l h h1 hp hr hx.L (ok1.1.mono (by omega))
  have hD := fun w h h1 hp hr => rEncNum_any x.D (d - 1) (nenc x.L (tenc 1 1 x.K e 1).2 (l - 2)).2 w a.d h h1 hp hr hx.D (ok2.1.mono (by omega))
  unfold wst wfc
  rw [if_neg (show ¬ d = 0 by omega)]
  rw [hx.K] at hK
  clear ok1 ok2 hok
  dsimp only at hL hD ⊢
  generalize tfr 1 1 x.K e 1 = F1 at *
  generalize tenc 1 1 x.K e 1 = T at *
  obtain ⟨K1, o1, lo1, sz1⟩ := T
  obtain ⟨o0, lo0, sz0⟩ := e
  dsimp only at *
  generalize nfr x.L ⟨o1, lo1, sz1⟩ (l - 2) = F2 at *
  generalize nenc x.L ⟨o1, lo1, sz1⟩ (l - 2) = E at *
  obtain ⟨L2, o2, lo2, sz2⟩ := E
  dsimp only at *
  generalize nfr x.D ⟨o2, lo2, sz2⟩ (d - 1) = F3 at *
  generalize nenc x.D ⟨o2, lo2, sz2⟩ (d - 1) = E at *
  obtain ⟨D3, o3, lo3, sz3⟩ := E
  dsimp only at *
  obtain ⟨A1, p2, rfl, hp2⟩ := hw
  all_goals
    refine w_body3 Try.func71 rfl rfl ?_
    repeat' (first | apply w_seq | apply w_region | apply o_nil | (apply o_g tyOk; exact rfl; exact rfl) | (apply o_load tyOk; (iterate 3 exact rfl); (focus (exact pk))) | (apply o_loads tyOk; (iterate 3 exact rfl); (focus (exact pk))) | (apply o_alloc tyOk; iterate 5 exact rfl) | (apply o_box (tt := tyT); iterate 5 exact rfl) | (apply o_call; exact rfl; exact rfl; (focus (first | exact rfl | assumption)); exact rfl; (focus (exact ⟨_, hK _ _ (.tail (.tail (.tail (.tail (.tail pK))))) (hv.re (.drop (.drop (.drop (.drop (.drop .nil)))))), by repeat (first | with_reducible exact Take.nil | with_reducible apply Take.c | with_reducible apply Take.drop)⟩)); rintro _ _ ⟨B1, w1, qo, rfl, ro, rfl⟩) | (apply w_dT; exact rfl; (focus (first | exact ‹_› | with_reducible exact rfl | omega))) | apply thenS_normal | ((with_reducible apply Sd.mk); (first | exact True.intro | omega | (constructor <;> first | omega | (unfold maxLen; omega)) | (unfold maxLen; omega))) | ((with_reducible apply Ln.mk); (first | rfl | exact ‹_› | omega | (simp ; first | done | omega))) | ((with_reducible apply Ce.mk); (first | rfl | exact ‹_› | exact cell_recZ (fun _ => rfl) (by omega) (by decide) rfl | exact cell_rec (fun _ => rfl) (by omega) (by decide) rfl | exact cell_bytes (by omega) | exact cell_mapZ (by omega) | exact cell_map (by omega))) | ((with_reducible apply Su.mk); (first | exact subAt_t5 | exact subAt_all | exact subAt_recZ (fun _ => rfl) (by omega) | exact subAt_rec (fun _ => rfl) (by omega))) | exact True.intro | intro A | exact rfl)
    all_goals first | (exfalso; omega) | skip
    cases ro with
    | same =>
      repeat' (first | apply w_seq | apply w_region | apply o_nil | (apply o_g tyOk; exact rfl; exact rfl) | (apply o_ar tyOk; exact rfl; exact rfl) | (apply o_load tyOk; (iterate 3 exact rfl); (focus (exact pk))) | (apply o_loads tyOk; (iterate 3 exact rfl); (focus (exact pk))) | (apply o_store tyOk; (iterate 4 exact rfl); (focus (exact up))) | (apply o_stores tyOk; (iterate 4 exact rfl); (focus (exact ⟨rfl⟩)); (focus (exact up))) | (apply o_alloc tyOk; iterate 5 exact rfl) | (apply o_call; exact rfl; exact rfl; (focus (first | exact rfl | assumption)); exact rfl; (focus (exact ⟨_, hL _ _ _ (.tail (.tail (.tail (.tail (.tail (.tail (.tail pL))))))) (hv.re (.drop (.drop (.drop (.drop (.drop (.drop (.drop .nil)))))))), by repeat (first | with_reducible exact Take.nil | with_reducible apply Take.c | with_reducible apply Take.drop)⟩)); rintro _ _ ⟨B2, w2, qo2, rfl, rd, rfl⟩) | (apply w_false; exact rfl) | apply thenS_normal | apply w_skip | ((with_reducible apply Sd.mk); (first | exact True.intro | omega | (constructor <;> first | omega | (unfold maxLen; omega)) | (unfold maxLen; omega))) | ((with_reducible apply Ln.mk); (first | rfl | exact ‹_› | omega | (simp ; first | done | omega))) | ((with_reducible apply Wr.mk); (first | exact IntWalk.i64_in _ (by omega) | exact IntWalk.u8_in _ (by omega) | exact IntWalk.u32_in _ (by omega) | exact IntWalk.u64_in _ (by omega) | exact IntKind.wrap_u8 _ | exact IntKind.wrap_u32 _ | rfl)) | ((with_reducible apply Ce.mk); (first | rfl | exact ‹_› | exact cell_recZ (fun _ => rfl) (by omega) (by decide) rfl | exact cell_rec (fun _ => rfl) (by omega) (by decide) rfl | exact cell_bytes (by omega) | exact cell_mapZ (by omega) | exact cell_map (by omega))) | ((with_reducible apply Se.mk); (first | (focus ((repeat (first | exact SetAt.zero | apply SetAt.succ)); done)) | exact setAt_bytes (by omega) (by omega) | exact setAt_mapZ (by omega) | exact setAt_map (by omega))) | ((with_reducible apply Pu.mk); (first | exact putAt_all rfl | exact putAt_t5 | exact putAt_recZ (fun _ => rfl) (by omega) | exact putAt_rec (fun _ => rfl) (by omega))) | ((with_reducible apply Su.mk); (first | exact subAt_t5 | exact subAt_all | exact subAt_recZ (fun _ => rfl) (by omega) | exact subAt_rec (fun _ => rfl) (by omega))) | exact True.intro | intro A | exact rfl)
      all_goals first | (exfalso; omega) | skip
      cases rd with
      | same =>
        repeat' (first | apply w_seq | apply w_region | apply o_nil | (apply o_g tyOk; exact rfl; exact rfl) | (apply o_ar tyOk; exact rfl; exact rfl) | (apply o_load tyOk; (iterate 3 exact rfl); (focus (exact pk))) | (apply o_loads tyOk; (iterate 3 exact rfl); (focus (exact pk))) | (apply o_stores tyOk; (iterate 4 exact rfl); (focus (exact ⟨rfl⟩)); (focus (exact up))) | (apply o_alloc tyOk; iterate 5 exact rfl) | (apply o_call; exact rfl; exact rfl; (focus (first | exact rfl | assumption)); exact rfl; (focus (exact ⟨_, hD _ _ _ (.tail (.tail (.tail (.tail (.tail (.tail (.tail (.tail (.tail pD))))))))) (hv.re (.drop (.drop (.drop (.drop (.drop (.drop (.drop (.drop (.drop .nil)))))))))), by repeat (first | with_reducible exact Take.nil | with_reducible apply Take.c | with_reducible apply Take.drop)⟩)); rintro _ _ ⟨B3, w3, qo3, rfl, rh, rfl⟩) | apply thenS_normal | ((with_reducible apply Sd.mk); (first | exact True.intro | omega | (constructor <;> first | omega | (unfold maxLen; omega)) | (unfold maxLen; omega))) | ((with_reducible apply Ln.mk); (first | rfl | exact ‹_› | omega | (simp ; first | done | omega))) | ((with_reducible apply Wr.mk); (first | exact IntWalk.i64_in _ (by omega) | exact IntWalk.u8_in _ (by omega) | exact IntWalk.u32_in _ (by omega) | exact IntWalk.u64_in _ (by omega) | exact IntKind.wrap_u8 _ | exact IntKind.wrap_u32 _ | rfl)) | ((with_reducible apply Ce.mk); (first | rfl | exact ‹_› | exact cell_recZ (fun _ => rfl) (by omega) (by decide) rfl | exact cell_rec (fun _ => rfl) (by omega) (by decide) rfl | exact cell_bytes (by omega) | exact cell_mapZ (by omega) | exact cell_map (by omega))) | ((with_reducible apply Pu.mk); (first | exact putAt_all rfl | exact putAt_t5 | exact putAt_recZ (fun _ => rfl) (by omega) | exact putAt_rec (fun _ => rfl) (by omega))) | ((with_reducible apply Su.mk); (first | exact subAt_t5 | exact subAt_all | exact subAt_recZ (fun _ => rfl) (by omega) | exact subAt_rec (fun _ => rfl) (by omega))) | exact True.intro | intro A | exact rfl)
        all_goals first | (exfalso; omega) | skip
        cases rh
        all_goals
          repeat' (first | apply w_seq | apply w_region | apply o_nil | (apply w_draw; (focus (kernel_rfl)); (focus (kernel_rfl))) | (apply o_g tyOk; exact rfl; exact rfl) | (apply o_loads tyOk; (iterate 3 exact rfl); (focus (exact pk))) | (apply o_store tyOk; (iterate 4 exact rfl); (focus (exact up))) | (apply o_stores tyOk; (iterate 4 exact rfl); (focus (exact ⟨rfl⟩)); (focus (exact up))) | apply thenS_normal | apply w_ret | ((with_reducible apply Sd.mk); (first | exact True.intro | omega | (constructor <;> first | omega | (unfold maxLen; omega)) | (unfold maxLen; omega))) | ((with_reducible apply Ln.mk); (first | rfl | exact ‹_› | omega | (simp ; first | done | omega))) | ((with_reducible apply Se.mk); (first | (focus ((repeat (first | exact SetAt.zero | apply SetAt.succ)); done)) | exact setAt_bytes (by omega) (by omega) | exact setAt_mapZ (by omega) | exact setAt_map (by omega))) | ((with_reducible apply Pu.mk); (first | exact putAt_all rfl | exact putAt_t5 | exact putAt_recZ (fun _ => rfl) (by omega) | exact putAt_rec (fun _ => rfl) (by omega))) | ((with_reducible apply Su.mk); (first | exact subAt_t5 | exact subAt_all | exact subAt_recZ (fun _ => rfl) (by omega) | exact subAt_rec (fun _ => rfl) (by omega))) | exact True.intro | refine Rc.mk ⟨_, _, pk, ?_⟩ | exact Or.inl rfl | apply And.intro | apply Or.inr | exact rfl)
          all_goals first
            | (exfalso; omega)
            | (apply s_fin; (exact (show ResS _ _ _ _ [_, _] from (res_cell tyOk rfl rfl rfl (by exact pk) (by first | rfl | exact ‹_› | omega | (simp ; first | done | omega)) (by first | rfl | exact ‹_› | omega | (simp ; first | done | omega)) (res_cell tyOk rfl rfl rfl (by exact pk) (by first | rfl | exact ‹_› | omega | (simp ; first | done | omega)) (by first | rfl | exact ‹_› | omega | (simp ; first | done | omega)) trivial)))); (focus (first | exact ⟨B1, B2, B3, _, _, rfl, .same, rfl⟩ | exact ⟨B1, B2, B3, _, _, rfl, .new _ _, rfl⟩)); (focus (repeat (first | with_reducible exact Take.nil | with_reducible apply Take.c | with_reducible apply Take.drop))))
            | trace_state
      | new o3 O3 =>
        repeat' (first | apply w_seq | apply w_region | apply o_nil | (apply o_g tyOk; exact rfl; exact rfl) | (apply o_ar tyOk; exact rfl; exact rfl) | (apply o_load tyOk; (iterate 3 exact rfl); (focus (exact pk))) | (apply o_loads tyOk; (iterate 3 exact rfl); (focus (exact pk))) | (apply o_stores tyOk; (iterate 4 exact rfl); (focus (exact ⟨rfl⟩)); (focus (exact up))) | (apply o_alloc tyOk; iterate 5 exact rfl) | (apply o_call; exact rfl; exact rfl; (focus (first | exact rfl | assumption)); exact rfl; (focus (exact ⟨_, hD _ _ _ (.tail (.tail (.tail (.tail (.tail (.tail (.tail (.tail (.tail (.tail pD)))))))))) (.inr ⟨_, _, rfl, .tail (.tail .head)⟩), by repeat (first | with_reducible exact Take.nil | with_reducible apply Take.c | with_reducible apply Take.drop)⟩)); rintro _ _ ⟨B3, w3, qo3, rfl, rh, rfl⟩) | apply thenS_normal | ((with_reducible apply Sd.mk); (first | exact True.intro | omega | (constructor <;> first | omega | (unfold maxLen; omega)) | (unfold maxLen; omega))) | ((with_reducible apply Ln.mk); (first | rfl | exact ‹_› | omega | (simp ; first | done | omega))) | ((with_reducible apply Wr.mk); (first | exact IntWalk.i64_in _ (by omega) | exact IntWalk.u8_in _ (by omega) | exact IntWalk.u32_in _ (by omega) | exact IntWalk.u64_in _ (by omega) | exact IntKind.wrap_u8 _ | exact IntKind.wrap_u32 _ | rfl)) | ((with_reducible apply Ce.mk); (first | rfl | exact ‹_› | exact cell_recZ (fun _ => rfl) (by omega) (by decide) rfl | exact cell_rec (fun _ => rfl) (by omega) (by decide) rfl | exact cell_bytes (by omega) | exact cell_mapZ (by omega) | exact cell_map (by omega))) | ((with_reducible apply Pu.mk); (first | exact putAt_all rfl | exact putAt_t5 | exact putAt_recZ (fun _ => rfl) (by omega) | exact putAt_rec (fun _ => rfl) (by omega))) | ((with_reducible apply Su.mk); (first | exact subAt_t5 | exact subAt_all | exact subAt_recZ (fun _ => rfl) (by omega) | exact subAt_rec (fun _ => rfl) (by omega))) | exact True.intro | intro A | exact rfl)
        all_goals first | (exfalso; omega) | skip
        cases rh
        all_goals
          repeat' (first | apply w_seq | apply w_region | apply o_nil | (apply w_draw; (focus (kernel_rfl)); (focus (kernel_rfl))) | (apply o_g tyOk; exact rfl; exact rfl) | (apply o_loads tyOk; (iterate 3 exact rfl); (focus (exact pk))) | (apply o_store tyOk; (iterate 4 exact rfl); (focus (exact up))) | (apply o_stores tyOk; (iterate 4 exact rfl); (focus (exact ⟨rfl⟩)); (focus (exact up))) | apply thenS_normal | apply w_ret | ((with_reducible apply Sd.mk); (first | exact True.intro | omega | (constructor <;> first | omega | (unfold maxLen; omega)) | (unfold maxLen; omega))) | ((with_reducible apply Ln.mk); (first | rfl | exact ‹_› | omega | (simp ; first | done | omega))) | ((with_reducible apply Se.mk); (first | (focus ((repeat (first | exact SetAt.zero | apply SetAt.succ)); done)) | exact setAt_bytes (by omega) (by omega) | exact setAt_mapZ (by omega) | exact setAt_map (by omega))) | ((with_reducible apply Pu.mk); (first | exact putAt_all rfl | exact putAt_t5 | exact putAt_recZ (fun _ => rfl) (by omega) | exact putAt_rec (fun _ => rfl) (by omega))) | ((with_reducible apply Su.mk); (first | exact subAt_t5 | exact subAt_all | exact subAt_recZ (fun _ => rfl) (by omega) | exact subAt_rec (fun _ => rfl) (by omega))) | exact True.intro | refine Rc.mk ⟨_, _, pk, ?_⟩ | exact Or.inl rfl | apply And.intro | apply Or.inr | exact rfl)
          all_goals first
            | (exfalso; omega)
            | (apply s_fin; (exact (show ResS _ _ _ _ [_, _] from (res_cell tyOk rfl rfl rfl (by exact pk) (by first | rfl | exact ‹_› | omega | (simp ; first | done | omega)) (by first | rfl | exact ‹_› | omega | (simp ; first | done | omega)) (res_cell tyOk rfl rfl rfl (by exact pk) (by first | rfl | exact ‹_› | omega | (simp ; first | done | omega)) (by first | rfl | exact ‹_› | omega | (simp ; first | done | omega)) trivial)))); (focus (first | exact ⟨B1, B2, B3, _, _, rfl, .same, rfl⟩ | exact ⟨B1, B2, B3, _, _, rfl, .new _ _, rfl⟩)); (focus (repeat (first | with_reducible exact Take.nil | with_reducible apply Take.c | with_reducible apply Take.drop))))
            | trace_state
    | new o O =>
      repeat' (first | apply w_seq | apply w_region | apply o_nil | (apply o_g tyOk; exact rfl; exact rfl) | (apply o_ar tyOk; exact rfl; exact rfl) | (apply o_load tyOk; (iterate 3 exact rfl); (focus (exact pk))) | (apply o_loads tyOk; (iterate 3 exact rfl); (focus (exact pk))) | (apply o_store tyOk; (iterate 4 exact rfl); (focus (exact up))) | (apply o_stores tyOk; (iterate 4 exact rfl); (focus (exact ⟨rfl⟩)); (focus (exact up))) | (apply o_alloc tyOk; iterate 5 exact rfl) | (apply o_call; exact rfl; exact rfl; (focus (first | exact rfl | assumption)); exact rfl; (focus (exact ⟨_, hL _ _ _ (.tail (.tail (.tail (.tail (.tail (.tail (.tail (.tail pL)))))))) (.inr ⟨_, _, rfl, .tail (.tail .head)⟩), by repeat (first | with_reducible exact Take.nil | with_reducible apply Take.c | with_reducible apply Take.drop)⟩)); rintro _ _ ⟨B2, w2, qo2, rfl, rd, rfl⟩) | (apply w_false; exact rfl) | apply thenS_normal | apply w_skip | ((with_reducible apply Sd.mk); (first | exact True.intro | omega | (constructor <;> first | omega | (unfold maxLen; omega)) | (unfold maxLen; omega))) | ((with_reducible apply Ln.mk); (first | rfl | exact ‹_› | omega | (simp ; first | done | omega))) | ((with_reducible apply Wr.mk); (first | exact IntWalk.i64_in _ (by omega) | exact IntWalk.u8_in _ (by omega) | exact IntWalk.u32_in _ (by omega) | exact IntWalk.u64_in _ (by omega) | exact IntKind.wrap_u8 _ | exact IntKind.wrap_u32 _ | rfl)) | ((with_reducible apply Ce.mk); (first | rfl | exact ‹_› | exact cell_recZ (fun _ => rfl) (by omega) (by decide) rfl | exact cell_rec (fun _ => rfl) (by omega) (by decide) rfl | exact cell_bytes (by omega) | exact cell_mapZ (by omega) | exact cell_map (by omega))) | ((with_reducible apply Se.mk); (first | (focus ((repeat (first | exact SetAt.zero | apply SetAt.succ)); done)) | exact setAt_bytes (by omega) (by omega) | exact setAt_mapZ (by omega) | exact setAt_map (by omega))) | ((with_reducible apply Pu.mk); (first | exact putAt_all rfl | exact putAt_t5 | exact putAt_recZ (fun _ => rfl) (by omega) | exact putAt_rec (fun _ => rfl) (by omega))) | ((with_reducible apply Su.mk); (first | exact subAt_t5 | exact subAt_all | exact subAt_recZ (fun _ => rfl) (by omega) | exact subAt_rec (fun _ => rfl) (by omega))) | exact True.intro | intro A | exact rfl)
      all_goals first | (exfalso; omega) | skip
      cases rd with
      | same =>
        repeat' (first | apply w_seq | apply w_region | apply o_nil | (apply o_g tyOk; exact rfl; exact rfl) | (apply o_ar tyOk; exact rfl; exact rfl) | (apply o_load tyOk; (iterate 3 exact rfl); (focus (exact pk))) | (apply o_loads tyOk; (iterate 3 exact rfl); (focus (exact pk))) | (apply o_stores tyOk; (iterate 4 exact rfl); (focus (exact ⟨rfl⟩)); (focus (exact up))) | (apply o_alloc tyOk; iterate 5 exact rfl) | (apply o_call; exact rfl; exact rfl; (focus (first | exact rfl | assumption)); exact rfl; (focus (exact ⟨_, hD _ _ _ (.tail (.tail (.tail (.tail (.tail (.tail (.tail (.tail (.tail (.tail pD)))))))))) (.inr ⟨_, _, rfl, .tail (.tail (.tail (.tail .head)))⟩), by repeat (first | with_reducible exact Take.nil | with_reducible apply Take.c | with_reducible apply Take.drop)⟩)); rintro _ _ ⟨B3, w3, qo3, rfl, rh, rfl⟩) | apply thenS_normal | ((with_reducible apply Sd.mk); (first | exact True.intro | omega | (constructor <;> first | omega | (unfold maxLen; omega)) | (unfold maxLen; omega))) | ((with_reducible apply Ln.mk); (first | rfl | exact ‹_› | omega | (simp ; first | done | omega))) | ((with_reducible apply Wr.mk); (first | exact IntWalk.i64_in _ (by omega) | exact IntWalk.u8_in _ (by omega) | exact IntWalk.u32_in _ (by omega) | exact IntWalk.u64_in _ (by omega) | exact IntKind.wrap_u8 _ | exact IntKind.wrap_u32 _ | rfl)) | ((with_reducible apply Ce.mk); (first | rfl | exact ‹_› | exact cell_recZ (fun _ => rfl) (by omega) (by decide) rfl | exact cell_rec (fun _ => rfl) (by omega) (by decide) rfl | exact cell_bytes (by omega) | exact cell_mapZ (by omega) | exact cell_map (by omega))) | ((with_reducible apply Pu.mk); (first | exact putAt_all rfl | exact putAt_t5 | exact putAt_recZ (fun _ => rfl) (by omega) | exact putAt_rec (fun _ => rfl) (by omega))) | ((with_reducible apply Su.mk); (first | exact subAt_t5 | exact subAt_all | exact subAt_recZ (fun _ => rfl) (by omega) | exact subAt_rec (fun _ => rfl) (by omega))) | exact True.intro | intro A | exact rfl)
        all_goals first | (exfalso; omega) | skip
        cases rh
        all_goals
          repeat' (first | apply w_seq | apply w_region | apply o_nil | (apply w_draw; (focus (kernel_rfl)); (focus (kernel_rfl))) | (apply o_g tyOk; exact rfl; exact rfl) | (apply o_loads tyOk; (iterate 3 exact rfl); (focus (exact pk))) | (apply o_store tyOk; (iterate 4 exact rfl); (focus (exact up))) | (apply o_stores tyOk; (iterate 4 exact rfl); (focus (exact ⟨rfl⟩)); (focus (exact up))) | apply thenS_normal | apply w_ret | ((with_reducible apply Sd.mk); (first | exact True.intro | omega | (constructor <;> first | omega | (unfold maxLen; omega)) | (unfold maxLen; omega))) | ((with_reducible apply Ln.mk); (first | rfl | exact ‹_› | omega | (simp ; first | done | omega))) | ((with_reducible apply Se.mk); (first | (focus ((repeat (first | exact SetAt.zero | apply SetAt.succ)); done)) | exact setAt_bytes (by omega) (by omega) | exact setAt_mapZ (by omega) | exact setAt_map (by omega))) | ((with_reducible apply Pu.mk); (first | exact putAt_all rfl | exact putAt_t5 | exact putAt_recZ (fun _ => rfl) (by omega) | exact putAt_rec (fun _ => rfl) (by omega))) | ((with_reducible apply Su.mk); (first | exact subAt_t5 | exact subAt_all | exact subAt_recZ (fun _ => rfl) (by omega) | exact subAt_rec (fun _ => rfl) (by omega))) | exact True.intro | refine Rc.mk ⟨_, _, pk, ?_⟩ | exact Or.inl rfl | apply And.intro | apply Or.inr | exact rfl)
          all_goals first
            | (exfalso; omega)
            | (apply s_fin; (exact (show ResS _ _ _ _ [_, _] from (res_cell tyOk rfl rfl rfl (by exact pk) (by first | rfl | exact ‹_› | omega | (simp ; first | done | omega)) (by first | rfl | exact ‹_› | omega | (simp ; first | done | omega)) (res_cell tyOk rfl rfl rfl (by exact pk) (by first | rfl | exact ‹_› | omega | (simp ; first | done | omega)) (by first | rfl | exact ‹_› | omega | (simp ; first | done | omega)) trivial)))); (focus (first | exact ⟨B1, B2, B3, _, _, rfl, .same, rfl⟩ | exact ⟨B1, B2, B3, _, _, rfl, .new _ _, rfl⟩)); (focus (repeat (first | with_reducible exact Take.nil | with_reducible apply Take.c | with_reducible apply Take.drop))))
            | trace_state
      | new o3 O3 =>
        repeat' (first | apply w_seq | apply w_region | apply o_nil | (apply o_g tyOk; exact rfl; exact rfl) | (apply o_ar tyOk; exact rfl; exact rfl) | (apply o_load tyOk; (iterate 3 exact rfl); (focus (exact pk))) | (apply o_loads tyOk; (iterate 3 exact rfl); (focus (exact pk))) | (apply o_stores tyOk; (iterate 4 exact rfl); (focus (exact ⟨rfl⟩)); (focus (exact up))) | (apply o_alloc tyOk; iterate 5 exact rfl) | (apply o_call; exact rfl; exact rfl; (focus (first | exact rfl | assumption)); exact rfl; (focus (exact ⟨_, hD _ _ _ (.tail (.tail (.tail (.tail (.tail (.tail (.tail (.tail (.tail (.tail (.tail pD))))))))))) (.inr ⟨_, _, rfl, .tail (.tail .head)⟩), by repeat (first | with_reducible exact Take.nil | with_reducible apply Take.c | with_reducible apply Take.drop)⟩)); rintro _ _ ⟨B3, w3, qo3, rfl, rh, rfl⟩) | apply thenS_normal | ((with_reducible apply Sd.mk); (first | exact True.intro | omega | (constructor <;> first | omega | (unfold maxLen; omega)) | (unfold maxLen; omega))) | ((with_reducible apply Ln.mk); (first | rfl | exact ‹_› | omega | (simp ; first | done | omega))) | ((with_reducible apply Wr.mk); (first | exact IntWalk.i64_in _ (by omega) | exact IntWalk.u8_in _ (by omega) | exact IntWalk.u32_in _ (by omega) | exact IntWalk.u64_in _ (by omega) | exact IntKind.wrap_u8 _ | exact IntKind.wrap_u32 _ | rfl)) | ((with_reducible apply Ce.mk); (first | rfl | exact ‹_› | exact cell_recZ (fun _ => rfl) (by omega) (by decide) rfl | exact cell_rec (fun _ => rfl) (by omega) (by decide) rfl | exact cell_bytes (by omega) | exact cell_mapZ (by omega) | exact cell_map (by omega))) | ((with_reducible apply Pu.mk); (first | exact putAt_all rfl | exact putAt_t5 | exact putAt_recZ (fun _ => rfl) (by omega) | exact putAt_rec (fun _ => rfl) (by omega))) | ((with_reducible apply Su.mk); (first | exact subAt_t5 | exact subAt_all | exact subAt_recZ (fun _ => rfl) (by omega) | exact subAt_rec (fun _ => rfl) (by omega))) | exact True.intro | intro A | exact rfl)
        all_goals first | (exfalso; omega) | skip
        cases rh
        all_goals
          repeat' (first | apply w_seq | apply w_region | apply o_nil | (apply w_draw; (focus (kernel_rfl)); (focus (kernel_rfl))) | (apply o_g tyOk; exact rfl; exact rfl) | (apply o_loads tyOk; (iterate 3 exact rfl); (focus (exact pk))) | (apply o_store tyOk; (iterate 4 exact rfl); (focus (exact up))) | (apply o_stores tyOk; (iterate 4 exact rfl); (focus (exact ⟨rfl⟩)); (focus (exact up))) | apply thenS_normal | apply w_ret | ((with_reducible apply Sd.mk); (first | exact True.intro | omega | (constructor <;> first | omega | (unfold maxLen; omega)) | (unfold maxLen; omega))) | ((with_reducible apply Ln.mk); (first | rfl | exact ‹_› | omega | (simp ; first | done | omega))) | ((with_reducible apply Se.mk); (first | (focus ((repeat (first | exact SetAt.zero | apply SetAt.succ)); done)) | exact setAt_bytes (by omega) (by omega) | exact setAt_mapZ (by omega) | exact setAt_map (by omega))) | ((with_reducible apply Pu.mk); (first | exact putAt_all rfl | exact putAt_t5 | exact putAt_recZ (fun _ => rfl) (by omega) | exact putAt_rec (fun _ => rfl) (by omega))) | ((with_reducible apply Su.mk); (first | exact subAt_t5 | exact subAt_all | exact subAt_recZ (fun _ => rfl) (by omega) | exact subAt_rec (fun _ => rfl) (by omega))) | exact True.intro | refine Rc.mk ⟨_, _, pk, ?_⟩ | exact Or.inl rfl | apply And.intro | apply Or.inr | exact rfl)
          all_goals first
            | (exfalso; omega)
            | (apply s_fin; (exact (show ResS _ _ _ _ [_, _] from (res_cell tyOk rfl rfl rfl (by exact pk) (by first | rfl | exact ‹_› | omega | (simp ; first | done | omega)) (by first | rfl | exact ‹_› | omega | (simp ; first | done | omega)) (res_cell tyOk rfl rfl rfl (by exact pk) (by first | rfl | exact ‹_› | omega | (simp ; first | done | omega)) (by first | rfl | exact ‹_› | omega | (simp ; first | done | omega)) trivial)))); (focus (first | exact ⟨B1, B2, B3, _, _, rfl, .same, rfl⟩ | exact ⟨B1, B2, B3, _, _, rfl, .new _ _, rfl⟩)); (focus (repeat (first | with_reducible exact Take.nil | with_reducible apply Take.c | with_reducible apply Take.drop))))
            | trace_state
theorem rWriteC_any (x : Ms) (e : Enc) (l d y : Int) (w : Value) (a : RAd) (ts : List Value) (h : SH) (hR : RM h x a ts) (hv : RO h e.out w) (hx : MsOk x) (hok : EncOk 799000 e) (hl : 2 ≤ l ∧ l ≤ 5000) (hd : 1 ≤ d ∧ d ≤ 5000) :
    SRun Try.prog 71 [reV w e.low e.size, rmV a x.c, .agg ⟨[I l, I d, Y y]⟩] h fun r q =>
      ∃ B1 B2 B3 w' qo, r = .tuple ⟨[reV w' (wst (x, e) (l, d, y)).2.low (wst (x, e) (l, d, y)).2.size, rmV ⟨B1, B2, B3, a.C⟩ x.c]⟩ ∧ ROut h e.out w (wfc (x, e) l d) (wst (x, e) (l, d, y)).2.out w' qo ∧
        q = (B3, ⟨nodes (wst (x, e) (l, d, y)).1.D, false⟩) :: (B2, ⟨nodes (wst (x, e) (l, d, y)).1.L, false⟩) :: (B1, ⟨nodes (wst (x, e) (l, d, y)).1.K, false⟩) :: qo := by
  rcases id hv with hw | hw
  · exact rWriteC_nil x e l d y w a ts h hR hv hw hx hok hl hd
  · exact rWriteC_some x e l d y w a ts h hR hv hw hx hok hl hd
theorem wfl_out {s : Ms × Enc} {l y : Int} (h : wfl s y = false) : (wst s (l, 0, y)).2.out = s.2.out := by
  unfold wfl at h
  rw [Bool.or_eq_false_iff] at h
  unfold wst
  rw [if_pos rfl]
  exact (tfr_out 8 h.2).trans (tfr_out 1 h.1)
theorem wfc_out {s : Ms × Enc} {l d y : Int} (hd : d ≠ 0) (h : wfc s l d = false) : (wst s (l, d, y)).2.out = s.2.out := by
  unfold wfc at h
  rw [Bool.or_eq_false_iff, Bool.or_eq_false_iff] at h
  unfold wst
  rw [if_neg hd]
  exact (nfr_out h.2.2).trans ((nfr_out h.2.1).trans (tfr_out 1 h.1))
end Go.Proofs.Ytgooffiipnkmiaa
end
section
set_option linter.unusedVariables false
set_option linter.unusedSimpArgs false
set_option maxRecDepth 4000
namespace Go.Gh
open Go.RowKit

section
variable {P : Program} {sz : Nat} {ops : Array Oper} {Q : SPost} {rest : List Oper} {a : AF} {h : SH} {t : Nat} {ty : TypeId} {pos : String} {aft : Array Edge}
/-- A call that makes four new blocks. -/
theorem o_callE4 {x : Operand} {xs : List Operand} {ts : Array TypeId} {f : FuncId} {first captured : Array Value} {args : List Value} {v : Nat → Nat → Nat → Nat → Value} {g : Nat → Nat → Nat → Nat → SH} {i0 : Nat} {last : SPast} {cl : SCl} {p : SH}
    (hx : ev a x = some (.func (.func f) first captured)) (hxs : evs a xs = some args) (hf : enters P f = true) (hN : Nat.blt t sz = true) (hr : SRun P f (first.toList ++ args ++ captured.toList) p (fun r q => ∃ A B C D, r = v A B C D ∧ q = g A B C D) ∧ Take h p)
    (hkeys : ∀ A B C D, ((g A B C D).map (·.1)).Perm (A :: B :: C :: D :: p.map (·.1))) (hpar : ∀ (A A' B B' C C' E E' : Nat) (ρ : Nat → Nat) (D : Nat → Prop), ρ A = A' → ρ B = B' → ρ C = C' → ρ E = E' → D A → D B → D C → D E → (∀ y ∈ p, ρ y.1 = y.1) → (∀ y ∈ p, D y.1) → VR ρ D (v A B C E) (v A' B' C' E') ∧ SHR ρ D p (g A B C E) (g A' B' C' E'))
    (hok : ∀ A B C D, (Mode.draw i0 last cl).efOk ops (g A B C D)) (kk : ∀ A B C D, GO ((Mode.draw i0 last cl).ef h) P sz ops Q rest ((t, v A B C D) :: a) (g A B C D)) :
    GO (.draw i0 last cl) P sz ops Q (⟨some t, .call { callee := .value x, args := xs.toArray, argTypes := ts }, ty, pos, aft, none⟩ :: rest) a h := by
  have four : ∀ {ns : List Nat}, ns.length = 4 → ∃ A B C D, ns = [A, B, C, D] := fun {ns} h => by
    match ns, h with
    | [A, B, C, D], _ => exact ⟨A, B, C, D, rfl⟩
  refine o_callK (k := 4) (V := fun ns => v ns.head! (ns.getD 1 0) (ns.getD 2 0) (ns.getD 3 0)) (G := fun ns => g ns.head! (ns.getD 1 0) (ns.getD 2 0) (ns.getD 3 0)) hx hxs hf hN hr.1 hr.2 (fun r q ⟨A, B, C, D, h1, h2⟩ => ⟨[A, B, C, D], rfl, h1, h2 ▸ .nil⟩) (fun ns h => ?_) (fun ns ms ρ D h1 h2 h3 h4 h5 h6 => ?_) (fun ms h => ?_) (fun ms h => ?_)
  · obtain ⟨A, B, C, D, rfl⟩ := four h; exact hkeys A B C D
  · obtain ⟨A, B, C, E, rfl⟩ := four h1; obtain ⟨A2, B2, C2, E2, rfl⟩ := four h2
    simp only [List.map_cons, List.map_nil, List.cons.injEq, and_true] at h3
    exact hpar A2 A B2 B C2 C E2 E ρ D h3.1 h3.2.1 h3.2.2.1 h3.2.2.2 (h5 A2 (by simp)) (h5 B2 (by simp)) (h5 C2 (by simp)) (h5 E2 (by simp)) h4 h6
  · obtain ⟨A, B, C, D, rfl⟩ := four h; exact hok A B C D
  · obtain ⟨A, B, C, D, rfl⟩ := four h; exact kk A B C D
end
end Go.Gh
end
section
set_option linter.unusedVariables false
set_option linter.unusedSimpArgs false
set_option maxRecDepth 4000
namespace Go.Proofs.Ytgooffiipnkmiaa
open Go.Gh Go.RowKit

theorem RM.lit {q : SH} {x : Ms} {a : RAd} {ts : List Value} (b : RM q x a ts) (hx : MsOk x) {n : Nat} {e : Enc} (hok : EncOk n e) (l y : Int) (B1 B2 C : Nat) :
    RM ((C, ⟨ts.set (x.c / 32).toNat (tsl B2), false⟩) :: (B2, ⟨nodes (tenc y 8 (bsel x.P (x.c / 32).toNat) (tenc 0 1 x.K e 1).2 1).1, false⟩) :: (B1, ⟨nodes (tenc 0 1 x.K e 1).1, false⟩) :: q)
      (wst (x, e) (l, 0, y)).1 ⟨B1, a.l, a.d, C⟩ (ts.set (x.c / 32).toNat (tsl B2)) := by
  have hk : (x.c / 32).toNat < 8 := by have := hx.c; omega
  have ok1 := tenc_ok (v := 0) (k := 1) (t := x.K) (j := 1) hok
  have ht : (tenc y 8 (bsel x.P (x.c / 32).toNat) (tenc 0 1 x.K e 1).2 1).1.length = 256 := by rw [(tenc_ok ok1.1).2, bsel_len hx.P hk]
  have b2 := b.re (h' := (C, ⟨ts.set (x.c / 32).toNat (tsl B2), false⟩) :: (B2, ⟨nodes (tenc y 8 (bsel x.P (x.c / 32).toNat) (tenc 0 1 x.K e 1).2 1).1, false⟩) :: (B1, ⟨nodes (tenc 0 1 x.K e 1).1, false⟩) :: q) (.drop (.drop (.drop .nil)))
  unfold wst
  rw [if_pos rfl]
  exact ⟨⟨_, .tail (.tail .head)⟩, b2.L, b2.D, ⟨_, .head⟩, BTs.set b2.B hk hx.P ht (.tail .head)⟩
theorem RM.cpy {q : SH} {x : Ms} {a : RAd} {ts : List Value} (b : RM q x a ts) (e : Enc) {l d y : Int} (hd : d ≠ 0) (B1 B2 B3 : Nat) :
    RM ((B3, ⟨nodes (wst (x, e) (l, d, y)).1.D, false⟩) :: (B2, ⟨nodes (wst (x, e) (l, d, y)).1.L, false⟩) :: (B1, ⟨nodes (wst (x, e) (l, d, y)).1.K, false⟩) :: q) (wst (x, e) (l, d, y)).1 ⟨B1, B2, B3, a.C⟩ ts := by
  have b2 := b.re (h' := (B3, ⟨nodes (wst (x, e) (l, d, y)).1.D, false⟩) :: (B2, ⟨nodes (wst (x, e) (l, d, y)).1.L, false⟩) :: (B1, ⟨nodes (wst (x, e) (l, d, y)).1.K, false⟩) :: q) (.drop (.drop (.drop .nil)))
  have hC := b2.C
  have hB := b2.B
  clear b2
  unfold wst at hC hB ⊢
  rw [if_neg hd] at hC hB ⊢
  exact ⟨⟨_, .tail (.tail .head)⟩, ⟨_, .tail .head⟩, ⟨_, .head⟩, hC, hB⟩
theorem wst_cl {x : Ms} {e : Enc} {l y : Int} : (wst (x, e) (l, 0, y)).1.c = y := by unfold wst; rw [if_pos rfl]
theorem wst_cc {x : Ms} {e : Enc} {l d y : Int} (hd : d ≠ 0) : (wst (x, e) (l, d, y)).1.c = x.c := by unfold wst; rw [if_neg hd]
section
variable (x : Ms) (e : Enc) (l d y : Int) (w : Value) (a : RAd) (ts : List Value) (h : SH) (hR : RM h x a ts) (hv : RO h e.out w) (hx : MsOk x) (hok : EncOk 799000 e)
include hR hv hx hok
theorem rWriteL_old (hy : 0 ≤ y ∧ y ≤ 255) (hf : wfl (x, e) y = false) : SRun Try.prog 71 [reV w e.low e.size, rmV a x.c, .agg ⟨[I l, I 0, Y y]⟩] h fun r q =>
      ∃ C' B2 B1, r = .tuple ⟨[reV w (wst (x, e) (l, 0, y)).2.low (wst (x, e) (l, 0, y)).2.size, rmV ⟨B1, a.l, a.d, C'⟩ y]⟩ ∧
        q = (C', ⟨ts.set (x.c / 32).toNat (tsl B2), false⟩) :: (B2, ⟨nodes (tenc y 8 (bsel x.P (x.c / 32).toNat) (tenc 0 1 x.K e 1).2 1).1, false⟩) :: (B1, ⟨nodes (tenc 0 1 x.K e 1).1, false⟩) :: h := by
  refine (rWriteL_any x e l y w a ts h hR hv hx hok hy).mono ?_
  rintro r q ⟨B1, B2, C, w', qo, rfl, ro, rfl⟩
  rw [hf] at ro
  generalize (wst (x, e) (l, 0, y)).2.out = o2 at ro
  cases ro
  exact ⟨C, B2, B1, rfl, rfl⟩
theorem rWriteL_new (hy : 0 ≤ y ∧ y ≤ 255) (hf : wfl (x, e) y = true) : SRun Try.prog 71 [reV w e.low e.size, rmV a x.c, .agg ⟨[I l, I 0, Y y]⟩] h fun r q =>
      ∃ C' B2 B1 O, r = .tuple ⟨[reV (gsl O 0 (wst (x, e) (l, 0, y)).2.out.length (wst (x, e) (l, 0, y)).2.out.length 1) (wst (x, e) (l, 0, y)).2.low (wst (x, e) (l, 0, y)).2.size, rmV ⟨B1, a.l, a.d, C'⟩ y]⟩ ∧
        q = (C', ⟨ts.set (x.c / 32).toNat (tsl B2), false⟩) :: (B2, ⟨nodes (tenc y 8 (bsel x.P (x.c / 32).toNat) (tenc 0 1 x.K e 1).2 1).1, false⟩) :: (B1, ⟨nodes (tenc 0 1 x.K e 1).1, false⟩) :: (O, ⟨bytesV (wst (x, e) (l, 0, y)).2.out, false⟩) :: h := by
  refine (rWriteL_any x e l y w a ts h hR hv hx hok hy).mono ?_
  rintro r q ⟨B1, B2, C, w', qo, rfl, ro, rfl⟩
  rw [hf] at ro
  cases ro with
  | new o O => exact ⟨C, B2, B1, O, rfl, rfl⟩
theorem rWriteC_old (hl : 2 ≤ l ∧ l ≤ 5000) (hd : 1 ≤ d ∧ d ≤ 5000) (hf : wfc (x, e) l d = false) : SRun Try.prog 71 [reV w e.low e.size, rmV a x.c, .agg ⟨[I l, I d, Y y]⟩] h fun r q =>
      ∃ B3 B2 B1, r = .tuple ⟨[reV w (wst (x, e) (l, d, y)).2.low (wst (x, e) (l, d, y)).2.size, rmV ⟨B1, B2, B3, a.C⟩ (wst (x, e) (l, d, y)).1.c]⟩ ∧
        q = (B3, ⟨nodes (wst (x, e) (l, d, y)).1.D, false⟩) :: (B2, ⟨nodes (wst (x, e) (l, d, y)).1.L, false⟩) :: (B1, ⟨nodes (wst (x, e) (l, d, y)).1.K, false⟩) :: h := by
  refine (rWriteC_any x e l d y w a ts h hR hv hx hok hl hd).mono ?_
  rintro r q ⟨B1, B2, C, w', qo, rfl, ro, rfl⟩
  rw [hf] at ro
  rw [wst_cc (show d ≠ 0 by omega)]
  generalize (wst (x, e) (l, d, y)).2.out = o2 at ro
  cases ro
  exact ⟨C, B2, B1, rfl, rfl⟩
theorem rWriteC_new (hl : 2 ≤ l ∧ l ≤ 5000) (hd : 1 ≤ d ∧ d ≤ 5000) (hf : wfc (x, e) l d = true) : SRun Try.prog 71 [reV w e.low e.size, rmV a x.c, .agg ⟨[I l, I d, Y y]⟩] h fun r q =>
      ∃ B3 B2 B1 O, r = .tuple ⟨[reV (gsl O 0 (wst (x, e) (l, d, y)).2.out.length (wst (x, e) (l, d, y)).2.out.length 1) (wst (x, e) (l, d, y)).2.low (wst (x, e) (l, d, y)).2.size, rmV ⟨B1, B2, B3, a.C⟩ (wst (x, e) (l, d, y)).1.c]⟩ ∧
        q = (B3, ⟨nodes (wst (x, e) (l, d, y)).1.D, false⟩) :: (B2, ⟨nodes (wst (x, e) (l, d, y)).1.L, false⟩) :: (B1, ⟨nodes (wst (x, e) (l, d, y)).1.K, false⟩) :: (O, ⟨bytesV (wst (x, e) (l, d, y)).2.out, false⟩) :: h := by
  refine (rWriteC_any x e l d y w a ts h hR hv hx hok hl hd).mono ?_
  rintro r q ⟨B1, B2, C, w', qo, rfl, ro, rfl⟩
  rw [hf] at ro
  rw [wst_cc (show d ≠ 0 by omega)]
  cases ro with
  | new o O => exact ⟨C, B2, B1, O, rfl, rfl⟩
end
abbrev ZBS : Type := Nat × Ms × Enc × RAd × List Value × Value × SH
theorem rzBytes_any (n : Nat) (ps : List Pc) (v : Value) (h : SH) (hv : Has h (recs pcC ps) 3 ps.length v) (hps : ∀ t ∈ ps, vPb t) (hs : psum ps ≤ 4096) (hl : ps.length ≤ 4096) (hn : n ≤ 4096) :
    SRun Try.prog 32 [I n, v] h fun r q => r = S (if n = 0 then vnum 0 else wrt n ps) ∧ q = h := by
  have hN := fun n h h0 hn => rNumber4_any n h h0 hn
  obtain ⟨ad, fl, rfl, hh⟩ := hv
  by_cases h0 : n = 0
  · subst h0
    rw [if_pos rfl]
    refine w_body2 Try.func32 rfl rfl ?_
    repeat' (first | apply w_seq | apply w_region | apply o_nil | (apply o_g tyOk; exact rfl; exact rfl) | (apply o_call; exact rfl; exact rfl; (focus (first | exact rfl | assumption)); exact rfl; (focus (exact ⟨_, hN 0 _ (by decide) (by decide), by repeat (first | with_reducible exact Take.nil | with_reducible apply Take.c | with_reducible apply Take.drop)⟩)); rintro _ _ ⟨rfl, rfl⟩) | (apply w_true; exact rfl) | apply thenS_normal | apply thenS_ret | apply w_ret | ((with_reducible apply Sd.mk); (first | exact True.intro | omega | (constructor <;> first | omega | (unfold maxLen; omega)) | (unfold maxLen; omega))))
    all_goals first
      | contradiction
      | (exfalso; omega)
      | (apply s_fin; (exact (show ResS _ _ _ _ [_] from ⟨rfl, trivial⟩)); (focus (exact ⟨rfl, rfl⟩)); (focus (repeat (first | with_reducible exact Take.nil | with_reducible apply Take.c | with_reducible apply Take.drop))))
      | trace_state
  rw [if_neg h0]
  have hM : ∀ h, SRun Try.prog 70 [] h fun r q => ∃ a ts, r = rmV a 0 ∧ RM q ms0 a ts ∧ Take q h := rNewModels_any
  have hwr : wrt n ps = vnum n ++ fin (wrun ps zs0).2 := rfl
  rw [hwr]
  have hok := wrunT_ok hps
  have hz : wrun (ps.take 0) zs0 = (ms0, encZ) := rfl
  have hz2 : wrun (ps.take ps.length) zs0 = wrun ps zs0 := by rw [List.take_length]
  have hz3 : ∀ i, i < ps.length → wrun (ps.take (i + 1)) zs0 = wst (wrun (ps.take i) zs0) ps[i]! := fun i hi => by rw [ztake_bang hi, wrun_snoc]
  have hez : encZ = ⟨[], 0, 4294967295⟩ := rfl
  have hmc : ms0.c = 0 := rfl
  generalize wrun ps zs0 = Z at *
  generalize ms0 = x0 at *
  generalize zs0 = z0 at *
  refine w_body2 Try.func32 rfl rfl ?_
  repeat' (first | apply w_seq | apply w_region | apply o_nil | (apply o_g tyOk; exact rfl; exact rfl) | (apply o_stores tyOk; (iterate 4 exact rfl); (focus (exact ⟨rfl⟩)); (focus (exact up))) | (apply o_alloc tyOk; iterate 5 exact rfl) | (apply o_call; exact rfl; exact rfl; (focus (first | exact rfl | assumption)); exact rfl; (focus (exact ⟨_, hN _ _ (Int.natCast_nonneg _) (by omega), by repeat (first | with_reducible exact Take.nil | with_reducible apply Take.c | with_reducible apply Take.drop)⟩)); rintro _ _ ⟨rfl, rfl⟩) | (apply o_call; exact rfl; exact rfl; (focus (first | exact rfl | assumption)); exact rfl; (focus (exact ⟨_, rNewEncoder_any _, by repeat (first | with_reducible exact Take.nil | with_reducible apply Take.c | with_reducible apply Take.drop)⟩)); rintro _ _ ⟨rfl, rfl⟩) | (apply o_call; exact rfl; exact rfl; (focus (first | exact rfl | assumption)); exact rfl; (focus (exact ⟨_, hM _, by repeat (first | with_reducible exact Take.nil | with_reducible apply Take.c | with_reducible apply Take.drop)⟩)); rintro _ _ ⟨a0, ts0, rfl, rm0, tH⟩) | (apply w_dF; exact rfl; (focus (first | exact ‹_› | with_reducible exact rfl | omega))) | apply thenS_normal | apply w_skip | apply w_block | ((with_reducible apply Sd.mk); (first | exact True.intro | omega | (constructor <;> first | omega | (unfold maxLen; omega)) | (unfold maxLen; omega))) | ((with_reducible apply Ln.mk); (first | rfl | exact ‹_› | omega | (simp ; first | done | omega))) | ((with_reducible apply Pu.mk); (first | exact putAt_all rfl | exact putAt_recZ (fun _ => rfl) (by omega) | exact putAt_rec (fun _ => rfl) (by omega))) | exact True.intro | intro A)
  all_goals first | contradiction | (exfalso; omega) | skip
  rename_i q00 q01 E0
  obtain ⟨M0, rfl⟩ : ∃ m, m = A := ⟨_, rfl⟩
  refine w_loop (S := ZBS) (fun s => [(1, .slice ad ps.length fl), (5, S (vnum n)), (6, gptr E0 0 3), (7, gptr M0 0 5), (8, I s.1)])
    (fun s => (M0, ⟨rmC s.2.2.2.1 s.2.1.c, false⟩) :: (E0, ⟨reC s.2.2.2.2.2.1 s.2.2.1.low s.2.2.1.size, false⟩) :: s.2.2.2.2.2.2)
    (fun s => s.1 ≤ ps.length ∧ wrun (ps.take s.1) z0 = (s.2.1, s.2.2.1) ∧ RM s.2.2.2.2.2.2 s.2.1 s.2.2.2.1 s.2.2.2.2.1 ∧ RO s.2.2.2.2.2.2 s.2.2.1.out s.2.2.2.2.2.1 ∧ Take s.2.2.2.2.2.2 q00) (fun s => ps.length - s.1)
    (0, x0, encZ, a0, ts0, .slice none 0 0, q01) ⟨Nat.zero_le _, hz, rm0, .inl ⟨rfl, rfl⟩, tH⟩ (by repeat' (first | exact trivial | refine ⟨rfl, ?_⟩ | refine ⟨congrArg some ?_, ?_⟩)) (by rw [hmc]; exact (by repeat (first | with_reducible exact Take.nil | with_reducible apply Take.c | with_reducible apply Take.drop))) ?_
  rintro ⟨i, x, e, a, ts, w, q⟩ ⟨hi, he, rm, hro, tq⟩
  dsimp only at hi he rm hro tq ⊢
  have hok1 := hok i
  rw [he] at hok1
  obtain ⟨hx, hoe⟩ := hok1
  dsimp only at hx hoe
  have hoe := hoe.mono (show 137 * psum ps ≤ 799000 by omega)
  by_cases hil : i < ps.length
  · obtain ⟨A', ro, h1, rfl, hp⟩ := hh (by omega)
    obtain ⟨pA, hpA, -⟩ := tq.pick hp
    have hstep := hz3 i hil
    rw [he] at hstep
    obtain ⟨hvt, hyt⟩ := hps _ (bang_mem hil)
    have hc0 := hx.c
    generalize ht : ps[i]! = t at *
    obtain ⟨l, d, y⟩ := t
    dsimp only at hvt hyt
    have rm2 := rm.re (h' := (M0, ⟨rmC a x.c, false⟩) :: (E0, ⟨reC w e.low e.size, false⟩) :: q) (.drop (.drop .nil))
    have hro2 := hro.re (h' := (M0, ⟨rmC a x.c, false⟩) :: (E0, ⟨reC w e.low e.size, false⟩) :: q) (.drop (.drop .nil))
    obtain ⟨⟨pK1, pK2⟩, ⟨pL1, pL2⟩, ⟨pD1, pD2⟩, ⟨pC1, pC2⟩, hB⟩ := id rm
    rcases hvt with ⟨rfl, rfl⟩ | ⟨g1, g2, g3, g4, g5⟩
    · have harg : Value.agg ⟨[I 1, I 0, Y y]⟩ = pcV ps[i]! := (congrArg pcV ht).symm
      have hR1 := fun B1 B2 C => rm.lit hx hoe 1 y B1 B2 C
      have hR2 := fun O B1 B2 C => RM.lit (q := (O, ⟨bytesV (wst (x, e) (1, 0, y)).2.out, false⟩) :: q) (rm.re (.drop .nil)) hx hoe 1 y B1 B2 C
      have hc1 := wst_cl (x := x) (e := e) (l := 1) (y := y)
      cases hfr : wfl (x, e) y with
      | false =>
        have hW := rWriteL_old x e 1 y w a ts ((M0, ⟨rmC a x.c, false⟩) :: (E0, ⟨reC w e.low e.size, false⟩) :: q) rm2 hro2 hx hoe hyt hfr
        have hout := wfl_out (l := 1) hfr
        generalize tenc y 8 (bsel x.P (x.c / 32).toNat) (tenc 0 1 x.K e 1).2 1 = T2 at *
        generalize tenc 0 1 x.K e 1 = T1 at *
        generalize wst (x, e) (1, 0, y) = W at *
        obtain ⟨x', e'⟩ := W
        dsimp only at *
        subst hc1
        rw [harg] at hW
        rcases id hro with ⟨e0, rfl⟩ | ⟨A1, p2, rfl, hp4⟩
        all_goals
          repeat' (first | apply w_seq | apply w_region | apply o_nil | (apply w_draw; (focus (kernel_rfl)); (focus (kernel_rfl))) | (apply o_g tyOk; exact rfl; exact rfl) | (apply o_ar tyOk; exact rfl; exact rfl) | (apply o_loads tyOk; (iterate 3 exact rfl); (focus (exact pk))) | (apply o_stores tyOk; (iterate 4 exact rfl); (focus (exact ⟨rfl⟩)); (focus (exact up))) | (apply o_callE3; (iterate 4 exact rfl); (focus (exact ⟨hW, by repeat (first | with_reducible exact Take.nil | with_reducible apply Take.c | with_reducible apply Take.drop)⟩)); (focus ((intro _ _ _; (first | exact List.Perm.refl _ | (simp; done) | exact List.Perm.swap _ _ _)))); (focus ((intro A1 A2 B1 B2 C1 C2 ρ D e1 e2 e3 d1 d2 d3 hρ hD; refine ⟨?_, ?_⟩; (focus (repeat (first | exact VR.const rfl | exact VRs.set (VRs.old hρ hD (hB.re (.drop (.drop .nil))).old) (VR.slc' e2 d2) | (apply VR.ptr'; (focus (first | exact e1 | exact e2 | exact e3 | ((apply rho_pick hρ); (exact pk)))); (focus (first | exact d1 | exact d2 | exact d3 | ((apply dom_pick hD); (exact pk))))) | (apply VR.slc'; (focus (first | exact e1 | exact e2 | exact e3 | ((apply rho_pick hρ); (exact pk)))); (focus (first | exact d1 | exact d2 | exact d3 | ((apply dom_pick hD); (exact pk))))) | exact VR.sdead | apply VRs.tuple | apply VRs.agg | exact VRs.nil | ((apply VRs.const); (focus (first | exact bytesV_const _ | exact map_const (fun _ => rfl) | exact recs_const (fun _ v hv => by simp only [List.mem_cons, List.not_mem_nil, or_false] at hv; rcases hv with rfl | rfl | rfl | rfl | rfl <;> rfl)))) | apply VRs.cons))); (focus (repeat (first | exact SHR.nil | ((apply SHR.same); (focus (intro x hx; (repeat (first | exact hx | apply List.mem_cons_of_mem)); done))) | ((apply SHR.keep); (focus ((repeat (first | with_reducible exact List.mem_cons_self | apply List.mem_cons_of_mem)); done))) | (apply SHR.cons; (focus (first | exact e1 | exact e2 | exact e3 | ((apply rho_pick hρ); (exact pk)))); (focus (repeat (first | exact VR.const rfl | exact VRs.set (VRs.old hρ hD (hB.re (.drop (.drop .nil))).old) (VR.slc' e2 d2) | (apply VR.ptr'; (focus (first | exact e1 | exact e2 | exact e3 | ((apply rho_pick hρ); (exact pk)))); (focus (first | exact d1 | exact d2 | exact d3 | ((apply dom_pick hD); (exact pk))))) | (apply VR.slc'; (focus (first | exact e1 | exact e2 | exact e3 | ((apply rho_pick hρ); (exact pk)))); (focus (first | exact d1 | exact d2 | exact d3 | ((apply dom_pick hD); (exact pk))))) | exact VR.sdead | apply VRs.tuple | apply VRs.agg | exact VRs.nil | ((apply VRs.const); (focus (first | exact bytesV_const _ | exact map_const (fun _ => rfl) | exact recs_const (fun _ v hv => by simp only [List.mem_cons, List.not_mem_nil, or_false] at hv; rcases hv with rfl | rfl | rfl | rfl | rfl <;> rfl)))) | apply VRs.cons))))))))))) | (apply w_dT; exact rfl; (focus (first | exact ‹_› | with_reducible exact rfl | omega))) | apply thenS_normal | apply blockS_normal | apply w_skip | apply w_block | ((with_reducible apply Sd.mk); (first | exact True.intro | omega | (constructor <;> first | omega | (unfold maxLen; omega)) | (unfold maxLen; omega))) | ((with_reducible apply Ln.mk); (first | rfl | exact ‹_› | omega | (simp ; first | done | omega))) | ((with_reducible apply Wr.mk); (first | exact IntWalk.i64_in _ (by omega) | exact IntWalk.u8_in _ (by omega) | exact IntWalk.u32_in _ (by omega) | exact IntWalk.u64_in _ (by omega) | exact IntKind.wrap_u8 _ | exact IntKind.wrap_u32 _ | rfl)) | ((with_reducible apply Pu.mk); (first | exact putAt_all rfl | exact putAt_recZ (fun _ => rfl) (by omega) | exact putAt_rec (fun _ => rfl) (by omega))) | ((with_reducible apply Su.mk); (first | exact subAt_all | exact subAt_recZ (fun _ => rfl) (by omega) | exact subAt_rec (fun _ => rfl) (by omega))) | exact True.intro | exact Or.inl rfl | apply And.intro | intro A | exact rfl)
          rename_i C B2
          all_goals first
            | (exfalso; omega)
            | exact ⟨(i + 1, x', e', ⟨A, a.l, a.d, C⟩, ts.set (x.c / 32).toNat (tsl B2), _, (C, ⟨ts.set (x.c / 32).toNat (tsl B2), false⟩) :: (B2, ⟨nodes T2.1, false⟩) :: (A, ⟨nodes T1.1, false⟩) :: q),
                ⟨hil, hstep, hR1 A B2 C, by rw [hout]; exact hro.re (.drop (.drop (.drop .nil))), .drop (.drop (.drop tq))⟩, by show ps.length - (i + 1) < ps.length - i; omega, (by repeat' (first | exact trivial | refine ⟨rfl, ?_⟩ | refine ⟨congrArg some ?_, ?_⟩)), .cons (.tail (.tail (.tail .head))) (.cons (.tail (.tail (.tail .head))) .nil)⟩
            | trace_state
      | true =>
        have hW := rWriteL_new x e 1 y w a ts ((M0, ⟨rmC a x.c, false⟩) :: (E0, ⟨reC w e.low e.size, false⟩) :: q) rm2 hro2 hx hoe hyt hfr
        generalize tenc y 8 (bsel x.P (x.c / 32).toNat) (tenc 0 1 x.K e 1).2 1 = T2 at *
        generalize tenc 0 1 x.K e 1 = T1 at *
        generalize wst (x, e) (1, 0, y) = W at *
        obtain ⟨x', e'⟩ := W
        dsimp only at *
        subst hc1
        rw [harg] at hW
        repeat' (first | apply w_seq | apply w_region | apply o_nil | (apply w_draw; (focus (kernel_rfl)); (focus (kernel_rfl))) | (apply o_g tyOk; exact rfl; exact rfl) | (apply o_ar tyOk; exact rfl; exact rfl) | (apply o_loads tyOk; (iterate 3 exact rfl); (focus (exact pk))) | (apply o_stores tyOk; (iterate 4 exact rfl); (focus (exact ⟨rfl⟩)); (focus (exact up))) | (apply o_callE4; (iterate 4 exact rfl); (focus (exact ⟨hW, by repeat (first | with_reducible exact Take.nil | with_reducible apply Take.c | with_reducible apply Take.drop)⟩)); (focus ((intro _ _ _ _; (first | exact List.Perm.refl _ | (simp; done) | exact List.Perm.swap _ _ _)))); (focus ((intro A1 A2 B1 B2 C1 C2 D1 D2 ρ D e1 e2 e3 e4 d1 d2 d3 d4 hρ hD; refine ⟨?_, ?_⟩; (focus (repeat (first | exact VR.const rfl | exact VRs.set (VRs.old hρ hD (hB.re (.drop (.drop .nil))).old) (VR.slc' e2 d2) | (apply VR.ptr'; (focus (first | exact e1 | exact e2 | exact e3 | exact e4 | ((apply rho_pick hρ); (exact pk)))); (focus (first | exact d1 | exact d2 | exact d3 | exact d4 | ((apply dom_pick hD); (exact pk))))) | (apply VR.slc'; (focus (first | exact e1 | exact e2 | exact e3 | exact e4 | ((apply rho_pick hρ); (exact pk)))); (focus (first | exact d1 | exact d2 | exact d3 | exact d4 | ((apply dom_pick hD); (exact pk))))) | exact VR.sdead | apply VRs.tuple | apply VRs.agg | exact VRs.nil | ((apply VRs.const); (focus (first | exact bytesV_const _ | exact map_const (fun _ => rfl) | exact recs_const (fun _ v hv => by simp only [List.mem_cons, List.not_mem_nil, or_false] at hv; rcases hv with rfl | rfl | rfl | rfl | rfl <;> rfl)))) | apply VRs.cons))); (focus (repeat (first | exact SHR.nil | ((apply SHR.same); (focus (intro x hx; (repeat (first | exact hx | apply List.mem_cons_of_mem)); done))) | ((apply SHR.keep); (focus ((repeat (first | with_reducible exact List.mem_cons_self | apply List.mem_cons_of_mem)); done))) | (apply SHR.cons; (focus (first | exact e1 | exact e2 | exact e3 | exact e4 | ((apply rho_pick hρ); (exact pk)))); (focus (repeat (first | exact VR.const rfl | exact VRs.set (VRs.old hρ hD (hB.re (.drop (.drop .nil))).old) (VR.slc' e2 d2) | (apply VR.ptr'; (focus (first | exact e1 | exact e2 | exact e3 | exact e4 | ((apply rho_pick hρ); (exact pk)))); (focus (first | exact d1 | exact d2 | exact d3 | exact d4 | ((apply dom_pick hD); (exact pk))))) | (apply VR.slc'; (focus (first | exact e1 | exact e2 | exact e3 | exact e4 | ((apply rho_pick hρ); (exact pk)))); (focus (first | exact d1 | exact d2 | exact d3 | exact d4 | ((apply dom_pick hD); (exact pk))))) | exact VR.sdead | apply VRs.tuple | apply VRs.agg | exact VRs.nil | ((apply VRs.const); (focus (first | exact bytesV_const _ | exact map_const (fun _ => rfl) | exact recs_const (fun _ v hv => by simp only [List.mem_cons, List.not_mem_nil, or_false] at hv; rcases hv with rfl | rfl | rfl | rfl | rfl <;> rfl)))) | apply VRs.cons))))))))))) | (apply w_dT; exact rfl; (focus (first | exact ‹_› | with_reducible exact rfl | omega))) | apply thenS_normal | apply blockS_normal | apply w_skip | apply w_block | ((with_reducible apply Sd.mk); (first | exact True.intro | omega | (constructor <;> first | omega | (unfold maxLen; omega)) | (unfold maxLen; omega))) | ((with_reducible apply Ln.mk); (first | rfl | exact ‹_› | omega | (simp ; first | done | omega))) | ((with_reducible apply Wr.mk); (first | exact IntWalk.i64_in _ (by omega) | exact IntWalk.u8_in _ (by omega) | exact IntWalk.u32_in _ (by omega) | exact IntWalk.u64_in _ (by omega) | exact IntKind.wrap_u8 _ | exact IntKind.wrap_u32 _ | rfl)) | ((with_reducible apply Pu.mk); (first | exact putAt_all rfl | exact putAt_recZ (fun _ => rfl) (by omega) | exact putAt_rec (fun _ => rfl) (by omega))) | ((with_reducible apply Su.mk); (first | exact subAt_all | exact subAt_recZ (fun _ => rfl) (by omega) | exact subAt_rec (fun _ => rfl) (by omega))) | exact True.intro | exact Or.inl rfl | apply And.intro | intro A | exact rfl)
        rename_i C B2 B1
        all_goals first
          | (exfalso; omega)
          | exact ⟨(i + 1, x', e', ⟨B1, a.l, a.d, C⟩, ts.set (x.c / 32).toNat (tsl B2), _, (C, ⟨ts.set (x.c / 32).toNat (tsl B2), false⟩) :: (B2, ⟨nodes T2.1, false⟩) :: (B1, ⟨nodes T1.1, false⟩) :: (A, ⟨bytesV e'.out, false⟩) :: q),
              ⟨hil, hstep, hR2 A B1 B2 C, .inr ⟨A, _, rfl, .tail (.tail (.tail .head))⟩, .drop (.drop (.drop (.drop tq)))⟩, by show ps.length - (i + 1) < ps.length - i; omega, (by repeat' (first | exact trivial | refine ⟨rfl, ?_⟩ | refine ⟨congrArg some ?_, ?_⟩)), .cons (.tail (.tail (.tail (.tail .head)))) (.cons (.tail (.tail (.tail (.tail .head)))) .nil)⟩
          | trace_state
    · dsimp only at g1 g2 g3 g4
      have hd0 : d ≠ 0 := by omega
      have harg : Value.agg ⟨[I l, I d, Y y]⟩ = pcV ps[i]! := (congrArg pcV ht).symm
      have hR1 := fun B1 B2 B3 => RM.cpy (l := l) (y := y) rm e hd0 B1 B2 B3
      have hR2 := fun O B1 B2 B3 => RM.cpy (l := l) (y := y) (q := (O, ⟨bytesV (wst (x, e) (l, d, y)).2.out, false⟩) :: q) (rm.re (.drop .nil)) e hd0 B1 B2 B3
      cases hfr : wfc (x, e) l d with
      | false =>
        have hW := rWriteC_old x e l d y w a ts ((M0, ⟨rmC a x.c, false⟩) :: (E0, ⟨reC w e.low e.size, false⟩) :: q) rm2 hro2 hx hoe (by omega) (by omega) hfr
        have hout := wfc_out (y := y) hd0 hfr
        generalize wst (x, e) (l, d, y) = W at *
        obtain ⟨x', e'⟩ := W
        dsimp only at *
        rw [harg] at hW
        rcases id hro with ⟨e0, rfl⟩ | ⟨A1, p2, rfl, hp4⟩
        all_goals
          repeat' (first | apply w_seq | apply w_region | apply o_nil | (apply w_draw; (focus (kernel_rfl)); (focus (kernel_rfl))) | (apply o_g tyOk; exact rfl; exact rfl) | (apply o_ar tyOk; exact rfl; exact rfl) | (apply o_loads tyOk; (iterate 3 exact rfl); (focus (exact pk))) | (apply o_stores tyOk; (iterate 4 exact rfl); (focus (exact ⟨rfl⟩)); (focus (exact up))) | (apply o_callE3; (iterate 4 exact rfl); (focus (exact ⟨hW, by repeat (first | with_reducible exact Take.nil | with_reducible apply Take.c | with_reducible apply Take.drop)⟩)); (focus ((intro _ _ _; (first | exact List.Perm.refl _ | (simp; done) | exact List.Perm.swap _ _ _)))); (focus ((intro A1 A2 B1 B2 C1 C2 ρ D e1 e2 e3 d1 d2 d3 hρ hD; refine ⟨?_, ?_⟩; (focus (repeat (first | exact VR.const rfl | (apply VR.ptr'; (focus (first | exact e1 | exact e2 | exact e3 | ((apply rho_pick hρ); (exact pk)))); (focus (first | exact d1 | exact d2 | exact d3 | ((apply dom_pick hD); (exact pk))))) | (apply VR.slc'; (focus (first | exact e1 | exact e2 | exact e3 | ((apply rho_pick hρ); (exact pk)))); (focus (first | exact d1 | exact d2 | exact d3 | ((apply dom_pick hD); (exact pk))))) | exact VR.sdead | apply VRs.tuple | apply VRs.agg | exact VRs.nil | ((apply VRs.const); (focus (first | exact bytesV_const _ | exact map_const (fun _ => rfl) | exact recs_const (fun _ v hv => by simp only [List.mem_cons, List.not_mem_nil, or_false] at hv; rcases hv with rfl | rfl | rfl | rfl | rfl <;> rfl)))) | apply VRs.cons))); (focus (repeat (first | exact SHR.nil | ((apply SHR.same); (focus (intro x hx; (repeat (first | exact hx | apply List.mem_cons_of_mem)); done))) | ((apply SHR.keep); (focus ((repeat (first | with_reducible exact List.mem_cons_self | apply List.mem_cons_of_mem)); done))) | (apply SHR.cons; (focus (first | exact e1 | exact e2 | exact e3 | ((apply rho_pick hρ); (exact pk)))); (focus (repeat (first | exact VR.const rfl | (apply VR.ptr'; (focus (first | exact e1 | exact e2 | exact e3 | ((apply rho_pick hρ); (exact pk)))); (focus (first | exact d1 | exact d2 | exact d3 | ((apply dom_pick hD); (exact pk))))) | (apply VR.slc'; (focus (first | exact e1 | exact e2 | exact e3 | ((apply rho_pick hρ); (exact pk)))); (focus (first | exact d1 | exact d2 | exact d3 | ((apply dom_pick hD); (exact pk))))) | exact VR.sdead | apply VRs.tuple | apply VRs.agg | exact VRs.nil | ((apply VRs.const); (focus (first | exact bytesV_const _ | exact map_const (fun _ => rfl) | exact recs_const (fun _ v hv => by simp only [List.mem_cons, List.not_mem_nil, or_false] at hv; rcases hv with rfl | rfl | rfl | rfl | rfl <;> rfl)))) | apply VRs.cons))))))))))) | (apply w_dT; exact rfl; (focus (first | exact ‹_› | with_reducible exact rfl | omega))) | apply thenS_normal | apply blockS_normal | apply w_skip | apply w_block | ((with_reducible apply Sd.mk); (first | exact True.intro | omega | (constructor <;> first | omega | (unfold maxLen; omega)) | (unfold maxLen; omega))) | ((with_reducible apply Ln.mk); (first | rfl | exact ‹_› | omega | (simp ; first | done | omega))) | ((with_reducible apply Wr.mk); (first | exact IntWalk.i64_in _ (by omega) | exact IntWalk.u8_in _ (by omega) | exact IntWalk.u32_in _ (by omega) | exact IntWalk.u64_in _ (by omega) | exact IntKind.wrap_u8 _ | exact IntKind.wrap_u32 _ | rfl)) | ((with_reducible apply Pu.mk); (first | exact putAt_all rfl | exact putAt_recZ (fun _ => rfl) (by omega) | exact putAt_rec (fun _ => rfl) (by omega))) | ((with_reducible apply Su.mk); (first | exact subAt_all | exact subAt_recZ (fun _ => rfl) (by omega) | exact subAt_rec (fun _ => rfl) (by omega))) | exact True.intro | exact Or.inl rfl | apply And.intro | intro A | exact rfl)
          rename_i C B2
          all_goals first
            | (exfalso; omega)
            | exact ⟨(i + 1, x', e', ⟨A, B2, C, a.C⟩, ts, _, (C, ⟨nodes x'.D, false⟩) :: (B2, ⟨nodes x'.L, false⟩) :: (A, ⟨nodes x'.K, false⟩) :: q),
                ⟨hil, hstep, hR1 A B2 C, by rw [hout]; exact hro.re (.drop (.drop (.drop .nil))), .drop (.drop (.drop tq))⟩, by show ps.length - (i + 1) < ps.length - i; omega, (by repeat' (first | exact trivial | refine ⟨rfl, ?_⟩ | refine ⟨congrArg some ?_, ?_⟩)), .cons (.tail (.tail (.tail .head))) (.cons (.tail (.tail (.tail .head))) .nil)⟩
            | trace_state
      | true =>
        have hW := rWriteC_new x e l d y w a ts ((M0, ⟨rmC a x.c, false⟩) :: (E0, ⟨reC w e.low e.size, false⟩) :: q) rm2 hro2 hx hoe (by omega) (by omega) hfr
        generalize wst (x, e) (l, d, y) = W at *
        obtain ⟨x', e'⟩ := W
        dsimp only at *
        rw [harg] at hW
        repeat' (first | apply w_seq | apply w_region | apply o_nil | (apply w_draw; (focus (kernel_rfl)); (focus (kernel_rfl))) | (apply o_g tyOk; exact rfl; exact rfl) | (apply o_ar tyOk; exact rfl; exact rfl) | (apply o_loads tyOk; (iterate 3 exact rfl); (focus (exact pk))) | (apply o_stores tyOk; (iterate 4 exact rfl); (focus (exact ⟨rfl⟩)); (focus (exact up))) | (apply o_callE4; (iterate 4 exact rfl); (focus (exact ⟨hW, by repeat (first | with_reducible exact Take.nil | with_reducible apply Take.c | with_reducible apply Take.drop)⟩)); (focus ((intro _ _ _ _; (first | exact List.Perm.refl _ | (simp; done) | exact List.Perm.swap _ _ _)))); (focus ((intro A1 A2 B1 B2 C1 C2 D1 D2 ρ D e1 e2 e3 e4 d1 d2 d3 d4 hρ hD; refine ⟨?_, ?_⟩; (focus (repeat (first | exact VR.const rfl | (apply VR.ptr'; (focus (first | exact e1 | exact e2 | exact e3 | exact e4 | ((apply rho_pick hρ); (exact pk)))); (focus (first | exact d1 | exact d2 | exact d3 | exact d4 | ((apply dom_pick hD); (exact pk))))) | (apply VR.slc'; (focus (first | exact e1 | exact e2 | exact e3 | exact e4 | ((apply rho_pick hρ); (exact pk)))); (focus (first | exact d1 | exact d2 | exact d3 | exact d4 | ((apply dom_pick hD); (exact pk))))) | exact VR.sdead | apply VRs.tuple | apply VRs.agg | exact VRs.nil | ((apply VRs.const); (focus (first | exact bytesV_const _ | exact map_const (fun _ => rfl) | exact recs_const (fun _ v hv => by simp only [List.mem_cons, List.not_mem_nil, or_false] at hv; rcases hv with rfl | rfl | rfl | rfl | rfl <;> rfl)))) | apply VRs.cons))); (focus (repeat (first | exact SHR.nil | ((apply SHR.same); (focus (intro x hx; (repeat (first | exact hx | apply List.mem_cons_of_mem)); done))) | ((apply SHR.keep); (focus ((repeat (first | with_reducible exact List.mem_cons_self | apply List.mem_cons_of_mem)); done))) | (apply SHR.cons; (focus (first | exact e1 | exact e2 | exact e3 | exact e4 | ((apply rho_pick hρ); (exact pk)))); (focus (repeat (first | exact VR.const rfl | (apply VR.ptr'; (focus (first | exact e1 | exact e2 | exact e3 | exact e4 | ((apply rho_pick hρ); (exact pk)))); (focus (first | exact d1 | exact d2 | exact d3 | exact d4 | ((apply dom_pick hD); (exact pk))))) | (apply VR.slc'; (focus (first | exact e1 | exact e2 | exact e3 | exact e4 | ((apply rho_pick hρ); (exact pk)))); (focus (first | exact d1 | exact d2 | exact d3 | exact d4 | ((apply dom_pick hD); (exact pk))))) | exact VR.sdead | apply VRs.tuple | apply VRs.agg | exact VRs.nil | ((apply VRs.const); (focus (first | exact bytesV_const _ | exact map_const (fun _ => rfl) | exact recs_const (fun _ v hv => by simp only [List.mem_cons, List.not_mem_nil, or_false] at hv; rcases hv with rfl | rfl | rfl | rfl | rfl <;> rfl)))) | apply VRs.cons))))))))))) | (apply w_dT; exact rfl; (focus (first | exact ‹_› | with_reducible exact rfl | omega))) | apply thenS_normal | apply blockS_normal | apply w_skip | apply w_block | ((with_reducible apply Sd.mk); (first | exact True.intro | omega | (constructor <;> first | omega | (unfold maxLen; omega)) | (unfold maxLen; omega))) | ((with_reducible apply Ln.mk); (first | rfl | exact ‹_› | omega | (simp ; first | done | omega))) | ((with_reducible apply Wr.mk); (first | exact IntWalk.i64_in _ (by omega) | exact IntWalk.u8_in _ (by omega) | exact IntWalk.u32_in _ (by omega) | exact IntWalk.u64_in _ (by omega) | exact IntKind.wrap_u8 _ | exact IntKind.wrap_u32 _ | rfl)) | ((with_reducible apply Pu.mk); (first | exact putAt_all rfl | exact putAt_recZ (fun _ => rfl) (by omega) | exact putAt_rec (fun _ => rfl) (by omega))) | ((with_reducible apply Su.mk); (first | exact subAt_all | exact subAt_recZ (fun _ => rfl) (by omega) | exact subAt_rec (fun _ => rfl) (by omega))) | exact True.intro | exact Or.inl rfl | apply And.intro | intro A | exact rfl)
        rename_i C B2 B1
        all_goals first
          | (exfalso; omega)
          | exact ⟨(i + 1, x', e', ⟨B1, B2, C, a.C⟩, ts, _, (C, ⟨nodes x'.D, false⟩) :: (B2, ⟨nodes x'.L, false⟩) :: (B1, ⟨nodes x'.K, false⟩) :: (A, ⟨bytesV e'.out, false⟩) :: q),
              ⟨hil, hstep, hR2 A B1 B2 C, .inr ⟨A, _, rfl, .tail (.tail (.tail .head))⟩, .drop (.drop (.drop (.drop tq)))⟩, by show ps.length - (i + 1) < ps.length - i; omega, (by repeat' (first | exact trivial | refine ⟨rfl, ?_⟩ | refine ⟨congrArg some ?_, ?_⟩)), .cons (.tail (.tail (.tail (.tail .head)))) (.cons (.tail (.tail (.tail (.tail .head)))) .nil)⟩
          | trace_state
  · obtain rfl : i = ps.length := by omega
    rw [hz2] at he
    have hs1 := vnum_len (n := (n : Int)) (by omega)
    have hs2 := (vk_ok (n := (n : Int)) (by omega)).2
    have hs3 : (fin e).length = e.out.length + 4 := by simp [fin, tail4]
    have hs4 := hoe.out
    rw [he]
    rcases id hro with ⟨e0, rfl⟩ | ⟨A1, p2, rfl, hp4⟩
    all_goals
     repeat' (first | apply w_seq | apply w_region | apply o_nil | (apply o_g tyOk; exact rfl; exact rfl) | (apply o_loads tyOk; (iterate 3 exact rfl); (focus (exact pk))) | (apply o_call; exact rfl; exact rfl; (focus (first | exact rfl | assumption)); exact rfl; (focus (exact ⟨_, rFinish_any e _ ((M0, ⟨rmC a x.c, false⟩) :: (E0, ⟨reC _ e.low e.size, false⟩) :: q) (hro.re (.drop (.drop .nil))) (by omega) hoe.low, by repeat (first | with_reducible exact Take.nil | exact .drop (.drop tq) | with_reducible apply Take.c | with_reducible apply Take.drop)⟩)); rintro _ _ ⟨rfl, rfl⟩) | (apply w_dF; exact rfl; (focus (first | exact ‹_› | with_reducible exact rfl | omega))) | apply thenS_normal | apply thenS_exit | apply blockS_exit | apply w_ret | apply w_exit | ((with_reducible apply Sd.mk); (first | exact True.intro | omega | (constructor <;> first | omega | (unfold maxLen; omega)) | (unfold maxLen; omega))) | ((with_reducible apply Ln.mk); (first | rfl | exact ‹_› | omega | (simp ; first | done | omega))) | ((with_reducible apply Su.mk); (first | exact subAt_all | exact subAt_recZ (fun _ => rfl) (by omega) | exact subAt_rec (fun _ => rfl) (by omega))) | exact True.intro | exact rfl)
     all_goals first
      | (exfalso; omega)
      | (apply s_fin; (exact (show ResS _ _ _ _ [_] from ⟨rfl, trivial⟩)); (focus (exact ⟨rfl, rfl⟩)); (focus (repeat (first | with_reducible exact Take.nil | with_reducible apply Take.c | with_reducible apply Take.drop))))
      | trace_state
     all_goals exact tq
end Go.Proofs.Ytgooffiipnkmiaa
end
section
set_option linter.unusedVariables false
set_option linter.unusedSimpArgs false
set_option maxRecDepth 4000
namespace Go.Proofs.Ytgooffiipnkmiaa
open Go.Gh Go.RowKit

theorem zx1 : lzE [] = ([0], 0) := by decide +kernel
theorem zx2 : pcs [97, 97, 97, 97] = [(1, 0, 97), (3, 1, 0)] := by decide +kernel
theorem zx3 : (lzE [97, 97, 97, 97]).2 = 0 ∧ lzD (lzE [97, 97, 97, 97]).1 4 = ([97, 97, 97, 97], 0) ∧ (lzE [97, 97, 97, 97]).1.length ≤ 1000000 := by decide +kernel
theorem awakeZ_any (h : SH) : SRun Try.prog 10 [] h fun r q => r = B true ∧ q = h := by
  have hE1 := fun h => Encode_any' [] h (by decide)
  rw [zx1] at hE1
  have hP := fun h => Pieces_any [97, 97, 97, 97] h (by decide)
  rw [zx2] at hP
  rw [if_neg (show ¬ 4096 < ([97, 97, 97, 97] : List UInt8).length by decide)] at hP
  have hE2 := fun h => Encode_any' [97, 97, 97, 97] h (by decide)
  obtain ⟨x1, x2, x3⟩ := zx3
  have hD := fun h => Decode_any' (lzE [97, 97, 97, 97]).1 4 h x3
  rw [x1] at hE2
  rw [x2] at hD
  clear x1 x2
  generalize (lzE [97, 97, 97, 97]).1 = z at *
  have hsub : SubAt (recs pcC [(1, 0, 97), (3, 1, 0)]) (0 + Int.toNat 1 * 3) [I 3, I 1, .int .u8 0] := fun i v h => by
    match i, h with
    | 0, h => exact h
    | 1, h => exact h
    | 2, h => exact h
    | i + 3, h => cases h
  have hP' : ∀ h, SRun Try.prog 11 [S [97, 97, 97, 97]] h fun r q => ∃ fl A ro h1, r = .tuple #[.slice (some ⟨A, 0, some 6⟩) 2 fl, I 0] ∧ Pick q A ⟨recs pcC [(1, 0, 97), (3, 1, 0)], ro⟩ h1 ∧ Take q h := fun h =>
    (hP h).mono fun r q ⟨v, g1, ⟨ad, fl, g2, g3⟩, g4⟩ => by
      obtain ⟨A, ro, h1, g5, g6⟩ := g3 (by decide)
      exact ⟨fl, A, ro, h1, by rw [g1, g2, g5]; rfl, g6, g4⟩
  refine w_body0 Try.func10 rfl rfl ?_
  repeat' (first | apply w_seq | apply w_region | apply o_nil | (apply o_g tyOk; exact rfl; exact rfl) | (apply o_loads tyOk; (iterate 3 exact rfl); (focus (exact pk))) | (apply o_eqs; (iterate 3 exact rfl); (focus (kernel_rfl)); exact rfl; exact rfl; (focus (kernel_rfl)); exact rfl) | (apply o_build tyOk; exact rfl; exact rfl; (focus (first | with_reducible exact pl18 | with_reducible exact pl38 | with_reducible exact pl97)); exact rfl; (focus (repeat (first | exact BuildR.nil | (apply BuildR.one; exact rfl; exact rfl; (first | (focus ((repeat (first | exact SetAt.zero | apply SetAt.succ)); done)) | exact setAt_bytes (by omega) (by omega) | exact setAt_mapZ (by omega) | exact setAt_map (by omega))) | (apply BuildR.agg; exact rfl; exact rfl; (first | exact putAt_all rfl | exact putAt_recZ (fun _ => rfl) (by omega) | exact putAt_rec (fun _ => rfl) (by omega)))))); exact rfl) | (apply o_call; exact rfl; exact rfl; (focus (first | exact rfl | assumption)); exact rfl; (focus (exact ⟨_, hE1 _, by repeat (first | with_reducible exact Take.nil | with_reducible apply Take.c | with_reducible apply Take.drop)⟩)); rintro _ _ ⟨rfl, rfl⟩) | (apply o_call; exact rfl; exact rfl; (focus (first | exact rfl | assumption)); exact rfl; (focus (exact ⟨_, hP' _, by repeat (first | with_reducible exact Take.nil | with_reducible apply Take.c | with_reducible apply Take.drop)⟩)); rintro _ _ ⟨fl, A, ro, h1, rfl, hp, ht⟩) | (apply o_call; exact rfl; exact rfl; (focus (first | exact rfl | assumption)); exact rfl; (focus (exact ⟨_, hE2 _, by repeat (first | with_reducible exact Take.nil | with_reducible apply Take.c | with_reducible apply Take.drop)⟩)); rintro _ _ ⟨rfl, rfl⟩) | (apply o_call; exact rfl; exact rfl; (focus (first | exact rfl | assumption)); exact rfl; (focus (exact ⟨_, hD _, by repeat (first | with_reducible exact Take.nil | with_reducible apply Take.c | with_reducible apply Take.drop)⟩)); rintro _ _ ⟨rfl, rfl⟩) | (apply o_want; exact rfl; exact rfl) | apply thenS_normal | apply w_ret | ((with_reducible apply Sd.mk); (first | exact True.intro | omega | (constructor <;> first | omega | (unfold maxLen; omega)) | (unfold maxLen; omega))) | ((with_reducible apply Ln.mk); (first | rfl | exact ‹_› | omega | (simp ; first | done | omega))) | ((with_reducible apply Su.mk); (first | exact hsub | exact subAt_all | exact subAt_recZ (fun _ => rfl) (by omega) | exact subAt_rec (fun _ => rfl) (by omega))) | exact True.intro | exact rfl)
  all_goals first
    | (apply s_fin; (exact (show ResS _ _ _ _ [_] from ⟨rfl, trivial⟩)); (focus (exact ⟨rfl, rfl⟩)); (focus (repeat (first | with_reducible exact Take.nil | exact ht | with_reducible apply Take.c | with_reducible apply Take.drop))))
    | (apply s_fin; (exact (show ResS _ _ _ _ [_] from ⟨rfl, trivial⟩)); (focus (exact ⟨by show B _ = B true; congr 1, rfl⟩)); (focus (repeat (first | with_reducible exact Take.nil | exact ht | with_reducible apply Take.c | with_reducible apply Take.drop))))
    | trace_state
end Go.Proofs.Ytgooffiipnkmiaa
end
section
set_option linter.unusedVariables false
set_option linter.unusedSimpArgs false
set_option maxRecDepth 4000
namespace Go.Proofs.Ytgooffiipnkmiaa
open Go.Gh Go.RowKit

theorem pcs_psum {l : List UInt8} (hl : l.length ≤ 4096) : psum (pcs l) = l.length := by have := cov_psum (by decide) (pcs_cov hl); omega
theorem psum_len {ps : List Pc} (h : ∀ t ∈ ps, vPb t) : ps.length ≤ psum ps := by
  induction ps with
  | nil => exact Nat.le_refl _
  | cons t r ih =>
    have h1 := ih (fun t ht => h t (by simp [ht]))
    have h2 := (h t (by simp)).1
    show r.length + 1 ≤ t.1.toNat + psum r
    rcases h2 with g | g <;> omega
theorem rzEncode_any (l : List UInt8) (h : SH) (hl : l.length ≤ 4611686018427387904) : SRun Try.prog 14 [S l] h fun r q => r = .tuple #[S (lzE l).1, I (lzE l).2] ∧ q = h := by
  have hP := fun h => rzPieces_any l h hl
  unfold lzE
  by_cases h4 : 4096 < l.length
  · rw [if_pos h4]
    rw [if_pos h4] at hP
    refine w_body1 Try.func14 rfl rfl ?_
    repeat' (first | apply w_seq | apply w_region | apply o_nil | (apply o_g tyOk; exact rfl; exact rfl) | (apply o_call; exact rfl; exact rfl; (focus (first | exact rfl | assumption)); exact rfl; (focus (exact ⟨_, hP _, by repeat (first | with_reducible exact Take.nil | with_reducible apply Take.c | with_reducible apply Take.drop)⟩)); rintro _ _ ⟨v, rfl, hv, ht⟩) | (apply w_true; exact rfl) | apply thenS_normal | apply thenS_ret | apply w_ret | ((with_reducible apply Sd.mk); (first | exact True.intro | omega | (constructor <;> first | omega | (unfold maxLen; omega)) | (unfold maxLen; omega))))
    all_goals first
      | contradiction
      | (apply s_fin; (exact (show ResS _ _ _ _ [_, _] from ⟨rfl, ⟨rfl, trivial⟩⟩)); (focus (exact ⟨rfl, rfl⟩)); (focus (repeat (first | with_reducible exact Take.nil | with_reducible apply Take.c | with_reducible apply Take.drop))))
      | trace_state
    all_goals exact ht
  · rw [if_neg h4]
    rw [if_neg h4] at hP
    have hcov := pcs_cov (l := l) (by omega)
    have hvp := cov_vPb (by decide) hcov
    have hsum := pcs_psum (l := l) (by omega)
    have hlen := psum_len hvp
    have hB := fun v h hv => rzBytes_any l.length (pcs l) v h hv hvp (by omega) (by omega) (by omega)
    have hx : (if l = [] then vnum 0 else wrt l.length (pcs l)) = (if l.length = 0 then vnum 0 else wrt l.length (pcs l)) := by
      by_cases g : l = []
      · rw [if_pos g, if_pos (by rw [g]; rfl)]
      · rw [if_neg g, if_neg (fun k => g (List.length_eq_zero_iff.1 k))]
    rw [hx]
    clear hx
    generalize (if l.length = 0 then vnum 0 else wrt l.length (pcs l)) = R at *
    generalize pcs l = L at *
    refine w_body1 Try.func14 rfl rfl ?_
    repeat' (first | apply w_seq | apply w_region | apply o_nil | (apply o_g tyOk; exact rfl; exact rfl) | (apply o_call; exact rfl; exact rfl; (focus (first | exact rfl | assumption)); exact rfl; (focus (exact ⟨_, hP _, by repeat (first | with_reducible exact Take.nil | with_reducible apply Take.c | with_reducible apply Take.drop)⟩)); rintro _ _ ⟨v, rfl, hv, ht⟩) | (apply o_call; exact rfl; exact rfl; (focus (first | exact rfl | assumption)); exact rfl; (focus (exact ⟨_, hB _ _ hv, by repeat (first | with_reducible exact Take.nil | with_reducible apply Take.c | with_reducible apply Take.drop)⟩)); rintro _ _ ⟨rfl, rfl⟩) | (apply w_false; exact rfl) | apply thenS_normal | apply w_skip | apply w_ret | ((with_reducible apply Sd.mk); (first | exact True.intro | omega | (constructor <;> first | omega | (unfold maxLen; omega)) | (unfold maxLen; omega))))
    all_goals first
      | contradiction
      | (apply s_fin; (exact (show ResS _ _ _ _ [_, _] from ⟨rfl, ⟨rfl, trivial⟩⟩)); (focus (exact ⟨rfl, rfl⟩)); (focus (repeat (first | with_reducible exact Take.nil | with_reducible apply Take.c | with_reducible apply Take.drop))))
      | trace_state
    all_goals exact ht
end Go.Proofs.Ytgooffiipnkmiaa
end
section
set_option linter.unusedVariables false
set_option linter.unusedSimpArgs false
set_option maxRecDepth 4000
namespace Go.Proofs.Ytgooffiipnkmiaa
open Go.Gh Go.RowKit

theorem RM.other {q q1 : SH} {x : Ms} {a : RAd} {ts : List Value} {A : Nat} {b : Blk} (m : RM q x a ts) (hx : MsOk x) (p : Pick q A b q1) (hl : b.cells.length = 5) : RM q1 x a ts := by
  obtain ⟨⟨_, p1⟩, ⟨_, p2⟩, ⟨_, p3⟩, ⟨_, p4⟩, p5⟩ := m
  have go : ∀ {B : Nat} {l : List Value} {q2 : SH}, l.length ≠ 5 → Pick q B ⟨l, false⟩ q2 → ∃ q3, Pick q1 B ⟨l, false⟩ q3 := fun hne k =>
    Pick.other p (fun e => hne (by have := congrArg (fun b : Blk => b.cells.length) e; dsimp only at this; omega)) k
  have ln : ∀ l : List Int, (nodes l).length = l.length := fun l => List.length_map _
  exact ⟨go (by rw [ln, hx.K]; decide) p1, go (by rw [ln, hx.L]; decide) p2, go (by rw [ln, hx.D]; decide) p3, go (by rw [p5.1]; decide) p4, p5.other hx.P p hl⟩
theorem RM.rlit {q : SH} {x : Ms} {a : RAd} {ts : List Value} (b : RM q x a ts) (hx : MsOk x) {d1 : Dec} (hd : DecOk d1) (K1 : List Int) (B1 B2 C : Nat) :
    RM ((C, ⟨ts.set (x.c / 32).toNat (tsl B2), false⟩) :: (B2, ⟨nodes (tdec 8 (bsel x.P (x.c / 32).toNat) d1 1).1, false⟩) :: (B1, ⟨nodes K1, false⟩) :: q)
      ⟨K1, (bdec x.P x.c d1).1, (bdec x.P x.c d1).2.2, x.L, x.D⟩ ⟨B1, a.l, a.d, C⟩ (ts.set (x.c / 32).toNat (tsl B2)) := by
  have hk : (x.c / 32).toNat < 8 := by have := hx.c; omega
  have ht : (tdec 8 (bsel x.P (x.c / 32).toNat) d1 1).1.length = 256 := by rw [(tdec_ok hd).2.1, bsel_len hx.P hk]
  have b2 := b.re (h' := (C, ⟨ts.set (x.c / 32).toNat (tsl B2), false⟩) :: (B2, ⟨nodes (tdec 8 (bsel x.P (x.c / 32).toNat) d1 1).1, false⟩) :: (B1, ⟨nodes K1, false⟩) :: q) (.drop (.drop (.drop .nil)))
  exact ⟨⟨_, .tail (.tail .head)⟩, b2.L, b2.D, ⟨_, .head⟩, BTs.set b2.B hk hx.P ht (.tail .head)⟩
theorem RM.rcpy {q : SH} {x : Ms} {a : RAd} {ts : List Value} (b : RM q x a ts) (K1 L2 D3 : List Int) (B1 B2 B3 : Nat) :
    RM ((B3, ⟨nodes D3, false⟩) :: (B2, ⟨nodes L2, false⟩) :: (B1, ⟨nodes K1, false⟩) :: q) ⟨K1, x.P, x.c, L2, D3⟩ ⟨B1, B2, B3, a.C⟩ ts := by
  have b2 := b.re (h' := (B3, ⟨nodes D3, false⟩) :: (B2, ⟨nodes L2, false⟩) :: (B1, ⟨nodes K1, false⟩) :: q) (.drop (.drop (.drop .nil)))
  exact ⟨⟨_, .tail (.tail .head)⟩, ⟨_, .tail .head⟩, ⟨_, .head⟩, b2.C, b2.B⟩
abbrev ZRS : Type := Nat × Ms × Dec × List UInt8 × RAd × List Value × SH
theorem rzread_any (l : List UInt8) (n : Nat) (h : SH) (hl : l.length ≤ 1000000) (hn : n ≤ 4096) :
    SRun Try.prog 40 [rdV (dnew l), I n] h fun r q => r = .tuple #[S (lzR l n).1, B (lzR l n).2] ∧ q = h := by
  obtain ⟨R, hR⟩ : ∃ R, R = lzR l n := ⟨_, rfl⟩
  rw [← hR]
  have hR : outR [] (rdP n n ms0 (dnew l) []) = R := hR.symm
  have hd0 := dnew_ok (l := l) (by omega)
  have hm0 := ms0_ok
  have hM : ∀ (h : SH) (X : Nat) (b : Blk), b.cells.length = 5 → SRun Try.prog 70 [] ((X, b) :: h) fun r q => ∃ a ts q1, r = rmV a ms0.c ∧ q = (X, b) :: q1 ∧ RM q1 ms0 a ts ∧ Take q1 h := fun h X b hb =>
    srun_post ((rNewModels_any _).mono fun r q ⟨a, ts, e, rm, tH⟩ => by
      obtain ⟨q1, p1, t1⟩ := tH.pick .head
      exact ⟨_, ⟨a, ts, q1, e, rfl, rm.other ms0_ok p1 hb, t1⟩, .cons p1 .nil⟩)
  generalize ms0 = x0 at hR hm0 hM
  generalize dnew l = d0 at hR hd0
  refine w_body2 Try.func40 rfl rfl ?_
  repeat' (first | apply w_seq | apply w_region | apply o_nil | (apply o_g tyOk; exact rfl; exact rfl) | (apply o_stores tyOk; (iterate 4 exact rfl); (focus (exact ⟨rfl⟩)); (focus (exact up))) | (apply o_alloc tyOk; iterate 5 exact rfl) | (apply o_box (tt := tyT); iterate 5 exact rfl) | (apply o_buildSlice tyOk; (iterate 5 exact rfl); (focus (decide)); exact rfl; (focus (decide)); (focus (repeat (first | exact CatR.nil | exact CatR.last rfl | (apply CatR.one; exact rfl; exact rfl) | (apply CatR.agg; exact rfl)))); exact rfl) | (apply o_call; exact rfl; exact rfl; (focus (first | exact rfl | assumption)); exact rfl; (focus (exact ⟨_, hM _ _ ⟨rdC d0, false⟩ rfl, by repeat (first | with_reducible exact Take.nil | with_reducible apply Take.c | with_reducible apply Take.drop)⟩)); rintro _ _ ⟨a0, ts0, q01, rfl, rfl, rm0, tH⟩) | apply thenS_normal | apply w_block | ((with_reducible apply Sd.mk); (first | exact True.intro | omega | (constructor <;> first | omega | (unfold maxLen; omega)) | (unfold maxLen; omega))) | ((with_reducible apply Ln.mk); (first | rfl | exact ‹_› | omega | (simp ; first | done | omega))) | ((with_reducible apply Pu.mk); (first | exact putAt_all rfl | exact putAt_recZ (fun _ => rfl) (by omega) | exact putAt_rec (fun _ => rfl) (by omega))) | exact True.intro | intro A)
  rename_i X M0
  obtain ⟨A0, rfl⟩ : ∃ m, m = A := ⟨_, rfl⟩
  refine w_loop (S := ZRS) (fun s => [(1, I n), (2, gptr X 0 5), (6, gptr M0 0 5), (7, gsl A0 0 s.2.2.2.1.length s.2.2.2.1.length 1)])
    (fun s => (A0, ⟨bytesV s.2.2.2.1, false⟩) :: (M0, ⟨rmC s.2.2.2.2.1 s.2.1.c, false⟩) :: (X, ⟨rdC s.2.2.1, false⟩) :: s.2.2.2.2.2.2)
    (fun s => n - s.2.2.2.1.length ≤ s.1 ∧ MsOk s.2.1 ∧ DecOk s.2.2.1 ∧ s.2.2.2.1.length ≤ n ∧ RM s.2.2.2.2.2.2 s.2.1 s.2.2.2.2.1 s.2.2.2.2.2.1 ∧ Take s.2.2.2.2.2.2 h ∧ outR s.2.2.2.1 (rdP n s.1 s.2.1 s.2.2.1 s.2.2.2.1) = R) (fun s => s.1)
    (n, x0, d0, [], a0, ts0, q01) ⟨Nat.sub_le _ _, hm0, hd0, Nat.zero_le _, rm0, tH, hR⟩ (by repeat' (first | exact trivial | refine ⟨rfl, ?_⟩ | refine ⟨congrArg some ?_, ?_⟩)) (by repeat (first | with_reducible exact Take.nil | with_reducible apply Take.c | with_reducible apply Take.drop)) ?_
  rintro ⟨f, x, d, o, a, ts, q⟩ ⟨hf, hx, hd, ho, rm, tq, he⟩
  dsimp only at hf hx hd ho rm tq he ⊢
  have hlb : (bytesV o).length = o.length := by simp
  by_cases hlt : o.length < n
  · obtain ⟨f', rfl, e⟩ := rdP_go (x := x) (d := d) hlt hf
    rw [e] at he
    clear e
    have hrs := rstp_ok hx hd
    have hc0 := hx.c
    obtain ⟨⟨pK1, pK2⟩, ⟨pL1, pL2⟩, ⟨pD1, pD2⟩, ⟨pC1, pC2⟩, hB⟩ := id rm
    have hK := fun h h1 hp => rTDec_any 1 x.K d a.k h h1 hp (hx.K.trans (by decide)) (by decide) hd
    rw [hx.K] at hK
    obtain ⟨h1, h2, h3⟩ := tdec_ok (k := 1) (t := x.K) (j := 1) hd
    obtain ⟨⟨K1, d1, j⟩, hT⟩ : ∃ T, tdec 1 x.K d 1 = T := ⟨_, rfl⟩
    rw [hT] at hK h1 h2 h3
    dsimp only at hK h1 h2 h3
    have h2' := h2.trans hx.K
    by_cases hj : j = 2
    · subst hj
      have hD := fun h g1 hp hb => rDecByte_any x.P x.c d1 a.C ts h g1 hp hb hx.P hx.c h1
      have hRM := fun B1 B2 C => rm.rlit hx h1 K1 B1 B2 C
      obtain ⟨⟨P2, d2, c2⟩, hV⟩ : ∃ V, bdec x.P x.c d1 = V := ⟨_, rfl⟩
      rw [hV] at hD hRM
      dsimp only at hD hRM
      rw [rstp_lit hT hV] at he hrs
      dsimp only at he hrs
      rw [if_pos (.inl rfl), outR_map, estp_lit o rfl] at he
      have hc2 := (hrs.2.2.1 rfl).2.2
      dsimp only at hc2 he
      generalize tdec 8 (bsel x.P (x.c / 32).toNat) d1 1 = T8 at *
      have hby : Y c2 = byteV (byt c2) := byteV_byt hc2
      repeat' (first | apply w_seq | apply w_region | apply o_nil | (apply w_draw; (focus (kernel_rfl)); (focus (kernel_rfl))) | (apply o_g tyOk; exact rfl; exact rfl) | (apply o_load tyOk; (iterate 3 exact rfl); (focus (exact pk))) | (apply o_loads tyOk; (iterate 3 exact rfl); (focus (exact pk))) | (apply o_store tyOk; (iterate 4 exact rfl); (focus (exact up))) | (apply o_stores tyOk; (iterate 4 exact rfl); (focus (exact ⟨rfl⟩)); (focus (exact up))) | (apply o_alloc tyOk; iterate 5 exact rfl) | (apply o_buildSlice tyOk; (iterate 5 exact rfl); (focus (decide)); exact rfl; (focus (decide)); (focus (repeat (first | exact CatR.nil | exact CatR.last rfl | (apply CatR.one; exact rfl; exact rfl) | (apply CatR.agg; exact rfl)))); exact rfl) | (apply o_append tyOk; (iterate 5 exact rfl); (focus (exact ⟨by decide⟩)); (focus (exact up)); (focus (exact pk))) | (apply o_call; exact rfl; exact rfl; (focus (first | exact rfl | assumption)); exact rfl; (focus (exact ⟨_, hK _ _ (.tail (.tail (.tail pK2))), by repeat (first | with_reducible exact Take.nil | with_reducible apply Take.c | with_reducible apply Take.drop)⟩)); rintro _ _ ⟨B1, rfl, rfl⟩) | (apply o_call; exact rfl; exact rfl; (focus (first | exact rfl | assumption)); exact rfl; (focus (exact ⟨_, hD _ _ (.tail (.tail (.tail (.tail (.tail pC2))))) (hB.re (.drop (.drop (.drop (.drop (.drop .nil)))))), by repeat (first | with_reducible exact Take.nil | with_reducible apply Take.c | with_reducible apply Take.drop)⟩)); rintro _ _ ⟨B2, C2, rfl, rfl⟩) | (apply w_true; exact rfl) | (apply w_dT; exact rfl; (focus (first | exact ‹_› | with_reducible exact rfl | omega))) | apply thenS_normal | apply thenS_exit | apply blockS_exit | apply w_skip | apply w_exit | apply w_block | ((with_reducible apply Sd.mk); (first | exact True.intro | omega | (constructor <;> first | omega | (unfold maxLen; omega)) | (unfold maxLen; omega))) | ((with_reducible apply Ln.mk); (first | rfl | exact ‹_› | omega | (simp [hlb]; first | done | omega))) | ((with_reducible apply Ce.mk); (first | rfl | exact ‹_› | exact cell_recZ (fun _ => rfl) (by omega) (by decide) rfl | exact cell_rec (fun _ => rfl) (by omega) (by decide) rfl | exact cell_bytes (by omega) | exact cell_mapZ (by omega) | exact cell_map (by omega))) | ((with_reducible apply Se.mk); (first | (focus ((repeat (first | exact SetAt.zero | apply SetAt.succ)); done)) | exact setAt_bytes (by omega) (by omega) | exact setAt_mapZ (by omega) | exact setAt_map (by omega))) | ((with_reducible apply Pu.mk); (first | exact putAt_all rfl | exact putAt_t5 | exact putAt_recZ (fun _ => rfl) (by omega) | exact putAt_rec (fun _ => rfl) (by omega))) | ((with_reducible apply Su.mk); (first | exact subAt_t5 | exact subAt_all | exact subAt_recZ (fun _ => rfl) (by omega) | exact subAt_rec (fun _ => rfl) (by omega))) | exact True.intro | refine Rc.mk ⟨_, _, pk, ?_⟩ | exact Or.inl rfl | apply And.intro | apply Or.inr | intro A | exact rfl)
      all_goals first | (exfalso; omega) | skip
      have hsb : bytesV o ++ [Y c2] = bytesV (o ++ [byt c2]) := by rw [hby]; simp
      exact ⟨(f', ⟨K1, P2, c2, x.L, x.D⟩, d2, o ++ [byt c2], ⟨B1, a.l, a.d, C2⟩, ts.set (x.c / 32).toNat (tsl B2), (C2, ⟨ts.set (x.c / 32).toNat (tsl B2), false⟩) :: (B2, ⟨nodes T8.1, false⟩) :: (B1, ⟨nodes K1, false⟩) :: q),
        ⟨by show n - (o ++ [byt c2]).length ≤ f'; rw [List.length_append, List.length_singleton]; omega, hrs.1, hrs.2.1, by show (o ++ [byt c2]).length ≤ n; rw [List.length_append, List.length_singleton]; omega, hRM B1 B2 C2, .drop (.drop (.drop tq)), he⟩, by show f' < f' + 1; omega,
        ⟨rfl, rfl, rfl, congrArg some (gslE rfl rfl (by simp) (by simp) rfl), trivial⟩,
        .consE (.tail (.tail (.tail (.tail (.tail (.tail (.tail .head))))))) (blkE hsb) (.cons (.tail (.tail (.tail (.tail (.tail (.tail (.tail .head))))))) (.cons (.tail (.tail (.tail (.tail (.tail (.tail (.tail .head))))))) (.drop (.drop (.drop (.cons .head (.cons .head (.drop (.cons .head .nil)))))))))⟩
    · have hx1 := hx
      have okL := ndec_ok (t := x.L) h1 hx.L
      have hL := fun h g1 hp => rDecNum_any x.L d1 a.l h g1 hp hx.L h1
      obtain ⟨⟨L2, d2, l2⟩, hV⟩ : ∃ V, ndec x.L d1 = V := ⟨_, rfl⟩
      rw [hV] at hL okL
      dsimp only at hL okL
      have hD := fun h g1 hp => rDecNum_any x.D d2 a.d h g1 hp hx.D okL.1
      obtain ⟨⟨D3, d3, dd⟩, hW⟩ : ∃ V, ndec x.D d2 = V := ⟨_, rfl⟩
      rw [hW] at hD
      dsimp only at hD
      rw [rstp_cpy hT hj hV hW] at he hrs
      dsimp only at he hrs
      have hj3 : (j : Int) - 2 ≠ 0 := by omega
      repeat' (first | apply w_seq | apply w_region | apply o_nil | (apply o_g tyOk; exact rfl; exact rfl) | (apply o_ar tyOk; exact rfl; exact rfl) | (apply o_load tyOk; (iterate 3 exact rfl); (focus (exact pk))) | (apply o_loads tyOk; (iterate 3 exact rfl); (focus (exact pk))) | (apply o_store tyOk; (iterate 4 exact rfl); (focus (exact up))) | (apply o_stores tyOk; (iterate 4 exact rfl); (focus (exact ⟨rfl⟩)); (focus (exact up))) | (apply o_alloc tyOk; iterate 5 exact rfl) | (apply o_call; exact rfl; exact rfl; (focus (first | exact rfl | assumption)); exact rfl; (focus (exact ⟨_, hK _ _ (.tail (.tail (.tail pK2))), by repeat (first | with_reducible exact Take.nil | with_reducible apply Take.c | with_reducible apply Take.drop)⟩)); rintro _ _ ⟨B1, rfl, rfl⟩) | (apply o_call; exact rfl; exact rfl; (focus (first | exact rfl | assumption)); exact rfl; (focus (exact ⟨_, hL _ _ (.tail (.tail (.tail (.tail (.tail pL2))))), by repeat (first | with_reducible exact Take.nil | with_reducible apply Take.c | with_reducible apply Take.drop)⟩)); rintro _ _ ⟨B2, rfl, rfl⟩) | (apply o_call; exact rfl; exact rfl; (focus (first | exact rfl | assumption)); exact rfl; (focus (exact ⟨_, hD _ _ (.tail (.tail (.tail (.tail (.tail (.tail (.tail pD2))))))), by repeat (first | with_reducible exact Take.nil | with_reducible apply Take.c | with_reducible apply Take.drop)⟩)); rintro _ _ ⟨B3, rfl, rfl⟩) | (apply o_want; exact rfl; exact rfl) | (apply o_skip; iterate 4 exact rfl) | (apply o_guardF; (iterate 3 exact rfl); all_goals intro hc) | (apply w_true; exact rfl) | (apply w_dT; exact rfl; (focus (first | exact ‹_› | with_reducible exact rfl | omega))) | (apply w_dF; exact rfl; (focus (first | exact ‹_› | with_reducible exact rfl | omega))) | (apply w_if; exact rfl; all_goals intro hc) | apply thenS_normal | apply thenS_ret | apply blockS_ret | apply w_skip | apply w_ret | apply w_block | ((with_reducible apply Sd.mk); (first | exact True.intro | omega | (constructor <;> first | omega | (unfold maxLen; omega)) | (unfold maxLen; omega))) | ((with_reducible apply Ln.mk); (first | rfl | exact ‹_› | omega | (simp [hlb]; first | done | omega))) | ((with_reducible apply Wr.mk); (first | exact IntWalk.i64_in _ (by omega) | exact IntWalk.u8_in _ (by omega) | exact IntWalk.u32_in _ (by omega) | exact IntWalk.u64_in _ (by omega) | exact IntKind.wrap_u8 _ | exact IntKind.wrap_u32 _ | rfl)) | ((with_reducible apply Ce.mk); (first | rfl | exact ‹_› | exact cell_recZ (fun _ => rfl) (by omega) (by decide) rfl | exact cell_rec (fun _ => rfl) (by omega) (by decide) rfl | exact cell_bytes (by omega) | exact cell_mapZ (by omega) | exact cell_map (by omega))) | ((with_reducible apply Se.mk); (first | (focus ((repeat (first | exact SetAt.zero | apply SetAt.succ)); done)) | exact setAt_bytes (by omega) (by omega) | exact setAt_mapZ (by omega) | exact setAt_map (by omega))) | ((with_reducible apply Pu.mk); (first | exact putAt_all rfl | exact putAt_t5 | exact putAt_recZ (fun _ => rfl) (by omega) | exact putAt_rec (fun _ => rfl) (by omega))) | ((with_reducible apply Su.mk); (first | exact subAt_t5 | exact subAt_all | exact subAt_recZ (fun _ => rfl) (by omega) | exact subAt_rec (fun _ => rfl) (by omega))) | exact True.intro | intro A | exact rfl)
      all_goals first
        | (exfalso; omega)
        | (rw [if_neg (by rintro (g | g); cases g; unfold okC at g; dsimp only at g; omega)] at he; (apply s_fin; (exact (show ResS _ _ _ _ [_, _] from ⟨rfl, ⟨rfl, trivial⟩⟩)); (focus (exact ⟨by rw [← he]; rfl, rfl⟩)); (focus (repeat (first | with_reducible exact Take.nil | with_reducible apply Take.c | with_reducible apply Take.drop)))))
        | skip
      all_goals first | exact tq | skip
      have hg : 2 ≤ l2 + 2 ∧ l2 + 2 ≤ 273 ∧ l2 + 2 + o.length ≤ n ∧ 1 ≤ dd + 1 ∧ dd + 1 ≤ o.length := by omega
      have hRM := fun B1 B2 B3 => rm.rcpy K1 L2 D3 B1 B2 B3
      rw [if_pos (.inr hg), outR_map, estp_cpy o (by show dd + 1 ≠ 0; omega)] at he
      dsimp only at he
      obtain ⟨N, hN⟩ : ∃ N, N = (l2 + 2).toNat := ⟨_, rfl⟩
      obtain ⟨D, hDD⟩ : ∃ D, D = (dd + 1).toNat := ⟨_, rfl⟩
      rw [← hN, ← hDD] at he
      refine w_loop (S := Nat × List UInt8) (fun y => [(1, I n), (2, gptr X 0 5), (6, gptr M0 0 5), (7, gsl A0 0 y.2.length y.2.length 1), (16, I l2), (19, I dd), (20, I y.1)])
        (fun y => (A0, ⟨bytesV y.2, false⟩) :: (M0, ⟨rmC ⟨B1, B2, B3, a.C⟩ x.c, false⟩) :: (X, ⟨rdC d3, false⟩) :: (B3, ⟨nodes D3, false⟩) :: (B2, ⟨nodes L2, false⟩) :: (B1, ⟨nodes K1, false⟩) :: q)
        (fun y => y.1 ≤ N ∧ y.2.length = o.length + y.1 ∧ copyN D (N - y.1) y.2 = copyN D N o) (fun y => N - y.1) (0, o) ⟨Nat.zero_le _, rfl, rfl⟩ (by repeat' (first | exact trivial | refine ⟨rfl, ?_⟩ | refine ⟨congrArg some ?_, ?_⟩)) (by repeat (first | with_reducible exact Take.nil | with_reducible apply Take.c | with_reducible apply Take.drop)) ?_
      rintro ⟨k, o2⟩ ⟨hk, hol, hcp⟩
      dsimp only at hk hol hcp ⊢
      have hlb2 : (bytesV o2).length = o2.length := by simp
      by_cases hkN : k < N
      · rw [show N - k = (N - (k + 1)) + 1 by omega, copyN] at hcp
        have hbt : Value.int .u8 (bat o2 ((o2.length : Int) - 1 - dd)) = byteV o2[o2.length - D]! := by
          show _ = Value.int .u8 _
          congr 1
          unfold bat
          rw [show ((o2.length : Int) - 1 - dd).toNat = o2.length - D by omega, List.getD_eq_getElem?_getD, getElem!_pos o2 _ (by omega), List.getElem?_eq_getElem (by omega)]; rfl
        repeat' (first | apply w_seq | apply w_region | apply o_nil | (apply o_g tyOk; exact rfl; exact rfl) | (apply o_ar tyOk; exact rfl; exact rfl) | (apply o_load tyOk; (iterate 3 exact rfl); (focus (exact pk))) | (apply o_buildSlice tyOk; (iterate 5 exact rfl); (focus (decide)); exact rfl; (focus (decide)); (focus (repeat (first | exact CatR.nil | exact CatR.last rfl | (apply CatR.one; exact rfl; exact rfl) | (apply CatR.agg; exact rfl)))); exact rfl) | (apply o_append tyOk; (iterate 5 exact rfl); (focus (exact ⟨by decide⟩)); (focus (exact up)); (focus (exact pk))) | (apply w_dT; exact rfl; (focus (first | exact ‹_› | with_reducible exact rfl | omega))) | apply thenS_normal | apply blockS_normal | apply w_skip | apply w_block | ((with_reducible apply Sd.mk); (first | exact True.intro | omega | (constructor <;> first | omega | (unfold maxLen; omega)) | (unfold maxLen; omega))) | ((with_reducible apply Ln.mk); (first | rfl | exact ‹_› | omega | (simp [hlb2]; first | done | omega))) | ((with_reducible apply Wr.mk); (first | exact IntWalk.i64_in _ (by omega) | exact IntWalk.u8_in _ (by omega) | exact IntWalk.u32_in _ (by omega) | exact IntWalk.u64_in _ (by omega) | exact IntKind.wrap_u8 _ | exact IntKind.wrap_u32 _ | rfl)) | ((with_reducible apply Ce.mk); (first | rfl | exact ‹_› | exact cell_recZ (fun _ => rfl) (by omega) (by decide) rfl | exact cell_rec (fun _ => rfl) (by omega) (by decide) rfl | exact cell_bytes (by omega) | exact cell_mapZ (by omega) | exact cell_map (by omega))) | ((with_reducible apply Su.mk); (first | exact subAt_t5 | exact subAt_all | exact subAt_recZ (fun _ => rfl) (by omega) | exact subAt_rec (fun _ => rfl) (by omega))) | exact True.intro | intro A | exact rfl)
        all_goals first
          | (exfalso; omega)
          | skip
        rw [hbt]
        exact ⟨(k + 1, o2 ++ [o2[o2.length - D]!]), ⟨hkN, by show (o2 ++ [_]).length = _; rw [List.length_append, List.length_singleton]; omega, hcp⟩, by show N - (k + 1) < N - k; omega, ⟨rfl, rfl, rfl, congrArg some (gslE rfl rfl (by simp) (by simp) rfl), by repeat' (first | exact trivial | refine ⟨rfl, ?_⟩)⟩, (by repeat (first | with_reducible exact Take.nil | with_reducible apply Take.c | ((with_reducible apply Take.cE); (first | exact rfl | (apply blkE; (focus (first | exact rfl | exact recs_snocE rfl | exact map_snocE rfl | exact congrArg (fun v => [v]) (gslE rfl rfl (by first | rfl | exact ‹_› | omega | (simp [hlb2]; first | done | omega)) (by first | rfl | exact ‹_› | omega | (simp [hlb2]; first | done | omega)) rfl)))))) | with_reducible apply Take.drop))⟩
      · obtain rfl : k = N := by omega
        rw [Nat.sub_self, copyN] at hcp
        rw [← hcp] at he
        repeat' (first | apply w_seq | apply w_region | apply o_nil | (apply o_g tyOk; exact rfl; exact rfl) | (apply o_ar tyOk; exact rfl; exact rfl) | (apply w_dF; exact rfl; (focus (first | exact ‹_› | with_reducible exact rfl | omega))) | apply thenS_normal | apply thenS_exit | apply blockS_normal | apply blockS_exit | apply w_exit | ((with_reducible apply Sd.mk); (first | exact True.intro | omega | (constructor <;> first | omega | (unfold maxLen; omega)) | (unfold maxLen; omega))) | ((with_reducible apply Wr.mk); (first | exact IntWalk.i64_in _ (by omega) | exact IntWalk.u8_in _ (by omega) | exact IntWalk.u32_in _ (by omega) | exact IntWalk.u64_in _ (by omega) | exact IntKind.wrap_u8 _ | exact IntKind.wrap_u32 _ | rfl)))
        all_goals first
          | (exfalso; omega)
          | skip
        exact ⟨(f', ⟨K1, x.P, x.c, L2, D3⟩, d3, o2, ⟨B1, B2, B3, a.C⟩, ts, (B3, ⟨nodes D3, false⟩) :: (B2, ⟨nodes L2, false⟩) :: (B1, ⟨nodes K1, false⟩) :: q), ⟨by show n - o2.length ≤ f'; omega, hrs.1, hrs.2.1, by show o2.length ≤ n; omega, hRM B1 B2 B3, .drop (.drop (.drop tq)), he⟩, by show f' < f' + 1; omega, (by repeat' (first | exact trivial | refine ⟨rfl, ?_⟩ | refine ⟨congrArg some ?_, ?_⟩)), (by repeat (first | with_reducible exact Take.nil | with_reducible apply Take.c | with_reducible apply Take.drop))⟩
  · rw [rdP_end hlt] at he
    have he : (o, true) = R := he
    subst he
    repeat' (first | apply w_seq | apply w_region | apply o_nil | (apply o_g tyOk; exact rfl; exact rfl) | (apply o_toString tyOk; (iterate 6 exact rfl); (focus (exact pk))) | (apply w_dF; exact rfl; (focus (first | exact ‹_› | with_reducible exact rfl | omega))) | apply thenS_normal | apply thenS_exit | apply blockS_exit | apply w_ret | apply w_exit | ((with_reducible apply Sd.mk); (first | exact True.intro | omega | (constructor <;> first | omega | (unfold maxLen; omega)) | (unfold maxLen; omega))) | ((with_reducible apply Ln.mk); (first | rfl | exact ‹_› | omega | (simp [hlb]; first | done | omega))) | ((with_reducible apply Su.mk); (first | exact subAt_t5 | exact subAt_all | exact subAt_recZ (fun _ => rfl) (by omega) | exact subAt_rec (fun _ => rfl) (by omega))) | exact True.intro | exact rfl)
    all_goals first
      | (exfalso; omega)
      | (apply s_fin; (exact (show ResS _ _ _ _ [_, _] from ⟨rfl, ⟨rfl, trivial⟩⟩)); (focus (exact ⟨rfl, rfl⟩)); (focus (repeat (first | with_reducible exact Take.nil | with_reducible apply Take.c | with_reducible apply Take.drop))))
      | trace_state
    all_goals exact tq
end Go.Proofs.Ytgooffiipnkmiaa
end
