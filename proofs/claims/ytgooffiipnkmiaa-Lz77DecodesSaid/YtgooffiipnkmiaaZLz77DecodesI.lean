/- Part 9 of the proof of the law Lz77Decodes: texts merged. No condition. -/
import Derived.Test.YtgooffiipnkmiaaZLz77DecodesH
section
set_option linter.unusedVariables false
set_option linter.unusedSimpArgs false
set_option maxRecDepth 4000
namespace Go.Proofs.Ytgooffiipnkmiaa
open Go.Gh Go.RowKit

abbrev tsl (B : Nat) : Value := gsl B 0 256 256 1
/-- The first trees of a model lie in the heap. -/
def BTs (h : SH) (P : List Int) (n : Nat) (ts : List Value) : Prop := ts.length = n ∧ ∀ k, k < n → ∃ B h2, ts[k]? = some (tsl B) ∧ Pick h B ⟨nodes (bsel P k), false⟩ h2
theorem BTs.re {h h' : SH} {P : List Int} {n : Nat} {ts : List Value} (b : BTs h P n ts) (t : Take h' h) : BTs h' P n ts :=
  ⟨b.1, fun k hk => by
    obtain ⟨B, h2, e, p⟩ := b.2 k hk
    obtain ⟨h3, g, _⟩ := t.pick p
    exact ⟨B, h3, e, g⟩⟩
theorem BTs.old {h : SH} {P : List Int} {n : Nat} {ts : List Value} (b : BTs h P n ts) : ∀ v ∈ ts, ∃ B o n len fl b p1, v = gsl B o n len fl ∧ Pick h B b p1 := fun v hv => by
  obtain ⟨i, hi, rfl⟩ := List.mem_iff_getElem.1 hv
  obtain ⟨B, h2, e, p⟩ := b.2 i (by rw [← b.1]; exact hi)
  rw [List.getElem?_eq_getElem hi] at e
  exact ⟨B, 0, 256, 256, 1, _, _, Option.some.inj e, p⟩
theorem BTs.set {h : SH} {P t : List Int} {ts : List Value} {k B : Nat} {h2 : SH} (b : BTs h P 8 ts) (hk : k < 8) (hP : P.length = 2048) (ht : t.length = 256) (p : Pick h B ⟨nodes t, false⟩ h2) : BTs h (bput P k t) 8 (ts.set k (tsl B)) := by
  refine ⟨by rw [List.length_set]; exact b.1, fun j hj => ?_⟩
  have h1 : ∀ i, i < 8 → bsel (bput P k t) i = if i = k then t else bsel P i := fun i hi => by
    unfold bsel bput
    have hl : (P.take (k * 256)).length = k * 256 := by rw [List.length_take]; omega
    by_cases e : i = k
    · subst e
      rw [if_pos rfl, List.append_assoc, List.drop_append_of_le_length (by omega), List.drop_of_length_le (by omega), List.nil_append, List.take_append_of_le_length (by omega), List.take_of_length_le (by omega)]
    · rw [if_neg e]
      refine List.ext_getElem? fun m => ?_
      by_cases hm : m < 256
      · rw [List.getElem?_take_of_lt hm, List.getElem?_take_of_lt hm, List.getElem?_drop, List.getElem?_drop]
        by_cases hik : i < k
        · rw [List.append_assoc, List.getElem?_append_left (by rw [hl]; omega), List.getElem?_take_of_lt (by omega)]
        · rw [List.getElem?_append_right (by rw [List.length_append, hl]; omega), List.getElem?_drop, List.length_append, hl, ht]
          congr 1; omega
      · rw [List.getElem?_take_eq_none (by omega), List.getElem?_take_eq_none (by omega)]
  rw [h1 j hj]
  by_cases e : j = k
  · subst e
    rw [if_pos rfl, List.getElem?_set_self (by rw [b.1]; exact hk)]
    exact ⟨B, h2, rfl, p⟩
  · rw [if_neg e, List.getElem?_set_ne (fun g => e g.symm)]
    exact b.2 j hj
theorem bsel_nd0 : ∀ k : Nat, k < 8 → bsel (List.replicate 2048 1024) k = List.replicate 256 1024 := fun k hk => by
  unfold bsel
  rw [List.drop_replicate, List.take_replicate, Nat.min_eq_left (by omega)]
abbrev mbV (C : Nat) (c : Int) : Value := .agg ⟨[gsl C 0 8 8 1, Y c]⟩
theorem BTs.snoc {h : SH} {P : List Int} {n A : Nat} {ts : List Value} (b : BTs h P n ts) {blk : Blk} (e : blk = ⟨nodes (bsel P n), false⟩) : BTs ((A, blk) :: h) P (n + 1) (ts ++ [tsl A]) := by
  subst e
  refine ⟨by rw [List.length_append, b.1]; rfl, fun k hk => ?_⟩
  by_cases e : k = n
  · subst e
    rw [List.getElem?_append_right (by rw [b.1]; exact Nat.le_refl _), b.1, Nat.sub_self]
    exact ⟨A, _, rfl, .head⟩
  · rw [List.getElem?_append_left (by rw [b.1]; omega)]
    exact (b.re (.drop .nil)).2 k (by omega)
def mbw : Option Nat → Nat → Value
  | none, _ => .slice none 0 0
  | some C, n => gsl C 0 n n 1
def mbq : Option Nat → List Value → SH → SH
  | none, _, q => q
  | some C, ts, q => (C, ⟨ts, false⟩) :: q
theorem rNewBytes_any (h : SH) : SRun Try.prog 106 [] h fun r q => ∃ C ts h2, r = mbV C 0 ∧ Pick q C ⟨ts, false⟩ h2 ∧ BTs q (List.replicate 2048 1024) 8 ts ∧ Take q h := by
  have hT : ∀ h, SRun Try.prog 105 [I 8] h fun r q => ∃ A, r = tsl A ∧ q = (A, ⟨nodes (List.replicate 256 1024), false⟩) :: h := fun h => rNewTree_any 8 h (by decide)
  have hb0 := bsel_nd0
  generalize (List.replicate 2048 1024 : List Int) = X at *
  refine w_body0 Try.func106 rfl rfl ?_
  repeat' (first | apply w_seq | apply w_region | apply o_nil | (apply o_g tyOk; exact rfl; exact rfl) | (apply o_stores tyOk; (iterate 4 exact rfl); (focus (exact ⟨rfl⟩)); (focus (exact up))) | (apply o_alloc tyOk; iterate 5 exact rfl) | (apply o_build tyOk; exact rfl; exact rfl; (focus (first | with_reducible exact pl128)); exact rfl; (focus (repeat (first | exact BuildR.nil | (apply BuildR.one; exact rfl; exact rfl; (first | (focus ((repeat (first | exact SetAt.zero | apply SetAt.succ)); done)) | exact setAt_bytes (by omega) (by omega) | exact setAt_mapZ (by omega) | exact setAt_map (by omega))) | (apply BuildR.agg; exact rfl; exact rfl; (first | exact putAt_all rfl | exact putAt_recZ (fun _ => rfl) (by omega) | exact putAt_rec (fun _ => rfl) (by omega)))))); exact rfl) | apply thenS_normal | apply w_block | ((with_reducible apply Sd.mk); (first | exact True.intro | omega | (constructor <;> first | omega | (unfold maxLen; omega)) | (unfold maxLen; omega))) | ((with_reducible apply Ln.mk); (first | rfl | exact ‹_› | omega | (simp ; first | done | omega))) | ((with_reducible apply Pu.mk); (first | exact putAt_all rfl | exact putAt_recZ (fun _ => rfl) (by omega) | exact putAt_rec (fun _ => rfl) (by omega))) | exact True.intro | intro A)
  rename_i A0
  refine w_loop (S := List Value × Option Nat × SH) (fun x => [(0, gptr A0 0 2), (1, gptr A 0 2), (2, I x.1.length)]) (fun x => (A, ⟨[mbw x.2.1 x.1.length, Y 0], false⟩) :: (A0, ⟨[.slice none 0 0, Y 0], false⟩) :: mbq x.2.1 x.1 x.2.2)
    (fun x => x.1.length ≤ 8 ∧ BTs x.2.2 X x.1.length x.1 ∧ (x.2.1 = none ↔ x.1 = []) ∧ Take x.2.2 h) (fun x => 8 - x.1.length)
    ([], none, h) ⟨Nat.zero_le _, ⟨rfl, fun k hk => absurd hk (Nat.not_lt_zero _)⟩, Iff.intro (fun _ => rfl) (fun _ => rfl), .nil⟩ (by repeat' (first | exact trivial | refine ⟨rfl, ?_⟩ | refine ⟨congrArg some ?_, ?_⟩)) (show Take _ ((A, ⟨[.slice none 0 0, Y 0], false⟩) :: (A0, ⟨[.slice none 0 0, Y 0], false⟩) :: h) from (by repeat (first | with_reducible exact Take.nil | with_reducible apply Take.c | with_reducible apply Take.drop))) ?_
  rintro ⟨ts, o, q⟩ ⟨hl, hb, hw, tq⟩
  dsimp only at hl hb hw tq ⊢
  by_cases h8 : ts.length < 8
  · cases o with
    | none =>
      obtain rfl := hw.1 rfl
      show SWp _ _ _ _ _ ((A, ⟨[.slice none 0 0, Y 0], false⟩) :: (A0, ⟨[.slice none 0 0, Y 0], false⟩) :: q)
      repeat' (first | apply w_seq | apply w_region | apply o_nil | (apply w_draw; (focus (kernel_rfl)); (focus (kernel_rfl))) | (apply o_g tyOk; exact rfl; exact rfl) | (apply o_ar tyOk; exact rfl; exact rfl) | (apply o_load tyOk; (iterate 3 exact rfl); (focus (exact pk))) | (apply o_store tyOk; (iterate 4 exact rfl); (focus (exact up))) | (apply o_buildSlice tyOk; (iterate 5 exact rfl); (focus (decide)); exact rfl; (focus (decide)); (focus (repeat (first | exact CatR.nil | exact CatR.last rfl | (apply CatR.one; exact rfl; exact rfl) | (apply CatR.agg; exact rfl)))); exact rfl) | (apply o_append_nil tyOk; (iterate 5 exact rfl); (focus (exact ⟨by decide⟩)); (focus (exact pk))) | (apply o_callE1; (iterate 4 exact rfl); (focus (exact ⟨hT _, by repeat (first | with_reducible exact Take.nil | with_reducible apply Take.c | with_reducible apply Take.drop)⟩)); (focus ((intro _; (first | exact List.Perm.refl _ | (simp; done) | exact List.Perm.swap _ _ _)))); (focus ((intro A1 A2 ρ D e1 d1 hρ hD; refine ⟨?_, ?_⟩; (focus (repeat (first | exact VR.const rfl | (apply VR.ptr'; (focus (first | exact e1 | exact e2 | exact e3 | ((apply rho_pick hρ); (exact pk)))); (focus (first | exact d1 | exact d2 | exact d3 | ((apply dom_pick hD); (exact pk))))) | (apply VR.slc'; (focus (first | exact e1 | exact e2 | exact e3 | ((apply rho_pick hρ); (exact pk)))); (focus (first | exact d1 | exact d2 | exact d3 | ((apply dom_pick hD); (exact pk))))) | exact VR.sdead | apply VRs.tuple | apply VRs.agg | exact VRs.nil | ((apply VRs.const); (focus (first | exact bytesV_const _ | exact map_const (fun _ => rfl) | exact recs_const (fun _ v hv => by simp only [List.mem_cons, List.not_mem_nil, or_false] at hv; rcases hv with rfl | rfl | rfl | rfl | rfl <;> rfl)))) | apply VRs.cons))); (focus (repeat (first | exact SHR.nil | ((apply SHR.same); (focus (intro x hx; (repeat (first | exact hx | apply List.mem_cons_of_mem)); done))) | ((apply SHR.keep); (focus ((repeat (first | with_reducible exact List.mem_cons_self | apply List.mem_cons_of_mem)); done))) | (apply SHR.cons; (focus (first | exact e1 | exact e2 | exact e3 | ((apply rho_pick hρ); (exact pk)))); (focus (repeat (first | exact VR.const rfl | (apply VR.ptr'; (focus (first | exact e1 | exact e2 | exact e3 | ((apply rho_pick hρ); (exact pk)))); (focus (first | exact d1 | exact d2 | exact d3 | ((apply dom_pick hD); (exact pk))))) | (apply VR.slc'; (focus (first | exact e1 | exact e2 | exact e3 | ((apply rho_pick hρ); (exact pk)))); (focus (first | exact d1 | exact d2 | exact d3 | ((apply dom_pick hD); (exact pk))))) | exact VR.sdead | apply VRs.tuple | apply VRs.agg | exact VRs.nil | ((apply VRs.const); (focus (first | exact bytesV_const _ | exact map_const (fun _ => rfl) | exact recs_const (fun _ v hv => by simp only [List.mem_cons, List.not_mem_nil, or_false] at hv; rcases hv with rfl | rfl | rfl | rfl | rfl <;> rfl)))) | apply VRs.cons))))))))))) | (apply w_true; exact rfl) | apply thenS_normal | apply blockS_normal | apply w_skip | apply w_block | ((with_reducible apply Sd.mk); (first | exact True.intro | omega | (constructor <;> first | omega | (unfold maxLen; omega)) | (unfold maxLen; omega))) | ((with_reducible apply Ln.mk); (first | rfl | exact ‹_› | omega | (simp ; first | done | omega))) | ((with_reducible apply Wr.mk); (first | exact IntWalk.i64_in _ (by omega) | exact IntWalk.u8_in _ (by omega) | exact IntWalk.u32_in _ (by omega) | exact IntWalk.u64_in _ (by omega) | exact IntKind.wrap_u8 _ | exact IntKind.wrap_u32 _ | rfl)) | ((with_reducible apply Ce.mk); (first | rfl | exact ‹_› | exact cell_recZ (fun _ => rfl) (by omega) (by decide) rfl | exact cell_rec (fun _ => rfl) (by omega) (by decide) rfl | exact cell_bytes (by omega) | exact cell_mapZ (by omega) | exact cell_map (by omega))) | ((with_reducible apply Se.mk); (first | (focus ((repeat (first | exact SetAt.zero | apply SetAt.succ)); done)) | exact setAt_bytes (by omega) (by omega) | exact setAt_mapZ (by omega) | exact setAt_map (by omega))) | ((with_reducible apply Su.mk); (first | exact subAt_all | exact subAt_recZ (fun _ => rfl) (by omega) | exact subAt_rec (fun _ => rfl) (by omega))) | exact True.intro | refine Rc.mk ⟨_, _, pk, ?_⟩ | exact Or.inl rfl | apply And.intro | apply Or.inr | intro A | exact rfl)
      rename_i A1 A3
      all_goals first
        | exact ⟨([tsl A1], some A, (A1, ⟨nodes (List.replicate 256 1024), false⟩) :: q), ⟨by show 1 ≤ 8; decide, hb.snoc (by rw [hb0 _ h8]), by simp, .drop tq⟩, by show 8 - 1 < 8 - 0; decide, ⟨rfl, rfl, rfl, trivial⟩, .cons (.tail (.tail (.tail .head))) (.cons (.tail (.tail (.tail .head))) (.cons .head (.cons (.tail .head) (.drop .nil))))⟩
        | trace_state
    | some C =>
      show SWp _ _ _ _ _ ((A, ⟨[gsl C 0 ts.length ts.length 1, Y 0], false⟩) :: (A0, ⟨[.slice none 0 0, Y 0], false⟩) :: (C, ⟨ts, false⟩) :: q)
      repeat' (first | apply w_seq | apply w_region | apply o_nil | (apply w_draw; (focus (kernel_rfl)); (focus (kernel_rfl))) | (apply o_g tyOk; exact rfl; exact rfl) | (apply o_ar tyOk; exact rfl; exact rfl) | (apply o_load tyOk; (iterate 3 exact rfl); (focus (exact pk))) | (apply o_store tyOk; (iterate 4 exact rfl); (focus (exact up))) | (apply o_buildSlice tyOk; (iterate 5 exact rfl); (focus (decide)); exact rfl; (focus (decide)); (focus (repeat (first | exact CatR.nil | exact CatR.last rfl | (apply CatR.one; exact rfl; exact rfl) | (apply CatR.agg; exact rfl)))); exact rfl) | (apply o_append tyOk; (iterate 5 exact rfl); (focus (exact ⟨by decide⟩)); (focus (exact up)); (focus (exact pk))) | (apply o_callE1; (iterate 4 exact rfl); (focus (exact ⟨hT _, by repeat (first | with_reducible exact Take.nil | with_reducible apply Take.c | with_reducible apply Take.drop)⟩)); (focus ((intro _; (first | exact List.Perm.refl _ | (simp; done) | exact List.Perm.swap _ _ _)))); (focus ((intro A1 A2 ρ D e1 d1 hρ hD; refine ⟨?_, ?_⟩; (focus (repeat (first | exact VR.const rfl | (apply VR.ptr'; (focus (first | exact e1 | exact e2 | exact e3 | ((apply rho_pick hρ); (exact pk)))); (focus (first | exact d1 | exact d2 | exact d3 | ((apply dom_pick hD); (exact pk))))) | (apply VR.slc'; (focus (first | exact e1 | exact e2 | exact e3 | ((apply rho_pick hρ); (exact pk)))); (focus (first | exact d1 | exact d2 | exact d3 | ((apply dom_pick hD); (exact pk))))) | exact VR.sdead | apply VRs.tuple | apply VRs.agg | exact VRs.nil | ((apply VRs.const); (focus (first | exact bytesV_const _ | exact map_const (fun _ => rfl) | exact recs_const (fun _ v hv => by simp only [List.mem_cons, List.not_mem_nil, or_false] at hv; rcases hv with rfl | rfl | rfl | rfl | rfl <;> rfl)))) | apply VRs.cons))); (focus (repeat (first | exact SHR.nil | ((apply SHR.same); (focus (intro x hx; (repeat (first | exact hx | apply List.mem_cons_of_mem)); done))) | ((apply SHR.keep); (focus ((repeat (first | with_reducible exact List.mem_cons_self | apply List.mem_cons_of_mem)); done))) | (apply SHR.cons; (focus (first | exact e1 | exact e2 | exact e3 | ((apply rho_pick hρ); (exact pk)))); (focus (repeat (first | exact VR.const rfl | (apply VR.ptr'; (focus (first | exact e1 | exact e2 | exact e3 | ((apply rho_pick hρ); (exact pk)))); (focus (first | exact d1 | exact d2 | exact d3 | ((apply dom_pick hD); (exact pk))))) | (apply VR.slc'; (focus (first | exact e1 | exact e2 | exact e3 | ((apply rho_pick hρ); (exact pk)))); (focus (first | exact d1 | exact d2 | exact d3 | ((apply dom_pick hD); (exact pk))))) | exact VR.sdead | apply VRs.tuple | apply VRs.agg | exact VRs.nil | ((apply VRs.const); (focus (first | exact bytesV_const _ | exact map_const (fun _ => rfl) | exact recs_const (fun _ v hv => by simp only [List.mem_cons, List.not_mem_nil, or_false] at hv; rcases hv with rfl | rfl | rfl | rfl | rfl <;> rfl)))) | apply VRs.cons))))))))))) | (apply w_dT; exact rfl; (focus (first | exact ‹_› | with_reducible exact rfl | omega))) | apply thenS_normal | apply blockS_normal | apply w_skip | apply w_block | ((with_reducible apply Sd.mk); (first | exact True.intro | omega | (constructor <;> first | omega | (unfold maxLen; omega)) | (unfold maxLen; omega))) | ((with_reducible apply Ln.mk); (first | rfl | exact ‹_› | omega | (simp ; first | done | omega))) | ((with_reducible apply Wr.mk); (first | exact IntWalk.i64_in _ (by omega) | exact IntWalk.u8_in _ (by omega) | exact IntWalk.u32_in _ (by omega) | exact IntWalk.u64_in _ (by omega) | exact IntKind.wrap_u8 _ | exact IntKind.wrap_u32 _ | rfl)) | ((with_reducible apply Ce.mk); (first | rfl | exact ‹_› | exact cell_recZ (fun _ => rfl) (by omega) (by decide) rfl | exact cell_rec (fun _ => rfl) (by omega) (by decide) rfl | exact cell_bytes (by omega) | exact cell_mapZ (by omega) | exact cell_map (by omega))) | ((with_reducible apply Se.mk); (first | (focus ((repeat (first | exact SetAt.zero | apply SetAt.succ)); done)) | exact setAt_bytes (by omega) (by omega) | exact setAt_mapZ (by omega) | exact setAt_map (by omega))) | ((with_reducible apply Su.mk); (first | exact subAt_all | exact subAt_recZ (fun _ => rfl) (by omega) | exact subAt_rec (fun _ => rfl) (by omega))) | exact True.intro | refine Rc.mk ⟨_, _, pk, ?_⟩ | exact Or.inl rfl | apply And.intro | apply Or.inr | intro A | exact rfl)
      rename_i A1
      all_goals first
        | exact ⟨(ts ++ [tsl A1], some C, (A1, ⟨nodes (List.replicate 256 1024), false⟩) :: q), ⟨by rw [List.length_append, List.length_singleton]; omega, by rw [List.length_append, List.length_singleton]; exact hb.snoc (by rw [hb0 _ h8]), by simp, .drop tq⟩, by rw [List.length_append, List.length_singleton]; omega,
            ⟨rfl, rfl, congrArg some (congrArg (Value.int .i64) (by simp)), trivial⟩, .consE (.tail (.tail .head)) (blkE (by simp [mbw])) (.cons (.tail (.tail .head)) (.cons (.tail (.tail .head)) (.cons (.tail .head) (.drop .nil))))⟩
        | trace_state
  · obtain ⟨C, rfl⟩ : ∃ C, o = some C := by
      cases o with
      | none => obtain rfl := hw.1 rfl; exact absurd (show ([] : List Value).length < 8 by decide) h8
      | some C => exact ⟨C, rfl⟩
    have h8' : ts.length = 8 := by omega
    show SWp _ _ _ _ _ ((A, ⟨[gsl C 0 ts.length ts.length 1, Y 0], false⟩) :: (A0, ⟨[.slice none 0 0, Y 0], false⟩) :: (C, ⟨ts, false⟩) :: q)
    rw [h8'] at hb ⊢
    repeat' (first | apply w_seq | apply w_region | apply o_nil | (apply o_g tyOk; exact rfl; exact rfl) | (apply o_loads tyOk; (iterate 3 exact rfl); (focus (exact pk))) | (apply o_stores tyOk; (iterate 4 exact rfl); (focus (exact ⟨rfl⟩)); (focus (exact up))) | (apply w_false; exact rfl) | apply thenS_normal | apply thenS_exit | apply blockS_exit | apply w_ret | apply w_exit | ((with_reducible apply Sd.mk); (first | exact True.intro | omega | (constructor <;> first | omega | (unfold maxLen; omega)) | (unfold maxLen; omega))) | ((with_reducible apply Ln.mk); (first | rfl | exact ‹_› | omega | (simp ; first | done | omega))) | ((with_reducible apply Pu.mk); (first | exact putAt_all rfl | exact putAt_recZ (fun _ => rfl) (by omega) | exact putAt_rec (fun _ => rfl) (by omega))) | ((with_reducible apply Su.mk); (first | exact subAt_all | exact subAt_recZ (fun _ => rfl) (by omega) | exact subAt_rec (fun _ => rfl) (by omega))) | exact True.intro | exact rfl)
    all_goals first
      | (exfalso; omega)
      | (apply s_fin; (exact (show ResS _ _ _ _ [_] from (res_cell tyOk rfl rfl rfl (by exact pk) (by first | rfl | exact ‹_› | omega | (simp ; first | done | omega)) (by first | rfl | exact ‹_› | omega | (simp ; first | done | omega)) trivial))); (focus (exact ⟨C, ts, _, rfl, .head, hb.re (.drop .nil), .drop tq⟩)); (focus (repeat (first | with_reducible exact Take.nil | with_reducible apply Take.c | with_reducible apply Take.drop))))
      | trace_state
end Go.Proofs.Ytgooffiipnkmiaa
end
section
set_option linter.unusedVariables false
set_option linter.unusedSimpArgs false
set_option maxRecDepth 4000
namespace Go.Proofs.Ytgooffiipnkmiaa
open Go.Gh Go.RowKit

theorem quo32 {c : Int} (h : 0 ≤ c ∧ c ≤ 255) : IntKind.u8.wrap (c.tdiv 32) = c / 32 := by
  rw [Int.tdiv_eq_ediv_of_nonneg h.1]
  exact IntWalk.u8_in _ (by omega)
theorem old_one {h : SH} {ts : List Value} (g : ∀ v ∈ ts, ∃ B o n len fl b p1, v = gsl B o n len fl ∧ Pick h B b p1) : ts.all one = true := by
  rw [List.all_eq_true]
  intro v hv
  obtain ⟨B, o, n, len, fl, b, p1, rfl, _⟩ := g v hv
  rfl
theorem rwith_any (C B : Nat) (c c' : Int) (ts : List Value) (h h2 : SH) (hp : Pick h C ⟨ts, false⟩ h2) (hl : ts.length = 8) (ho : ts.all one = true) (hc0 : 0 ≤ c ∧ c ≤ 255) :
    SRun Try.prog 117 [mbV C c, tsl B, Y c'] h fun r q => ∃ C', r = mbV C' c' ∧ q = (C', ⟨ts.set (c / 32).toNat (tsl B), false⟩) :: h := by
  have hq := quo32 hc0
  have hset : SetAt ts (0 + (c / 32).toNat * 1) (tsl B) (ts.set (c / 32).toNat (tsl B)) := by rw [Nat.zero_add, Nat.mul_one]; exact SetAt.any (by omega)
  refine w_body3 Try.func117 rfl rfl ?_
  repeat' (first | apply w_seq | apply w_region | apply o_nil | (apply o_g tyOk; exact rfl; exact rfl) | (apply o_ar tyOk; exact rfl; exact rfl) | (apply o_load tyOk; (iterate 3 exact rfl); (focus (exact pk))) | (apply o_store tyOk; (iterate 4 exact rfl); (focus (exact up))) | (apply o_stores tyOk; (iterate 4 exact rfl); (focus (exact ⟨rfl⟩)); (focus (exact up))) | (apply o_alloc tyOk; iterate 5 exact rfl) | (apply o_box (tt := tyT); iterate 5 exact rfl) | (apply o_build tyOk; exact rfl; exact rfl; (focus (first | with_reducible exact pl18 | with_reducible exact pl19 | with_reducible exact pl128)); exact rfl; (focus (repeat (first | exact BuildR.nil | (apply BuildR.one; exact rfl; exact rfl; (first | (focus ((repeat (first | exact SetAt.zero | apply SetAt.succ)); done)) | exact hset | exact setAt_bytes (by omega) (by omega) | exact setAt_mapZ (by omega) | exact setAt_map (by omega))) | (apply BuildR.agg; exact rfl; exact rfl; (first | exact putAt_all rfl | exact putAt_recZ (fun _ => rfl) (by omega) | exact putAt_rec (fun _ => rfl) (by omega)))))); exact rfl) | (apply o_buildSlice tyOk; (iterate 5 exact rfl); (focus (decide)); exact rfl; (focus (decide)); (focus (repeat (first | exact CatR.nil | exact CatR.last rfl | (apply CatR.one; exact rfl; exact rfl) | (apply CatR.agg; exact rfl)))); exact rfl) | (apply o_append tyOk; (iterate 5 exact rfl); (focus (exact ⟨by decide⟩)); (focus (exact up)); (focus (exact pk))) | apply thenS_normal | apply w_ret | ((with_reducible apply Sd.mk); (first | exact True.intro | omega | (constructor <;> first | omega | (unfold maxLen; omega)) | (unfold maxLen; omega))) | ((with_reducible apply Ln.mk); (first | rfl | exact ‹_› | omega | (simp [hl]; first | done | omega))) | ((with_reducible apply Wr.mk); (first | exact hq | exact IntWalk.i64_in _ (by omega) | exact IntWalk.u8_in _ (by omega) | exact IntWalk.u32_in _ (by omega) | exact IntWalk.u64_in _ (by omega) | exact IntKind.wrap_u8 _ | exact IntKind.wrap_u32 _ | rfl)) | ((with_reducible apply Ce.mk); (first | rfl | exact ‹_› | exact cell_recZ (fun _ => rfl) (by omega) (by decide) rfl | exact cell_rec (fun _ => rfl) (by omega) (by decide) rfl | exact cell_bytes (by omega) | exact cell_mapZ (by omega) | exact cell_map (by omega))) | ((with_reducible apply Se.mk); (first | (focus ((repeat (first | exact SetAt.zero | apply SetAt.succ)); done)) | exact hset | exact setAt_bytes (by omega) (by omega) | exact setAt_mapZ (by omega) | exact setAt_map (by omega))) | ((with_reducible apply Pu.mk); (first | exact putAt_all rfl | exact putAt_recZ (fun _ => rfl) (by omega) | exact putAt_rec (fun _ => rfl) (by omega))) | ((with_reducible apply Su.mk); (first | exact subAt_all | exact subAt_recZ (fun _ => rfl) (by omega) | exact subAt_rec (fun _ => rfl) (by omega))) | exact True.intro | intro A | exact rfl)
  all_goals first
    | exact ho
    | (exfalso; omega)
    | (apply s_fin; (exact (show ResS _ _ _ _ [_] from (res_cell tyOk rfl rfl rfl (by exact pk) (by first | rfl | exact ‹_› | omega | (simp ; first | done | omega)) (by first | rfl | exact ‹_› | omega | (simp ; first | done | omega)) trivial))); (focus (exact ⟨A, rfl, rfl⟩)); (focus (repeat (first | with_reducible exact Take.nil | with_reducible apply Take.c | with_reducible apply Take.drop))))
    | trace_state
theorem fresh_out {e : Enc} {z b : Int} (hf : fresh e z b = false) : (ebit e z b).out = e.out := by
  unfold fresh carries at hf
  simp only [Bool.or_eq_false_iff, decide_eq_false_iff_not] at hf
  unfold ebit
  rw [norm_end hf.2]
  unfold estep
  split
  · rfl
  · rw [if_neg (fun k => hf.1 ⟨‹_›, k⟩)]
theorem tfr_out {v : Int} : ∀ (k : Nat) {t : List Int} {e : Enc} {j : Nat}, tfr v k t e j = false → (tenc v k t e j).2.out = e.out
  | 0, _, _, _, _ => rfl
  | k + 1, t, e, j, h => by
    have h : (fresh e t[j]! (v / 2 ^ k % 2) || tfr v k (t.set j (adp t[j]! (v / 2 ^ k % 2))) (ebit e t[j]! (v / 2 ^ k % 2)) (2 * j + (v / 2 ^ k % 2).toNat)) = false := h
    rw [Bool.or_eq_false_iff] at h
    exact (tfr_out k h.2).trans (fresh_out h.1)
/-- The reference's model of bytes writes a byte: no new bytes of the encoder, or new ones. -/
theorem rEncByte_old (P : List Int) (c v : Int) (e : Enc) (w : Value) (C : Nat) (ts : List Value) (h h1 : SH) (hp : Pick h C ⟨ts, false⟩ h1) (hb : BTs h P 8 ts) (hv : RO h e.out w) (hP : P.length = 2048) (hc0 : 0 ≤ c ∧ c ≤ 255) (hv0 : 0 ≤ v ∧ v ≤ 255) (hok : EncOk 900000 e)
    (hfr : tfr v 8 (bsel P (c / 32).toNat) e 1 = false) :
    (benc P c e v).2.out = e.out ∧ SRun Try.prog 108 [reV w e.low e.size, mbV C c, Y v] h fun r q =>
      ∃ B C', r = .tuple ⟨[reV w (benc P c e v).2.low (benc P c e v).2.size, mbV C' v]⟩ ∧ q = (C', ⟨ts.set (c / 32).toNat (tsl B), false⟩) :: (B, ⟨nodes (tenc v 8 (bsel P (c / 32).toNat) e 1).1, false⟩) :: h := by
  have hk : (c / 32).toNat < 8 := by omega
  obtain ⟨B0, h3, hts, hp3⟩ := hb.2 _ hk
  have hq := quo32 hc0
  have hlen := bsel_len hP hk
  have hT := rTEnc_any 8 (bsel P (c / 32).toNat) v e w B0
  have ho : (benc P c e v).2 = (tenc v 8 (bsel P (c / 32).toNat) e 1).2 := rfl
  rw [ho]
  have hout := tfr_out 8 hfr
  rw [hfr, hlen] at hT
  generalize tenc v 8 (bsel P (c / 32).toNat) e 1 = T at *
  obtain ⟨t2, e2⟩ := T
  dsimp only at *
  refine ⟨hout, ?_⟩
  have hE1 : ∀ h h1, Pick h B0 ⟨nodes (bsel P (c / 32).toNat), false⟩ h1 → RO h e.out w → SRun Try.prog 107 [reV w e.low e.size, tsl B0, I v] h fun r q => ∃ B, r = .tuple ⟨[reV w e2.low e2.size, tsl B]⟩ ∧ q = (B, ⟨nodes t2, false⟩) :: h :=
    fun h h1 hp hr => (hT h h1 hp hr rfl (by decide) hok).mono fun r q ⟨B, w', qo, g1, g2, g3⟩ => by
      generalize e2.out = o2 at g2
      cases g2
      exact ⟨B, g1, g3⟩
  have hcl : ts[0 + (c / 32).toNat * 1]? = some (tsl B0) := by rw [Nat.zero_add, Nat.mul_one]; exact hts
  have hW := fun B h h2 hp => rwith_any C B c v ts h h2 hp hb.1 (old_one hb.old) hc0
  rcases id hv with ⟨e0, rfl⟩ | ⟨A1, p2, rfl, hp4⟩
  all_goals
    refine w_body3 Try.func108 rfl rfl ?_
    repeat' (first | apply w_seq | apply w_region | apply o_nil | (apply w_draw; (focus (kernel_rfl)); (focus (kernel_rfl))) | (apply o_g tyOk; exact rfl; exact rfl) | (apply o_ar tyOk; exact rfl; exact rfl) | (apply o_load tyOk; (iterate 3 exact rfl); (focus (exact pk))) | (apply o_loads tyOk; (iterate 3 exact rfl); (focus (exact pk))) | (apply o_stores tyOk; (iterate 4 exact rfl); (focus (exact ⟨rfl⟩)); (focus (exact up))) | (apply o_alloc tyOk; iterate 5 exact rfl) | (apply o_box (tt := tyT); iterate 5 exact rfl) | (apply o_callE1; (iterate 4 exact rfl); (focus (exact ⟨hE1 _ _ (.tail (.tail (.tail (.tail hp3)))) (hv.re (.drop (.drop (.drop (.drop .nil))))), by repeat (first | with_reducible exact Take.nil | with_reducible apply Take.c | with_reducible apply Take.drop)⟩)); (focus ((intro _; (first | exact List.Perm.refl _ | (simp; done) | exact List.Perm.swap _ _ _)))); (focus ((intro A1 A2 ρ D e1 d1 hρ hD; refine ⟨?_, ?_⟩; (focus (repeat (first | exact VR.const rfl | exact VRs.set (VRs.old hρ hD (hb.re (.drop (.drop (.drop (.drop (.drop (.drop .nil))))))).old) (VR.slc' (rho_pick hρ (.tail .head)) (dom_pick hD (.tail .head))) | (apply VR.ptr'; (focus (first | exact e1 | exact e2 | exact e3 | ((apply rho_pick hρ); (exact pk)))); (focus (first | exact d1 | exact d2 | exact d3 | ((apply dom_pick hD); (exact pk))))) | (apply VR.slc'; (focus (first | exact e1 | exact e2 | exact e3 | ((apply rho_pick hρ); (exact pk)))); (focus (first | exact d1 | exact d2 | exact d3 | ((apply dom_pick hD); (exact pk))))) | exact VR.sdead | apply VRs.tuple | apply VRs.agg | exact VRs.nil | ((apply VRs.const); (focus (first | exact bytesV_const _ | exact map_const (fun _ => rfl) | exact recs_const (fun _ v hv => by simp only [List.mem_cons, List.not_mem_nil, or_false] at hv; rcases hv with rfl | rfl | rfl | rfl | rfl <;> rfl)))) | apply VRs.cons))); (focus (repeat (first | exact SHR.nil | ((apply SHR.same); (focus (intro x hx; (repeat (first | exact hx | apply List.mem_cons_of_mem)); done))) | ((apply SHR.keep); (focus ((repeat (first | with_reducible exact List.mem_cons_self | apply List.mem_cons_of_mem)); done))) | (apply SHR.cons; (focus (first | exact e1 | exact e2 | exact e3 | ((apply rho_pick hρ); (exact pk)))); (focus (repeat (first | exact VR.const rfl | exact VRs.set (VRs.old hρ hD (hb.re (.drop (.drop (.drop (.drop (.drop (.drop .nil))))))).old) (VR.slc' (rho_pick hρ (.tail .head)) (dom_pick hD (.tail .head))) | (apply VR.ptr'; (focus (first | exact e1 | exact e2 | exact e3 | ((apply rho_pick hρ); (exact pk)))); (focus (first | exact d1 | exact d2 | exact d3 | ((apply dom_pick hD); (exact pk))))) | (apply VR.slc'; (focus (first | exact e1 | exact e2 | exact e3 | ((apply rho_pick hρ); (exact pk)))); (focus (first | exact d1 | exact d2 | exact d3 | ((apply dom_pick hD); (exact pk))))) | exact VR.sdead | apply VRs.tuple | apply VRs.agg | exact VRs.nil | ((apply VRs.const); (focus (first | exact bytesV_const _ | exact map_const (fun _ => rfl) | exact recs_const (fun _ v hv => by simp only [List.mem_cons, List.not_mem_nil, or_false] at hv; rcases hv with rfl | rfl | rfl | rfl | rfl <;> rfl)))) | apply VRs.cons))))))))))) | (apply o_callE1; (iterate 4 exact rfl); (focus (exact ⟨hW _ _ _ (.tail (.tail (.tail (.tail (.tail (.tail hp)))))), by repeat (first | with_reducible exact Take.nil | with_reducible apply Take.c | with_reducible apply Take.drop)⟩)); (focus ((intro _; (first | exact List.Perm.refl _ | (simp; done) | exact List.Perm.swap _ _ _)))); (focus ((intro A1 A2 ρ D e1 d1 hρ hD; refine ⟨?_, ?_⟩; (focus (repeat (first | exact VR.const rfl | exact VRs.set (VRs.old hρ hD (hb.re (.drop (.drop (.drop (.drop (.drop (.drop .nil))))))).old) (VR.slc' (rho_pick hρ (.tail .head)) (dom_pick hD (.tail .head))) | (apply VR.ptr'; (focus (first | exact e1 | exact e2 | exact e3 | ((apply rho_pick hρ); (exact pk)))); (focus (first | exact d1 | exact d2 | exact d3 | ((apply dom_pick hD); (exact pk))))) | (apply VR.slc'; (focus (first | exact e1 | exact e2 | exact e3 | ((apply rho_pick hρ); (exact pk)))); (focus (first | exact d1 | exact d2 | exact d3 | ((apply dom_pick hD); (exact pk))))) | exact VR.sdead | apply VRs.tuple | apply VRs.agg | exact VRs.nil | ((apply VRs.const); (focus (first | exact bytesV_const _ | exact map_const (fun _ => rfl) | exact recs_const (fun _ v hv => by simp only [List.mem_cons, List.not_mem_nil, or_false] at hv; rcases hv with rfl | rfl | rfl | rfl | rfl <;> rfl)))) | apply VRs.cons))); (focus (repeat (first | exact SHR.nil | ((apply SHR.same); (focus (intro x hx; (repeat (first | exact hx | apply List.mem_cons_of_mem)); done))) | ((apply SHR.keep); (focus ((repeat (first | with_reducible exact List.mem_cons_self | apply List.mem_cons_of_mem)); done))) | (apply SHR.cons; (focus (first | exact e1 | exact e2 | exact e3 | ((apply rho_pick hρ); (exact pk)))); (focus (repeat (first | exact VR.const rfl | exact VRs.set (VRs.old hρ hD (hb.re (.drop (.drop (.drop (.drop (.drop (.drop .nil))))))).old) (VR.slc' (rho_pick hρ (.tail .head)) (dom_pick hD (.tail .head))) | (apply VR.ptr'; (focus (first | exact e1 | exact e2 | exact e3 | ((apply rho_pick hρ); (exact pk)))); (focus (first | exact d1 | exact d2 | exact d3 | ((apply dom_pick hD); (exact pk))))) | (apply VR.slc'; (focus (first | exact e1 | exact e2 | exact e3 | ((apply rho_pick hρ); (exact pk)))); (focus (first | exact d1 | exact d2 | exact d3 | ((apply dom_pick hD); (exact pk))))) | exact VR.sdead | apply VRs.tuple | apply VRs.agg | exact VRs.nil | ((apply VRs.const); (focus (first | exact bytesV_const _ | exact map_const (fun _ => rfl) | exact recs_const (fun _ v hv => by simp only [List.mem_cons, List.not_mem_nil, or_false] at hv; rcases hv with rfl | rfl | rfl | rfl | rfl <;> rfl)))) | apply VRs.cons))))))))))) | apply thenS_normal | apply w_ret | ((with_reducible apply Sd.mk); (first | exact True.intro | omega | (constructor <;> first | omega | (unfold maxLen; omega)) | (unfold maxLen; omega))) | ((with_reducible apply Ln.mk); (first | rfl | exact ‹_› | omega | (simp [hb.1]; first | done | omega))) | ((with_reducible apply Wr.mk); (first | exact hq | exact IntWalk.i64_in _ (by omega) | exact IntWalk.u8_in _ (by omega) | exact IntWalk.u32_in _ (by omega) | exact IntWalk.u64_in _ (by omega) | exact IntKind.wrap_u8 _ | exact IntKind.wrap_u32 _ | rfl)) | ((with_reducible apply Ce.mk); (first | rfl | exact ‹_› | exact hcl | exact cell_recZ (fun _ => rfl) (by omega) (by decide) rfl | exact cell_rec (fun _ => rfl) (by omega) (by decide) rfl | exact cell_bytes (by omega) | exact cell_mapZ (by omega) | exact cell_map (by omega))) | ((with_reducible apply Pu.mk); (first | exact putAt_all rfl | exact putAt_recZ (fun _ => rfl) (by omega) | exact putAt_rec (fun _ => rfl) (by omega))) | ((with_reducible apply Su.mk); (first | exact subAt_all | exact subAt_recZ (fun _ => rfl) (by omega) | exact subAt_rec (fun _ => rfl) (by omega))) | exact True.intro | refine Rc.mk ⟨_, _, pk, ?_⟩ | exact Or.inl rfl | apply And.intro | apply Or.inr | intro A | exact rfl)
    rename_i E0 D0 R0 R1 B A2
    all_goals first
      | (apply s_fin; (exact (show ResS _ _ _ _ [_, _] from (res_cell tyOk rfl rfl rfl (by exact pk) (by first | rfl | exact ‹_› | omega | (simp [hb.1]; first | done | omega)) (by first | rfl | exact ‹_› | omega | (simp [hb.1]; first | done | omega)) (res_cell tyOk rfl rfl rfl (by exact pk) (by first | rfl | exact ‹_› | omega | (simp [hb.1]; first | done | omega)) (by first | rfl | exact ‹_› | omega | (simp [hb.1]; first | done | omega)) trivial)))); (focus (exact ⟨B, A, rfl, rfl⟩)); (focus (repeat (first | with_reducible exact Take.nil | with_reducible apply Take.c | with_reducible apply Take.drop))))
      | trace_state
theorem rEncByte_new (P : List Int) (c v : Int) (e : Enc) (w : Value) (C : Nat) (ts : List Value) (h h1 : SH) (hp : Pick h C ⟨ts, false⟩ h1) (hb : BTs h P 8 ts) (hv : RO h e.out w) (hP : P.length = 2048) (hc0 : 0 ≤ c ∧ c ≤ 255) (hv0 : 0 ≤ v ∧ v ≤ 255) (hok : EncOk 900000 e)
    (hfr : tfr v 8 (bsel P (c / 32).toNat) e 1 = true) :
    SRun Try.prog 108 [reV w e.low e.size, mbV C c, Y v] h fun r q =>
      ∃ O B C', r = .tuple ⟨[reV (gsl O 0 (benc P c e v).2.out.length (benc P c e v).2.out.length 1) (benc P c e v).2.low (benc P c e v).2.size, mbV C' v]⟩ ∧
        q = (O, ⟨bytesV (benc P c e v).2.out, false⟩) :: (B, ⟨nodes (tenc v 8 (bsel P (c / 32).toNat) e 1).1, false⟩) :: (C', ⟨ts.set (c / 32).toNat (tsl B), false⟩) :: h := by
  have hk : (c / 32).toNat < 8 := by omega
  obtain ⟨B0, h3, hts, hp3⟩ := hb.2 _ hk
  have hq := quo32 hc0
  have hlen := bsel_len hP hk
  have hT := rTEnc_any 8 (bsel P (c / 32).toNat) v e w B0
  have ho : (benc P c e v).2 = (tenc v 8 (bsel P (c / 32).toNat) e 1).2 := rfl
  rw [ho]
  rw [hfr, hlen] at hT
  generalize tenc v 8 (bsel P (c / 32).toNat) e 1 = T at *
  obtain ⟨t2, e2⟩ := T
  dsimp only at *
  have hE2 : ∀ h h1, Pick h B0 ⟨nodes (bsel P (c / 32).toNat), false⟩ h1 → RO h e.out w → SRun Try.prog 107 [reV w e.low e.size, tsl B0, I v] h fun r q => ∃ B O, r = .tuple ⟨[reV (gsl O 0 e2.out.length e2.out.length 1) e2.low e2.size, tsl B]⟩ ∧ q = (B, ⟨nodes t2, false⟩) :: (O, ⟨bytesV e2.out, false⟩) :: h :=
    fun h h1 hp hr => (hT h h1 hp hr rfl (by decide) hok).mono fun r q ⟨B, w', qo, g1, g2, g3⟩ => by
      cases g2 with
      | new o O => exact ⟨B, O, g1, g3⟩
  have hcl : ts[0 + (c / 32).toNat * 1]? = some (tsl B0) := by rw [Nat.zero_add, Nat.mul_one]; exact hts
  have hW := fun B h h2 hp => rwith_any C B c v ts h h2 hp hb.1 (old_one hb.old) hc0
  rcases id hv with ⟨e0, rfl⟩ | ⟨A1, p2, rfl, hp4⟩
  all_goals
    refine w_body3 Try.func108 rfl rfl ?_
    repeat' (first | apply w_seq | apply w_region | apply o_nil | (apply w_draw; (focus (kernel_rfl)); (focus (kernel_rfl))) | (apply o_g tyOk; exact rfl; exact rfl) | (apply o_ar tyOk; exact rfl; exact rfl) | (apply o_load tyOk; (iterate 3 exact rfl); (focus (exact pk))) | (apply o_loads tyOk; (iterate 3 exact rfl); (focus (exact pk))) | (apply o_stores tyOk; (iterate 4 exact rfl); (focus (exact ⟨rfl⟩)); (focus (exact up))) | (apply o_alloc tyOk; iterate 5 exact rfl) | (apply o_box (tt := tyT); iterate 5 exact rfl) | (apply o_callE2; (iterate 4 exact rfl); (focus (exact ⟨hE2 _ _ (.tail (.tail (.tail (.tail hp3)))) (hv.re (.drop (.drop (.drop (.drop .nil))))), by repeat (first | with_reducible exact Take.nil | with_reducible apply Take.c | with_reducible apply Take.drop)⟩)); (focus ((intro _ _; (first | exact List.Perm.refl _ | (simp; done) | exact List.Perm.swap _ _ _)))); (focus ((intro A1 A2 B1 B2 ρ D e1 e2 d1 d2 hρ hD; refine ⟨?_, ?_⟩; (focus (repeat (first | exact VR.const rfl | exact VRs.set (VRs.old hρ hD (hb.re (.drop (.drop (.drop (.drop (.drop (.drop (.drop .nil)))))))).old) (VR.slc' (rho_pick hρ (.tail .head)) (dom_pick hD (.tail .head))) | (apply VR.ptr'; (focus (first | exact e1 | exact e2 | exact e3 | ((apply rho_pick hρ); (exact pk)))); (focus (first | exact d1 | exact d2 | exact d3 | ((apply dom_pick hD); (exact pk))))) | (apply VR.slc'; (focus (first | exact e1 | exact e2 | exact e3 | ((apply rho_pick hρ); (exact pk)))); (focus (first | exact d1 | exact d2 | exact d3 | ((apply dom_pick hD); (exact pk))))) | exact VR.sdead | apply VRs.tuple | apply VRs.agg | exact VRs.nil | ((apply VRs.const); (focus (first | exact bytesV_const _ | exact map_const (fun _ => rfl) | exact recs_const (fun _ v hv => by simp only [List.mem_cons, List.not_mem_nil, or_false] at hv; rcases hv with rfl | rfl | rfl | rfl | rfl <;> rfl)))) | apply VRs.cons))); (focus (repeat (first | exact SHR.nil | ((apply SHR.same); (focus (intro x hx; (repeat (first | exact hx | apply List.mem_cons_of_mem)); done))) | ((apply SHR.keep); (focus ((repeat (first | with_reducible exact List.mem_cons_self | apply List.mem_cons_of_mem)); done))) | (apply SHR.cons; (focus (first | exact e1 | exact e2 | exact e3 | ((apply rho_pick hρ); (exact pk)))); (focus (repeat (first | exact VR.const rfl | exact VRs.set (VRs.old hρ hD (hb.re (.drop (.drop (.drop (.drop (.drop (.drop (.drop .nil)))))))).old) (VR.slc' (rho_pick hρ (.tail .head)) (dom_pick hD (.tail .head))) | (apply VR.ptr'; (focus (first | exact e1 | exact e2 | exact e3 | ((apply rho_pick hρ); (exact pk)))); (focus (first | exact d1 | exact d2 | exact d3 | ((apply dom_pick hD); (exact pk))))) | (apply VR.slc'; (focus (first | exact e1 | exact e2 | exact e3 | ((apply rho_pick hρ); (exact pk)))); (focus (first | exact d1 | exact d2 | exact d3 | ((apply dom_pick hD); (exact pk))))) | exact VR.sdead | apply VRs.tuple | apply VRs.agg | exact VRs.nil | ((apply VRs.const); (focus (first | exact bytesV_const _ | exact map_const (fun _ => rfl) | exact recs_const (fun _ v hv => by simp only [List.mem_cons, List.not_mem_nil, or_false] at hv; rcases hv with rfl | rfl | rfl | rfl | rfl <;> rfl)))) | apply VRs.cons))))))))))) | (apply o_callE1; (iterate 4 exact rfl); (focus (exact ⟨hW _ _ _ (.tail (.tail (.tail (.tail (.tail (.tail (.tail hp))))))), by repeat (first | with_reducible exact Take.nil | with_reducible apply Take.c | with_reducible apply Take.drop)⟩)); (focus ((intro _; (first | exact List.Perm.refl _ | (simp; done) | exact List.Perm.swap _ _ _)))); (focus ((intro A1 A2 ρ D e1 d1 hρ hD; refine ⟨?_, ?_⟩; (focus (repeat (first | exact VR.const rfl | exact VRs.set (VRs.old hρ hD (hb.re (.drop (.drop (.drop (.drop (.drop (.drop (.drop .nil)))))))).old) (VR.slc' (rho_pick hρ (.tail .head)) (dom_pick hD (.tail .head))) | (apply VR.ptr'; (focus (first | exact e1 | exact e2 | exact e3 | ((apply rho_pick hρ); (exact pk)))); (focus (first | exact d1 | exact d2 | exact d3 | ((apply dom_pick hD); (exact pk))))) | (apply VR.slc'; (focus (first | exact e1 | exact e2 | exact e3 | ((apply rho_pick hρ); (exact pk)))); (focus (first | exact d1 | exact d2 | exact d3 | ((apply dom_pick hD); (exact pk))))) | exact VR.sdead | apply VRs.tuple | apply VRs.agg | exact VRs.nil | ((apply VRs.const); (focus (first | exact bytesV_const _ | exact map_const (fun _ => rfl) | exact recs_const (fun _ v hv => by simp only [List.mem_cons, List.not_mem_nil, or_false] at hv; rcases hv with rfl | rfl | rfl | rfl | rfl <;> rfl)))) | apply VRs.cons))); (focus (repeat (first | exact SHR.nil | ((apply SHR.same); (focus (intro x hx; (repeat (first | exact hx | apply List.mem_cons_of_mem)); done))) | ((apply SHR.keep); (focus ((repeat (first | with_reducible exact List.mem_cons_self | apply List.mem_cons_of_mem)); done))) | (apply SHR.cons; (focus (first | exact e1 | exact e2 | exact e3 | ((apply rho_pick hρ); (exact pk)))); (focus (repeat (first | exact VR.const rfl | exact VRs.set (VRs.old hρ hD (hb.re (.drop (.drop (.drop (.drop (.drop (.drop (.drop .nil)))))))).old) (VR.slc' (rho_pick hρ (.tail .head)) (dom_pick hD (.tail .head))) | (apply VR.ptr'; (focus (first | exact e1 | exact e2 | exact e3 | ((apply rho_pick hρ); (exact pk)))); (focus (first | exact d1 | exact d2 | exact d3 | ((apply dom_pick hD); (exact pk))))) | (apply VR.slc'; (focus (first | exact e1 | exact e2 | exact e3 | ((apply rho_pick hρ); (exact pk)))); (focus (first | exact d1 | exact d2 | exact d3 | ((apply dom_pick hD); (exact pk))))) | exact VR.sdead | apply VRs.tuple | apply VRs.agg | exact VRs.nil | ((apply VRs.const); (focus (first | exact bytesV_const _ | exact map_const (fun _ => rfl) | exact recs_const (fun _ v hv => by simp only [List.mem_cons, List.not_mem_nil, or_false] at hv; rcases hv with rfl | rfl | rfl | rfl | rfl <;> rfl)))) | apply VRs.cons))))))))))) | apply thenS_normal | apply w_ret | ((with_reducible apply Sd.mk); (first | exact True.intro | omega | (constructor <;> first | omega | (unfold maxLen; omega)) | (unfold maxLen; omega))) | ((with_reducible apply Ln.mk); (first | rfl | exact ‹_› | omega | (simp [hb.1]; first | done | omega))) | ((with_reducible apply Wr.mk); (first | exact hq | exact IntWalk.i64_in _ (by omega) | exact IntWalk.u8_in _ (by omega) | exact IntWalk.u32_in _ (by omega) | exact IntWalk.u64_in _ (by omega) | exact IntKind.wrap_u8 _ | exact IntKind.wrap_u32 _ | rfl)) | ((with_reducible apply Ce.mk); (first | rfl | exact ‹_› | exact hcl | exact cell_recZ (fun _ => rfl) (by omega) (by decide) rfl | exact cell_rec (fun _ => rfl) (by omega) (by decide) rfl | exact cell_bytes (by omega) | exact cell_mapZ (by omega) | exact cell_map (by omega))) | ((with_reducible apply Pu.mk); (first | exact putAt_all rfl | exact putAt_recZ (fun _ => rfl) (by omega) | exact putAt_rec (fun _ => rfl) (by omega))) | ((with_reducible apply Su.mk); (first | exact subAt_all | exact subAt_recZ (fun _ => rfl) (by omega) | exact subAt_rec (fun _ => rfl) (by omega))) | exact True.intro | refine Rc.mk ⟨_, _, pk, ?_⟩ | exact Or.inl rfl | apply And.intro | apply Or.inr | intro A | exact rfl)
    rename_i E0 D0 R0 R1 B O A2
    all_goals first
      | (apply s_fin; (exact (show ResS _ _ _ _ [_, _] from (res_cell tyOk rfl rfl rfl (by exact pk) (by first | rfl | exact ‹_› | omega | (simp ; first | done | omega)) (by first | rfl | exact ‹_› | omega | (simp ; first | done | omega)) (res_cell tyOk rfl rfl rfl (by exact pk) (by first | rfl | exact ‹_› | omega | (simp ; first | done | omega)) (by first | rfl | exact ‹_› | omega | (simp ; first | done | omega)) trivial)))); (focus (exact ⟨O, B, A, rfl, rfl⟩)); (focus (repeat (first | with_reducible exact Take.nil | with_reducible apply Take.c | with_reducible apply Take.drop))))
      | trace_state
/-- The reference's model of bytes reads a byte. -/
theorem rDecByte_any (P : List Int) (c : Int) (d : Dec) (C : Nat) (ts : List Value) (h h1 : SH) (hp : Pick h C ⟨ts, false⟩ h1) (hb : BTs h P 8 ts) (hP : P.length = 2048) (hc0 : 0 ≤ c ∧ c ≤ 255) (hok : DecOk d) :
    SRun Try.prog 82 [rdV d, mbV C c] h fun r q =>
      ∃ B C', r = .tuple ⟨[rdV (bdec P c d).2.1, mbV C' (bdec P c d).2.2, Y (bdec P c d).2.2]⟩ ∧ q = (C', ⟨ts.set (c / 32).toNat (tsl B), false⟩) :: (B, ⟨nodes (tdec 8 (bsel P (c / 32).toNat) d 1).1, false⟩) :: h := by
  have hk : (c / 32).toNat < 8 := by omega
  obtain ⟨B0, h3, hts, hp3⟩ := hb.2 _ hk
  have hq := quo32 hc0
  have hlen := bsel_len hP hk
  have hT := fun h h1 hp => rTDec_any 8 (bsel P (c / 32).toNat) d B0 h h1 hp hlen (by decide) hok
  have hbd := (tdec_ok (k := 8) (t := bsel P (c / 32).toNat) (j := 1) hok).2.2
  have h28 : (2 ^ 8 : Nat) = 256 := rfl
  rw [h28] at hbd
  unfold bdec
  rw [hlen] at hT
  generalize tdec 8 (bsel P (c / 32).toNat) d 1 = T at *
  obtain ⟨t2, d2, j⟩ := T
  dsimp only at *
  obtain ⟨v, hv⟩ : ∃ v, v = j - 256 := ⟨_, rfl⟩
  have e1 : (j : Int) - ((256 : Nat) : Int) = (v : Int) := by omega
  rw [← hv]
  rw [e1] at hT
  have hv8 : v ≤ 255 := by omega
  have hcl : ts[0 + (c / 32).toNat * 1]? = some (tsl B0) := by rw [Nat.zero_add, Nat.mul_one]; exact hts
  have hW := fun B h h2 hp => rwith_any C B c v ts h h2 hp hb.1 (old_one hb.old) hc0
  refine w_body2 Try.func82 rfl rfl ?_
  repeat' (first | apply w_seq | apply w_region | apply o_nil | (apply w_draw; (focus (kernel_rfl)); (focus (kernel_rfl))) | (apply o_g tyOk; exact rfl; exact rfl) | (apply o_ar tyOk; exact rfl; exact rfl) | (apply o_load tyOk; (iterate 3 exact rfl); (focus (exact pk))) | (apply o_loads tyOk; (iterate 3 exact rfl); (focus (exact pk))) | (apply o_stores tyOk; (iterate 4 exact rfl); (focus (exact ⟨rfl⟩)); (focus (exact up))) | (apply o_alloc tyOk; iterate 5 exact rfl) | (apply o_box (tt := tyT); iterate 5 exact rfl) | (apply o_callE1; (iterate 4 exact rfl); (focus (exact ⟨hT _ _ (.tail (.tail (.tail (.tail hp3)))), by repeat (first | with_reducible exact Take.nil | with_reducible apply Take.c | with_reducible apply Take.drop)⟩)); (focus ((intro _; (first | exact List.Perm.refl _ | (simp; done) | exact List.Perm.swap _ _ _)))); (focus ((intro A1 A2 ρ D e1 d1 hρ hD; refine ⟨?_, ?_⟩; (focus (repeat (first | exact VR.const rfl | exact VRs.set (VRs.old hρ hD (hb.re (.drop (.drop (.drop (.drop (.drop (.drop .nil))))))).old) (VR.slc' (rho_pick hρ (.tail .head)) (dom_pick hD (.tail .head))) | (apply VR.ptr'; (focus (first | exact e1 | exact e2 | exact e3 | ((apply rho_pick hρ); (exact pk)))); (focus (first | exact d1 | exact d2 | exact d3 | ((apply dom_pick hD); (exact pk))))) | (apply VR.slc'; (focus (first | exact e1 | exact e2 | exact e3 | ((apply rho_pick hρ); (exact pk)))); (focus (first | exact d1 | exact d2 | exact d3 | ((apply dom_pick hD); (exact pk))))) | exact VR.sdead | apply VRs.tuple | apply VRs.agg | exact VRs.nil | ((apply VRs.const); (focus (first | exact bytesV_const _ | exact map_const (fun _ => rfl) | exact recs_const (fun _ v hv => by simp only [List.mem_cons, List.not_mem_nil, or_false] at hv; rcases hv with rfl | rfl | rfl | rfl | rfl <;> rfl)))) | apply VRs.cons))); (focus (repeat (first | exact SHR.nil | ((apply SHR.same); (focus (intro x hx; (repeat (first | exact hx | apply List.mem_cons_of_mem)); done))) | ((apply SHR.keep); (focus ((repeat (first | with_reducible exact List.mem_cons_self | apply List.mem_cons_of_mem)); done))) | (apply SHR.cons; (focus (first | exact e1 | exact e2 | exact e3 | ((apply rho_pick hρ); (exact pk)))); (focus (repeat (first | exact VR.const rfl | exact VRs.set (VRs.old hρ hD (hb.re (.drop (.drop (.drop (.drop (.drop (.drop .nil))))))).old) (VR.slc' (rho_pick hρ (.tail .head)) (dom_pick hD (.tail .head))) | (apply VR.ptr'; (focus (first | exact e1 | exact e2 | exact e3 | ((apply rho_pick hρ); (exact pk)))); (focus (first | exact d1 | exact d2 | exact d3 | ((apply dom_pick hD); (exact pk))))) | (apply VR.slc'; (focus (first | exact e1 | exact e2 | exact e3 | ((apply rho_pick hρ); (exact pk)))); (focus (first | exact d1 | exact d2 | exact d3 | ((apply dom_pick hD); (exact pk))))) | exact VR.sdead | apply VRs.tuple | apply VRs.agg | exact VRs.nil | ((apply VRs.const); (focus (first | exact bytesV_const _ | exact map_const (fun _ => rfl) | exact recs_const (fun _ v hv => by simp only [List.mem_cons, List.not_mem_nil, or_false] at hv; rcases hv with rfl | rfl | rfl | rfl | rfl <;> rfl)))) | apply VRs.cons))))))))))) | (apply o_callE1; (iterate 4 exact rfl); (focus (exact ⟨hW _ _ _ (.tail (.tail (.tail (.tail (.tail (.tail hp)))))), by repeat (first | with_reducible exact Take.nil | with_reducible apply Take.c | with_reducible apply Take.drop)⟩)); (focus ((intro _; (first | exact List.Perm.refl _ | (simp; done) | exact List.Perm.swap _ _ _)))); (focus ((intro A1 A2 ρ D e1 d1 hρ hD; refine ⟨?_, ?_⟩; (focus (repeat (first | exact VR.const rfl | exact VRs.set (VRs.old hρ hD (hb.re (.drop (.drop (.drop (.drop (.drop (.drop .nil))))))).old) (VR.slc' (rho_pick hρ (.tail .head)) (dom_pick hD (.tail .head))) | (apply VR.ptr'; (focus (first | exact e1 | exact e2 | exact e3 | ((apply rho_pick hρ); (exact pk)))); (focus (first | exact d1 | exact d2 | exact d3 | ((apply dom_pick hD); (exact pk))))) | (apply VR.slc'; (focus (first | exact e1 | exact e2 | exact e3 | ((apply rho_pick hρ); (exact pk)))); (focus (first | exact d1 | exact d2 | exact d3 | ((apply dom_pick hD); (exact pk))))) | exact VR.sdead | apply VRs.tuple | apply VRs.agg | exact VRs.nil | ((apply VRs.const); (focus (first | exact bytesV_const _ | exact map_const (fun _ => rfl) | exact recs_const (fun _ v hv => by simp only [List.mem_cons, List.not_mem_nil, or_false] at hv; rcases hv with rfl | rfl | rfl | rfl | rfl <;> rfl)))) | apply VRs.cons))); (focus (repeat (first | exact SHR.nil | ((apply SHR.same); (focus (intro x hx; (repeat (first | exact hx | apply List.mem_cons_of_mem)); done))) | ((apply SHR.keep); (focus ((repeat (first | with_reducible exact List.mem_cons_self | apply List.mem_cons_of_mem)); done))) | (apply SHR.cons; (focus (first | exact e1 | exact e2 | exact e3 | ((apply rho_pick hρ); (exact pk)))); (focus (repeat (first | exact VR.const rfl | exact VRs.set (VRs.old hρ hD (hb.re (.drop (.drop (.drop (.drop (.drop (.drop .nil))))))).old) (VR.slc' (rho_pick hρ (.tail .head)) (dom_pick hD (.tail .head))) | (apply VR.ptr'; (focus (first | exact e1 | exact e2 | exact e3 | ((apply rho_pick hρ); (exact pk)))); (focus (first | exact d1 | exact d2 | exact d3 | ((apply dom_pick hD); (exact pk))))) | (apply VR.slc'; (focus (first | exact e1 | exact e2 | exact e3 | ((apply rho_pick hρ); (exact pk)))); (focus (first | exact d1 | exact d2 | exact d3 | ((apply dom_pick hD); (exact pk))))) | exact VR.sdead | apply VRs.tuple | apply VRs.agg | exact VRs.nil | ((apply VRs.const); (focus (first | exact bytesV_const _ | exact map_const (fun _ => rfl) | exact recs_const (fun _ v hv => by simp only [List.mem_cons, List.not_mem_nil, or_false] at hv; rcases hv with rfl | rfl | rfl | rfl | rfl <;> rfl)))) | apply VRs.cons))))))))))) | apply thenS_normal | apply w_ret | ((with_reducible apply Sd.mk); (first | exact True.intro | omega | (constructor <;> first | omega | (unfold maxLen; omega)) | (unfold maxLen; omega))) | ((with_reducible apply Ln.mk); (first | rfl | exact ‹_› | omega | (simp [hb.1]; first | done | omega))) | ((with_reducible apply Wr.mk); (first | exact hq | exact IntWalk.i64_in _ (by omega) | exact IntWalk.u8_in _ (by omega) | exact IntWalk.u32_in _ (by omega) | exact IntWalk.u64_in _ (by omega) | exact IntKind.wrap_u8 _ | exact IntKind.wrap_u32 _ | rfl)) | ((with_reducible apply Ce.mk); (first | rfl | exact ‹_› | exact hcl | exact cell_recZ (fun _ => rfl) (by omega) (by decide) rfl | exact cell_rec (fun _ => rfl) (by omega) (by decide) rfl | exact cell_bytes (by omega) | exact cell_mapZ (by omega) | exact cell_map (by omega))) | ((with_reducible apply Pu.mk); (first | exact putAt_all rfl | exact putAt_recZ (fun _ => rfl) (by omega) | exact putAt_rec (fun _ => rfl) (by omega))) | ((with_reducible apply Su.mk); (first | exact subAt_all | exact subAt_recZ (fun _ => rfl) (by omega) | exact subAt_rec (fun _ => rfl) (by omega))) | exact True.intro | refine Rc.mk ⟨_, _, pk, ?_⟩ | exact Or.inl rfl | apply And.intro | apply Or.inr | intro A | exact rfl)
  rename_i E0 D0 R0 R1 B A2
  all_goals first
    | (apply s_fin; (exact (show ResS _ _ _ _ [_, _, _] from (res_cell tyOk rfl rfl rfl (by exact pk) (by first | rfl | exact ‹_› | omega | (simp ; first | done | omega)) (by first | rfl | exact ‹_› | omega | (simp ; first | done | omega)) (res_cell tyOk rfl rfl rfl (by exact pk) (by first | rfl | exact ‹_› | omega | (simp ; first | done | omega)) (by first | rfl | exact ‹_› | omega | (simp ; first | done | omega)) ⟨rfl, trivial⟩)))); (focus (exact ⟨B, A, rfl, rfl⟩)); (focus (repeat (first | with_reducible exact Take.nil | with_reducible apply Take.c | with_reducible apply Take.drop))))
    | trace_state
end Go.Proofs.Ytgooffiipnkmiaa
end
section
set_option linter.unusedVariables false
set_option linter.unusedSimpArgs false
set_option maxRecDepth 4000
namespace Go.Proofs.Ytgooffiipnkmiaa
open Go.Gh Go.RowKit

theorem rFrom_any (k : Nat) (h : SH) (hk : k ≤ 8) : SRun Try.prog 80 [I k] h fun r q => r = I (vbnd k) ∧ q = h := by
  refine w_body1 Try.func80 rfl rfl ?_
  repeat' (first | apply w_seq | apply w_region | apply o_nil | (apply o_g tyOk; exact rfl; exact rfl) | apply thenS_normal | apply w_block | ((with_reducible apply Sd.mk); (first | exact True.intro | omega | (constructor <;> first | omega | (unfold maxLen; omega)) | (unfold maxLen; omega))))
  refine w_loop (S := Nat) (fun i => [(0, I k), (3, I (vbnd i)), (4, I ((i : Int) + 1))]) (fun _ => h) (fun i => i ≤ k) (fun i => k - i) 0 (Nat.zero_le _) (by repeat' (first | exact trivial | refine ⟨rfl, ?_⟩ | refine ⟨congrArg some ?_, ?_⟩)) (by repeat (first | with_reducible exact Take.nil | with_reducible apply Take.c | with_reducible apply Take.drop)) ?_
  intro i hi
  by_cases hik : i < k
  · have hsh := shl7 (i := i + 1) (by omega)
    have e : 7 * (((i + 1 : Nat)) : Int) = 7 * ((i : Int) + 1) := by omega
    rw [e] at hsh
    have hb := vbnd_in i (by omega)
    have hb2 := vbnd_in (i + 1) (by omega)
    have hst : vbnd (i + 1) = vbnd i + 2 ^ (7 * (i + 1)) := rfl
    rw [hst] at hb2
    generalize (2 : Int) ^ (7 * (i + 1)) = w at *
    repeat' (first | apply w_seq | apply w_region | apply o_nil | (apply o_g tyOk; exact rfl; exact rfl) | (apply o_ar tyOk; exact rfl; exact rfl) | (apply w_dT; exact rfl; (focus (first | exact ‹_› | with_reducible exact rfl | omega))) | apply thenS_normal | apply blockS_normal | apply w_skip | apply w_block | ((with_reducible apply Sd.mk); (first | exact True.intro | omega | (constructor <;> first | omega | (unfold maxLen; omega)) | (unfold maxLen; omega))) | ((with_reducible apply Wr.mk); (first | exact hsh | exact IntWalk.i64_in _ (by omega) | exact IntWalk.u8_in _ (by omega) | exact IntWalk.u32_in _ (by omega) | exact IntWalk.u64_in _ (by omega) | exact IntKind.wrap_u8 _ | exact IntKind.wrap_u32 _ | rfl)))
    all_goals first
      | (exfalso; omega)
      | exact ⟨i + 1, hik, by show k - (i + 1) < k - i; omega, ⟨rfl, congrArg some (congrArg (Value.int .i64) hst.symm), rfl, trivial⟩, (by repeat (first | with_reducible exact Take.nil | with_reducible apply Take.c | with_reducible apply Take.drop))⟩
      | trace_state
  · obtain rfl : i = k := by omega
    repeat' (first | apply w_seq | apply w_region | apply o_nil | (apply o_g tyOk; exact rfl; exact rfl) | (apply w_dF; exact rfl; (focus (first | exact ‹_› | with_reducible exact rfl | omega))) | apply thenS_normal | apply thenS_exit | apply blockS_exit | apply w_ret | apply w_exit | ((with_reducible apply Sd.mk); (first | exact True.intro | omega | (constructor <;> first | omega | (unfold maxLen; omega)) | (unfold maxLen; omega))))
    all_goals first
      | (exfalso; omega)
      | (apply s_fin; (exact (show ResS _ _ _ _ [_] from ⟨rfl, trivial⟩)); (focus (exact ⟨rfl, rfl⟩)); (focus (repeat (first | with_reducible exact Take.nil | with_reducible apply Take.c | with_reducible apply Take.drop))))
      | trace_state
theorem rSize_any (n : Int) (h : SH) (hn : 0 ≤ n) : SRun Try.prog 104 [I n] h fun r q => r = I ((vk n : Int) + 1) ∧ q = h := by
  obtain ⟨K, hK⟩ : ∃ K, vk n = K := ⟨_, rfl⟩
  rw [hK]
  refine w_body1 Try.func104 rfl rfl ?_
  repeat' (first | apply w_seq | apply w_region | apply o_nil | (apply o_g tyOk; exact rfl; exact rfl) | (apply w_dF; exact rfl; (focus (first | exact ‹_› | with_reducible exact rfl | omega))) | apply thenS_normal | apply w_skip | apply w_block | ((with_reducible apply Sd.mk); (first | exact True.intro | omega | (constructor <;> first | omega | (unfold maxLen; omega)) | (unfold maxLen; omega))))
  all_goals first | (exfalso; omega) | skip
  refine w_loop (S := Nat) (fun k => [(0, I n), (3, I k)]) (fun _ => h) (fun k => k ≤ 8 ∧ vks n (8 - k) k = K) (fun k => 8 - k) 0 ⟨Nat.zero_le _, hK⟩ (by repeat' (first | exact trivial | refine ⟨rfl, ?_⟩ | refine ⟨congrArg some ?_, ?_⟩)) (by repeat (first | with_reducible exact Take.nil | with_reducible apply Take.c | with_reducible apply Take.drop)) ?_
  intro k ⟨hk, he⟩
  by_cases h8 : k < 8
  · have hst : vks n (8 - k) k = if vbnd (k + 1) ≤ n then vks n (8 - (k + 1)) (k + 1) else k := by rw [show 8 - k = (8 - (k + 1)) + 1 by omega]; rfl
    have hB : ∀ h, SRun Try.prog 80 [I ((k : Int) + 1)] h fun r q => r = I (vbnd (k + 1)) ∧ q = h := fun h => rFrom_any (k + 1) h (by omega)
    rw [hst] at he
    generalize vbnd (k + 1) = w at *
    repeat' (first | apply w_seq | apply w_region | apply o_nil | (apply o_g tyOk; exact rfl; exact rfl) | (apply o_ar tyOk; exact rfl; exact rfl) | (apply o_call; exact rfl; exact rfl; (focus (first | exact rfl | assumption)); exact rfl; (focus (exact ⟨_, hB _, by repeat (first | with_reducible exact Take.nil | with_reducible apply Take.c | with_reducible apply Take.drop)⟩)); rintro _ _ ⟨rfl, rfl⟩) | (apply o_want; exact rfl; exact rfl) | (apply o_gT; (iterate 3 exact rfl); (focus (first | exact ‹_› | with_reducible exact rfl | omega))) | (apply w_if; exact rfl; all_goals intro hc) | apply thenS_normal | apply thenS_exit | apply blockS_normal | apply blockS_exit | apply w_skip | apply w_ret | apply w_exit | apply w_block | ((with_reducible apply Sd.mk); (first | exact True.intro | omega | (constructor <;> first | omega | (unfold maxLen; omega)) | (unfold maxLen; omega))) | ((with_reducible apply Wr.mk); (first | exact IntWalk.i64_in _ (by omega) | exact IntWalk.u8_in _ (by omega) | exact IntWalk.u32_in _ (by omega) | exact IntWalk.u64_in _ (by omega) | exact IntKind.wrap_u8 _ | exact IntKind.wrap_u32 _ | rfl)))
    all_goals first
      | (exfalso; omega)
      | (rw [if_pos (by omega)] at he; exact ⟨k + 1, ⟨h8, he⟩, by show 8 - (k + 1) < 8 - k; omega, (by repeat' (first | exact trivial | refine ⟨rfl, ?_⟩ | refine ⟨congrArg some ?_, ?_⟩)), (by repeat (first | with_reducible exact Take.nil | with_reducible apply Take.c | with_reducible apply Take.drop))⟩)
      | (rw [if_neg (by omega)] at he; rw [← he]; (apply s_fin; (exact (show ResS _ _ _ _ [_] from ⟨rfl, trivial⟩)); (focus (exact ⟨rfl, rfl⟩)); (focus (repeat (first | with_reducible exact Take.nil | with_reducible apply Take.c | with_reducible apply Take.drop)))))
      | trace_state
  · obtain rfl : k = 8 := by omega
    have he : 8 = K := he
    repeat' (first | apply w_seq | apply w_region | apply o_nil | (apply o_g tyOk; exact rfl; exact rfl) | (apply o_ar tyOk; exact rfl; exact rfl) | (apply o_skip; iterate 4 exact rfl) | (apply w_false; exact rfl) | apply thenS_normal | apply thenS_exit | apply blockS_exit | apply w_ret | apply w_exit | ((with_reducible apply Sd.mk); (first | exact True.intro | omega | (constructor <;> first | omega | (unfold maxLen; omega)) | (unfold maxLen; omega))) | ((with_reducible apply Wr.mk); (first | exact IntWalk.i64_in _ (by omega) | exact IntWalk.u8_in _ (by omega) | exact IntWalk.u32_in _ (by omega) | exact IntWalk.u64_in _ (by omega) | exact IntKind.wrap_u8 _ | exact IntKind.wrap_u32 _ | rfl)))
    all_goals first
      | (exfalso; omega)
      | (rw [← he]; (apply s_fin; (exact (show ResS _ _ _ _ [_] from ⟨rfl, trivial⟩)); (focus (exact ⟨rfl, rfl⟩)); (focus (repeat (first | with_reducible exact Take.nil | with_reducible apply Take.c | with_reducible apply Take.drop)))))
      | trace_state
/-- The head of a number. -/
theorem vhd_fin : ∀ k : Nat, k < 9 → ∀ m : Nat, m < 128 → (k < 8 → m < 2 ^ (7 - k)) → (k = 8 → m = 0) → vhd k (m : Int) = 256 - 2 ^ (8 - k) + (m : Int) ∧ 256 - 2 ^ (8 - k) + (m : Int) < 256 := by decide +kernel
theorem vbe_div : ∀ (k : Nat) (m : Int) (T : List UInt8), (vbe k m T).2 = m / 256 ^ k
  | 0, m, T => by show m = m / 256 ^ 0; rw [Int.pow_zero, Int.ediv_one]
  | k + 1, m, T => by
    show (vbe k (m / 256) (b8 (m % 256) :: T)).2 = _
    rw [vbe_div k, Int.pow_succ, Int.mul_comm, Int.ediv_ediv_of_nonneg (by decide)]
theorem vks_lt {n : Int} (f k : Nat) : vks n f k < k + f → n < vbnd (vks n f k + 1) := by
  induction f generalizing k with
  | zero => intro h; exact absurd h (Nat.lt_irrefl _)
  | succ f ih =>
    intro h
    by_cases g : vbnd (k + 1) ≤ n
    · rw [show vks n (f + 1) k = vks n f (k + 1) from if_pos g] at h ⊢
      exact ih (k + 1) (by omega)
    · rw [show vks n (f + 1) k = k from if_neg g]
      omega
theorem vbnd_step : ∀ k : Nat, k < 8 → vbnd (k + 1) = vbnd k + 2 ^ (7 - k) * 256 ^ k := by decide
theorem vhd_num {n : Int} (h0 : 0 ≤ n) (h : n ≤ 9223372036854775807) : vhd (vk n) (vbe (vk n) (n - vbnd (vk n)) []).2 = 256 - 2 ^ (8 - vk n) + (vbe (vk n) (n - vbnd (vk n)) []).2 ∧
    0 ≤ (vbe (vk n) (n - vbnd (vk n)) []).2 ∧ 256 - 2 ^ (8 - vk n) + (vbe (vk n) (n - vbnd (vk n)) []).2 < 256 ∧ (vbe (vk n) (n - vbnd (vk n)) []).2 < 128 := by
  obtain ⟨hk1, hk2⟩ := vk_ok h0
  have hlt : vk n < 8 → n < vbnd (vk n + 1) := fun g => vks_lt (n := n) 8 0 (by show vk n < 0 + 8; omega)
  rw [vbe_div]
  generalize hK : vk n = K at *
  have hm0 : 0 ≤ (n - vbnd K) / 256 ^ K := Int.ediv_nonneg (by omega) (Int.le_of_lt (Int.pow_pos (by decide)))
  have hmk : K < 8 → (n - vbnd K) / 256 ^ K < 2 ^ (7 - K) := fun g => by
    have := hlt g
    rw [vbnd_step K g] at this
    exact Int.ediv_lt_of_lt_mul (Int.pow_pos (by decide)) (by omega)
  have hm8 : K = 8 → (n - vbnd K) / 256 ^ K = 0 := fun g => by
    subst g
    exact Int.ediv_eq_zero_of_lt (by omega) (by have := (vbnd_in 8 (by decide)).1; have : (256 : Int) ^ 8 = 18446744073709551616 := rfl; omega)
  obtain ⟨m, hm⟩ := Int.eq_ofNat_of_zero_le hm0
  rw [hm] at hmk hm8 ⊢
  have hmk' : K < 8 → m < 2 ^ (7 - K) := fun g => by have := hmk g; have e : ((2 : Int) ^ (7 - K)) = ((2 ^ (7 - K) : Nat) : Int) := by simp
                                                     omega
  have hm128 : m < 128 := by
    by_cases g : K < 8
    · have := hmk' g
      have h2 : 2 ^ (7 - K) ≤ 2 ^ 7 := Nat.pow_le_pow_right (by decide) (by omega)
      have h3 : (2 ^ 7 : Nat) = 128 := rfl
      omega
    · have := hm8 (by omega); omega
  obtain ⟨g1, g2⟩ := vhd_fin K (by omega) m hm128 hmk' (fun g => by have := hm8 g; omega)
  exact ⟨g1, by omega, g2, by omega⟩
theorem w_rem256 {m : Int} (h : 0 ≤ m ∧ m ≤ 9223372036854775807) : IntKind.u8.wrap (m % 256) = m % 256 := IntWalk.u8_in _ (by omega)
theorem subAt1 {c : Int} (hc : 0 ≤ c ∧ c < 256) : SubAt [Y c] 0 (bytesV [b8 c]) := by
  rw [show bytesV [b8 c] = [Y c] by show [byteV (b8 c)] = _; unfold byteV; rw [b8_val hc]]
  exact subAt_all
theorem shl8K {k : Nat} (hk : k ≤ 8) : IntKind.i64.wrap (1 * 2 ^ (min (8 - (k : Int)).toNat IntKind.i64.bits)) = 2 ^ (8 - k) ∧ (1 : Int) ≤ 2 ^ (8 - k) ∧ (2 : Int) ^ (8 - k) ≤ 256 := by
  have : k = 0 ∨ k = 1 ∨ k = 2 ∨ k = 3 ∨ k = 4 ∨ k = 5 ∨ k = 6 ∨ k = 7 ∨ k = 8 := by omega
  rcases this with rfl | rfl | rfl | rfl | rfl | rfl | rfl | rfl | rfl <;> decide
theorem rNumber4_any (n : Int) (h : SH) (h0 : 0 ≤ n) (hn : n ≤ 9223372036854775807) : SRun Try.prog 68 [I n] h fun r q => r = S (vnum n) ∧ q = h := by
  obtain ⟨f1, f2, f3, f4⟩ := vhd_num h0 hn
  rw [show vnum n = b8 (vhd (vk n) (vbe (vk n) (n - vbnd (vk n)) []).2) :: (vbe (vk n) (n - vbnd (vk n)) []).1 from if_neg (by omega)]
  rw [f1]
  obtain ⟨hk1, hk2⟩ := vk_ok (n := n) (by omega)
  have hS := fun h => rSize_any n h (by omega)
  have hB := fun h => rFrom_any (vk n) h hk2
  have hbd := vbnd_in (vk n) hk2
  generalize vk n = K at *
  generalize vbnd K = w at *
  obtain ⟨R, hR⟩ : ∃ R, vbe K (n - w) [] = R := ⟨_, rfl⟩
  rw [hR] at f1 f2 f3 f4 ⊢
  have hK1 : IntKind.i64.wrap ((K : Int) + 1 - 1) = K := by rw [Int.add_sub_cancel]; exact IntWalk.i64_in _ (by omega)
  obtain ⟨hsh, hsh1, hsh2⟩ := shl8K hk2
  refine w_body1 Try.func68 rfl rfl ?_
  repeat' (first | apply w_seq | apply w_region | apply o_nil | (apply o_g tyOk; exact rfl; exact rfl) | (apply o_ar tyOk; exact rfl; exact rfl) | (apply o_call; exact rfl; exact rfl; (focus (first | exact rfl | assumption)); exact rfl; (focus (exact ⟨_, hS _, by repeat (first | with_reducible exact Take.nil | with_reducible apply Take.c | with_reducible apply Take.drop)⟩)); rintro _ _ ⟨rfl, rfl⟩) | (apply o_call; exact rfl; exact rfl; (focus (first | exact rfl | assumption)); exact rfl; (focus (exact ⟨_, hB _, by repeat (first | with_reducible exact Take.nil | with_reducible apply Take.c | with_reducible apply Take.drop)⟩)); rintro _ _ ⟨rfl, rfl⟩) | (apply w_dF; exact rfl; (focus (first | exact ‹_› | with_reducible exact rfl | omega))) | apply thenS_normal | apply w_skip | apply w_block | ((with_reducible apply Sd.mk); (first | exact True.intro | omega | (constructor <;> first | omega | (unfold maxLen; omega)) | (unfold maxLen; omega))) | ((with_reducible apply Wr.mk); (first | exact hK1 | exact IntWalk.i64_in _ (by omega) | exact IntWalk.u8_in _ (by omega) | exact IntWalk.u32_in _ (by omega) | exact IntWalk.u64_in _ (by omega) | exact IntKind.wrap_u8 _ | exact IntKind.wrap_u32 _ | rfl)))
  all_goals first | (exfalso; omega) | skip
  rename_i q0
  refine w_loop (S := Nat × Int × List UInt8) (fun x => [(0, I x.2.1), (3, I K), (4, S x.2.2), (5, I x.1)]) (fun _ => q0)
    (fun x => x.1 ≤ K ∧ x.2.2.length = x.1 ∧ (0 ≤ x.2.1 ∧ x.2.1 ≤ 9223372036854775807) ∧ vbe (K - x.1) x.2.1 x.2.2 = R) (fun x => K - x.1) (0, n - w, []) ⟨Nat.zero_le _, rfl, by dsimp only; omega, hR⟩ (by repeat' (first | exact trivial | refine ⟨rfl, ?_⟩ | refine ⟨congrArg some ?_, ?_⟩)) (by repeat (first | with_reducible exact Take.nil | with_reducible apply Take.c | with_reducible apply Take.drop)) ?_
  rintro ⟨i, m, T⟩ ⟨hi, hT, hm, he⟩
  dsimp only at hi hT hm he ⊢
  by_cases hiK : i < K
  · rw [show K - i = (K - (i + 1)) + 1 by omega] at he
    have hsb := subAt1 (c := m % 256) (by omega)
    have hw := w_rem256 hm
    repeat' (first | apply w_seq | apply w_region | apply o_nil | (apply o_g tyOk; exact rfl; exact rfl) | (apply o_ar tyOk; exact rfl; exact rfl) | (apply o_ex; exact rfl; exact rfl) | (apply o_buildSlice tyOk; (iterate 5 exact rfl); (focus (decide)); exact rfl; (focus (decide)); (focus (repeat (first | exact CatR.nil | exact CatR.last rfl | (apply CatR.one; exact rfl; exact rfl) | (apply CatR.agg; exact rfl)))); exact rfl) | (apply o_toString tyOk; (iterate 6 exact rfl); (focus (exact pk))) | (apply w_dT; exact rfl; (focus (first | exact ‹_› | with_reducible exact rfl | omega))) | apply thenS_normal | apply blockS_normal | apply w_skip | apply w_block | ((with_reducible apply Sd.mk); (first | exact True.intro | omega | (constructor <;> first | omega | (unfold maxLen; omega)) | (unfold maxLen; omega) | (simp only [List.length_singleton]; omega))) | ((with_reducible apply Ln.mk); (first | rfl | exact ‹_› | omega | (simp ; first | done | omega))) | ((with_reducible apply Wr.mk); (first | exact hw | exact w_quoI (by omega) (by omega) | exact IntWalk.i64_in _ (by omega) | exact IntWalk.u8_in _ (by omega) | exact IntWalk.u32_in _ (by omega) | exact IntWalk.u64_in _ (by omega) | exact IntKind.wrap_u8 _ | exact IntKind.wrap_u32 _ | rfl)) | ((with_reducible apply Ex.mk); (first | exact Int.tmod_eq_emod_of_nonneg (by omega) | rfl)) | ((with_reducible apply Su.mk); (first | exact hsb | exact subAt_all | exact subAt_recZ (fun _ => rfl) (by omega) | exact subAt_rec (fun _ => rfl) (by omega))) | exact True.intro | intro A | exact rfl)
    all_goals first
      | (exfalso; omega)
      | exact ⟨(i + 1, m / 256, b8 (m % 256) :: T), ⟨hiK, by simp [hT], by dsimp only; omega, he⟩, by show K - (i + 1) < K - i; omega, (by repeat' (first | exact trivial | refine ⟨rfl, ?_⟩ | refine ⟨congrArg some ?_, ?_⟩)), (by repeat (first | with_reducible exact Take.nil | with_reducible apply Take.c | with_reducible apply Take.drop))⟩
      | trace_state
  · obtain rfl : i = K := by omega
    rw [Nat.sub_self] at he
    have he : (T, m) = R := he
    rw [← he] at f2 f3 f4 ⊢
    dsimp only at f2 f3 f4 ⊢
    have hw : IntKind.u8.wrap (256 - 2 ^ (8 - i) + m) = 256 - 2 ^ (8 - i) + m := IntWalk.u8_in _ (by omega)
    have hsb := subAt1 (c := 256 - 2 ^ (8 - i) + m) (by omega)
    generalize (2 : Int) ^ (8 - i) = W at *
    repeat' (first | apply w_seq | apply w_region | apply o_nil | (apply o_g tyOk; exact rfl; exact rfl) | (apply o_ar tyOk; exact rfl; exact rfl) | (apply o_buildSlice tyOk; (iterate 5 exact rfl); (focus (decide)); exact rfl; (focus (decide)); (focus (repeat (first | exact CatR.nil | exact CatR.last rfl | (apply CatR.one; exact rfl; exact rfl) | (apply CatR.agg; exact rfl)))); exact rfl) | (apply o_toString tyOk; (iterate 6 exact rfl); (focus (exact pk))) | (apply w_dF; exact rfl; (focus (first | exact ‹_› | with_reducible exact rfl | omega))) | apply thenS_normal | apply thenS_exit | apply blockS_exit | apply w_ret | apply w_exit | ((with_reducible apply Sd.mk); (first | exact True.intro | omega | (constructor <;> first | omega | (unfold maxLen; omega)) | (unfold maxLen; omega) | (simp only [List.length_singleton]; omega))) | ((with_reducible apply Ln.mk); (first | rfl | exact ‹_› | omega | (simp ; first | done | omega))) | ((with_reducible apply Wr.mk); (first | exact hw | exact hsh | exact IntWalk.i64_in _ (by omega) | exact IntWalk.u8_in _ (by omega) | exact IntWalk.u32_in _ (by omega) | exact IntWalk.u64_in _ (by omega) | exact IntKind.wrap_u8 _ | exact IntKind.wrap_u32 _ | rfl)) | ((with_reducible apply Su.mk); (first | exact hsb | exact subAt_all | exact subAt_recZ (fun _ => rfl) (by omega) | exact subAt_rec (fun _ => rfl) (by omega))) | exact True.intro | intro A | exact rfl)
    all_goals first
      | (exfalso; omega)
      | (apply s_fin; (exact (show ResS _ _ _ _ [_] from ⟨rfl, trivial⟩)); (focus (exact ⟨rfl, rfl⟩)); (focus (repeat (first | with_reducible exact Take.nil | with_reducible apply Take.c | with_reducible apply Take.drop))))
      | trace_state
end Go.Proofs.Ytgooffiipnkmiaa
end
section
set_option linter.unusedVariables false
set_option linter.unusedSimpArgs false
set_option maxRecDepth 4000
namespace Go.Proofs.Ytgooffiipnkmiaa
open Go.Gh Go.RowKit

theorem lead_bit : ∀ f : Nat, f < 256 → ∀ k : Nat, k < 8 → (vb1 (f : Int) k ≠ 0 ↔ (f : Int) / 2 ^ (7 - k) % 2 = 1) := by decide +kernel
theorem low_fin : ∀ f : Nat, f < 256 → vlow (f : Int) (vlead (f : Int) 8 0) = (f : Int) - (256 - 2 ^ (8 - vlead (f : Int) 8 0)) := by decide +kernel
theorem vacc_big (l : List UInt8) (m : Nat) : ∀ (i : Nat) (v : Int), 0 ≤ v → v * 256 ^ m ≤ vacc l m i v := by
  induction m with
  | zero => intro i v h; show v * 256 ^ 0 ≤ v; rw [Int.pow_zero, Int.mul_one]; exact Int.le_refl _
  | succ m ih =>
    intro i v h
    have hb := bat_255 l (i : Int)
    have h1 := ih (i + 1) (v * 256 + bat l (i : Int)) (by omega)
    have hp : (0 : Int) < 256 ^ m := Int.pow_pos (by decide)
    have h2 := Int.mul_le_mul_of_nonneg_right (show v * 256 ≤ v * 256 + bat l (i : Int) by omega) (Int.le_of_lt hp)
    rw [Int.pow_succ, Int.mul_comm (256 ^ m) 256, ← Int.mul_assoc]
    exact Int.le_trans h2 h1
theorem one_le_256p (m : Nat) : (1 : Int) ≤ 256 ^ m := Int.pow_pos (by decide : (0 : Int) < 256)
theorem w_shr7 {f : Int} {k : Nat} (hk : k < 8) : f / 2 ^ (min (7 - (k : Int)).toNat IntKind.i64.bits) = f / 2 ^ (7 - k) := by
  rw [show (7 - (k : Int)).toNat = 7 - k by omega, show IntKind.i64.bits = 64 from rfl, Nat.min_eq_left (by omega)]
theorem rRead4_any (l : List UInt8) (h : SH) (hl : l.length ≤ 100000) : SRun Try.prog 39 [S l] h fun r q => r = .tuple #[I (vpeek l).1, I (vpeek l).2.1] ∧ q = h := by
  by_cases h0 : l.length = 0
  · obtain rfl : l = [] := List.length_eq_zero_iff.1 h0
    rw [show vpeek [] = (0, 0, false) from rfl]
    refine w_body1 Try.func39 rfl rfl ?_
    repeat' (first | apply w_seq | apply w_region | apply o_nil | (apply o_g tyOk; exact rfl; exact rfl) | (apply w_true; exact rfl) | apply thenS_normal | apply thenS_ret | apply w_ret | ((with_reducible apply Sd.mk); (first | exact True.intro | omega | (constructor <;> first | omega | (unfold maxLen; omega)) | (unfold maxLen; omega))))
    all_goals first
      | (exfalso; omega)
      | contradiction
      | (apply s_fin; (exact (show ResS _ _ _ _ [_, _] from ⟨rfl, ⟨rfl, trivial⟩⟩)); (focus (exact ⟨rfl, rfl⟩)); (focus (repeat (first | with_reducible exact Take.nil | with_reducible apply Take.c | with_reducible apply Take.drop))))
      | trace_state
  obtain ⟨f, hf⟩ : ∃ f, f = bat l 0 := ⟨_, rfl⟩
  have hf2 := bat_255 l 0
  rw [← hf] at hf2
  obtain ⟨fn, hfn⟩ := Int.eq_ofNat_of_zero_le hf2.1
  have hlow := low_fin fn (by omega)
  have hbit := lead_bit fn (by omega)
  rw [← hfn] at hlow hbit
  obtain ⟨K, hK⟩ : ∃ K, vlead f 8 0 = K := ⟨_, rfl⟩
  have hK8 := (vlead_le f 8 0).2
  rw [hK] at hlow hK8
  have hv : vpeek l = if l.length < K + 1 then (0, 0, false) else if 9223372036854775807 - vbnd K < vacc l K 1 (vlow f K) then (0, 0, false) else (vacc l K 1 (vlow f K) + vbnd K, (K : Int) + 1, true) := by
    unfold vpeek; rw [if_neg h0, ← hf, hK]
  rw [hv]
  have hcell : (bytesV l)[0]? = some (Y f) := by
    rw [hf]; exact cell_bytes (i := 0) (by omega)
  refine w_body1 Try.func39 rfl rfl ?_
  repeat' (first | apply w_seq | apply w_region | apply o_nil | (apply o_g tyOk; exact rfl; exact rfl) | (apply w_dF; exact rfl; (focus (first | exact ‹_› | with_reducible exact rfl | omega))) | apply thenS_normal | apply w_skip | apply w_block | ((with_reducible apply Sd.mk); (first | exact True.intro | omega | (constructor <;> first | omega | (unfold maxLen; omega)) | (unfold maxLen; omega))))
  all_goals first | contradiction | (exfalso; omega) | skip
  refine w_loop (S := Nat) (fun i => [(0, S l), (4, I i)]) (fun _ => h) (fun i => i ≤ 8 ∧ vlead f (8 - i) i = K) (fun i => 8 - i) 0 ⟨Nat.zero_le _, hK⟩ (by repeat' (first | exact trivial | refine ⟨rfl, ?_⟩ | refine ⟨congrArg some ?_, ?_⟩)) (by repeat (first | with_reducible exact Take.nil | with_reducible apply Take.c | with_reducible apply Take.drop)) ?_
  rintro i ⟨hi, he⟩
  by_cases hgo : i < 8 ∧ vb1 f i ≠ 0
  · obtain ⟨hg1, hg2⟩ := hgo
    have hst : vlead f (8 - i) i = vlead f (8 - (i + 1)) (i + 1) := by rw [show 8 - i = (8 - (i + 1)) + 1 by omega]; exact if_pos hg2
    rw [hst] at he
    have hg3 := (hbit i hg1).1 hg2
    have hx := w_shr7 (f := f) hg1
    have hcnd : (bat l 0 / 2 ^ (min (7 - (i : Int)).toNat IntKind.i64.bits)).tmod 2 = 1 := by
      rw [← hf, hx, Int.tmod_eq_emod_of_nonneg (Int.ediv_nonneg hf2.1 (Int.le_of_lt (Int.pow_pos (by decide))))]; exact hg3
    repeat' (first | apply w_seq | apply w_region | apply o_nil | (apply o_g tyOk; exact rfl; exact rfl) | (apply o_ar tyOk; exact rfl; exact rfl) | (apply o_ex; exact rfl; exact rfl) | (apply o_want; exact rfl; exact rfl) | (apply o_gT; (iterate 3 exact rfl); (focus (first | exact ‹_› | with_reducible exact rfl | omega | exact hcnd))) | (apply w_dT; exact rfl; (focus (first | exact ‹_› | with_reducible exact rfl | omega | exact hcnd))) | apply thenS_normal | apply blockS_normal | apply w_skip | apply w_block | ((with_reducible apply Sd.mk); (first | exact True.intro | omega | (constructor <;> first | omega | (unfold maxLen; omega)) | (unfold maxLen; omega))) | ((with_reducible apply Wr.mk); (first | exact IntWalk.i64_in _ (by omega) | exact IntWalk.u8_in _ (by omega) | exact IntWalk.u32_in _ (by omega) | exact IntWalk.u64_in _ (by omega) | exact IntKind.wrap_u8 _ | exact IntKind.wrap_u32 _ | rfl)) | ((with_reducible apply Ex.mk); (first | exact Int.tmod_eq_emod_of_nonneg (by omega) | rfl)))
    all_goals first
      | (exfalso; omega)
      | exact ⟨i + 1, ⟨hg1, he⟩, by show 8 - (i + 1) < 8 - i; omega, (by repeat' (first | exact trivial | refine ⟨rfl, ?_⟩ | refine ⟨congrArg some ?_, ?_⟩)), (by repeat (first | with_reducible exact Take.nil | with_reducible apply Take.c | with_reducible apply Take.drop))⟩
      | (exfalso; exact (by assumption : ¬ (_ = _)) hcnd)
      | trace_state
  · have hKi : i = K := by
      rw [← he]
      by_cases h8 : i < 8
      · have hz : ¬ vb1 f i ≠ 0 := fun g => hgo ⟨h8, g⟩
        rw [show 8 - i = (8 - (i + 1)) + 1 by omega]
        exact (if_neg hz).symm
      · rw [show 8 - i = 0 by omega]; rfl
    subst hKi
    have hcnd : i < 8 → ¬ (bat l 0 / 2 ^ (min (7 - (i : Int)).toNat IntKind.i64.bits)).tmod 2 = 1 := fun h8 g => by
      rw [← hf, w_shr7 h8, Int.tmod_eq_emod_of_nonneg (Int.ediv_nonneg hf2.1 (Int.le_of_lt (Int.pow_pos (by decide))))] at g
      exact hgo ⟨h8, (hbit i h8).2 g⟩
    obtain ⟨hsh, hsh1, hsh2⟩ := shl8K hi
    have hlo := (vlow_in f hi).1
    have hcap := (vlow_in f hi).2
    rw [hlow] at hlo hcap ⊢
    obtain ⟨W, hW⟩ : ∃ W, (2 : Int) ^ (8 - i) = W := ⟨_, rfl⟩
    rw [hW] at hsh hsh1 hsh2 hlo hcap hlow ⊢
    obtain ⟨R, hR⟩ : ∃ R, vacc l i 1 (f - (256 - W)) = R := ⟨_, rfl⟩
    have hbd := vbnd_in i hi
    have hBo := fun h => rFrom_any i h hi
    rw [hR]
    have hcl0 : (bytesV l)[0]? = some (Y f) := hcell
    repeat' (first | apply w_seq | apply w_region | apply o_nil | (apply w_draw; (focus (kernel_rfl)); (focus (kernel_rfl))) | (apply o_g tyOk; exact rfl; exact rfl) | (apply o_ar tyOk; exact rfl; exact rfl) | (apply o_ex; exact rfl; exact rfl) | (apply o_want; exact rfl; exact rfl) | (apply o_skip; iterate 4 exact rfl) | (apply o_guardT; (iterate 3 exact rfl); all_goals intro hc) | (apply w_false; exact rfl) | (apply w_dF; exact rfl; (focus (first | exact ‹_› | with_reducible exact rfl | omega | exact hcnd (by omega)))) | (apply w_if; exact rfl; all_goals intro hc) | apply thenS_normal | apply thenS_ret | apply thenS_exit | apply blockS_exit | apply w_skip | apply w_ret | apply w_exit | apply w_block | ((with_reducible apply Sd.mk); (first | exact True.intro | omega | (constructor <;> first | omega | (unfold maxLen; omega)) | (unfold maxLen; omega))) | ((with_reducible apply Wr.mk); (first | exact hsh | exact IntWalk.i64_in _ (by omega) | exact IntWalk.u8_in _ (by omega) | exact IntWalk.u32_in _ (by omega) | exact IntWalk.u64_in _ (by omega) | exact IntKind.wrap_u8 _ | exact IntKind.wrap_u32 _ | rfl)) | ((with_reducible apply Ex.mk); (first | exact Int.tmod_eq_emod_of_nonneg (by omega) | rfl)))
    all_goals first
      | (exfalso; omega)
      | (exfalso; exact hcnd (by omega) (by assumption))
      | (rw [if_pos (by omega)]; (apply s_fin; (exact (show ResS _ _ _ _ [_, _] from ⟨rfl, ⟨rfl, trivial⟩⟩)); (focus (exact ⟨rfl, rfl⟩)); (focus (repeat (first | with_reducible exact Take.nil | with_reducible apply Take.c | with_reducible apply Take.drop)))))
      | skip
    all_goals
      refine w_loop (S := Nat × Int) (fun x => [(0, S l), (4, I i), (5, I x.2), (6, I ((x.1 : Int) + 1))]) (fun _ => h) (fun x => x.1 ≤ i ∧ (0 ≤ x.2 ∧ x.2 ≤ 9223372036854775807) ∧ vacc l (i - x.1) (x.1 + 1) x.2 = R)
        (fun x => i - x.1) (0, bat l 0 - (256 - W)) ⟨Nat.zero_le _, by dsimp only; omega, by rw [← hf]; exact hR⟩ (by repeat' (first | exact trivial | refine ⟨rfl, ?_⟩ | refine ⟨congrArg some ?_, ?_⟩)) (by repeat (first | with_reducible exact Take.nil | with_reducible apply Take.c | with_reducible apply Take.drop)) ?_
      rintro ⟨j, v⟩ ⟨hj, hv0, he2⟩
      dsimp only at hj hv0 he2 ⊢
      by_cases hji : j < i
      · rw [show i - j = (i - (j + 1)) + 1 by omega] at he2
        have hb := bat_255 l ((j : Int) + 1)
        by_cases hbig : 36028797018963967 < v
        · have h1 := vacc_big l (i - (j + 1) + 1) (j + 1) v hv0.1
          rw [he2, Int.pow_succ] at h1
          have h2 := Int.mul_le_mul_of_nonneg_left (one_le_256p (i - (j + 1))) (show 0 ≤ v * 256 by omega)
          rw [Int.mul_comm (256 ^ (i - (j + 1))) 256, ← Int.mul_assoc] at h1
          repeat' (first | apply w_seq | apply w_region | apply o_nil | (apply o_g tyOk; exact rfl; exact rfl) | (apply w_dT; exact rfl; (focus (first | exact ‹_› | with_reducible exact rfl | omega))) | apply thenS_normal | apply thenS_ret | apply blockS_ret | apply w_skip | apply w_ret | apply w_block | ((with_reducible apply Sd.mk); (first | exact True.intro | omega | (constructor <;> first | omega | (unfold maxLen; omega)) | (unfold maxLen; omega))))
          all_goals first
            | (exfalso; omega)
            | (rw [if_neg (by omega), if_pos (by omega)]; (apply s_fin; (exact (show ResS _ _ _ _ [_, _] from ⟨rfl, ⟨rfl, trivial⟩⟩)); (focus (exact ⟨rfl, rfl⟩)); (focus (repeat (first | with_reducible exact Take.nil | with_reducible apply Take.c | with_reducible apply Take.drop)))))
            | trace_state
        · have he2 : vacc l (i - (j + 1)) (j + 1 + 1) (v * 256 + bat l ((j : Int) + 1)) = R := he2
          have hm : 256 * v = v * 256 := Int.mul_comm _ _
          repeat' (first | apply w_seq | apply w_region | apply o_nil | (apply o_g tyOk; exact rfl; exact rfl) | (apply o_ar tyOk; exact rfl; exact rfl) | (apply w_dT; exact rfl; (focus (first | exact ‹_› | with_reducible exact rfl | omega))) | (apply w_dF; exact rfl; (focus (first | exact ‹_› | with_reducible exact rfl | omega))) | apply thenS_normal | apply blockS_normal | apply w_skip | apply w_block | ((with_reducible apply Sd.mk); (first | exact True.intro | omega | (constructor <;> first | omega | (unfold maxLen; omega)) | (unfold maxLen; omega))) | ((with_reducible apply Wr.mk); (first | exact IntWalk.i64_in _ (by omega) | exact IntWalk.u8_in _ (by omega) | exact IntWalk.u32_in _ (by omega) | exact IntWalk.u64_in _ (by omega) | exact IntKind.wrap_u8 _ | exact IntKind.wrap_u32 _ | rfl)))
          all_goals first
            | (exfalso; omega)
            | exact ⟨(j + 1, v * 256 + bat l ((j : Int) + 1)), ⟨hji, by dsimp only; omega, he2⟩, by show i - (j + 1) < i - j; omega, ⟨rfl, rfl, congrArg some (congrArg (Value.int .i64) (by show 256 * v + _ = v * 256 + _; omega)), rfl, trivial⟩, (by repeat (first | with_reducible exact Take.nil | with_reducible apply Take.c | with_reducible apply Take.drop))⟩
            | trace_state
      · obtain rfl : j = i := by omega
        rw [Nat.sub_self] at he2
        have he2 : v = R := he2
        subst he2
        repeat' (first | apply w_seq | apply w_region | apply o_nil | (apply o_g tyOk; exact rfl; exact rfl) | (apply o_ar tyOk; exact rfl; exact rfl) | (apply o_call; exact rfl; exact rfl; (focus (first | exact rfl | assumption)); exact rfl; (focus (exact ⟨_, hBo _, by repeat (first | with_reducible exact Take.nil | with_reducible apply Take.c | with_reducible apply Take.drop)⟩)); rintro _ _ ⟨rfl, rfl⟩) | (apply w_dF; exact rfl; (focus (first | exact ‹_› | with_reducible exact rfl | omega))) | (apply w_if; exact rfl; all_goals intro hc) | apply thenS_normal | apply thenS_ret | apply thenS_exit | apply blockS_exit | apply w_skip | apply w_ret | apply w_exit | ((with_reducible apply Sd.mk); (first | exact True.intro | omega | (constructor <;> first | omega | (unfold maxLen; omega)) | (unfold maxLen; omega))) | ((with_reducible apply Wr.mk); (first | exact IntWalk.i64_in _ (by omega) | exact IntWalk.u8_in _ (by omega) | exact IntWalk.u32_in _ (by omega) | exact IntWalk.u64_in _ (by omega) | exact IntKind.wrap_u8 _ | exact IntKind.wrap_u32 _ | rfl)))
        all_goals first
          | (exfalso; omega)
          | (rw [if_neg (by omega), if_pos (by omega)]; (apply s_fin; (exact (show ResS _ _ _ _ [_, _] from ⟨rfl, ⟨rfl, trivial⟩⟩)); (focus (exact ⟨rfl, rfl⟩)); (focus (repeat (first | with_reducible exact Take.nil | with_reducible apply Take.c | with_reducible apply Take.drop)))))
          | (rw [if_neg (by omega), if_neg (by omega)]; (apply s_fin; (exact (show ResS _ _ _ _ [_, _] from ⟨rfl, ⟨rfl, trivial⟩⟩)); (focus (exact ⟨rfl, rfl⟩)); (focus (repeat (first | with_reducible exact Take.nil | with_reducible apply Take.c | with_reducible apply Take.drop)))))
          | trace_state
end Go.Proofs.Ytgooffiipnkmiaa
end
section
set_option linter.unusedVariables false
set_option linter.unusedSimpArgs false
set_option maxRecDepth 4000
namespace Go.Proofs.Ytgooffiipnkmiaa
open Go.Gh Go.RowKit

theorem vacc_ge2 (l : List UInt8) (k i : Nat) (v : Int) (h : 0 ≤ v) : 0 ≤ vacc l k i v :=
  Int.le_trans (Int.mul_nonneg h (Int.le_of_lt (Int.pow_pos (by decide)))) (vacc_big l k i v h)
/-- What the reader of the package finds in front, and what the reference finds. -/
theorem vpeek_shape (l : List UInt8) : ((vpeek l).2.2 = false ∧ (vpeek l).2.1 = 0 ∧ (vpeek l).1 = 0) ∨ ((vpeek l).2.2 = true ∧ 1 ≤ (vpeek l).2.1 ∧ 0 ≤ (vpeek l).1) := by
  unfold vpeek
  split
  · exact .inl ⟨rfl, rfl, rfl⟩
  · split
    · exact .inl ⟨rfl, rfl, rfl⟩
    · split
      · exact .inl ⟨rfl, rfl, rfl⟩
      · refine .inr ⟨rfl, by dsimp only; omega, ?_⟩
        have hb := bat_255 l 0
        have h1 := (vlow_in (bat l 0) (k := vlead (bat l 0) 8 0) (vlead_le _ 8 0).2).1
        have h2 := vacc_ge2 l (vlead (bat l 0) 8 0) 1 _ h1
        have h3 := (vbnd_in (vlead (bat l 0) 8 0) (vlead_le _ 8 0).2).1
        dsimp only
        omega
end Go.Proofs.Ytgooffiipnkmiaa
end
section
set_option linter.unusedVariables false
set_option linter.unusedSimpArgs false
set_option maxRecDepth 4000
namespace Go.Proofs.Ytgooffiipnkmiaa
open Go.Gh Go.RowKit

theorem shl1 {k : Nat} (hk : k ≤ 61) : IntKind.i64.wrap (1 * 2 ^ (min ((k : Int)).toNat IntKind.i64.bits)) = ((2 ^ k : Nat) : Int) := by
  rw [Int.one_mul, Int.toNat_natCast, show IntKind.i64.bits = 64 from rfl, Nat.min_eq_left (by omega)]
  have h1 : (2 : Nat) ^ k ≤ 2 ^ 61 := Nat.pow_le_pow_right (by decide) hk
  have h2 : (2 : Nat) ^ 61 = 2305843009213693952 := rfl
  have e : ((2 : Int) ^ k) = ((2 ^ k : Nat) : Int) := by simp
  rw [e]
  generalize (2 : Nat) ^ k = w at *
  exact IntWalk.i64_in _ (by omega)
theorem rDecNum_any (t : List Int) (d : Dec) (A0 : Nat) (h h1 : SH) (hp : Pick h A0 ⟨nodes t, false⟩ h1) (ht : t.length = 64) (hok : DecOk d) :
    SRun Try.prog 83 [rdV d, gsl A0 0 64 64 1] h fun r q =>
      ∃ B, r = .tuple ⟨[rdV (ndec t d).2.1, gsl B 0 64 64 1, I (ndec t d).2.2]⟩ ∧ q = (B, ⟨nodes (ndec t d).1, false⟩) :: h := by
  have hT := fun h h1 hp => rTDec_any 6 t d A0 h h1 hp ht (by decide) hok
  obtain ⟨hok2, _, hb⟩ := tdec_ok (k := 6) (t := t) (j := 1) hok
  rw [ht] at hT
  unfold ndec
  generalize tdec 6 t d 1 = T at *
  obtain ⟨t2, d2, j⟩ := T
  dsimp only at *
  have h64 : (2 ^ 6 : Nat) = 64 := rfl
  rw [h64] at hb
  obtain ⟨l, hl⟩ : ∃ l, l = j - 64 := ⟨_, rfl⟩
  have e1 : (j : Int) - ((64 : Nat) : Int) = (l : Int) := by omega
  rw [e1] at hT
  rw [← hl]
  have hl63 : l ≤ 63 := by omega
  have hq := ddir_lt d2 (l := l)
  have hdd := fun h hx => rReadDirect_any d2 ((l : Int) - 1) h hok2 hx
  by_cases h1' : l ≤ 1
  · rw [if_pos (show l ≤ 1 ∨ l = 63 from .inl h1'), if_pos h1']
    refine w_body2 Try.func83 rfl rfl ?_
    repeat' (first | apply w_seq | apply w_region | apply o_nil | (apply o_g tyOk; exact rfl; exact rfl) | (apply o_loads tyOk; (iterate 3 exact rfl); (focus (exact pk))) | (apply o_stores tyOk; (iterate 4 exact rfl); (focus (exact ⟨rfl⟩)); (focus (exact up))) | (apply o_alloc tyOk; iterate 5 exact rfl) | (apply o_box (tt := tyT); iterate 5 exact rfl) | (apply o_call; exact rfl; exact rfl; (focus (first | exact rfl | assumption)); exact rfl; (focus (exact ⟨_, hT _ _ (.tail (.tail hp)), by repeat (first | with_reducible exact Take.nil | with_reducible apply Take.c | with_reducible apply Take.drop)⟩)); rintro _ _ ⟨B, rfl, rfl⟩) | (apply w_dT; exact rfl; (focus (first | exact ‹_› | with_reducible exact rfl | omega))) | (apply w_dF; exact rfl; (focus (first | exact ‹_› | with_reducible exact rfl | omega))) | apply thenS_normal | apply thenS_ret | apply blockS_ret | apply w_ret | apply w_block | ((with_reducible apply Sd.mk); (first | exact True.intro | omega | (constructor <;> first | omega | (unfold maxLen; omega)) | (unfold maxLen; omega))) | ((with_reducible apply Ln.mk); (first | rfl | exact ‹_› | omega | (simp ; first | done | omega))) | ((with_reducible apply Pu.mk); (first | exact putAt_all rfl | exact putAt_recZ (fun _ => rfl) (by omega) | exact putAt_rec (fun _ => rfl) (by omega))) | ((with_reducible apply Su.mk); (first | exact subAt_all | exact subAt_recZ (fun _ => rfl) (by omega) | exact subAt_rec (fun _ => rfl) (by omega))) | exact True.intro | intro A | exact rfl)
    all_goals first
      | (exfalso; omega)
      | (apply s_fin; (exact (show ResS _ _ _ _ [_, _, _] from (res_cell tyOk rfl rfl rfl (by exact pk) (by first | rfl | exact ‹_› | omega | (simp ; first | done | omega)) (by first | rfl | exact ‹_› | omega | (simp ; first | done | omega)) ⟨rfl, ⟨rfl, trivial⟩⟩))); (focus (exact ⟨B, rfl, rfl⟩)); (focus (repeat (first | with_reducible exact Take.nil | with_reducible apply Take.c | with_reducible apply Take.drop))))
      | trace_state
  by_cases h63 : l = 63
  · rw [if_pos (show l ≤ 1 ∨ l = 63 from .inr h63), if_neg h1', if_pos h63]
    refine w_body2 Try.func83 rfl rfl ?_
    repeat' (first | apply w_seq | apply w_region | apply o_nil | (apply o_g tyOk; exact rfl; exact rfl) | (apply o_loads tyOk; (iterate 3 exact rfl); (focus (exact pk))) | (apply o_stores tyOk; (iterate 4 exact rfl); (focus (exact ⟨rfl⟩)); (focus (exact up))) | (apply o_alloc tyOk; iterate 5 exact rfl) | (apply o_box (tt := tyT); iterate 5 exact rfl) | (apply o_call; exact rfl; exact rfl; (focus (first | exact rfl | assumption)); exact rfl; (focus (exact ⟨_, hT _ _ (.tail (.tail hp)), by repeat (first | with_reducible exact Take.nil | with_reducible apply Take.c | with_reducible apply Take.drop)⟩)); rintro _ _ ⟨B, rfl, rfl⟩) | (apply w_dT; exact rfl; (focus (first | exact ‹_› | with_reducible exact rfl | omega))) | apply thenS_normal | apply thenS_ret | apply blockS_ret | apply w_ret | apply w_block | ((with_reducible apply Sd.mk); (first | exact True.intro | omega | (constructor <;> first | omega | (unfold maxLen; omega)) | (unfold maxLen; omega))) | ((with_reducible apply Ln.mk); (first | rfl | exact ‹_› | omega | (simp ; first | done | omega))) | ((with_reducible apply Pu.mk); (first | exact putAt_all rfl | exact putAt_recZ (fun _ => rfl) (by omega) | exact putAt_rec (fun _ => rfl) (by omega))) | ((with_reducible apply Su.mk); (first | exact subAt_all | exact subAt_recZ (fun _ => rfl) (by omega) | exact subAt_rec (fun _ => rfl) (by omega))) | exact True.intro | intro A | exact rfl)
    all_goals first
      | (exfalso; omega)
      | (apply s_fin; (exact (show ResS _ _ _ _ [_, _, _] from (res_cell tyOk rfl rfl rfl (by exact pk) (by first | rfl | exact ‹_› | omega | (simp ; first | done | omega)) (by first | rfl | exact ‹_› | omega | (simp ; first | done | omega)) ⟨rfl, ⟨rfl, trivial⟩⟩))); (focus (exact ⟨B, rfl, rfl⟩)); (focus (repeat (first | with_reducible exact Take.nil | with_reducible apply Take.c | with_reducible apply Take.drop))))
      | trace_state
  rw [if_neg (show ¬ (l ≤ 1 ∨ l = 63) by omega), if_neg h1', if_neg h63]
  have hsh := shl1 (k := l - 1) (by omega)
  rw [show (((l - 1 : Nat) : Nat) : Int) = (l : Int) - 1 by omega] at hsh
  have hp2 : (2 : Nat) ^ (l - 1) ≤ 2 ^ 61 := Nat.pow_le_pow_right (by decide) (by omega)
  have h61 : (2 : Nat) ^ 61 = 2305843009213693952 := rfl
  have hc : ((2 : Int) ^ (l - 1)) = ((2 ^ (l - 1) : Nat) : Int) := by simp
  rw [hc] at hq
  generalize ddir d2 ((l : Int) - 1) = D at *
  obtain ⟨d3, v⟩ := D
  dsimp only at *
  generalize 2 ^ (l - 1) = W at *
  refine w_body2 Try.func83 rfl rfl ?_
  repeat' (first | apply w_seq | apply w_region | apply o_nil | (apply w_draw; (focus (kernel_rfl)); (focus (kernel_rfl))) | (apply o_g tyOk; exact rfl; exact rfl) | (apply o_ar tyOk; exact rfl; exact rfl) | (apply o_loads tyOk; (iterate 3 exact rfl); (focus (exact pk))) | (apply o_stores tyOk; (iterate 4 exact rfl); (focus (exact ⟨rfl⟩)); (focus (exact up))) | (apply o_alloc tyOk; iterate 5 exact rfl) | (apply o_box (tt := tyT); iterate 5 exact rfl) | (apply o_call; exact rfl; exact rfl; (focus (first | exact rfl | assumption)); exact rfl; (focus (exact ⟨_, hT _ _ (.tail (.tail hp)), by repeat (first | with_reducible exact Take.nil | with_reducible apply Take.c | with_reducible apply Take.drop)⟩)); rintro _ _ ⟨B, rfl, rfl⟩) | (apply o_call; exact rfl; exact rfl; (focus (first | exact rfl | assumption)); exact rfl; (focus (exact ⟨_, hdd _ (by omega), by repeat (first | with_reducible exact Take.nil | with_reducible apply Take.c | with_reducible apply Take.drop)⟩)); rintro _ _ ⟨rfl, rfl⟩) | (apply w_dF; exact rfl; (focus (first | exact ‹_› | with_reducible exact rfl | omega))) | apply thenS_normal | apply blockS_normal | apply w_skip | apply w_ret | apply w_block | ((with_reducible apply Sd.mk); (first | exact True.intro | omega | (constructor <;> first | omega | (unfold maxLen; omega)) | (unfold maxLen; omega))) | ((with_reducible apply Ln.mk); (first | rfl | exact ‹_› | omega | (simp ; first | done | omega))) | ((with_reducible apply Wr.mk); (first | exact hsh | exact IntWalk.i64_in _ (by omega) | exact IntWalk.u8_in _ (by omega) | exact IntWalk.u32_in _ (by omega) | exact IntWalk.u64_in _ (by omega) | exact IntKind.wrap_u8 _ | exact IntKind.wrap_u32 _ | rfl)) | ((with_reducible apply Pu.mk); (first | exact putAt_all rfl | exact putAt_recZ (fun _ => rfl) (by omega) | exact putAt_rec (fun _ => rfl) (by omega))) | ((with_reducible apply Su.mk); (first | exact subAt_all | exact subAt_recZ (fun _ => rfl) (by omega) | exact subAt_rec (fun _ => rfl) (by omega))) | exact True.intro | exact Or.inl rfl | apply And.intro | intro A | exact rfl)
  all_goals first
    | (exfalso; omega)
    | (apply s_fin; (exact (show ResS _ _ _ _ [_, _, _] from (res_cell tyOk rfl rfl rfl (by exact pk) (by first | rfl | exact ‹_› | omega | (simp ; first | done | omega)) (by first | rfl | exact ‹_› | omega | (simp ; first | done | omega)) ⟨rfl, ⟨rfl, trivial⟩⟩))); (focus (exact ⟨B, rfl, rfl⟩)); (focus (repeat (first | with_reducible exact Take.nil | with_reducible apply Take.c | with_reducible apply Take.drop))))
    | trace_state
theorem nfr_out {t : List Int} {e : Enc} {v : Int} (h : nfr t e v = false) : (nenc t e v).2.out = e.out := by
  unfold nfr at h
  rw [Bool.or_eq_false_iff] at h
  have h1 := tfr_out 6 h.1
  unfold nenc
  dsimp only
  split
  · rename_i hb
    rw [if_pos hb] at h
    have h2 : ∀ (k : Nat) (e : Enc), dfr (ncut v) k e = false → (ebits (ncut v) k e).out = e.out := by
      intro k
      induction k with
      | zero => intro e _; rfl
      | succ k ih =>
        intro e g
        have g : (fresh e 1024 (ncut v / 2 ^ k % 2) || dfr (ncut v) k (ebit e 1024 (ncut v / 2 ^ k % 2))) = false := g
        rw [Bool.or_eq_false_iff] at g
        exact (ih _ g.2).trans (fresh_out g.1)
    rw [← h1]
    unfold edir
    split
    · rfl
    · have := h2 (blen (ncut v).toNat - 1) _ h.2
      rw [show ((blen (ncut v).toNat : Int) - 1).toNat = blen (ncut v).toNat - 1 by omega]
      exact this
  · exact h1
end Go.Proofs.Ytgooffiipnkmiaa
end
section
set_option linter.unusedVariables false
set_option linter.unusedSimpArgs false
set_option maxRecDepth 4000
namespace Go.Proofs.Ytgooffiipnkmiaa
open Go.Gh Go.RowKit

instance (a b : St) : Decidable (kb a b) := by unfold kb; infer_instance
theorem rbetter_any (x y : St) (h : SH) : SRun Try.prog 63 [.agg ⟨stC x⟩, .agg ⟨stC y⟩] h fun r q => r = B (decide (kb x y)) ∧ q = h := by
  obtain ⟨a, b, n, d, z⟩ := x
  obtain ⟨a', b', n', d', z'⟩ := y
  refine w_body2 Try.func63 rfl rfl ?_
  repeat' (first | apply w_seq | apply w_region | apply o_nil | (apply o_g tyOk; exact rfl; exact rfl) | (apply o_load tyOk; (iterate 3 exact rfl); (focus (exact pk))) | (apply o_box (tt := tyT); iterate 5 exact rfl) | (apply w_ifN; exact rfl; all_goals intro hc) | apply thenS_normal | apply thenS_ret | apply w_skip | apply w_ret | ((with_reducible apply Sd.mk); (first | exact True.intro | omega | (constructor <;> first | omega | (unfold maxLen; omega)) | (unfold maxLen; omega))) | ((with_reducible apply Ln.mk); (first | rfl | exact ‹_› | omega | (simp ; first | done | omega))) | ((with_reducible apply Ce.mk); (first | rfl | exact ‹_› | exact cell_recZ (fun _ => rfl) (by omega) (by decide) rfl | exact cell_rec (fun _ => rfl) (by omega) (by decide) rfl | exact cell_bytes (by omega) | exact cell_mapZ (by omega) | exact cell_map (by omega))) | exact True.intro | intro A | exact rfl)
  all_goals (apply s_fin; (exact (show ResS _ _ _ _ [_] from ⟨rfl, trivial⟩)); (focus (refine ⟨?_, rfl⟩; show B _ = B _; congr 1; rw [decide_eq_decide]; unfold kb; dsimp only at *; omega)); (focus (repeat (first | with_reducible exact Take.nil | with_reducible apply Take.c | with_reducible apply Take.drop))))
end Go.Proofs.Ytgooffiipnkmiaa
end
section
set_option linter.unusedVariables false
set_option linter.unusedSimpArgs false
set_option maxRecDepth 4000
namespace Go.Proofs.Ytgooffiipnkmiaa
open Go.Gh Go.RowKit

/-- The copies at a place, all distances up to D and all lengths. -/
def rtries (l : List UInt8) (i : Nat) : Nat → List Pc
  | 0 => []
  | D + 1 => rtries l i D ++ trN ((D : Int) + 1) 1 (atd l i ((D : Int) + 1) 273).toNat
def rstp (c : Cst) (T : List St) (i : Nat) (b : St) (t : Pc) : St := if kb (nxt c T i t) b then nxt c T i t else b
def rbest (c : Cst) (l : List UInt8) (w : Int) (T : List St) (i : Nat) : St := (rtries l i (min w (i : Int)).toNat).foldl (rstp c T i) (nxt c T i (litP l i))
theorem fold_min {c : Cst} {T : List St} {i : Nat} : ∀ (ts : List Pc) (b : St), (ts.foldl (rstp c T i) b = b ∨ ∃ t ∈ ts, ts.foldl (rstp c T i) b = nxt c T i t) ∧ ¬ kb b (ts.foldl (rstp c T i) b) ∧ ∀ t ∈ ts, ¬ kb (nxt c T i t) (ts.foldl (rstp c T i) b)
  | [], b => ⟨.inl rfl, by show ¬ kb b b; unfold kb; omega, fun t ht => by cases ht⟩
  | t :: r, b => by
    obtain ⟨h1, h2, h3⟩ := fold_min (c := c) (T := T) (i := i) r (rstp c T i b t)
    rw [List.foldl_cons]
    have hb : ¬ kb b (rstp c T i b t) ∧ ¬ kb (nxt c T i t) (rstp c T i b t) := by
      unfold rstp
      split
      · rename_i h
        refine ⟨?_, by unfold kb; omega⟩
        unfold kb at *; omega
      · rename_i h
        exact ⟨by unfold kb; omega, h⟩
    refine ⟨?_, kb_trans h2 hb.1, fun u hu => ?_⟩
    · rcases h1 with h1 | ⟨u, hu, h1⟩
      · rw [h1]
        unfold rstp
        split
        · exact .inr ⟨t, List.mem_cons_self, rfl⟩
        · exact .inl rfl
      · exact .inr ⟨u, List.mem_cons_of_mem _ hu, h1⟩
    · rcases List.mem_cons.1 hu with rfl | hu
      · exact kb_trans h2 hb.2
      · exact h3 u hu
theorem rtries_mem {l : List UInt8} {i : Nat} {t : Pc} : ∀ {D : Nat}, t ∈ rtries l i D → ∃ d n : Nat, 1 ≤ d ∧ d ≤ D ∧ 2 ≤ n ∧ (n : Int) ≤ atd l i d 273 ∧ t = ((n : Int), (d : Int), 0)
  | 0, h => by cases h
  | D + 1, h => by
    rcases List.mem_append.1 h with h | h
    · obtain ⟨d, n, h1, h2, h3⟩ := rtries_mem h
      exact ⟨d, n, h1, by omega, h3⟩
    · have g := trN_in h
      obtain ⟨a, b, y⟩ := t
      dsimp only at g
      refine ⟨D + 1, a.toNat, by omega, Nat.le_refl _, by omega, ?_, ?_⟩
      · rw [show ((D + 1 : Nat) : Int) = (D : Int) + 1 by omega]; omega
      · rw [show ((a.toNat : Nat) : Int) = a by omega, g.2.2.1, g.2.2.2]; rfl
theorem rtries_has {l : List UInt8} {i d n : Nat} : ∀ {D : Nat}, 1 ≤ d → d ≤ D → 2 ≤ n → (n : Int) ≤ atd l i d 273 → ((n : Int), (d : Int), (0 : Int)) ∈ rtries l i D
  | 0, h1, h2, _, _ => by omega
  | D + 1, h1, h2, h3, h4 => by
    unfold rtries
    by_cases e : d = D + 1
    · subst e
      rw [show ((D + 1 : Nat) : Int) = (D : Int) + 1 by omega] at h4 ⊢
      exact List.mem_append_right _ (trN_mem (by omega) (by omega))
    · exact List.mem_append_left _ (rtries_has h1 (by omega) h3 h4)
section
variable {c : Cst} {l : List UInt8} {w : Int} (hc : vC c) (hw : 1 ≤ w ∧ w ≤ 4096) (hn : l.length ≤ 4096)
theorem rtries_occ {i : Nat} {t : Pc} (hw : 1 ≤ w ∧ w ≤ 4096) (hi : i < l.length) (h : t ∈ rtries l i (min w (i : Int)).toNat) : occ l w i t := by
  obtain ⟨d, n, h1, h2, h3, h4, rfl⟩ := rtries_mem h
  have hd : d ≤ i := by omega
  have hat := atd_eq l i d 273 h1 hd (by omega) (by omega)
  have h5 := lcp_le l (min (273 : Int) ((l.length : Int) - i)).toNat (i - d) i
  have hle : n ≤ 273 := by split at hat <;> omega
  exact .inr ⟨n, d, rfl, h3, hle, h1, by omega, hd, (atd_ge l i d n h1 hd (by omega) h3 hle).1 h4⟩
include hc hw hn
theorem rrow_eq {j : Nat} (hj : j < l.length) : (parT c l w j).set (l.length - (j + 1)) (rbest c l w (parT c l w j) (l.length - (j + 1))) = parT c l w (j + 1) := by
  obtain ⟨i, hi⟩ : ∃ i, i = l.length - (j + 1) := ⟨_, rfl⟩
  obtain ⟨T, hT⟩ : ∃ T, T = parT c l w j := ⟨_, rfl⟩
  have hil : i < l.length := by omega
  have hTl : T.length = l.length + 1 := by rw [hT]; exact (parT_last (l := l) (w := w) hc (by omega)).1
  have hrow : parT c l w (j + 1) = rowT c l w i T := by rw [hi, hT]; rfl
  rw [hrow, ← hi, ← hT]
  have hm := row_min hc hw hn hil hTl
  have same : ∀ u : Pc, 1 ≤ u.1 → nxt c (rowT c l w i T) i u = nxt c T i u := fun u hu => by
    unfold nxt rowT
    rw [runT_else (by omega) (by show i < T.length; omega)]
  have hb : rbest c l w T i = (rowT c l w i T)[i]! := by
    obtain ⟨f1, f2, f3⟩ := fold_min (c := c) (T := T) (i := i) (rtries l i (min w (i : Int)).toNat) (nxt c T i (litP l i))
    have g1 : ∃ t, occ l w i t ∧ rbest c l w T i = nxt c T i t := by
      rcases f1 with f1 | ⟨t, ht, f1⟩
      · exact ⟨litP l i, .inl ⟨hil, rfl⟩, f1⟩
      · exact ⟨t, rtries_occ hw hil ht, f1⟩
    have g2 : ∀ t, occ l w i t → ¬ kb (nxt c T i t) (rbest c l w T i) := fun t ht => by
      rcases ht with ⟨_, rfl⟩ | ⟨n, d, rfl, h1, h2, h3, h4, h5, h6, h7⟩
      · exact f2
      · exact f3 _ (rtries_has h3 (by omega) h1 ((atd_ge l i d n h3 h5 (by omega) h1 h2).2 ⟨h6, h7⟩))
    obtain ⟨t, ht, e⟩ := g1
    obtain ⟨m1, m2, m3⟩ := hm
    have h1 := g2 _ m1
    have h2 := m3 t ht
    have o1 := (ht.fits hw.2).2.2
    have o2 := (m1.fits hw.2).2.2
    rw [same _ o1] at h2
    rw [same _ o2] at m2
    rw [e] at h1 ⊢
    generalize hX : (rowT c l w i T)[i]! = X at m1 m2 h1 h2 o2 ⊢
    have e1 : (nxt c T i t).2.2 = t := rfl
    have e2 : (nxt c T i X.2.2).2.2 = X.2.2 := rfl
    have e3 : t = X.2.2 := by
      refine occ_same ht m1 ?_ ?_
      · rw [m2] at h2; unfold kb at h1 h2; rw [e1, e2] at h1 h2; omega
      · rw [m2] at h2; unfold kb at h1 h2; rw [e1, e2] at h1 h2; omega
    rw [e3, ← m2]
  rw [hb]
  refine List.ext_getElem? fun k => ?_
  have hrl : (rowT c l w i T).length = T.length := by
    have : ∀ (ts : List Pc) (s : Bool × List St), (runT c i ts s).2.length = s.2.length := fun ts => by
      induction ts with
      | nil => intro s; rfl
      | cons t r ih => intro s; show (runT c i r (tryS c i s t)).2.length = _; rw [ih, tryS_len]
    exact this _ _
  rw [List.getElem?_set]
  by_cases e : i = k
  · subst e
    rw [if_pos rfl, if_pos (by omega), getElem!_pos _ i (by omega), List.getElem?_eq_getElem (by omega)]
  · rw [if_neg e]
    have h1 : (rowT c l w i T)[k]! = T[k]! := by unfold rowT; rw [runT_else (by omega) (by show i < T.length; omega)]
    by_cases hk : k < T.length
    · rw [getElem!_pos _ k (by omega), getElem!_pos _ k hk] at h1
      rw [List.getElem?_eq_getElem hk, List.getElem?_eq_getElem (by omega), h1]
    · rw [List.getElem?_eq_none (by omega), List.getElem?_eq_none (by omega)]
end
end Go.Proofs.Ytgooffiipnkmiaa
end
section
set_option linter.unusedVariables false
set_option linter.unusedSimpArgs false
set_option maxRecDepth 4000
namespace Go.Proofs.Ytgooffiipnkmiaa
open Go.Gh Go.RowKit

theorem rParse_any (c : Cst) (l : List UInt8) (w : Int) (h : SH) (hl : l.length ≤ 4611686018427387904) :
    SRun Try.prog 23 [csV c, S l, I w] h fun r q => ∃ v, r = .tuple #[v, I (parse c l w).2] ∧ Has q (recs pcC (parse c l w).1) 3 (parse c l w).1.length v ∧ Take q h := by
  by_cases hc0 : vC c
  · by_cases hw : 1 ≤ w ∧ w ≤ 4096
    · have hvw : vld w 273 := ⟨hw.1, hw.2, by omega, by omega⟩
      by_cases hn : l.length ≤ 4096
      · have hpz : (parT c l w 0).length = l.length + 1 := by simp [parT]
        have hzr : zrow (.agg ⟨[I 0, I 0, I 0, I 0, .int .u8 0]⟩) (((l.length : Int) + 1).toNat * 5) = recs stC (parT c l w 0) := by
          rw [show ((l.length : Int) + 1).toNat = l.length + 1 by omega]
          exact recs_zrow (f := stC) (w := 5) stcW (show 0 < 5 by omega) st0 rfl _
        refine w_body3 Try.func23 rfl rfl ?_
        repeat' ((fail_if_success (show SWp _ _ (Code.seq (Code.region 5 _ _) _) _ _ _)); (fail_if_success (show SWp _ _ (Code.region 5 _ _) _ _ _)); first | apply w_seq | apply w_region | apply o_nil | (apply o_g tyOk; exact rfl; exact rfl) | (apply o_not; exact rfl; exact rfl) | (apply o_loads tyOk; (iterate 3 exact rfl); (focus (exact pk))) | (apply o_box (tt := tyT); iterate 5 exact rfl) | (apply o_call; exact rfl; exact rfl; (focus (first | exact rfl | assumption)); exact rfl; (focus (exact ⟨_, rValidC_any c _, by repeat (first | with_reducible exact Take.nil | with_reducible apply Take.c | with_reducible apply Take.drop)⟩)); rintro _ _ ⟨rfl, rfl⟩) | (apply o_call; exact rfl; exact rfl; (focus (first | exact rfl | assumption)); exact rfl; (focus (exact ⟨_, rvalid_any w 273 _, by repeat (first | with_reducible exact Take.nil | with_reducible apply Take.c | with_reducible apply Take.drop)⟩)); rintro _ _ ⟨rfl, rfl⟩) | (apply o_want; exact rfl; exact rfl) | (apply o_gF; (iterate 3 exact rfl); (focus (first | exact ‹_› | with_reducible exact rfl | omega))) | (apply w_dF; exact rfl; (focus (first | exact ‹_› | with_reducible exact rfl | omega))) | apply thenS_normal | apply blockS_normal | apply w_skip | apply w_block | ((with_reducible apply Sd.mk); (first | exact True.intro | omega | (constructor <;> first | omega | (unfold maxLen; omega)) | (unfold maxLen; omega))) | ((with_reducible apply Ln.mk); (first | rfl | exact ‹_› | omega | (simp ; first | done | omega))) | ((with_reducible apply Su.mk); (first | exact subAt_all | exact subAt_recZ (fun _ => rfl) (by omega) | exact subAt_rec (fun _ => rfl) (by omega))) | exact True.intro | intro A | exact rfl)
        all_goals first
          | (exfalso; omega)
          | (exfalso; simp_all; done)
          | skip
        obtain ⟨n3, rfl⟩ : ∃ n3, n3 = A := ⟨_, rfl⟩
        repeat' (first | apply w_seq | apply w_region | apply o_nil | (apply o_g tyOk; exact rfl; exact rfl) | (apply o_ar tyOk; exact rfl; exact rfl) | (apply o_makeSlice tyOk; (iterate 6 exact rfl); (focus (decide)); (focus (first | exact True.intro | omega | (constructor <;> first | omega | (unfold maxLen; omega)) | (unfold maxLen; omega))); (focus (first | exact hzr | rfl)); exact rfl) | apply thenS_normal | apply w_block | ((with_reducible apply Sd.mk); (first | exact True.intro | omega | (constructor <;> first | omega | (unfold maxLen; omega)) | (unfold maxLen; omega))) | ((with_reducible apply Wr.mk); (first | exact IntWalk.i64_in _ (by omega) | exact IntWalk.u8_in _ (by omega) | exact IntWalk.u32_in _ (by omega) | exact IntWalk.u64_in _ (by omega) | exact IntKind.wrap_u8 _ | exact IntKind.wrap_u32 _ | rfl)) | intro A)
        obtain ⟨A0, rfl⟩ : ∃ A0, A0 = A := ⟨_, rfl⟩
        have hgl : gsl A0 0 (((l.length : Int) + 1).toNat * 5) ((l.length : Int) + 1).toNat 5 = gsl A0 0 ((l.length + 1) * 5) (l.length + 1) 5 := gslE rfl rfl (by omega) (by omega) rfl
        rw [hgl]
        refine w_loop (S := Nat) (fun j => [(1, S l), (2, I w), (3, gptr n3 0 4), (8, gsl A0 0 ((l.length + 1) * 5) (l.length + 1) 5), (9, I ((l.length : Int) - j - 1))])
          (fun j => (n3, ⟨csC c, false⟩) :: (A0, ⟨recs stC (parT c l w j), false⟩) :: h)
          (fun j => j ≤ l.length) (fun j => l.length - j) 0 (by simp) (by rw [show (l.length : Int) - ((0 : Nat) : Int) - 1 = (l.length : Int) - 1 by omega]; exact (by repeat' (first | exact trivial | refine ⟨rfl, ?_⟩ | refine ⟨congrArg some ?_, ?_⟩))) (by repeat (first | with_reducible exact Take.nil | with_reducible apply Take.c | with_reducible apply Take.drop)) ?_
        rintro j hj
        obtain ⟨⟨hTl, hT⟩, hF⟩ := parT_ok hc0 (w := w) hj
        by_cases hjl : j < l.length
        · obtain ⟨i, hi⟩ : ∃ i, i = l.length - (j + 1) := ⟨_, rfl⟩
          rw [show (l.length : Int) - j - 1 = (i : Int) by omega]
          have hil : i < l.length := by omega
          have hsu := rrow_eq hc0 hw hn hjl
          rw [← hi] at hsu
          obtain ⟨T, hTe⟩ : ∃ T, T = parT c l w j := ⟨_, rfl⟩
          rw [← hTe] at hTl hT hsu ⊢
          have hfl := lit_fits hil
          have hst := TOk.st ⟨hTl, hT⟩ hn (show i + 1 ≤ l.length by omega)
          have hpr : ∀ (t : Pc) h, vP t → SRun Try.prog 61 [csV c, pcV t] h fun r q => r = I (price c t) ∧ q = h := fun t h ht => by
            have := rlzPrice_any c t h
            rwa [if_pos ⟨hc0, ht⟩] at this
          have hpi := fun (t : Pc) (ht : vP t) => price_in hc0 ht
          have hp1 := hpi _ hfl.1
          have hT0 : (parT c l w j)[l.length]! = st0 := (parT_last (l := l) (w := w) hc0 hj).2
          have w1 : IntKind.i64.wrap (price c (litP l i) + T[((i : Int) + 1).toNat]!.1) = (nxt c T i (litP l i)).1 := by
            show _ = T[i + 1]!.1 + price c (litP l i)
            rw [show ((i : Int) + 1).toNat = i + 1 by omega, IntWalk.i64_in _ (by unfold stOk at hst; omega)]; omega
          have w2 : IntKind.i64.wrap (1 + T[((i : Int) + 1).toNat]!.2.1) = (nxt c T i (litP l i)).2.1 := by
            show _ = T[i + 1]!.2.1 + 1
            rw [show ((i : Int) + 1).toNat = i + 1 by omega, IntWalk.i64_in _ (by unfold stOk at hst; omega)]; omega
          repeat' (first | apply w_seq | apply w_region | apply o_nil | (apply w_draw; (focus (kernel_rfl)); (focus (kernel_rfl))) | (apply o_g tyOk; exact rfl; exact rfl) | (apply o_ar tyOk; exact rfl; exact rfl) | (apply o_load tyOk; (iterate 3 exact rfl); (focus (exact pk))) | (apply o_loads tyOk; (iterate 3 exact rfl); (focus (exact pk))) | (apply o_stores tyOk; (iterate 4 exact rfl); (focus (exact ⟨rfl⟩)); (focus (exact up))) | (apply o_alloc tyOk; iterate 5 exact rfl) | (apply o_build tyOk; exact rfl; exact rfl; (focus (first | with_reducible exact pl38 | with_reducible exact pl104)); exact rfl; (focus (repeat (first | exact BuildR.nil | (apply BuildR.one; exact rfl; exact rfl; (first | (focus ((repeat (first | exact SetAt.zero | apply SetAt.succ)); done)) | exact setAt_bytes (by omega) (by omega) | exact setAt_mapZ (by omega) | exact setAt_map (by omega))) | (apply BuildR.agg; exact rfl; exact rfl; (first | exact putAt_all rfl | exact put5 | exact putAt_recZ (fun _ => rfl) (by omega) | exact putAt_rec (fun _ => rfl) (by omega)))))); exact rfl) | (apply o_callD; (iterate 4 exact rfl); (focus (exact ⟨_, hpr (litP l i) _ hfl.1, by repeat (first | with_reducible exact Take.nil | with_reducible apply Take.c | with_reducible apply Take.drop)⟩)); (focus (exact fun _ _ h => h.1)); (focus ((repeat (first | exact Flat.c rfl | apply flat_tuple | apply flat_agg | exact FlatL.nil | apply FlatL.cons))))) | (apply w_true; exact rfl) | apply thenS_normal | apply w_skip | apply w_block | ((with_reducible apply Sd.mk); (first | exact True.intro | omega | (constructor <;> first | omega | (unfold maxLen; omega)) | (unfold maxLen; omega))) | ((with_reducible apply Ln.mk); (first | rfl | exact ‹_› | omega | (simp ; first | done | omega))) | ((with_reducible apply Wr.mk); (first | exact w1 | exact w2 | exact IntWalk.i64_in _ (by omega) | exact IntWalk.u8_in _ (by omega) | exact IntWalk.u32_in _ (by omega) | exact IntWalk.u64_in _ (by omega) | exact IntKind.wrap_u8 _ | exact IntKind.wrap_u32 _ | rfl)) | ((with_reducible apply Ce.mk); (first | rfl | exact ‹_› | exact cell_recZ (fun _ => rfl) (by omega) (by decide) rfl | exact cell_rec (fun _ => rfl) (by omega) (by decide) rfl | exact cell_bytes (by omega) | exact cell_mapZ (by omega) | exact cell_map (by omega))) | ((with_reducible apply Pu.mk); (first | exact putAt_all rfl | exact put5 | exact putAt_recZ (fun _ => rfl) (by omega) | exact putAt_rec (fun _ => rfl) (by omega))) | ((with_reducible apply Su.mk); (first | exact subAt_all | exact subAt_recZ (fun _ => rfl) (by omega) | exact subAt_rec (fun _ => rfl) (by omega))) | exact True.intro | exact Or.inl rfl | apply And.intro | intro A | exact rfl)
          obtain ⟨WB, rfl⟩ : ∃ WB, WB = A := ⟨_, rfl⟩
          refine w_loop (S := Nat × St) (fun x => [(1, S l), (2, I w), (3, gptr n3 0 4), (8, gsl A0 0 ((l.length + 1) * 5) (l.length + 1) 5), (9, I i), (11, gptr WB 0 5), (12, I ((x.1 : Int) + 1))])
            (fun x => (WB, ⟨stC x.2, false⟩) :: (n3, ⟨csC c, false⟩) :: (A0, ⟨recs stC T, false⟩) :: h)
            (fun x => x.1 ≤ (min w (i : Int)).toNat ∧ x.2 = (rtries l i x.1).foldl (rstp c T i) (nxt c T i (litP l i))) (fun x => (min w (i : Int)).toNat - x.1) (0, nxt c T i (litP l i)) ⟨Nat.zero_le _, rfl⟩ (by repeat' (first | exact trivial | refine ⟨rfl, ?_⟩ | refine ⟨congrArg some ?_, ?_⟩)) (by repeat (first | with_reducible exact Take.nil | with_reducible apply Take.c | ((with_reducible apply Take.cE); (first | exact rfl | (apply blkE; (focus (first | exact rfl | exact recs_snocE rfl | exact map_snocE rfl | exact congrArg (fun v => [v]) (gslE rfl rfl (by first | rfl | exact ‹_› | omega | (simp ; first | done | omega)) (by first | rfl | exact ‹_› | omega | (simp ; first | done | omega)) rfl)))))) | with_reducible apply Take.drop)) ?_
          rintro ⟨D, b⟩ ⟨hD, hb⟩
          dsimp only at hD hb ⊢
          by_cases hDl : D < (min w (i : Int)).toNat
          · have hat := atd_eq l i (D + 1) 273 (by omega) (by omega) (by omega) (by omega)
            have hlc := lcp_le l (min (273 : Int) ((l.length : Int) - i)).toNat (i - (D + 1)) i
            rw [show ((D + 1 : Nat) : Int) = (D : Int) + 1 by omega] at hat
            obtain ⟨N, hN⟩ : ∃ N : Nat, atd l i ((D : Int) + 1) 273 = N := ⟨(atd l i ((D : Int) + 1) 273).toNat, by split at hat <;> omega⟩
            have hN2 : N ≤ 273 ∧ i + N ≤ l.length := by split at hat <;> omega
            have hA := rAt_any l i ((D : Int) + 1) 273
            rw [hN] at hA
            have hnx : (rtries l i (D + 1)).foldl (rstp c T i) (nxt c T i (litP l i)) = (trN ((D : Int) + 1) 1 N).foldl (rstp c T i) b := by
              rw [rtries, List.foldl_append, ← hb, hN, Int.toNat_natCast]
            repeat' (first | apply w_seq | apply w_region | apply o_nil | (apply o_g tyOk; exact rfl; exact rfl) | (apply o_call; exact rfl; exact rfl; (focus (first | exact rfl | assumption)); exact rfl; (focus (exact ⟨_, hA _ hl (by omega), by repeat (first | with_reducible exact Take.nil | with_reducible apply Take.c | with_reducible apply Take.drop)⟩)); rintro _ _ ⟨rfl, rfl⟩) | (apply o_want; exact rfl; exact rfl) | (apply o_gT; (iterate 3 exact rfl); (focus (first | exact ‹_› | with_reducible exact rfl | omega))) | (apply w_dT; exact rfl; (focus (first | exact ‹_› | with_reducible exact rfl | omega))) | apply thenS_normal | apply w_skip | apply w_block | ((with_reducible apply Sd.mk); (first | exact True.intro | omega | (constructor <;> first | omega | (unfold maxLen; omega)) | (unfold maxLen; omega))))
            refine w_loop (S := Nat × St) (fun x => [(1, S l), (2, I w), (3, gptr n3 0 4), (8, gsl A0 0 ((l.length + 1) * 5) (l.length + 1) 5), (9, I i), (11, gptr WB 0 5), (12, I ((D : Int) + 1)), (13, I x.1)])
              (fun x => (WB, ⟨stC x.2, false⟩) :: (n3, ⟨csC c, false⟩) :: (A0, ⟨recs stC T, false⟩) :: h)
              (fun x => x.1 ≤ N ∧ (trN ((D : Int) + 1) 1 x.1).foldl (rstp c T i) x.2 = (trN ((D : Int) + 1) 1 N).foldl (rstp c T i) b) (fun x => x.1) (N, b) ⟨Nat.le_refl _, rfl⟩ (by repeat' (first | exact trivial | refine ⟨rfl, ?_⟩ | refine ⟨congrArg some ?_, ?_⟩)) (by repeat (first | with_reducible exact Take.nil | with_reducible apply Take.c | with_reducible apply Take.drop)) ?_
            rintro ⟨n, b2⟩ ⟨hnN, hb2⟩
            dsimp only at hnN hb2 ⊢
            by_cases hn2 : 1 < n
            · obtain ⟨m, rfl⟩ : ∃ m, n = m + 1 := ⟨n - 1, by omega⟩
              rw [trN, if_pos hn2, List.foldl_cons] at hb2
              obtain ⟨t, ht⟩ : ∃ t : Pc, t = (((m + 1 : Nat) : Int), (D : Int) + 1, 0) := ⟨_, rfl⟩
              have hvp : vP t := by rw [ht]; exact .inr ⟨by dsimp only; omega, by dsimp only; omega, by dsimp only; omega, by dsimp only; omega, rfl⟩
              have hst2 := TOk.st ⟨hTl, hT⟩ hn (show i + (m + 1) ≤ l.length by omega)
              have hp2 := hpi _ hvp
              have w3 : IntKind.i64.wrap (price c t + T[((i : Int) + ((m + 1 : Nat) : Int)).toNat]!.1) = (nxt c T i t).1 := by
                have e : (nxt c T i t).1 = T[i + (m + 1)]!.1 + price c t := by unfold nxt; dsimp only; rw [ht]; rfl
                rw [e, show ((i : Int) + ((m + 1 : Nat) : Int)).toNat = i + (m + 1) by omega, IntWalk.i64_in _ (by unfold stOk at hst2; omega)]; omega
              have w4 : IntKind.i64.wrap (1 + T[((i : Int) + ((m + 1 : Nat) : Int)).toNat]!.2.1) = (nxt c T i t).2.1 := by
                have e : (nxt c T i t).2.1 = T[i + (m + 1)]!.2.1 + 1 := by unfold nxt; dsimp only; rw [ht]; rfl
                rw [e, show ((i : Int) + ((m + 1 : Nat) : Int)).toNat = i + (m + 1) by omega, IntWalk.i64_in _ (by unfold stOk at hst2; omega)]; omega
              have hpt := fun h => hpr t h hvp
              have hbt := fun h => rbetter_any (nxt c T i t) b2 h
              have ex : (nxt c T i t).2.2 = t := rfl
              have hstc : stC (nxt c T i t) = [I (nxt c T i t).1, I (nxt c T i t).2.1, I ((m + 1 : Nat) : Int), I ((D : Int) + 1), .int .u8 0] := by
                show [I _, I _, I (nxt c T i t).2.2.1, I (nxt c T i t).2.2.2.1, .int .u8 (nxt c T i t).2.2.2.2] = _
                rw [ex, ht]
              have hbt2 : ∀ h, SRun Try.prog 63 [.agg ⟨[I (nxt c T i t).1, I (nxt c T i t).2.1, I ((m + 1 : Nat) : Int), I ((D : Int) + 1), .int .u8 0]⟩, .agg ⟨stC b2⟩] h fun r q => r = B (decide (kb (nxt c T i t) b2)) ∧ q = h := fun h => by
                have := hbt h
                have e : stC (nxt c T i t) = [I (nxt c T i t).1, I (nxt c T i t).2.1, I ((m + 1 : Nat) : Int), I ((D : Int) + 1), .int .u8 0] := by
                  show [I _, I _, I (nxt c T i t).2.2.1, I (nxt c T i t).2.2.2.1, .int .u8 (nxt c T i t).2.2.2.2] = _
                  rw [ex, ht]
                rwa [e] at this
              have hpt2 : ∀ h, SRun Try.prog 61 [csV c, .agg ⟨[I ((m + 1 : Nat) : Int), I ((D : Int) + 1), .int .u8 0]⟩] h fun r q => r = I (price c t) ∧ q = h := fun h => by
                have := hpt h
                rw [ht] at this ⊢; exact this
              clear hpt hbt
              repeat' (first | apply w_seq | apply w_region | apply o_nil | (apply w_draw; (focus (kernel_rfl)); (focus (kernel_rfl))) | (apply o_g tyOk; exact rfl; exact rfl) | (apply o_ar tyOk; exact rfl; exact rfl) | (apply o_load tyOk; (iterate 3 exact rfl); (focus (exact pk))) | (apply o_loads tyOk; (iterate 3 exact rfl); (focus (exact pk))) | (apply o_stores tyOk; (iterate 4 exact rfl); (focus (exact ⟨rfl⟩)); (focus (exact up))) | (apply o_alloc tyOk; iterate 5 exact rfl) | (apply o_build tyOk; exact rfl; exact rfl; (focus (first | with_reducible exact pl38 | with_reducible exact pl104)); exact rfl; (focus (repeat (first | exact BuildR.nil | (apply BuildR.one; exact rfl; exact rfl; (first | (focus ((repeat (first | exact SetAt.zero | apply SetAt.succ)); done)) | exact setAt_bytes (by omega) (by omega) | exact setAt_mapZ (by omega) | exact setAt_map (by omega))) | (apply BuildR.agg; exact rfl; exact rfl; (first | exact putAt_all rfl | exact put5 | exact putAt_recZ (fun _ => rfl) (by omega) | exact putAt_rec (fun _ => rfl) (by omega)))))); exact rfl) | (apply o_callD; (iterate 4 exact rfl); (focus (exact ⟨_, hpt2 _, by repeat (first | with_reducible exact Take.nil | with_reducible apply Take.c | with_reducible apply Take.drop)⟩)); (focus (exact fun _ _ h => h.1)); (focus ((repeat (first | exact Flat.c rfl | apply flat_tuple | apply flat_agg | exact FlatL.nil | apply FlatL.cons))))) | (apply o_call; exact rfl; exact rfl; (focus (first | exact rfl | assumption)); exact rfl; (focus (exact ⟨_, hbt2 _, by repeat (first | with_reducible exact Take.nil | with_reducible apply Take.c | with_reducible apply Take.drop)⟩)); rintro _ _ ⟨rfl, rfl⟩) | (apply w_dT; exact rfl; (focus (first | exact ‹_› | with_reducible exact rfl | omega))) | (apply w_if; exact rfl; all_goals intro hc) | apply thenS_normal | apply blockS_normal | apply w_skip | apply w_block | ((with_reducible apply Sd.mk); (first | exact True.intro | omega | (constructor <;> first | omega | (unfold maxLen; omega)) | (unfold maxLen; omega))) | ((with_reducible apply Ln.mk); (first | rfl | exact ‹_› | omega | (simp ; first | done | omega))) | ((with_reducible apply Wr.mk); (first | exact w3 | exact w4 | exact IntWalk.i64_in _ (by omega) | exact IntWalk.u8_in _ (by omega) | exact IntWalk.u32_in _ (by omega) | exact IntWalk.u64_in _ (by omega) | exact IntKind.wrap_u8 _ | exact IntKind.wrap_u32 _ | rfl)) | ((with_reducible apply Ce.mk); (first | rfl | exact ‹_› | exact cell_recZ (fun _ => rfl) (by omega) (by decide) rfl | exact cell_rec (fun _ => rfl) (by omega) (by decide) rfl | exact cell_bytes (by omega) | exact cell_mapZ (by omega) | exact cell_map (by omega))) | ((with_reducible apply Pu.mk); (first | exact putAt_all rfl | exact put5 | exact putAt_recZ (fun _ => rfl) (by omega) | exact putAt_rec (fun _ => rfl) (by omega))) | ((with_reducible apply Su.mk); (first | exact subAt_all | exact subAt_recZ (fun _ => rfl) (by omega) | exact subAt_rec (fun _ => rfl) (by omega))) | exact True.intro | exact Or.inl rfl | apply And.intro | intro A | exact rfl)
              · rw [show ((m + 1 : Nat) : Int) - 1 = (m : Int) by omega]
                have hr : rstp c T i b2 t = nxt c T i t := if_pos hc
                rw [← ht, hr] at hb2
                refine ⟨(m, nxt c T i t), ⟨by show m ≤ N; omega, hb2⟩, Nat.lt_succ_self m, (by repeat' (first | exact trivial | refine ⟨rfl, ?_⟩ | refine ⟨congrArg some ?_, ?_⟩)), ?_⟩
                show Take _ ((WB, ⟨stC (nxt c T i t), false⟩) :: _)
                rw [hstc]; exact (by repeat (first | with_reducible exact Take.nil | with_reducible apply Take.c | with_reducible apply Take.drop))
              · rw [show ((m + 1 : Nat) : Int) - 1 = (m : Int) by omega]
                have hr : rstp c T i b2 t = b2 := if_neg hc
                rw [← ht, hr] at hb2
                exact ⟨(m, b2), ⟨by show m ≤ N; omega, hb2⟩, Nat.lt_succ_self m, (by repeat' (first | exact trivial | refine ⟨rfl, ?_⟩ | refine ⟨congrArg some ?_, ?_⟩)), (by repeat (first | with_reducible exact Take.nil | with_reducible apply Take.c | with_reducible apply Take.drop))⟩
            · have hnil : trN ((D : Int) + 1) 1 n = [] := by
                cases n with
                | zero => rfl
                | succ n => rw [trN, if_neg hn2]
              rw [hnil, List.foldl_nil] at hb2
              repeat' (first | apply w_seq | apply w_region | apply o_nil | (apply o_g tyOk; exact rfl; exact rfl) | (apply o_ar tyOk; exact rfl; exact rfl) | (apply w_dF; exact rfl; (focus (first | exact ‹_› | with_reducible exact rfl | omega))) | apply thenS_normal | apply thenS_exit | apply blockS_normal | apply blockS_exit | apply w_exit | ((with_reducible apply Sd.mk); (first | exact True.intro | omega | (constructor <;> first | omega | (unfold maxLen; omega)) | (unfold maxLen; omega))) | ((with_reducible apply Wr.mk); (first | exact IntWalk.i64_in _ (by omega) | exact IntWalk.u8_in _ (by omega) | exact IntWalk.u32_in _ (by omega) | exact IntWalk.u64_in _ (by omega) | exact IntKind.wrap_u8 _ | exact IntKind.wrap_u32 _ | rfl)))
              exact ⟨(D + 1, b2), ⟨hDl, by show b2 = _; rw [hnx, hb2]⟩, by show _ - (D + 1) < _ - D; omega, (by repeat' (first | exact trivial | refine ⟨rfl, ?_⟩ | refine ⟨congrArg some ?_, ?_⟩)), (by repeat (first | with_reducible exact Take.nil | with_reducible apply Take.c | with_reducible apply Take.drop))⟩
          · obtain rfl : D = (min w (i : Int)).toNat := by omega
            have hbb : b = rbest c l w T i := hb
            rw [← hbb] at hsu
            have hput : PutAt (recs stC T) (0 + ((i : Int)).toNat * 5) (stC b) (recs stC (T.set i b)) := putAt_recZ (fun _ => rfl) (by omega)
            repeat' (first | apply w_seq | apply w_region | apply o_nil | (apply o_g tyOk; exact rfl; exact rfl) | (apply o_ar tyOk; exact rfl; exact rfl) | (apply o_loads tyOk; (iterate 3 exact rfl); (focus (exact pk))) | (apply o_stores tyOk; (iterate 4 exact rfl); (focus (exact ⟨rfl⟩)); (focus (exact up))) | (apply o_want; exact rfl; exact rfl) | (apply o_skip; iterate 4 exact rfl) | (apply o_guardT; (iterate 3 exact rfl); all_goals intro hc) | (apply w_false; exact rfl) | (apply w_dF; exact rfl; (focus (first | exact ‹_› | with_reducible exact rfl | omega))) | apply thenS_normal | apply thenS_exit | apply blockS_normal | apply blockS_exit | apply w_exit | ((with_reducible apply Sd.mk); (first | exact True.intro | omega | (constructor <;> first | omega | (unfold maxLen; omega)) | (unfold maxLen; omega))) | ((with_reducible apply Ln.mk); (first | rfl | exact ‹_› | omega | (simp ; first | done | omega))) | ((with_reducible apply Wr.mk); (first | exact IntWalk.i64_in _ (by omega) | exact IntWalk.u8_in _ (by omega) | exact IntWalk.u32_in _ (by omega) | exact IntWalk.u64_in _ (by omega) | exact IntKind.wrap_u8 _ | exact IntKind.wrap_u32 _ | rfl)) | ((with_reducible apply Pu.mk); (first | exact putAt_all rfl | exact hput | exact putAt_recZ (fun _ => rfl) (by omega) | exact putAt_rec (fun _ => rfl) (by omega))) | ((with_reducible apply Su.mk); (first | exact subAt_all | exact subAt_recZ (fun _ => rfl) (by omega) | exact subAt_rec (fun _ => rfl) (by omega))) | exact True.intro | exact rfl)
            all_goals
              rw [hsu]
              refine ⟨j + 1, by show j + 1 ≤ _; omega, by show l.length - (j + 1) < l.length - j; omega, ?_, (by repeat (first | with_reducible exact Take.nil | with_reducible apply Take.c | with_reducible apply Take.drop))⟩
              rw [show (l.length : Int) - ((j + 1 : Nat) : Int) - 1 = (i : Int) - 1 by omega]
              exact (by repeat' (first | exact trivial | refine ⟨rfl, ?_⟩ | refine ⟨congrArg some ?_, ?_⟩))
        · obtain rfl : j = l.length := by omega
          have hPF : ∀ i, i < l.length → fits l i (parT c l w l.length)[i]!.2.2 := fun i hi => hF i (by omega) hi
          have hpr : parse c l w = (walkT (parT c l w l.length) l.length l.length 0, 0) := by unfold parse; rw [if_pos ⟨hc0, hw⟩, if_neg (by omega)]
          rw [hpr]
          obtain ⟨T, hTe⟩ : ∃ T, T = parT c l w l.length := ⟨_, rfl⟩
          rw [← hTe] at hPF hTl ⊢
          repeat' (first | apply w_seq | apply w_region | apply o_nil | (apply o_g tyOk; exact rfl; exact rfl) | (apply o_buildSlice tyOk; (iterate 5 exact rfl); (focus (decide)); exact rfl; (focus (decide)); (focus (repeat (first | exact CatR.nil | exact CatR.last rfl | (apply CatR.one; exact rfl; exact rfl) | (apply CatR.agg; exact rfl)))); exact rfl) | (apply w_dF; exact rfl; (focus (first | exact ‹_› | with_reducible exact rfl | omega))) | apply thenS_normal | apply thenS_exit | apply blockS_exit | apply w_exit | apply w_block | ((with_reducible apply Sd.mk); (first | exact True.intro | omega | (constructor <;> first | omega | (unfold maxLen; omega)) | (unfold maxLen; omega))) | intro A)
          obtain ⟨A2, rfl⟩ : ∃ A2, A2 = A := ⟨_, rfl⟩
          refine w_loop (S := Nat × Nat × List Pc) (fun x => [(1, S l), (8, gsl A0 0 ((l.length + 1) * 5) (l.length + 1) 5), (16, gsl A2 0 (3 * x.2.2.length) x.2.2.length 3), (17, I x.1)]) (fun x => (A2, ⟨recs pcC x.2.2, false⟩) :: (A0, ⟨recs stC T, false⟩) :: h)
            (fun x => x.1 ≤ l.length ∧ l.length ≤ x.2.1 + x.1 ∧ x.2.2 ++ walkT T l.length x.2.1 x.1 = walkT T l.length l.length 0 ∧ x.2.2.length ≤ x.1) (fun x => l.length - x.1)
            (0, l.length, []) ⟨by simp, by simp, rfl, by simp⟩ (by repeat' (first | exact trivial | refine ⟨rfl, ?_⟩ | refine ⟨congrArg some ?_, ?_⟩)) (by repeat (first | with_reducible exact Take.nil | with_reducible apply Take.c | ((with_reducible apply Take.cE); (first | exact rfl | (apply blkE; (focus (first | exact rfl | exact recs_snocE rfl | exact map_snocE rfl | exact congrArg (fun v => [v]) (gslE rfl rfl (by first | rfl | exact ‹_› | omega | (simp ; first | done | omega)) (by first | rfl | exact ‹_› | omega | (simp ; first | done | omega)) rfl)))))) | with_reducible apply Take.drop)) ?_
          rintro ⟨i, f, ps⟩ ⟨hi, hif, hwk, hpl⟩
          dsimp only at hi hif hwk hpl ⊢
          by_cases hil : i < l.length
          · obtain ⟨f, rfl⟩ : ∃ m, f = m + 1 := ⟨f - 1, by omega⟩
            rw [walkT, if_pos hil] at hwk
            have hft := hPF i hil
            have hsub := sub_pc (T := T) (i := i) (by omega)
            obtain ⟨m, hm⟩ : ∃ m : Nat, T[i]!.2.2.1 = (m : Int) := ⟨_, (Int.toNat_of_nonneg (by omega)).symm⟩
            rw [show T[i]!.2.2.1.toNat = m by omega] at hwk
            repeat' (first | apply w_seq | apply w_region | apply o_nil | (apply o_g tyOk; exact rfl; exact rfl) | (apply o_ar tyOk; exact rfl; exact rfl) | (apply o_load tyOk; (iterate 3 exact rfl); (focus (exact pk))) | (apply o_loads tyOk; (iterate 3 exact rfl); (focus (exact pk))) | (apply o_buildSlice tyOk; (iterate 5 exact rfl); (focus (decide)); exact rfl; (focus (decide)); (focus (repeat (first | exact CatR.nil | exact CatR.last rfl | (apply CatR.one; exact rfl; exact rfl) | (apply CatR.agg; exact rfl)))); exact rfl) | (apply o_append tyOk; (iterate 5 exact rfl); (focus (exact ⟨by decide⟩)); (focus (exact up)); (focus (exact pk))) | (apply w_dT; exact rfl; (focus (first | exact ‹_› | with_reducible exact rfl | omega))) | apply thenS_normal | apply blockS_normal | apply w_skip | apply w_block | ((with_reducible apply Sd.mk); (first | exact True.intro | omega | (constructor <;> first | omega | (unfold maxLen; omega)) | (unfold maxLen; omega))) | ((with_reducible apply Ln.mk); (first | rfl | exact ‹_› | omega | (simp ; first | done | omega))) | ((with_reducible apply Wr.mk); (first | exact IntWalk.i64_in _ (by omega) | exact IntWalk.u8_in _ (by omega) | exact IntWalk.u32_in _ (by omega) | exact IntWalk.u64_in _ (by omega) | exact IntKind.wrap_u8 _ | exact IntKind.wrap_u32 _ | rfl)) | ((with_reducible apply Ce.mk); (first | rfl | exact ‹_› | exact cell_recZ (fun _ => rfl) (by omega) (by decide) rfl | exact cell_rec (fun _ => rfl) (by omega) (by decide) rfl | exact cell_bytes (by omega) | exact cell_mapZ (by omega) | exact cell_map (by omega))) | ((with_reducible apply Su.mk); (first | exact hsub | exact subAt_all | exact subAt_recZ (fun _ => rfl) (by omega) | exact subAt_rec (fun _ => rfl) (by omega))) | exact True.intro | intro A | exact rfl)
            rw [show (i : Int) + T[i]!.2.2.1 = ((i + m : Nat) : Int) by omega]
            exact ⟨(i + m, f, ps ++ [T[i]!.2.2]), ⟨by show i + m ≤ l.length; omega, by show l.length ≤ f + (i + m); omega, by rw [List.append_assoc]; exact hwk, by show (ps ++ [_]).length ≤ i + m; rw [List.length_append, List.length_singleton]; omega⟩, by show l.length - (i + m) < l.length - i; omega, ⟨rfl, rfl, congrArg some (gslE rfl rfl (by simp; try omega) (by simp) rfl), rfl, trivial⟩, (by repeat (first | with_reducible exact Take.nil | with_reducible apply Take.c | ((with_reducible apply Take.cE); (first | exact rfl | (apply blkE; (focus (first | exact rfl | exact recs_snocE rfl | exact map_snocE rfl | exact congrArg (fun v => [v]) (gslE rfl rfl (by first | rfl | exact ‹_› | omega | (simp ; first | done | omega)) (by first | rfl | exact ‹_› | omega | (simp ; first | done | omega)) rfl)))))) | with_reducible apply Take.drop))⟩
          · obtain rfl : i = l.length := by omega
            have hw0 : walkT T l.length f l.length = [] := by
              cases f with
              | zero => rfl
              | succ f => rw [walkT, if_neg (Nat.lt_irrefl _)]
            rw [hw0, List.append_nil] at hwk
            subst hwk
            repeat' (first | apply w_seq | apply w_region | apply o_nil | (apply o_g tyOk; exact rfl; exact rfl) | (apply w_dF; exact rfl; (focus (first | exact ‹_› | with_reducible exact rfl | omega))) | apply thenS_normal | apply thenS_exit | apply blockS_exit | apply w_ret | apply w_exit | ((with_reducible apply Sd.mk); (first | exact True.intro | omega | (constructor <;> first | omega | (unfold maxLen; omega)) | (unfold maxLen; omega))))
            (apply s_fin; (exact (show ResS _ _ _ _ [_, _] from ⟨rfl, ⟨rfl, trivial⟩⟩)); (focus (exact ⟨_, rfl, ⟨_, _, rfl, fun _ => ⟨A2, false, _, rfl, .head⟩⟩, .drop .nil⟩)); (focus (repeat (first | with_reducible exact Take.nil | with_reducible apply Take.c | with_reducible apply Take.drop))))
      · refine w_body3 Try.func23 rfl rfl ?_
        repeat' (first | apply w_seq | apply w_region | apply o_nil | (apply o_g tyOk; exact rfl; exact rfl) | (apply o_not; exact rfl; exact rfl) | (apply o_loads tyOk; (iterate 3 exact rfl); (focus (exact pk))) | (apply o_box (tt := tyT); iterate 5 exact rfl) | (apply o_call; exact rfl; exact rfl; (focus (first | exact rfl | assumption)); exact rfl; (focus (exact ⟨_, rValidC_any c _, by repeat (first | with_reducible exact Take.nil | with_reducible apply Take.c | with_reducible apply Take.drop)⟩)); rintro _ _ ⟨rfl, rfl⟩) | (apply o_call; exact rfl; exact rfl; (focus (first | exact rfl | assumption)); exact rfl; (focus (exact ⟨_, rvalid_any w 273 _, by repeat (first | with_reducible exact Take.nil | with_reducible apply Take.c | with_reducible apply Take.drop)⟩)); rintro _ _ ⟨rfl, rfl⟩) | (apply o_want; exact rfl; exact rfl) | (apply o_gF; (iterate 3 exact rfl); (focus (first | exact ‹_› | with_reducible exact rfl | omega))) | (apply w_dT; exact rfl; (focus (first | exact ‹_› | with_reducible exact rfl | omega))) | (apply w_dF; exact rfl; (focus (first | exact ‹_› | with_reducible exact rfl | omega))) | apply thenS_normal | apply thenS_ret | apply blockS_ret | apply w_ret | apply w_block | ((with_reducible apply Sd.mk); (first | exact True.intro | omega | (constructor <;> first | omega | (unfold maxLen; omega)) | (unfold maxLen; omega))) | ((with_reducible apply Ln.mk); (first | rfl | exact ‹_› | omega | (simp ; first | done | omega))) | ((with_reducible apply Su.mk); (first | exact subAt_all | exact subAt_recZ (fun _ => rfl) (by omega) | exact subAt_rec (fun _ => rfl) (by omega))) | exact True.intro | intro A | exact rfl)
        all_goals first
          | (apply s_fin; (exact (show ResS _ _ _ _ [_, _] from ⟨rfl, ⟨rfl, trivial⟩⟩)); (focus (exact ⟨_, by unfold parse; rw [if_pos ⟨hc0, hw⟩, if_pos (by omega)]; rfl, ⟨none, 0, by unfold parse; rw [if_pos ⟨hc0, hw⟩, if_pos (by omega)]; rfl, fun g => absurd (by unfold parse; rw [if_pos ⟨hc0, hw⟩, if_pos (by omega)]; rfl) g⟩, .nil⟩)); (focus (repeat (first | with_reducible exact Take.nil | with_reducible apply Take.c | with_reducible apply Take.drop))))
          | (exfalso; omega)
          | (exfalso; simp_all; done)
    · refine w_body3 Try.func23 rfl rfl ?_
      repeat' (first | apply w_seq | apply w_region | apply o_nil | (apply o_g tyOk; exact rfl; exact rfl) | (apply o_not; exact rfl; exact rfl) | (apply o_loads tyOk; (iterate 3 exact rfl); (focus (exact pk))) | (apply o_box (tt := tyT); iterate 5 exact rfl) | (apply o_call; exact rfl; exact rfl; (focus (first | exact rfl | assumption)); exact rfl; (focus (exact ⟨_, rValidC_any c _, by repeat (first | with_reducible exact Take.nil | with_reducible apply Take.c | with_reducible apply Take.drop)⟩)); rintro _ _ ⟨rfl, rfl⟩) | (apply o_call; exact rfl; exact rfl; (focus (first | exact rfl | assumption)); exact rfl; (focus (exact ⟨_, rvalid_any w 273 _, by repeat (first | with_reducible exact Take.nil | with_reducible apply Take.c | with_reducible apply Take.drop)⟩)); rintro _ _ ⟨rfl, rfl⟩) | (apply o_want; exact rfl; exact rfl) | (apply o_gF; (iterate 3 exact rfl); (focus (first | exact ‹_› | with_reducible exact rfl | omega))) | (apply w_dT; exact rfl; (focus (first | exact ‹_› | with_reducible exact rfl | omega))) | apply thenS_normal | apply thenS_ret | apply blockS_ret | apply w_ret | apply w_block | ((with_reducible apply Sd.mk); (first | exact True.intro | omega | (constructor <;> first | omega | (unfold maxLen; omega)) | (unfold maxLen; omega))) | ((with_reducible apply Ln.mk); (first | rfl | exact ‹_› | omega | (simp ; first | done | omega))) | ((with_reducible apply Su.mk); (first | exact subAt_all | exact subAt_recZ (fun _ => rfl) (by omega) | exact subAt_rec (fun _ => rfl) (by omega))) | exact True.intro | intro A | exact rfl)
      all_goals first
        | (apply s_fin; (exact (show ResS _ _ _ _ [_, _] from ⟨rfl, ⟨rfl, trivial⟩⟩)); (focus (exact ⟨_, by unfold parse; rw [if_neg (fun g => hw g.2)]; rfl, ⟨none, 0, by unfold parse; rw [if_neg (fun g => hw g.2)]; rfl, fun g => absurd (by unfold parse; rw [if_neg (fun g => hw g.2)]; rfl) g⟩, .nil⟩)); (focus (repeat (first | with_reducible exact Take.nil | with_reducible apply Take.c | with_reducible apply Take.drop))))
        | (exfalso; omega)
        | (exfalso; simp_all; done)
  · refine w_body3 Try.func23 rfl rfl ?_
    repeat' (first | apply w_seq | apply w_region | apply o_nil | (apply o_g tyOk; exact rfl; exact rfl) | (apply o_not; exact rfl; exact rfl) | (apply o_loads tyOk; (iterate 3 exact rfl); (focus (exact pk))) | (apply o_box (tt := tyT); iterate 5 exact rfl) | (apply o_call; exact rfl; exact rfl; (focus (first | exact rfl | assumption)); exact rfl; (focus (exact ⟨_, rValidC_any c _, by repeat (first | with_reducible exact Take.nil | with_reducible apply Take.c | with_reducible apply Take.drop)⟩)); rintro _ _ ⟨rfl, rfl⟩) | (apply o_skip; iterate 4 exact rfl) | (apply o_sT; (iterate 3 exact rfl); (focus (first | exact ‹_› | with_reducible exact rfl | omega)); exact rfl) | (apply w_true; exact rfl) | apply thenS_normal | apply thenS_ret | apply blockS_ret | apply w_ret | apply w_block | ((with_reducible apply Sd.mk); (first | exact True.intro | omega | (constructor <;> first | omega | (unfold maxLen; omega)) | (unfold maxLen; omega))) | ((with_reducible apply Ln.mk); (first | rfl | exact ‹_› | omega | (simp ; first | done | omega))) | ((with_reducible apply Su.mk); (first | exact subAt_all | exact subAt_recZ (fun _ => rfl) (by omega) | exact subAt_rec (fun _ => rfl) (by omega))) | exact True.intro | intro A | exact rfl)
    all_goals first
      | (apply s_fin; (exact (show ResS _ _ _ _ [_, _] from ⟨rfl, ⟨rfl, trivial⟩⟩)); (focus (exact ⟨_, by unfold parse; rw [if_neg (fun g => hc0 g.1)]; rfl, ⟨none, 0, by unfold parse; rw [if_neg (fun g => hc0 g.1)]; rfl, fun g => absurd (by unfold parse; rw [if_neg (fun g => hc0 g.1)]; rfl) g⟩, .nil⟩)); (focus (repeat (first | with_reducible exact Take.nil | with_reducible apply Take.c | with_reducible apply Take.drop))))
      | (exfalso; simp_all; done)
end Go.Proofs.Ytgooffiipnkmiaa
end
