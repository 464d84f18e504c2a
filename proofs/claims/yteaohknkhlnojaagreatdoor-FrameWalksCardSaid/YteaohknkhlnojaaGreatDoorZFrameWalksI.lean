/- Part 9 of the proof of the law FrameWalks: texts merged. No condition. -/
import Derived.Test.YteaohknkhlnojaaGreatDoorZFrameWalksH
import Derived.Shelf.Strings.Builder1
import Derived.Shelf.Strings.Builder2
import Derived.Shelf.Small.Bits
import Derived.Shelf.Strings.BuilderF
import Derived.Shelf.Utf8.RuneCount
import Derived.Shelf.Strconv.Itoa0
import Derived.Shelf.Strings.Search1
import Derived.Shelf.Strings.Search2
import Derived.Shelf.Strings.Search3
import Derived.Shelf.Strings.Count
import Derived.Shelf.LaysM
import Derived.Shelf.Strings.Shaped
import Derived.Shelf.Strings.Prefix
import Derived.Shelf.Bits.Mul64
import Derived.Shelf.Strings.Repeat
import Derived.Shelf.Unicode.DecodeSlow
import Derived.Shelf.Unicode.DecodeAny
import Derived.Test.YteaohknkhlnojaaGreatDoorProg
import Derived.Lib.ReplaceLaws
import Derived.Lib.SlicesS
import Derived.Deep.LoopGhost
section
set_option linter.unusedVariables false
set_option linter.unusedSimpArgs false
set_option maxRecDepth 4000
namespace Go.Proofs.YteaohknkhlnojaaGreatDoor
open Go.Gh Go.RowKit Go.Shelf

attribute [local go_sem] Oper.semAt_some

theorem wkL_len (d : List UInt8) : ∀ f at_, (wkL d f at_).length ≤ f
  | 0, _ => Nat.le_refl _
  | f + 1, at_ => by
    unfold wkL
    split
    · split
      · exact Nat.le_succ_of_le (wkL_len d f _)
      · exact Nat.succ_le_succ (wkL_len d f _)
    · exact Nat.zero_le _
set_option maxHeartbeats 1000000 in
theorem wlk_in (n : Nat) (d : List UInt8) (w : World) :
    CallsIn Fence.wide n Tryz.prog 16 #[S d] w fun e w' => e = .returned (.func (.func 37) #[] #[.pointer (some ⟨w.heap.size, 0, none⟩)]) ∧ w' = w.alloc (.cells #[S d] 9) := by
  refine callsIn_of_wp Tryz.func16 rfl trivial ?_ rfl
  simp only [Tryz.ntmps16, List.size_toArray, List.length_cons, List.length_nil, Nat.reduceAdd, Nat.reduceSub, Array.replicate_succ, Array.replicate_zero, List.push_toArray, List.append_toArray, List.nil_append, List.cons_append]
  gi_wp2
  go_ret
  exact ⟨rfl, rfl⟩
theorem walk1_stops (n : Nat) (hn : 1 ≤ n) (Bn : Nat) (d : List UInt8) (hd : d.length ≤ 1000000) (hlen : ∀ at_ k c n s, prs (d.drop at_) = some (k, c, n, s) → 1 ≤ n ∧ at_ + n ≤ d.length) (w : World) (hB0 : Bn < w.heap.size) (hc : w.cell? ⟨Bn, 0, none⟩ = some (S d)) :
    SeqStopsK Fence.wide n Tryz.prog 37 #[.pointer (some ⟨Bn, 0, none⟩)] (fun x : Fd => #[.agg ⟨fdC x⟩]) (KpB Bn) (fun ys => ys = wkL d d.length 0) (fun pre => pre <+: wkL d d.length 0) (wkL d d.length 0).length w :=
  fun l J Jx W hW hJ _ hY h0 => walk1_in n hn l Bn d hd hlen J Jx W hJ (Nat.lt_of_lt_of_le hB0 hW.size) hY ((hW.cell (p := ⟨Bn, 0, none⟩) hB0).trans hc) h0
theorem cells4_new (w : World) (a b c e : Value) (t : TypeId) : ∀ j u, [a, b, c, e][j]? = some u → (w.alloc (.cells #[a, b, c, e] t)).cell? ((⟨w.heap.size, 0, none⟩ : Addr).add j) = some u := by
  intro j u hj
  have h : (w.alloc (.cells #[a, b, c, e] t)).heap[w.heap.size]? = some (.cells #[a, b, c, e] t) := World.alloc_heap_new w _
  match j, hj with
  | 0, hj => show (match (w.alloc (.cells #[a, b, c, e] t)).heap[w.heap.size]? with | some (.cells c _ _) => c[0]? | _ => none) = some u; rw [h]; simpa using hj
  | 1, hj => show (match (w.alloc (.cells #[a, b, c, e] t)).heap[w.heap.size]? with | some (.cells c _ _) => c[1]? | _ => none) = some u; rw [h]; simpa using hj
  | 2, hj => show (match (w.alloc (.cells #[a, b, c, e] t)).heap[w.heap.size]? with | some (.cells c _ _) => c[2]? | _ => none) = some u; rw [h]; simpa using hj
  | 3, hj => show (match (w.alloc (.cells #[a, b, c, e] t)).heap[w.heap.size]? with | some (.cells c _ _) => c[3]? | _ => none) = some u; rw [h]; simpa using hj
  | j + 4, hj => simp at hj
theorem block4_own (B : Nat) (o : Obj) (ho : o.isCells = true) : Own (fun (_ : Unit) W => W.heap[B]? = some o) := fun s X Y row hs hg hrow =>
  (hg.block B (Array.getElem?_eq_some_iff.1 hs).1 (fun e => by obtain ⟨o', h1, h2⟩ := hrow B e.symm; rw [hs] at h1; cases h1; rw [ho] at h2; cases h2)).trans hs
theorem info46 : (Tryz.prog.info? 34).map (fun i => (i.zero, i.size, i.bytes)) = some (some (.agg #[.int .i64 0, .int .i64 0, .int .i64 0, .string ⟨⟨[]⟩⟩]), 4, 40) := by kernel_rfl
set_option maxRecDepth 100000 in
set_option maxHeartbeats 4000000 in
theorem Walk_in (n : Nat) (hn : 3 ≤ n) (d : List UInt8) (hd : d.length ≤ 1000000) (hlen : ∀ at_ k c n s, prs (d.drop at_) = some (k, c, n, s) → 1 ≤ n ∧ at_ + n ≤ d.length) (w : World) :
    CallsIn Fence.wide n Tryz.prog 8 #[S d] w fun e W' => ∃ v, e = .returned v ∧ W'.ownsRow w.heap.size 34 4 v (wkL d d.length 0).length ((wkL d d.length 0).flatMap fdC) ∧ (v = .slice none 0 0 ↔ wkL d d.length 0 = []) ∧ Below w.heap.size w W' := by
  have h1 : 1 ≤ n := by omega
  obtain ⟨i0, hi, hz0, hz1, hz2⟩ := info_parts info46
  refine callsIn_of_wp_marks Tryz.func8 rfl trivial ?_ rfl
  simp only [Tryz.ntmps8, List.size_toArray, List.length_cons, List.length_nil, Nat.reduceAdd, Nat.reduceSub, Array.replicate_succ, Array.replicate_zero, List.push_toArray, List.append_toArray, List.nil_append, List.cons_append]
  gi_wp2
  refine ⟨trivial, ?_⟩
  refine (wlk_in _ d _).mono ?_
  rintro e w2 ⟨rfl, rfl⟩
  gi_wp2
  have bO := (Boxed.new w 26 (.slice none 0 0)).alloc (.cells #[S d] 9)
  have bD := Boxed.new (w.alloc (.cells #[.slice none 0 0] 26)) 9 (S d)
  simp only [World.size_alloc] at bD
  have hB0 : Below w.heap.size w ((w.alloc (.cells #[.slice none 0 0] 26)).alloc (.cells #[S d] 9)) := ((Below.refl _ w).alloc (Nat.le_refl _) _).alloc (by simp) _
  have hsz : ((w.alloc (.cells #[.slice none 0 0] 26)).alloc (.cells #[S d] 9)).heap.size = w.heap.size + 2 := by simp
  obtain ⟨W0, hW0⟩ : ∃ W0, (w.alloc (.cells #[.slice none 0 0] 26)).alloc (.cells #[S d] 9) = W0 := ⟨_, rfl⟩
  rw [hW0] at bO bD hB0 hsz ⊢
  clear hW0
  have hN := wkL_len d d.length 0
  refine wpIn_rangeFunc_ownH rfl h1 (gf := 37) (lb := #[.pointer (some ⟨w.heap.size + 1, 0, none⟩)]) rfl trivial (enters_of Tryz.func37 (by kernel_rfl) rfl)
    (walk1_stops (n - 1) (by omega) (w.heap.size + 1) d hd hlen W0 (by omega) bD.cell) KpB.t
    (fun W l o o' hl h _ _ => ⟨World.putObj_heap_other (by omega), (grownBy_putObj' W l o').size⟩) (Below.refl _ _) (fun _ => rfl)
    (fun pre W => ((∃ v, Boxed W w.heap.size 26 v ∧ W.ownsRow w.heap.size 34 4 v pre.length (pre.flatMap fdC) ∧ (v = .slice none 0 0 ↔ pre = [])) ∧ Boxed W (w.heap.size + 1) 9 (S d)) ∧ Below w.heap.size w W)
    (fun _ _ _ => False)
    (OwnFrom.and (OwnFrom.and (Own.from (holdsRow_own w.heap.size w.heap.size 26 34 4 (fun pre : List Fd => pre.length) (fun pre => pre.flatMap fdC) (fun pre v => v = .slice none 0 0 ↔ pre = [])) _) (Own.from (boxed_own (w.heap.size + 1) 9 (fun _ => S d)) _)) (ownFrom_below (Nat.le_refl _) (by omega)))
    (fun _ _ _ _ _ hs _ _ => hs)
    ⟨⟨⟨_, bO, World.ownsRow_nil _ _ _ _, by simp⟩, bD⟩, hB0⟩
    (fun x a' W => ∃ Bx, w.heap.size + 1 < Bx ∧ W.heap[Bx]? = some (.cells #[I x.1, I x.2.1, I x.2.2.1, S x.2.2.2] 34 (0, 0)) ∧ a' = { tmps := #[S d, undef, Value.slice none 0 0, Value.pointer (some { block := w.heap.size, off := 0 }), Value.pointer (some { block := Bx, off := 0 }), S d,
          Value.func (Fn.func 37) #[] #[Value.pointer (some { block := w.heap.size + 1, off := 0 })], .agg #[I x.1, I x.2.1, I x.2.2.1, S x.2.2.2], undef, undef, undef, undef, undef], defers := [] })
    (fun x a' _ X Y row hs hg hr => by obtain ⟨Bx, h1, h2, h3⟩ := hs; exact ⟨Bx, h1, block4_own Bx _ rfl () X Y row h2 hg (fun r e => (hr r e).2), h3⟩)
    ?assign ?body ?done ?stop
  case assign =>
    rintro l pre x W K ⟨⟨⟨v, hv, hrow, hnil⟩, hD⟩, hB⟩ hK
    gi_wp2
    exact hK _ _ ((KeepsOthers.alloc _ _).from _) ⟨(hD.alloc _).trans hD.symm, by simp⟩ ⟨⟨⟨v, hv.alloc _, hrow.alloc _, hnil⟩, hD.alloc _⟩, hB.alloc hB.size _⟩ ⟨W.heap.size, hD.lt, World.alloc_heap_new W _, rfl⟩
  case body =>
    rintro l pre x a' W hl ⟨r, hr⟩ ⟨⟨⟨v, hv, hrow, hnil⟩, hD⟩, hB⟩ ⟨Bx, hBx, hX, rfl⟩ hlt
    have hc := hv.cell
    have c0 : W.cell? ⟨Bx, 0, none⟩ = some (I x.1) := by simp [World.cell?, hX]
    have c1 : W.cell? ⟨Bx, 1, none⟩ = some (I x.2.1) := by simp [World.cell?, hX]
    have c2 : W.cell? ⟨Bx, 2, none⟩ = some (I x.2.2.1) := by simp [World.cell?, hX]
    have c3 : W.cell? ⟨Bx, 3, none⟩ = some (S x.2.2.2) := by simp [World.cell?, hX]
    gi_wp2_with (gi_at_builtin; refine wpListIn_append_own _ rfl _ _ 26 rfl w.heap.size 34 i0 _ 4 40 Tryz.underlying26 hi hz0 hz1 hz2 rfl (by decide) _ _ _ rfl (hrow.alloc _) ⟨W.heap.size, 0, none⟩ 1 1 (fdC x) rfl rfl (cells4_new _ _ _ _ _ _) (by simp [Value.oneCell']) (by unfold maxLen; omega) (by omega) (by have := hB.size; simp; omega) ?_; intro v' w1 hown' hgrow _; obtain ⟨g', cap', rfl⟩ := ownsRow_succ hown'; obtain ⟨hv1, hv2, hr2, hk2, hb2⟩ := hv.appended (by decide) hrow hB.size (Nat.le_refl _) hown' hgrow; have hc1 := hv1.cell; have hf1 := hv1.frozen; have hD1 := ((hD.alloc _).kept hgrow (hD.not_row (by decide) hrow)).other (B' := w.heap.size) (by omega) (.slice (some ⟨g', 0, none⟩) (pre.length + 1) cap'))
    exact ⟨hk2.from _, ⟨hD1.trans hD.symm, hb2.size⟩, ⟨⟨_, hv2, by simpa using hr2, by simp⟩, hD1⟩, hB.trans hb2⟩
  case done =>
    rintro D ys W hD rfl ⟨⟨⟨v, hv, hrow, hnil⟩, hDD⟩, hB⟩ hK
    have hc := hv.cell
    gi_wp2
    refine ⟨by simp, .inl ⟨_, _, rfl, run_takeDeferred hK, ?_⟩⟩
    exact ⟨_, results_tmp rfl _ _ _, v, rfl, ownsRow_putObj hrow _ hK rfl, hnil, hB.trans (belowK_b (w := w) (Nat.le_refl _) W D _ _ (by omega) hK rfl rfl)⟩
  case stop =>
    rintro D c pre W _ _ h _
    exact h.elim
end Go.Proofs.YteaohknkhlnojaaGreatDoor
end
section
set_option linter.unusedVariables false
set_option linter.unusedSimpArgs false
set_option maxRecDepth 4000
namespace Go.Gh
open Go.RowKit

theorem rel_row {B0 : Nat} {w0 : World} {φ : Nat → Go.Gh.Loc} {H : Heap} {w w' : World} (r : Rel B0 w0 φ H w) (hbw : Below w.heap.size w w') {g0 : Blk} {l0 : Go.Gh.Loc} {A0 : Nat} {H' : Heap}
    (hpl : Place H A0 H' g0) (hlb : w.heap.size ≤ l0.b) (hl0 : l0.base = 0)
    (hbr : Ext φ (lens H) (upd φ A0 l0) (lens H') → BRel (upd φ A0 l0) (lens H') g0 l0 w') :
    Ext φ (lens H) (upd φ A0 l0) (lens H') ∧ Rel B0 w0 (upd φ A0 l0) H' w' := by
  have hne : ∀ {A n}, lens H A = some n → A ≠ A0 := by
    intro A n hA e
    subst e
    obtain ⟨g, h, _⟩ := lens_live hA
    exact hpl.free g h
  have hext : Ext φ (lens H) (upd φ A0 l0) (lens H') := by
    intro A n hA
    have h := hne hA
    exact ⟨n, by rw [hpl.lens_ne h]; exact hA, .inl ⟨rfl, upd_ne h⟩⟩
  have hb : w0.heap.size ≤ w.heap.size := r.below.size
  have r2 := r.later hbw
  refine ⟨hext, ⟨r2.below, r.b0, ?_, ?_, ?_⟩⟩
  · intro A g hA
    by_cases e : A = A0
    · subst e
      rw [hpl.at_] at hA
      simp only [Option.some.injEq] at hA
      subst hA
      rw [upd_same]
      exact hbr hext
    · rw [hpl.ne A e] at hA
      obtain ⟨o1, c1, h1, h2, h3, h5⟩ := (r2.blk A g hA).any
      rw [upd_ne e]
      refine ⟨o1, c1, h1, h2, h3, fun i v hi => ?_⟩
      obtain ⟨v', g1, g2⟩ := h5 i v hi
      exact ⟨v', g1, g2.mono hext⟩
  · intro A g hA hro
    by_cases e : A = A0
    · subst e
      rw [upd_same]
      exact ⟨by have := r.b0; omega, hl0⟩
    · rw [hpl.ne A e] at hA
      rw [upd_ne e]
      exact r.own A g hA hro
  · intro A A' g g' hA hro hA' he
    by_cases e1 : A = A0
    · subst e1
      by_cases e2 : A' = A
      · exact e2
      · rw [hpl.ne A' e2] at hA'
        rw [upd_same, upd_ne e2] at he
        have := r.lt hA'
        omega
    · rw [hpl.ne A e1] at hA
      by_cases e2 : A' = A0
      · subst e2
        rw [upd_same, upd_ne e1] at he
        have := r.lt hA
        omega
      · rw [hpl.ne A' e2] at hA'
        rw [upd_ne e1, upd_ne e2] at he
        exact r.inj A A' g g' hA hro hA' he
/-- A call that hands back a slice that it owns. -/
theorem srun_row {P : Program} {f : FuncId} {xs : List Value} {E sz n : Nat} {cs : List Value} {h : SH} (hc : xs.all constOk = true) (hcs : cs.all constOk = true) (hsz : 0 < sz)
    (k : ∀ w : World, Calls P f xs.toArray w fun e w' => ∃ v, e = .returned v ∧ w'.ownsRow w.heap.size E sz v n cs ∧ (v = .slice none 0 0 ↔ n = 0) ∧ Below w.heap.size w w') :
    SRun P f xs h fun r q => ∃ o : Option Nat, r = (match o with | none => .slice none 0 0 | some A => gsl A 0 (n * sz) n sz) ∧ (o = none ↔ n = 0) ∧ q = (match o with | none => h | some A => (A, ⟨cs, false⟩) :: h) := by
  unfold SRun
  intro H i
  unfold Run
  intro B0 w0 φs Ls φ w vs he hr hvs
  rw [vrel_det hc hvs]
  refine (k w).mono ?_
  rintro e w' ⟨v, rfl, hrow, hnil, hb⟩
  rcases hrow.2 with ⟨rfl, h0⟩ | ⟨g, cap, cur, rfl, hg, hgg, hle, hcap, hcs2, htk⟩
  · exact ⟨φ, .slice none 0 0, H, .slice none 0 0, he, hr.later hb, rfl, .snil, h, ⟨none, rfl, ⟨fun _ => h0, fun _ => rfl⟩, rfl⟩, i⟩
  · have hn0 : n ≠ 0 := fun g0 => by have := hnil.2 g0; cases this
    have hlen := hrow.1
    have hcur : cs.length ≤ cur.size := by
      rw [hlen, hcs2]
      exact Nat.mul_le_mul_right _ hle
    have hcell : ∀ (j : Nat) (u : Value), cs[j]? = some u → cur[j]? = some u := by
      intro j u hj
      rw [← htk, List.getElem?_take] at hj
      split at hj
      · simpa using hj
      · cases hj
    obtain ⟨x1, x2⟩ := rel_row hr hb (Place.app H ⟨cs, false⟩) (l0 := ⟨g, 0, cur.size, false⟩) hg rfl (fun _ => ⟨⟨_, cur, hgg, .cells rfl rfl (fun _ j hj => by omega), by show 0 + cs.length ≤ cur.size; omega, fun j u hj => ⟨u, by show cur[0 + j]? = _; rw [Nat.zero_add]; exact hcell j u hj, Val.const ((List.all_eq_true.1 hcs) u (List.mem_of_getElem? hj))⟩⟩⟩)
    refine ⟨_, gsl H.length 0 (n * sz) n sz, _, .slice (some ⟨g, 0, none⟩) n cap, he.trans x1, x2, rfl, ?_, (H.length, ⟨cs, false⟩) :: h, ⟨some H.length, rfl, ⟨fun g0 => (by cases g0), fun g0 => absurd g0 hn0⟩, rfl⟩, i.new _⟩
    refine .slc H.length 0 (n * sz) (n * sz) n sz cap _ (by rw [lens_app_eq, hlen]) (Nat.le_refl _) hle hcap (fun _ => ?_)
    rw [upd_same]
    exact ⟨rfl, fun _ => by show 0 + 0 + cap * sz ≤ cur.size; rw [hcs2]; omega, rfl⟩
end Go.Gh
end
section
set_option linter.unusedVariables false
set_option linter.unusedSimpArgs false
set_option maxRecDepth 4000
namespace Go.Proofs.YteaohknkhlnojaaGreatDoor
open Go.Gh Go.RowKit

theorem wrp_len {k : Int} {c : List UInt8} (h : (wrp k c).2 = 0) : (0 ≤ k ∧ k ≤ 15) ∧ c.length ≤ 4096 ∧ 7 ≤ (wrp k c).1.length ∧ (wrp k c).1.length ≤ 4120 := by
  unfold wrp at h ⊢
  split at h
  · exact absurd h (by decide)
  · split at h
    · exact absurd h (by decide)
    · rename_i h1 h2
      rw [if_neg h1, if_neg h2]
      have hf : ∀ (k : Int) (b : List UInt8), b.length ≤ 4096 → 7 ≤ (sl (frm k b)).length ∧ (sl (frm k b)).length ≤ 4120 := fun k b hb => by
        have hs1 := vnum_len (n := (b.length : Int)) (by omega)
        have hs2 := (vk_ok (n := (b.length : Int)) (by omega)).2
        unfold sl frm
        rw [List.length_append, List.length_append, List.length_append, le4_len, hd2_len]
        omega
      refine ⟨by omega, by omega, ?_⟩
      show 7 ≤ (if (lzE c).1.length < c.length then sl (frm (k + 16) (lzE c).1) else sl (frm k c)).length ∧ (if (lzE c).1.length < c.length then sl (frm (k + 16) (lzE c).1) else sl (frm k c)).length ≤ 4120
      split
      · exact hf _ _ (by omega)
      · exact hf _ _ (by omega)
/-- What parse finds is what Wrap gives. -/
theorem prs_ok {d : List UInt8} {k : Int} {c : List UInt8} {n : Nat} {s : Bool} (h : prs d = some (k, c, n, s)) : wrp k c = (d.take n, 0) ∧ n ≤ d.length ∧ 7 ≤ n ∧ bat d 0 = 165 ∧ s = decide (16 ≤ bat d 1) := by
  unfold prs at h
  split at h
  · cases h
  · rename_i h1
    split at h
    · cases h
    · rename_i b r hx
      split at h
      · cases h
      · split at h
        · cases h
        · split at h
          · cases h
          · rename_i h2 h3 _ c' hb
            split at h
            · rename_i hw
              cases h
              have hl := wrp_len (k := bat d 1 % 16) (c := c) (by rw [hw])
              rw [hw] at hl
              dsimp only at hl
              rw [List.length_take] at hl
              exact ⟨hw, by omega, by omega, by omega, rfl⟩
            · cases h
theorem prs_room {d : List UInt8} (at_ : Nat) (k : Int) (c : List UInt8) (n : Nat) (s : Bool) (h : prs (d.drop at_) = some (k, c, n, s)) : 1 ≤ n ∧ at_ + n ≤ d.length := by
  obtain ⟨_, h1, h2, _⟩ := prs_ok h
  rw [List.length_drop] at h1
  omega
theorem fdC_const (l : List Fd) : (l.flatMap fdC).all constOk = true := by
  rw [List.all_eq_true]
  intro v hv
  obtain ⟨x, _, hx⟩ := List.mem_flatMap.1 hv
  simp only [List.mem_cons, List.not_mem_nil, or_false] at hx
  rcases hx with rfl | rfl | rfl | rfl <;> rfl
theorem recs_flat (l : List Fd) : recs fdC l = l.flatMap fdC := by
  induction l with
  | nil => rfl
  | cons x r ih => show fdC x ++ recs fdC r = _; rw [ih]; rfl
theorem Walk_any (d : List UInt8) (h : SH) (hd : d.length ≤ 1000000) : SRun Tryz.prog 8 [S d] h fun r q => Has q (recs fdC (wkL d d.length 0)) 4 (wkL d d.length 0).length r ∧ Take q h := by
  have := srun_row (P := Tryz.prog) (f := 8) (xs := [S d]) (E := 34) (sz := 4) (n := (wkL d d.length 0).length) (cs := (wkL d d.length 0).flatMap fdC) (h := h) rfl (fdC_const _) (by decide) (fun w => by
    refine (callsIn_wide.1 (Walk_in 3 (Nat.le_refl _) d hd prs_room w)).mono ?_
    rintro e w' ⟨v, rfl, h1, h2, h3⟩
    exact ⟨v, rfl, h1, h2.trans List.length_eq_zero_iff.symm, h3⟩)
  rw [recs_flat]
  refine this.mono ?_
  rintro r q ⟨o, rfl, h2, rfl⟩
  cases o with
  | none =>
    have h0 := h2.1 rfl
    exact ⟨⟨none, 0, by rw [h0], fun g => absurd h0 g⟩, .nil⟩
  | some A =>
    exact ⟨⟨_, _, rfl, fun _ => ⟨A, false, h, by rw [Nat.mul_comm], .head⟩⟩, .drop .nil⟩
end Go.Proofs.YteaohknkhlnojaaGreatDoor
end
section
set_option linter.unusedVariables false
set_option linter.unusedSimpArgs false
set_option maxRecDepth 4000
namespace Go.Proofs.YteaohknkhlnojaaGreatDoor
open Go.Gh Go.RowKit

/-- The probability of a bit that comes again and again, as it grows. -/
def qn (q : Nat) : Nat := q + (2048 - q) / 32
def qs : Nat → Nat
  | 0 => 1024
  | t + 1 => qn (qs t)
/-- What such a bit costs at most, in parts of 64 of a bit. -/
def gq (q : Nat) : Nat := Nat.log2 ((2 ^ 24) ^ 64 / (q * 8191) ^ 64) + 1
theorem gq_ok {q : Nat} (h : 0 < q) : (2 ^ 24) ^ 64 ≤ (q * 8191) ^ 64 * 2 ^ gq q := by
  have hy : 0 < (q * 8191) ^ 64 := Nat.pow_pos (by omega)
  unfold gq
  generalize (2 ^ 24) ^ 64 = x
  generalize (q * 8191) ^ 64 = y at *
  have h1 : x / y < 2 ^ ((x / y).log2 + 1) := Nat.lt_log2_self
  have h2 := (Nat.div_lt_iff_lt_mul hy).1 h1
  rw [Nat.mul_comm] at h2
  omega
def lnC : Nat := 4294967295 ^ 64
/-- The bytes that were written so far, beside the size of the interval and what was paid. -/
def Paid (e : Enc) (G : Nat) : Prop := (256 ^ e.out.length) ^ 64 * lnC ≤ e.size.toNat ^ 64 * 2 ^ G
theorem Paid.mono {e : Enc} {G H : Nat} (h : Paid e G) (g : G ≤ H) : Paid e H :=
  Nat.le_trans h (Nat.mul_le_mul_left _ (Nat.pow_le_pow_right (by decide) g))
theorem paid_step {s s1 q L : Nat} {G : Nat} (hq : 0 < q) (h1 : s * (q * 8191) ≤ s1 * 2 ^ 24) (h : (256 ^ L) ^ 64 * lnC ≤ s ^ 64 * 2 ^ G) (j : Nat) : (256 ^ (L + j)) ^ 64 * lnC ≤ (s1 * 256 ^ j) ^ 64 * 2 ^ (G + gq q) := by
  have h2 := Nat.pow_le_pow_left h1 64
  rw [Nat.mul_pow s (q * 8191), Nat.mul_pow s1 (2 ^ 24)] at h2
  have h3 := gq_ok hq
  have hy : 0 < (q * 8191) ^ 64 := Nat.pow_pos (by omega)
  have h4 : s ^ 64 ≤ s1 ^ 64 * 2 ^ gq q := by
    refine Nat.le_of_mul_le_mul_right (Nat.le_trans h2 ?_) hy
    rw [Nat.mul_assoc, Nat.mul_comm (2 ^ gq q)]
    exact Nat.mul_le_mul_left _ h3
  rw [Nat.pow_add, Nat.mul_pow, Nat.mul_pow, Nat.pow_add]
  generalize (256 ^ L) ^ 64 = a at *
  generalize (256 ^ j) ^ 64 = b at *
  generalize s ^ 64 = u at *
  generalize s1 ^ 64 = w at *
  generalize 2 ^ G = g at *
  generalize 2 ^ gq q = p at *
  generalize lnC = c at *
  calc a * b * c = a * c * b := by rw [Nat.mul_assoc, Nat.mul_comm b, ← Nat.mul_assoc]
    _ ≤ u * g * b := Nat.mul_le_mul_right _ h
    _ ≤ w * p * g * b := Nat.mul_le_mul_right _ (Nat.mul_le_mul_right _ h4)
    _ = w * b * (g * p) := by rw [Nat.mul_assoc w, Nat.mul_assoc w, Nat.mul_assoc w, Nat.mul_comm p, Nat.mul_comm (g * p)]
theorem paid_bit {n : Nat} {e : Enc} {z b : Int} {q G : Nat} (hok : EncOk n e) (hi : InB e) (hq : 1 ≤ q ∧ q ≤ 2047) (hz : z = if b = 0 then (q : Int) else 2048 - q) (h : Paid e G) : Paid (ebit e z b) (G + gq q) := by
  obtain ⟨h1, h2, h3, h4⟩ := estep_num hok hi z b
  have hl := (estep_ok hok z b).2.1
  obtain ⟨j, j1, j2, j3⟩ := norm_in 2 hl
  have hsz := hok.size
  have hcl : clp z = z := by
    unfold clp
    split at hz <;> omega
  have hb : bound e.size z = e.size / 2048 * z := by unfold bound; rw [hcl]
  rw [hb] at h4
  obtain ⟨s, hs⟩ := Int.eq_ofNat_of_zero_le (show 0 ≤ e.size by omega)
  have key : ∃ s1 : Nat, (estep e z b).size = s1 ∧ s * (q * 8191) ≤ s1 * 2 ^ 24 := by
    rw [hs] at h4 hsz
    have hu : ((s : Int) / 2048) = ((s / 2048 : Nat) : Int) := by omega
    rw [hu] at h4
    obtain ⟨u, hu2⟩ : ∃ u, u = s / 2048 := ⟨_, rfl⟩
    rw [← hu2] at h4
    have a1 : s ≤ 2048 * u + 2047 := by omega
    have a2 : 2048 * u ≤ s := by omega
    have a3 : 8192 ≤ u := by omega
    by_cases hb0 : b = 0
    · rw [if_pos hb0] at h4 hz
      refine ⟨u * q, by rw [h4, hz, Int.natCast_mul], ?_⟩
      have : s * 8191 ≤ u * 16777216 := by omega
      have := Nat.mul_le_mul_right q this
      rw [show (2 : Nat) ^ 24 = 16777216 from rfl, Nat.mul_comm q, ← Nat.mul_assoc, Nat.mul_assoc u q, Nat.mul_comm q, ← Nat.mul_assoc]
      exact this
    · rw [if_neg hb0] at h4 hz
      have hp : (2048 - (q : Int)) = ((2048 - q : Nat) : Int) := by omega
      have h4 : (estep e z b).size = (s : Int) - ((u * (2048 - q) : Nat) : Int) := by rw [h4, hz, hp, Int.natCast_mul]
      have m1 := Nat.mul_le_mul_right (2048 - q) a2
      have m2 : s * (2048 - q) + s * q = s * 2048 := by rw [← Nat.mul_add]; congr 1; omega
      have m3 : 2048 * u * (2048 - q) = 2048 * (u * (2048 - q)) := Nat.mul_assoc _ _ _
      have m4 : s * (2048 - q) ≤ s * 2048 := Nat.mul_le_mul_left _ (by omega)
      refine ⟨s - u * (2048 - q), by rw [h4]; omega, ?_⟩
      rw [show (2 : Nat) ^ 24 = 16777216 from rfl, ← Nat.mul_assoc]
      generalize u * (2048 - q) = x at *
      generalize s * q = y at *
      generalize s * (2048 - q) = w at *
      omega
  obtain ⟨s1, hs1, hk⟩ := key
  have hp0 : Paid e G := h
  unfold Paid at hp0 ⊢
  rw [hs, Int.toNat_natCast] at hp0
  have := paid_step (L := e.out.length) (by omega) hk hp0 j
  have e1 : (ebit e z b).out.length = e.out.length + j := by show (norm 2 (estep e z b)).out.length = _; rw [j1, h3]
  have e2 : (ebit e z b).size.toNat = s1 * 256 ^ j := by
    show (norm 2 (estep e z b)).size.toNat = _
    rw [j3, hs1]; unfold pw
    rw [← Int.natCast_mul, Int.toNat_natCast]
  rw [e1, e2]
  exact this
end Go.Proofs.YteaohknkhlnojaaGreatDoor
end
section
set_option linter.unusedVariables false
set_option linter.unusedSimpArgs false
set_option maxRecDepth 4000
namespace Go.Proofs.YteaohknkhlnojaaGreatDoor
open Go.Gh Go.RowKit

/-- On the way of a number through a tree, all bits have the same probability. -/
def PathQ (t : List Int) (v : Int) (q : Nat) : Nat → Nat → Prop
  | 0, _ => True
  | k + 1, j => j < t.length ∧ t[j]! = (if v / 2 ^ k % 2 = 0 then (q : Int) else 2048 - q) ∧ PathQ t v q k (2 * j + (v / 2 ^ k % 2).toNat)
theorem set_far {t : List Int} {j i : Nat} {x : Int} (h : j ≠ i) : (t.set j x)[i]! = t[i]! := by
  rw [List.getElem!_eq_getElem?_getD, List.getElem!_eq_getElem?_getD, List.getElem?_set_ne h]
theorem set_here {t : List Int} {j : Nat} {x : Int} (h : j < t.length) : (t.set j x)[j]! = x := by
  rw [List.getElem!_eq_getElem?_getD, List.getElem?_set_self h]; rfl
theorem PathQ.set {t : List Int} {v : Int} {q i : Nat} {x : Int} : ∀ (k j : Nat), i < j → PathQ t v q k j → PathQ (t.set i x) v q k j
  | 0, _, _, _ => trivial
  | k + 1, j, hij, h => ⟨by rw [List.length_set]; exact h.1, by rw [set_far (by omega)]; exact h.2.1, PathQ.set k _ (by omega) h.2.2⟩
theorem tenc_low {v : Int} : ∀ (k : Nat) {t : List Int} {e : Enc} {j i : Nat}, i < j → (tenc v k t e j).1[i]! = t[i]!
  | 0, _, _, _, _, _ => rfl
  | k + 1, t, e, j, i, h => by
    have := tenc_low (v := v) k (t := t.set j (adp t[j]! (v / 2 ^ k % 2))) (e := ebit e t[j]! (v / 2 ^ k % 2)) (j := 2 * j + (v / 2 ^ k % 2).toNat) (i := i) (by omega)
    exact this.trans (set_far (by omega))
theorem tenc_len2 {v : Int} : ∀ (k : Nat) {t : List Int} {e : Enc} {j : Nat}, (tenc v k t e j).1.length = t.length
  | 0, _, _, _ => rfl
  | k + 1, t, e, j => (tenc_len2 k (t := t.set j (adp t[j]! (v / 2 ^ k % 2)))).trans List.length_set
theorem adp_q {q : Nat} (h : 1 ≤ q ∧ q ≤ 2047) (b : Int) (hb : b = 0 ∨ b = 1) : adp (if b = 0 then (q : Int) else 2048 - q) b = if b = 0 then (qn q : Int) else 2048 - qn q := by
  unfold adp qn
  rcases hb with rfl | rfl
  · rw [if_pos rfl, if_pos rfl, if_pos rfl]
    have : clp (q : Int) = q := by unfold clp; omega
    rw [this]; omega
  · rw [if_neg (by decide), if_neg (by decide), if_neg (by decide)]
    have : clp (2048 - (q : Int)) = 2048 - q := by unfold clp; omega
    rw [this]; omega
theorem PathQ.next {v : Int} {q : Nat} (hq : 1 ≤ q ∧ q ≤ 2047) : ∀ (k : Nat) {t : List Int} {e : Enc} {j : Nat}, 1 ≤ j → PathQ t v q k j → PathQ (tenc v k t e j).1 v (qn q) k j
  | 0, _, _, _, _, _ => trivial
  | k + 1, t, e, j, hj, h => by
    obtain ⟨h1, h2, h3⟩ := h
    have hb := bit01 v k
    show PathQ (tenc v k (t.set j (adp t[j]! (v / 2 ^ k % 2))) (ebit e t[j]! (v / 2 ^ k % 2)) (2 * j + (v / 2 ^ k % 2).toNat)).1 v (qn q) (k + 1) j
    refine ⟨by rw [tenc_len2, List.length_set]; exact h1, ?_, ?_⟩
    · rw [tenc_low k (by omega), set_here h1, h2]
      exact adp_q hq _ hb
    · exact PathQ.next hq k (by omega) (PathQ.set k _ (by omega) h3)
theorem paid_cut {L G S C : Nat} (m : Nat) (hm : 0 < m) (hC : (2 ^ 31) ^ m ≤ C) (hS : S < 2 ^ 32) (h : (256 ^ L) ^ m * C ≤ S ^ m * 2 ^ G) : 8 * (L * m) + 31 * m < 32 * m + G := by
  have h2 : S ^ m < (2 ^ 32) ^ m := Nat.pow_lt_pow_left hS (by omega)
  have h3 : (256 ^ L) ^ m * (2 ^ 31) ^ m < (2 ^ 32) ^ m * 2 ^ G :=
    Nat.lt_of_le_of_lt (Nat.le_trans (Nat.mul_le_mul_left _ hC) h) (Nat.mul_lt_mul_of_pos_right h2 (Nat.two_pow_pos G))
  rw [show (256 : Nat) = 2 ^ 8 from rfl, ← Nat.pow_mul, ← Nat.pow_mul, ← Nat.pow_mul, ← Nat.pow_mul, ← Nat.pow_add, ← Nat.pow_add] at h3
  exact (Nat.pow_lt_pow_iff_right (a := 2) (by decide)).1 h3
theorem paid_len {n : Nat} {e : Enc} {G : Nat} (hok : EncOk n e) (h : Paid e G) : 512 * e.out.length ≤ 64 + G := by
  have hsz := hok.size
  have h1 : (2 ^ 31) ^ 64 ≤ lnC := Nat.pow_le_pow_left (show 2 ^ 31 ≤ 4294967295 by decide) 64
  have := paid_cut 64 (by decide) h1 (by have : (2 : Nat) ^ 32 = 4294967296 := rfl; omega) h
  omega
end Go.Proofs.YteaohknkhlnojaaGreatDoor
end
section
set_option linter.unusedVariables false
set_option linter.unusedSimpArgs false
set_option maxRecDepth 4000
namespace Go.Proofs.YteaohknkhlnojaaGreatDoor
open Go.Gh Go.RowKit

/-- The least probability behind k changes. -/
def los : Nat → Nat
  | 0 => 1024
  | k + 1 => los k - los k / 32
theorem los_in : ∀ k, 1 ≤ los k ∧ los k ≤ 1024
  | 0 => by decide
  | k + 1 => by have := los_in k; show 1 ≤ los k - los k / 32 ∧ los k - los k / 32 ≤ 1024; omega
theorem lg_mono {x y : Nat} (h : x ≤ y) : Nat.log2 x ≤ Nat.log2 y := by
  by_cases h0 : x = 0
  · subst h0; exact Nat.zero_le _
  · exact (Nat.le_log2 (by omega)).2 (Nat.le_trans (Nat.log2_self_le h0) h)
theorem lgd_mono {x a b : Nat} (h : a ≤ b) (h0 : 0 < a) : Nat.log2 (x / b) + 1 ≤ Nat.log2 (x / a) + 1 := Nat.succ_le_succ (lg_mono (Nat.div_le_div_left h h0))
theorem gq_mono {p q : Nat} (h : p ≤ q) (hp : 0 < p) : gq q ≤ gq p := by
  unfold gq
  exact lgd_mono (Nat.pow_le_pow_left (Nat.mul_le_mul_right _ h) _) (Nat.pow_pos (by omega))
theorem gq_los : ∀ k, k < 45 → gq (los k) ≤ 66 + 3 * k := by decide +kernel
/-- All nodes are in the middle. -/
def InT (lo : Nat) (t : List Int) : Prop := ∀ i, i < t.length → (lo : Int) ≤ t[i]! ∧ t[i]! ≤ 2048 - lo
theorem adp_in2 {lo : Nat} {z b : Int} (hl : 1 ≤ lo ∧ lo ≤ 1024) (hz : (lo : Int) ≤ z ∧ z ≤ 2048 - lo) (hb : b = 0 ∨ b = 1) : ((lo - lo / 32 : Nat) : Int) ≤ adp z b ∧ adp z b ≤ 2048 - ((lo - lo / 32 : Nat) : Int) := by
  have hc : clp z = z := by unfold clp; omega
  unfold adp
  rcases hb with rfl | rfl
  · rw [if_pos rfl, hc]; omega
  · rw [if_neg (by decide), hc]; omega
theorem tenc_paid {v : Int} {lo : Nat} (hl : 1 ≤ lo ∧ lo ≤ 1024) (k : Nat) : ∀ {n : Nat} {t : List Int} {e : Enc} {j G : Nat}, 1 ≤ j → 2 ^ k * (j + 1) ≤ 2 * t.length → (∀ i, i < t.length → ((lo - lo / 32 : Nat) : Int) ≤ t[i]! ∧ t[i]! ≤ 2048 - ((lo - lo / 32 : Nat) : Int)) →
    (∀ i, j ≤ i → i < t.length → (lo : Int) ≤ t[i]! ∧ t[i]! ≤ 2048 - lo) → EncOk n e → InB e → Paid e G → Paid (tenc v k t e j).2 (G + k * gq lo) ∧ InT (lo - lo / 32) (tenc v k t e j).1 := by
  induction k with
  | zero => intro n t e j G _ _ h1 _ _ _ hp; exact ⟨by rw [Nat.zero_mul, Nat.add_zero]; exact hp, h1⟩
  | succ k ih =>
    intro n t e j G hj hlen h1 h2 hok hi hp
    have hb := bit01 v k
    have a2 := Nat.mul_le_mul_left (2 ^ k) (show 2 * j + (v / 2 ^ k % 2).toNat + 1 ≤ 2 * (j + 1) by omega)
    rw [Nat.pow_succ, Nat.mul_assoc] at hlen
    have a3 := Nat.mul_le_mul_right (2 * (j + 1)) (Nat.one_le_two_pow (n := k))
    have hjt : j < t.length := by omega
    have hz := h2 j (Nat.le_refl _) hjt
    obtain ⟨z, hzz⟩ : ∃ z, t[j]! = z := ⟨_, rfl⟩
    rw [hzz] at hz
    have had := adp_in2 hl hz hb
    obtain ⟨q, hq, hq2⟩ : ∃ q : Nat, (1 ≤ q ∧ q ≤ 2047 ∧ lo ≤ q) ∧ z = if v / 2 ^ k % 2 = 0 then (q : Int) else 2048 - q := by
      rcases hb with e1 | e1
      · exact ⟨z.toNat, by omega, by rw [e1, if_pos rfl]; omega⟩
      · exact ⟨(2048 - z).toNat, by omega, by rw [e1, if_neg (by decide)]; omega⟩
    have hpb := (paid_bit hok hi ⟨hq.1, hq.2.1⟩ hq2 hp).mono (H := G + gq lo) (by have := gq_mono hq.2.2 (by omega); omega)
    have hset : ∀ i, (t.set j (adp z (v / 2 ^ k % 2)))[i]! = if i = j then adp z (v / 2 ^ k % 2) else t[i]! := fun i => by
      by_cases e1 : i = j
      · subst e1; rw [if_pos rfl, set_here hjt]
      · rw [if_neg e1, set_far (fun g => e1 g.symm)]
    have := ih (t := t.set j (adp z (v / 2 ^ k % 2))) (j := 2 * j + (v / 2 ^ k % 2).toNat) (by omega) (by rw [List.length_set]; omega)
      (fun i hi => by rw [hset i]; rw [List.length_set] at hi; split; exact had; exact h1 i hi)
      (fun i hji hi => by rw [hset i, if_neg (by omega)]; rw [List.length_set] at hi; exact h2 i (by omega) hi)
      (ebit_ok hok z (v / 2 ^ k % 2)) (ebit_InB hok hi z (v / 2 ^ k % 2)) hpb
    show Paid (tenc v k (t.set j (adp t[j]! (v / 2 ^ k % 2))) (ebit e t[j]! (v / 2 ^ k % 2)) (2 * j + (v / 2 ^ k % 2).toNat)).2 _ ∧ InT _ (tenc v k (t.set j (adp t[j]! (v / 2 ^ k % 2))) (ebit e t[j]! (v / 2 ^ k % 2)) (2 * j + (v / 2 ^ k % 2).toNat)).1
    rw [hzz, show G + (k + 1) * gq lo = G + gq lo + k * gq lo by rw [Nat.add_mul]; omega]
    exact this
theorem InT.le {lo lo' : Nat} {t : List Int} (h : InT lo t) (hl : lo' ≤ lo) : InT lo' t := fun i hi => by have := h i hi; omega
theorem tree_paid {v : Int} {lo k n G : Nat} {t : List Int} {e : Enc} (hl : 1 ≤ lo ∧ lo ≤ 1024) (ht : t.length = 2 ^ k) (hI : InT lo t) (hok : EncOk n e) (hi : InB e) (hp : Paid e G) : Paid (tenc v k t e 1).2 (G + k * gq lo) ∧ InT (lo - lo / 32) (tenc v k t e 1).1 :=
  tenc_paid hl k (Nat.le_refl 1) (by rw [ht]; omega) (hI.le (by omega)) (fun i _ hi => hI i hi) hok hi hp
theorem ebits_paid {v : Int} (k : Nat) : ∀ {n : Nat} {e : Enc} {G : Nat}, EncOk n e → InB e → Paid e G → Paid (ebits v k e) (G + k * 65) := by
  induction k with
  | zero => intro n e G _ _ hp; rw [Nat.zero_mul, Nat.add_zero]; exact hp
  | succ k ih =>
    intro n e G hok hi hp
    have hb := bit01 v k
    have h1 := paid_bit (z := 1024) (b := v / 2 ^ k % 2) (q := 1024) hok hi (by decide) (by rcases hb with e1 | e1 <;> rw [e1] <;> decide) hp
    rw [show gq 1024 = 65 by decide +kernel] at h1
    have := ih (ebit_ok hok 1024 (v / 2 ^ k % 2)) (ebit_InB hok hi 1024 (v / 2 ^ k % 2)) h1
    rw [show G + (k + 1) * 65 = G + 65 + k * 65 by omega]
    exact this
end Go.Proofs.YteaohknkhlnojaaGreatDoor
end
section
namespace Go.Proofs
open Go.Shelf
def Tryz.lays169_ren : Go.Shelf.Ren := ⟨fun | 169 => 23 | n => n, fun | 70 => 54 | 9 => 9 | 0 => 0 | 72 => 56 | 37 => 44 | 127 => 97 | 3 => 3 | 5 => 5 | n => n, fun | n => n⟩
theorem Tryz.lays169 : Go.Proofs.Lays.n169 Tryz.prog Tryz.lays169_ren := {
  mixed := by kernel_rfl
  f169 := Tryz.func23.trans (congrArg some (by kernel_rfl))
  t0 := Tryz.underlying0
  a0 := Tryz.isAgg0
  z0 := Tryz.sizeOf0
  v0 := Tryz.zeroValue0
  t3 := Tryz.underlying3
  a3 := Tryz.isAgg3
  z3 := Tryz.sizeOf3
  v3 := Tryz.zeroValue3
  t9 := Tryz.underlying9
  a9 := Tryz.isAgg9
  z9 := Tryz.sizeOf9
  v9 := Tryz.zeroValue9
  t37 := Tryz.underlying44
  a37 := Tryz.isAgg44
  z37 := Tryz.sizeOf44
  v37 := Tryz.zeroValue44
  t70 := Tryz.underlying54
  a70 := Tryz.isAgg54
  z70 := Tryz.sizeOf54
  v70 := Tryz.zeroValue54
  t72 := Tryz.underlying56
  a72 := Tryz.isAgg56
  z72 := Tryz.sizeOf56
  v72 := Tryz.zeroValue56
  t127 := Tryz.underlying97
  a127 := Tryz.isAgg97
  z127 := Tryz.sizeOf97
  v127 := Tryz.zeroValue97 }
theorem Tryz.Builder_Extra_169 : Builder.Extra Tryz.prog Tryz.lays169_ren := {
  sizeBuilder := by kernel_rfl
  liesBuilder := by kernel_rfl
  t5 := Tryz.underlying5
  a5 := Tryz.isAgg5
  z5 := Tryz.sizeOf5
  v5 := Tryz.zeroValue5
  infoByte := by kernel_rfl
  cellsByte := by kernel_rfl
  sizeByte := by kernel_rfl
  neB5 := by decide }
open Go.RowKit in
/-- (*strings.Builder).String: "String returns the accumulated string.": WHATEVER THE BUILDER HOLDS. (LAID: no walk: one application.) -/
theorem Tryz.Builder_String_any (B b : Nat) (l : List UInt8) (w : World) (h : Lib.IsBuilder 56 5 B b (Lib.byteCells l) w) (hBw : B ≤ w.heap.size) :
    Calls Tryz.prog 23 #[.pointer (some ⟨b, 0, none⟩)] w fun e w' => e = .returned (.string ⟨l.toArray⟩) ∧ Below B w w' := Any.Builder_String_any Tryz.lays169 Tryz.Builder_Extra_169 B b l w h hBw
def Tryz.lays165_ren : Go.Shelf.Ren := ⟨fun | 165 => 20 | 240 => 49 | 241 => 50 | 276 => 70 | 277 => 71 | n => n, fun | 70 => 54 | 3 => 3 | 0 => 0 | 4 => 4 | 9 => 9 | 20 => 20 | 72 => 56 | 37 => 44 | 164 => 129 | 5 => 5 | n => n, fun | n => n⟩
theorem Tryz.lays165 : Go.Proofs.Lays.n165 Tryz.prog Tryz.lays165_ren := {
  mixed := by kernel_rfl
  f165 := Tryz.func20.trans (congrArg some (by kernel_rfl))
  f240 := Tryz.func49.trans (congrArg some (by kernel_rfl))
  f241 := Tryz.func50.trans (congrArg some (by kernel_rfl))
  f276 := Tryz.func70.trans (congrArg some (by kernel_rfl))
  f277 := Tryz.func71.trans (congrArg some (by kernel_rfl))
  t0 := Tryz.underlying0
  a0 := Tryz.isAgg0
  z0 := Tryz.sizeOf0
  v0 := Tryz.zeroValue0
  t3 := Tryz.underlying3
  a3 := Tryz.isAgg3
  z3 := Tryz.sizeOf3
  v3 := Tryz.zeroValue3
  t4 := Tryz.underlying4
  a4 := Tryz.isAgg4
  z4 := Tryz.sizeOf4
  v4 := Tryz.zeroValue4
  t9 := Tryz.underlying9
  a9 := Tryz.isAgg9
  z9 := Tryz.sizeOf9
  v9 := Tryz.zeroValue9
  t20 := Tryz.underlying20
  a20 := Tryz.isAgg20
  z20 := Tryz.sizeOf20
  v20 := Tryz.zeroValue20
  t37 := Tryz.underlying44
  a37 := Tryz.isAgg44
  z37 := Tryz.sizeOf44
  v37 := Tryz.zeroValue44
  t70 := Tryz.underlying54
  a70 := Tryz.isAgg54
  z70 := Tryz.sizeOf54
  v70 := Tryz.zeroValue54
  t72 := Tryz.underlying56
  a72 := Tryz.isAgg56
  z72 := Tryz.sizeOf56
  v72 := Tryz.zeroValue56
  t164 := Tryz.underlying129
  a164 := Tryz.isAgg129
  z164 := Tryz.sizeOf129
  v164 := Tryz.zeroValue129 }
theorem Tryz.Builder_Extra_165 : Builder.Extra Tryz.prog Tryz.lays165_ren := {
  sizeBuilder := by kernel_rfl
  liesBuilder := by kernel_rfl
  t5 := Tryz.underlying5
  a5 := Tryz.isAgg5
  z5 := Tryz.sizeOf5
  v5 := Tryz.zeroValue5
  infoByte := by kernel_rfl
  cellsByte := by kernel_rfl
  sizeByte := by kernel_rfl
  neB5 := by decide }
open Go.RowKit in
/-- (*strings.Builder).Grow AT A BUILDER THAT HAS NOT BEEN WRITTEN ('var b strings.Builder; b.Grow(n)'): "Grow grows b's capacity, if necessary, to guarantee space for another n bytes.": it holds no byte behind it as before it. (LAID: no walk: one application.) -/
theorem Tryz.Builder_Grow_fresh (B b n : Nat) (w : World) (hB : B ≤ b) (hbk : w.heap[b]? = some (.cells #[.pointer none, .slice none 0 0] 56 (0, 0))) (hBw : B ≤ w.heap.size) (hn : n ≤ 281474976710656) :
    Calls Tryz.prog 20 #[.pointer (some ⟨b, 0, none⟩), .int .i64 n] w fun e w' => e = .returned (.tuple #[]) ∧ (Lib.BuilderAt 56 5 B b (.pointer (some ⟨b, 0, none⟩)) [] w' ∧ Below B w w') := Any.Builder_Grow_fresh Tryz.lays165 Tryz.Builder_Extra_165 B b n w hB hbk hBw hn
def Tryz.lays143_ren : Go.Shelf.Ren := ⟨fun | 143 => 26 | 219 => 54 | 217 => 73 | 225 => 74 | 224 => 75 | 267 => 76 | 266 => 94 | 314 => 95 | n => n, fun | 9 => 9 | 3 => 3 | 4 => 4 | 5 => 5 | 46 => 50 | 146 => 92 | 51 => 64 | n => n, fun | 1 => 0 | n => n⟩
theorem Tryz.lays143 : Go.Proofs.Lays.n143 Tryz.prog Tryz.lays143_ren := {
  mixed := by kernel_rfl
  f143 := Tryz.func26.trans (congrArg some (by kernel_rfl))
  f217 := Tryz.func73.trans (congrArg some (by kernel_rfl))
  f219 := Tryz.func54.trans (congrArg some (by kernel_rfl))
  f224 := Tryz.func75.trans (congrArg some (by kernel_rfl))
  f225 := Tryz.func74.trans (congrArg some (by kernel_rfl))
  f266 := Tryz.func94.trans (congrArg some (by kernel_rfl))
  f267 := Tryz.func76.trans (congrArg some (by kernel_rfl))
  f314 := Tryz.func95.trans (congrArg some (by kernel_rfl))
  t3 := Tryz.underlying3
  a3 := Tryz.isAgg3
  z3 := Tryz.sizeOf3
  v3 := Tryz.zeroValue3
  t4 := Tryz.underlying4
  a4 := Tryz.isAgg4
  z4 := Tryz.sizeOf4
  v4 := Tryz.zeroValue4
  t5 := Tryz.underlying5
  a5 := Tryz.isAgg5
  z5 := Tryz.sizeOf5
  v5 := Tryz.zeroValue5
  t9 := Tryz.underlying9
  a9 := Tryz.isAgg9
  z9 := Tryz.sizeOf9
  v9 := Tryz.zeroValue9
  t46 := Tryz.underlying50
  a46 := Tryz.isAgg50
  z46 := Tryz.sizeOf50
  v46 := Tryz.zeroValue50
  t51 := Tryz.underlying64
  a51 := Tryz.isAgg64
  z51 := Tryz.sizeOf64
  v51 := Tryz.zeroValue64
  t146 := Tryz.underlying92
  a146 := Tryz.isAgg92
  z146 := Tryz.sizeOf92
  v146 := Tryz.zeroValue92
  g1 := by kernel_rfl }
open Go.RowKit Go.Lib in
/-- strings.Index: "Index returns the index of the first instance of substr in s, or -1 if substr is not present in s.": AT A substr OF ONE BYTE c: IT RETURNS 'Lib.indexByte s c'; the world is as it was. (LAID: no walk: one application.) -/
theorem Tryz.strings_Index_one (s : ByteArray) (c : UInt8) (w : World) :
    Calls Tryz.prog 26 #[.string s, .string ⟨#[c]⟩] w fun e w' => e = .returned (.int .i64 (Lib.indexByte s.data.toList c)) ∧ w' = w := Any.strings_Index_one Tryz.lays143 s c w
def Tryz.lays138_ren : Go.Shelf.Ren := ⟨fun | 138 => 25 | 195 => 52 | 218 => 53 | 143 => 26 | 219 => 54 | 217 => 73 | 225 => 74 | 224 => 75 | 267 => 76 | 266 => 94 | 314 => 95 | n => n, fun | 9 => 9 | 3 => 3 | 4 => 4 | 5 => 5 | 0 => 0 | 46 => 50 | 146 => 92 | 51 => 64 | n => n, fun | 1 => 0 | n => n⟩
theorem Tryz.lays138 : Go.Proofs.Lays.n138 Tryz.prog Tryz.lays138_ren := {
  mixed := by kernel_rfl
  f138 := Tryz.func25.trans (congrArg some (by kernel_rfl))
  f143 := Tryz.func26.trans (congrArg some (by kernel_rfl))
  f195 := Tryz.func52.trans (congrArg some (by kernel_rfl))
  f217 := Tryz.func73.trans (congrArg some (by kernel_rfl))
  f218 := Tryz.func53.trans (congrArg some (by kernel_rfl))
  f219 := Tryz.func54.trans (congrArg some (by kernel_rfl))
  f224 := Tryz.func75.trans (congrArg some (by kernel_rfl))
  f225 := Tryz.func74.trans (congrArg some (by kernel_rfl))
  f266 := Tryz.func94.trans (congrArg some (by kernel_rfl))
  f267 := Tryz.func76.trans (congrArg some (by kernel_rfl))
  f314 := Tryz.func95.trans (congrArg some (by kernel_rfl))
  t0 := Tryz.underlying0
  a0 := Tryz.isAgg0
  z0 := Tryz.sizeOf0
  v0 := Tryz.zeroValue0
  t3 := Tryz.underlying3
  a3 := Tryz.isAgg3
  z3 := Tryz.sizeOf3
  v3 := Tryz.zeroValue3
  t4 := Tryz.underlying4
  a4 := Tryz.isAgg4
  z4 := Tryz.sizeOf4
  v4 := Tryz.zeroValue4
  t5 := Tryz.underlying5
  a5 := Tryz.isAgg5
  z5 := Tryz.sizeOf5
  v5 := Tryz.zeroValue5
  t9 := Tryz.underlying9
  a9 := Tryz.isAgg9
  z9 := Tryz.sizeOf9
  v9 := Tryz.zeroValue9
  t46 := Tryz.underlying50
  a46 := Tryz.isAgg50
  z46 := Tryz.sizeOf50
  v46 := Tryz.zeroValue50
  t51 := Tryz.underlying64
  a51 := Tryz.isAgg64
  z51 := Tryz.sizeOf64
  v51 := Tryz.zeroValue64
  t146 := Tryz.underlying92
  a146 := Tryz.isAgg92
  z146 := Tryz.sizeOf92
  v146 := Tryz.zeroValue92
  g1 := by kernel_rfl }
open Go.RowKit Go.Lib in
/-- strings.Count AT A substr OF ONE BYTE ('hp'): "Count counts the number of non-overlapping instances of substr in s.": IT RETURNS 'Lib.countByte s (that byte)'; the world is as it was. ✋ NO CONTRACT HERE YET at an empty substr (utf8.RuneCountInString) or at a longer one (a loop over strings.Index). (LAID: no walk: one application.) -/
theorem Tryz.strings_Count_one (s : ByteArray) (c : UInt8) (w : World) :
    Calls Tryz.prog 25 #[.string s, .string ⟨#[c]⟩] w fun e w' => e = .returned (.int .i64 (Lib.countByte s.data.toList c)) ∧ w' = w := Any.strings_Count_one Tryz.lays138 s c w
def Tryz.lays105_ren : Go.Shelf.Ren := ⟨fun | 105 => 10 | 212 => 18 | 99 => 19 | 165 => 20 | 166 => 21 | 170 => 22 | 169 => 23 | 263 => 46 | 264 => 47 | 206 => 48 | 240 => 49 | 241 => 50 | 276 => 70 | 277 => 71 | n => n, fun | 9 => 9 | 3 => 3 | 4 => 4 | 20 => 20 | 0 => 0 | 46 => 50 | 109 => 51 | 5 => 5 | 72 => 56 | 76 => 60 | 51 => 64 | 146 => 92 | 53 => 94 | 148 => 95 | 70 => 54 | 37 => 44 | 75 => 59 | 127 => 97 | 164 => 129 | 80 => 63 | n => n, fun | n => n⟩
theorem Tryz.lays105 : Go.Proofs.Lays.n105 Tryz.prog Tryz.lays105_ren := {
  mixed := by kernel_rfl
  f99 := Tryz.func19.trans (congrArg some (by kernel_rfl))
  f105 := Tryz.func10.trans (congrArg some (by kernel_rfl))
  f165 := Tryz.func20.trans (congrArg some (by kernel_rfl))
  f166 := Tryz.func21.trans (congrArg some (by kernel_rfl))
  f169 := Tryz.func23.trans (congrArg some (by kernel_rfl))
  f170 := Tryz.func22.trans (congrArg some (by kernel_rfl))
  f206 := Tryz.func48.trans (congrArg some (by kernel_rfl))
  f212 := Tryz.func18.trans (congrArg some (by kernel_rfl))
  f240 := Tryz.func49.trans (congrArg some (by kernel_rfl))
  f241 := Tryz.func50.trans (congrArg some (by kernel_rfl))
  f263 := Tryz.func46.trans (congrArg some (by kernel_rfl))
  f264 := Tryz.func47.trans (congrArg some (by kernel_rfl))
  f276 := Tryz.func70.trans (congrArg some (by kernel_rfl))
  f277 := Tryz.func71.trans (congrArg some (by kernel_rfl))
  t0 := Tryz.underlying0
  a0 := Tryz.isAgg0
  z0 := Tryz.sizeOf0
  v0 := Tryz.zeroValue0
  t3 := Tryz.underlying3
  a3 := Tryz.isAgg3
  z3 := Tryz.sizeOf3
  v3 := Tryz.zeroValue3
  t4 := Tryz.underlying4
  a4 := Tryz.isAgg4
  z4 := Tryz.sizeOf4
  v4 := Tryz.zeroValue4
  t5 := Tryz.underlying5
  a5 := Tryz.isAgg5
  z5 := Tryz.sizeOf5
  v5 := Tryz.zeroValue5
  t9 := Tryz.underlying9
  a9 := Tryz.isAgg9
  z9 := Tryz.sizeOf9
  v9 := Tryz.zeroValue9
  t20 := Tryz.underlying20
  a20 := Tryz.isAgg20
  z20 := Tryz.sizeOf20
  v20 := Tryz.zeroValue20
  t37 := Tryz.underlying44
  a37 := Tryz.isAgg44
  z37 := Tryz.sizeOf44
  v37 := Tryz.zeroValue44
  t46 := Tryz.underlying50
  a46 := Tryz.isAgg50
  z46 := Tryz.sizeOf50
  v46 := Tryz.zeroValue50
  t51 := Tryz.underlying64
  a51 := Tryz.isAgg64
  z51 := Tryz.sizeOf64
  v51 := Tryz.zeroValue64
  t53 := Tryz.underlying94
  a53 := Tryz.isAgg94
  z53 := Tryz.sizeOf94
  v53 := Tryz.zeroValue94
  t70 := Tryz.underlying54
  a70 := Tryz.isAgg54
  z70 := Tryz.sizeOf54
  v70 := Tryz.zeroValue54
  t72 := Tryz.underlying56
  a72 := Tryz.isAgg56
  z72 := Tryz.sizeOf56
  v72 := Tryz.zeroValue56
  t75 := Tryz.underlying59
  a75 := Tryz.isAgg59
  z75 := Tryz.sizeOf59
  v75 := Tryz.zeroValue59
  t76 := Tryz.underlying60
  a76 := Tryz.isAgg60
  z76 := Tryz.sizeOf60
  v76 := Tryz.zeroValue60
  t109 := Tryz.underlying51
  a109 := Tryz.isAgg51
  z109 := Tryz.sizeOf51
  v109 := Tryz.zeroValue51
  t127 := Tryz.underlying97
  a127 := Tryz.isAgg97
  z127 := Tryz.sizeOf97
  v127 := Tryz.zeroValue97
  t146 := Tryz.underlying92
  a146 := Tryz.isAgg92
  z146 := Tryz.sizeOf92
  v146 := Tryz.zeroValue92
  t148 := Tryz.underlying95
  a148 := Tryz.isAgg95
  z148 := Tryz.sizeOf95
  v148 := Tryz.zeroValue95
  t164 := Tryz.underlying129
  a164 := Tryz.isAgg129
  z164 := Tryz.sizeOf129
  v164 := Tryz.zeroValue129 }
theorem Tryz.Builder_Extra_105 : Builder.Extra Tryz.prog Tryz.lays105_ren := {
  sizeBuilder := by kernel_rfl
  liesBuilder := by kernel_rfl
  t5 := Tryz.underlying5
  a5 := Tryz.isAgg5
  z5 := Tryz.sizeOf5
  v5 := Tryz.zeroValue5
  infoByte := by kernel_rfl
  cellsByte := by kernel_rfl
  sizeByte := by kernel_rfl
  neB5 := by decide }
open Go.RowKit Go.Lib in
/-- **strings.Repeat: count ≥ 0, the result within one allocation: count copies of s.** (LAID: no walk: one application.) -/
theorem Tryz.strings_Repeat (s : ByteArray) (c : Nat) (w : World) (hc : c ≤ 9223372036854775807) (hlen : s.size * c ≤ 140737488355328) :
    Calls Tryz.prog 10 #[.string s, .int .i64 c] w fun e w' => e = .returned (.string ⟨(Lib.repeatL s.data.toList c).toArray⟩) ∧ Below w.heap.size w w' := Any.strings_Repeat Tryz.lays105 Tryz.Builder_Extra_105 s c w hc hlen
end Go.Proofs
end
section
set_option linter.unusedVariables false
set_option linter.unusedSimpArgs false
set_option maxRecDepth 4000
namespace Go.Proofs.YteaohknkhlnojaaGreatDoor
open Go.Gh Go.RowKit

theorem Repeat_any (l : List UInt8) (n : Nat) (h : SH) (hn : n ≤ 9223372036854775807) (hl : l.length * n ≤ 140737488355328) : SRun Tryz.prog 10 [S l, I n] h fun r q => r = S (Lib.repeatL l n) ∧ q = h :=
  srun_lib rfl rfl fun w => Tryz.strings_Repeat ⟨⟨l⟩⟩ n w hn hl
end Go.Proofs.YteaohknkhlnojaaGreatDoor
end
section
set_option linter.unusedVariables false
set_option linter.unusedSimpArgs false
set_option maxRecDepth 4000
namespace Go.Proofs.YteaohknkhlnojaaGreatDoor
open Go.Gh Go.RowKit

theorem inT_mem {lo : Nat} {t : List Int} : InT lo t ↔ ∀ z ∈ t, (lo : Int) ≤ z ∧ z ≤ 2048 - lo := by
  constructor
  · intro h z hz
    obtain ⟨i, hi, rfl⟩ := List.mem_iff_getElem.1 hz
    have := h i hi
    rwa [getElem!_pos t i hi] at this
  · intro h i hi
    rw [getElem!_pos t i hi]
    exact h _ (List.getElem_mem hi)
theorem gq_65 {lo : Nat} (hl : 1 ≤ lo ∧ lo ≤ 1024) : 65 ≤ gq lo := by
  have := gq_mono hl.2 (by omega)
  rwa [show gq 1024 = 65 by decide +kernel] at this
theorem nenc_paid {v : Int} {lo n G : Nat} {t : List Int} {e : Enc} (hl : 1 ≤ lo ∧ lo ≤ 1024) (ht : t.length = 64) (hI : InT lo t) (hok : EncOk n e) (hi : InB e) (hp : Paid e G) (hv : 0 ≤ v ∧ v < 4096) :
    Paid (nenc t e v).2 (G + 6 * gq lo + (blen v.toNat - 1) * 65) ∧ InT (lo - lo / 32) (nenc t e v).1 := by
  have hcv : ncut v = v := if_neg (by omega)
  have hb : blen v.toNat ≤ 12 := blen_le (by have : (2 : Nat) ^ 12 = 4096 := rfl; omega)
  unfold nenc
  rw [hcv]
  obtain ⟨h1, h2⟩ := tree_paid (v := (blen v.toNat : Int)) (k := 6) hl ht hI hok hi hp
  have h3 := (tenc_ok (v := (blen v.toNat : Int)) (k := 6) (t := t) (j := 1) hok).1
  have h4 := (tenc_in (v := (blen v.toNat : Int)) 6 (t := t) (j := 1) hok hi).2
  refine ⟨?_, h2⟩
  dsimp only
  split
  · have e1 : edir (tenc (blen v.toNat) 6 t e 1).2 ((blen v.toNat : Int) - 1) v = ebits v (blen v.toNat - 1) (tenc (blen v.toNat) 6 t e 1).2 := by
      unfold edir
      rw [if_neg (by omega), show ((blen v.toNat : Int) - 1).toNat = blen v.toNat - 1 by omega]
    rw [e1]
    exact ebits_paid (v := v) _ h3 h4 h1
  · exact h1.mono (by omega)
theorem benc_paid {c v : Int} {lo n G : Nat} {P : List Int} {e : Enc} (hl : 1 ≤ lo ∧ lo ≤ 1024) (hP : P.length = 2048) (hc : 0 ≤ c ∧ c ≤ 255) (hI : InT lo P) (hok : EncOk n e) (hi : InB e) (hp : Paid e G) :
    Paid (benc P c e v).2 (G + 8 * gq lo) ∧ InT (lo - lo / 32) (benc P c e v).1 := by
  have hk : (c / 32).toNat < 8 := by omega
  have hs : InT lo (bsel P (c / 32).toNat) := inT_mem.2 fun z hz => inT_mem.1 hI z (List.mem_of_mem_drop (List.mem_of_mem_take hz))
  obtain ⟨h1, h2⟩ := tree_paid (v := v) (k := 8) hl (bsel_len hP hk) hs hok hi hp
  refine ⟨h1, inT_mem.2 fun z hz => ?_⟩
  have hI' := inT_mem.1 (hI.le (lo' := lo - lo / 32) (by omega))
  have hz : z ∈ P.take ((c / 32).toNat * 256) ++ (tenc v 8 (bsel P (c / 32).toNat) e 1).1 ++ P.drop ((c / 32).toNat * 256 + 256) := hz
  rcases List.mem_append.1 hz with hz | hz
  · rcases List.mem_append.1 hz with hz | hz
    · exact hI' z (List.mem_of_mem_take hz)
    · exact inT_mem.1 h2 z hz
  · exact hI' z (List.mem_of_mem_drop hz)
structure MsT (lo : Nat) (x : Ms) : Prop where
  K : InT lo x.K
  P : InT lo x.P
  L : InT lo x.L
  D : InT lo x.D
theorem inT_rep (n : Nat) : InT 1024 (List.replicate n 1024) := inT_mem.2 fun z hz => by rw [List.eq_of_mem_replicate hz]; decide
theorem ms0_T : MsT (los 0) ms0 := ⟨inT_rep 2, inT_rep 2048, inT_rep 64, inT_rep 64⟩
theorem blen_pos {n : Nat} (h : 1 ≤ n) : 1 ≤ blen n := by unfold blen; rw [if_neg (by omega)]; omega
theorem wst_paid {lo n G : Nat} {s : Ms × Enc} {t : Pc} (hl : 1 ≤ lo ∧ lo ≤ 1024) (hx : MsOk s.1) (hT : MsT lo s.1) (hok : EncOk n s.2) (hi : InB s.2) (hp : Paid s.2 G) (ht : vPb t) :
    Paid (wst s t).2 (G + (price lcst t).toNat * gq lo) ∧ MsT (lo - lo / 32) (wst s t).1 := by
  obtain ⟨hv, hy⟩ := ht
  have h65 := gq_65 hl
  have hlo : lo - lo / 32 ≤ lo := by omega
  obtain ⟨a, b, y⟩ := t
  dsimp only at hv hy
  unfold wst price lcst
  dsimp only
  by_cases h0 : b = 0
  · rw [if_pos h0, if_pos h0]
    obtain ⟨p1, q1⟩ := tree_paid (v := 0) (k := 1) hl hx.K hT.K hok hi hp
    have o1 := (tenc_ok (v := 0) (k := 1) (t := s.1.K) (j := 1) hok).1
    have i1 := (tenc_in (v := 0) 1 (t := s.1.K) (j := 1) hok hi).2
    obtain ⟨p2, q2⟩ := benc_paid (c := s.1.c) (v := y) hl hx.P hx.c hT.P o1 i1 p1
    exact ⟨p2.mono (by show _ ≤ G + 9 * gq lo; omega), ⟨q1, q2, hT.L.le hlo, hT.D.le hlo⟩⟩
  · rw [if_neg h0, if_neg h0]
    have hg : 1 ≤ b ∧ b ≤ 4096 ∧ 2 ≤ a ∧ a ≤ 273 := by rcases hv with g | g <;> (dsimp only at g; omega)
    obtain ⟨p1, q1⟩ := tree_paid (v := 1) (k := 1) hl hx.K hT.K hok hi hp
    have o1 := (tenc_ok (v := 1) (k := 1) (t := s.1.K) (j := 1) hok).1
    have i1 := (tenc_in (v := 1) 1 (t := s.1.K) (j := 1) hok hi).2
    obtain ⟨p2, q2⟩ := nenc_paid (v := a - 2) hl hx.L hT.L o1 i1 p1 (by omega)
    have o2 := (nenc_ok (t := s.1.L) o1 (a - 2)).1
    have i2 := (nenc_in (t := s.1.L) (v := a - 2) o1 i1).2
    obtain ⟨p3, q3⟩ := nenc_paid (v := b - 1) hl hx.D hT.D o2 i2 p2 (by omega)
    refine ⟨p3.mono ?_, ⟨q1, hT.P.le hlo, q2, q3⟩⟩
    have b1 := blen_mono (n := (a - 2).toNat) (m := a.toNat) (by omega)
    have b2 := blen_mono (n := (b - 1).toNat) (m := b.toNat) (by omega)
    have b3 := blen_pos (n := a.toNat) (by omega)
    have b4 := blen_pos (n := b.toNat) (by omega)
    have hpr : (12 + 1 * iblen b + 1 * iblen a).toNat = 12 + blen b.toNat + blen a.toNat := by unfold iblen; omega
    rw [hpr]
    generalize gq lo = g at *
    have m1 := Nat.mul_le_mul (show blen (a - 2).toNat - 1 ≤ blen a.toNat - 1 by omega) h65
    have m2 := Nat.mul_le_mul (show blen (b - 1).toNat - 1 ≤ blen b.toNat - 1 by omega) h65
    have m3 : (12 + blen b.toNat + blen a.toNat) * g = 14 * g + (blen b.toNat - 1) * g + (blen a.toNat - 1) * g := by
      rw [← Nat.add_mul, ← Nat.add_mul]; congr 1; omega
    omega
/-- What pieces cost behind k others. -/
def zcst : List Pc → Nat → Nat
  | [], _ => 0
  | t :: r, k => (price lcst t).toNat * gq (los k) + zcst r (k + 1)
theorem wrun_paid (ps : List Pc) : ∀ {n k G : Nat} {s : Ms × Enc}, MsOk s.1 → MsT (los k) s.1 → EncOk n s.2 → InB s.2 → Paid s.2 G → (∀ t ∈ ps, vPb t) → Paid (wrun ps s).2 (G + zcst ps k) := by
  induction ps with
  | nil => intro n k G s _ _ _ _ hp _; exact hp
  | cons t r ih =>
    intro n k G s hx hT hok hi hp ht
    have h1 := wst_ok hx hok (ht t (by simp))
    have g1 := wst_in (t := t) hok hi
    obtain ⟨p1, q1⟩ := wst_paid (los_in k) hx hT hok hi hp (ht t (by simp))
    have := ih (k := k + 1) h1.1 q1 h1.2 g1.2 p1 (fun u hu => ht u (by simp [hu]))
    rw [wrun_cons]
    exact this.mono (by show _ ≤ G + ((price lcst t).toNat * gq (los k) + zcst r (k + 1)); omega)
theorem price_9 {t : Pc} (h : vP t) : 9 ≤ price lcst t := by
  have := iblen_pos (n := t.2.1) (by rcases h with g | g <;> omega)
  have := iblen_pos (n := t.1) (by rcases h with g | g <;> omega)
  unfold price lcst
  dsimp only
  split <;> omega
theorem costs_9 : ∀ {ps : List Pc}, (∀ t ∈ ps, vP t) → 9 * (ps.length : Int) ≤ costs lcst ps
  | [], _ => by show 9 * ((0 : Nat) : Int) ≤ 0; omega
  | t :: r, h => by
    have h1 := price_9 (h t (by simp))
    have h2 := costs_9 (ps := r) (fun u hu => h u (by simp [hu]))
    show 9 * (((r.length + 1 : Nat)) : Int) ≤ price lcst t + costs lcst r
    omega
theorem zcst_le : ∀ (ps : List Pc) (k S C : Nat), (∀ t ∈ ps, vP t) → 9 * k ≤ S → k + ps.length ≤ 45 → costs lcst ps = C → 6 * zcst ps k + (S * S + 396 * S) ≤ (S + C) * (S + C) + 396 * (S + C)
  | [], k, S, C, _, _, _, hC => by
    have : C = 0 := by have : (0 : Int) = C := hC; omega
    subst this
    show 6 * 0 + _ ≤ _
    rw [Nat.add_zero]; omega
  | t :: r, k, S, C, h, hk, hl, hC => by
    have h1 := price_9 (h t (by simp))
    obtain ⟨p, hp⟩ := Int.eq_ofNat_of_zero_le (show 0 ≤ price lcst t by omega)
    have hr := costs_9 (ps := r) (fun u hu => h u (by simp [hu]))
    obtain ⟨c, hc⟩ := Int.eq_ofNat_of_zero_le (show 0 ≤ costs lcst r by omega)
    have hC' : (price lcst t) + costs lcst r = C := hC
    have hCe : C = p + c := by omega
    have hlr : k + 1 + r.length ≤ 45 := by rw [List.length_cons] at hl; omega
    have ih := zcst_le r (k + 1) (S + p) c (fun u hu => h u (by simp [hu])) (by omega) hlr hc
    have hg := gq_los k (by omega)
    show 6 * ((price lcst t).toNat * gq (los k) + zcst r (k + 1)) + _ ≤ _
    rw [hp, Int.toNat_natCast, hCe, show S + (p + c) = S + p + c from (Nat.add_assoc S p c).symm]
    have hg2 : 6 * gq (los k) ≤ 396 + 2 * S := by omega
    have m1 := Nat.mul_le_mul_left p hg2
    have m2 : p * (396 + 2 * S) = 396 * p + 2 * (S * p) := by rw [Nat.mul_add, Nat.mul_comm p 396, Nat.mul_left_comm p 2 S, Nat.mul_comm p S]
    have m3 : (S + p) * (S + p) = S * S + 2 * (S * p) + p * p := by rw [Nat.add_mul, Nat.mul_add, Nat.mul_add, Nat.mul_comm p S]; omega
    have m4 : p * (6 * gq (los k)) = 6 * (p * gq (los k)) := Nat.mul_left_comm _ _ _
    generalize gq (los k) = g at *
    generalize p * g = pg at *
    generalize (S + p + c) * (S + p + c) = F at *
    generalize S * p = sp at *
    generalize p * p = pp at *
    generalize S * S = ss at *
    omega
/-- The bytes of a text whose pieces cost at most C. -/
theorem out_le {l : List UInt8} {ps : List Pc} {C : Nat} (hc : Cov l 4096 0 ps) (hC : costs lcst ps ≤ C) (h : C ≤ 400) : 3072 * (wrun ps zs0).2.out.length ≤ 384 + C * C + 396 * C := by
  have hv := cov_vPb (by omega) hc
  have hv' : ∀ t ∈ ps, vP t := fun t ht => (hv t ht).1
  have h9 := costs_9 hv'
  obtain ⟨c, hcc⟩ := Int.eq_ofNat_of_zero_le (show 0 ≤ costs lcst ps by omega)
  have h0 : Paid encZ 0 := by
    show (256 ^ 0) ^ 64 * lnC ≤ 4294967295 ^ 64 * 2 ^ 0
    rw [Nat.pow_zero, Nat.one_pow, Nat.one_mul, Nat.mul_one]
    exact Nat.le_refl _
  have hp := wrun_paid ps (k := 0) (s := zs0) ms0_ok ms0_T encZ_ok e00_InB h0 hv
  have hok := (wrun_ok (s := zs0) ms0_ok encZ_ok hv).2
  have h1 := paid_len hok hp
  have h2 := zcst_le ps 0 0 c hv' (by omega) (by omega) hcc
  simp only [Nat.zero_add, Nat.mul_zero, Nat.add_zero] at h1 h2
  have h3 : c * c ≤ C * C := Nat.mul_le_mul (by omega) (by omega)
  omega
end Go.Proofs.YteaohknkhlnojaaGreatDoor
end
section
set_option linter.unusedVariables false
set_option linter.unusedSimpArgs false
set_option maxRecDepth 4000
namespace Go.Proofs.YteaohknkhlnojaaGreatDoor
open Go.Gh Go.RowKit

theorem zrep_get (w : List UInt8) (c k : Nat) (h : k < c * w.length) : (Lib.repeatL w (c + 1))[k + w.length]? = (Lib.repeatL w (c + 1))[k]? := by
  have h1 : Lib.repeatL w (c + 1) = w ++ Lib.repeatL w c := rfl
  have h2 : Lib.repeatL w (c + 1) = Lib.repeatL w c ++ Lib.repeatL w 1 := Lib.repeatL_add w c 1
  have hl := Lib.repeatL_length w c
  have e1 : (Lib.repeatL w (c + 1))[k + w.length]? = (Lib.repeatL w c)[k]? := by rw [h1, List.getElem?_append_right (by omega), Nat.add_sub_cancel]
  have e2 : (Lib.repeatL w (c + 1))[k]? = (Lib.repeatL w c)[k]? := by rw [h2, List.getElem?_append_left (by omega)]
  rw [e1, e2]
theorem zrep_bat (w : List UInt8) (c k : Nat) (h : k < c * w.length) : bat (Lib.repeatL w (c + 1)) ((k + w.length : Nat) : Int) = bat (Lib.repeatL w (c + 1)) (k : Int) := by
  unfold bat
  rw [Int.toNat_natCast, Int.toNat_natCast, List.getD_eq_getElem?_getD, List.getD_eq_getElem?_getD, zrep_get w c k h]
theorem lits_front {l : List UInt8} {w : Int} {qs : List Pc} : ∀ (f i : Nat), i + f ≤ l.length → Cov l w (i + f) qs → Cov l w i (allLit l f i ++ qs) ∧ costs lcst (allLit l f i ++ qs) = 9 * (f : Int) + costs lcst qs
  | 0, i, _, h => ⟨h, by show costs lcst qs = _; omega⟩
  | f + 1, i, h, hq => by
    have := lits_front (l := l) (w := w) (qs := qs) f (i + 1) (by omega) (by rw [show i + 1 + f = i + (f + 1) by omega]; exact hq)
    refine ⟨⟨.inl ⟨by omega, rfl⟩, this.1⟩, ?_⟩
    show price lcst (litP l i) + costs lcst (allLit l f (i + 1) ++ qs) = _
    rw [this.2, show price lcst (litP l i) = 9 from if_pos (litP_at l i)]
    omega
theorem price_far {n d : Nat} (hn : n ≤ 511) (hd : 1 ≤ d ∧ d ≤ 31) : price lcst ((n : Int), (d : Int), 0) ≤ 26 := by
  have h1 := blen_le (n := n) (k := 9) (by have : (2 : Nat) ^ 9 = 512 := rfl; omega)
  have h2 := blen_le (n := d) (k := 5) (by have : (2 : Nat) ^ 5 = 32 := rfl; omega)
  unfold price lcst iblen
  dsimp only
  rw [if_neg (by omega), Int.toNat_natCast, Int.toNat_natCast]
  omega
theorem rep_cover (w : List UInt8) (c : Nat) (hw : 1 ≤ w.length ∧ w.length ≤ 20) (hc : c + 1 ≤ 20) : ∃ qs, Cov (Lib.repeatL w (c + 1)) 4096 0 qs ∧ costs lcst qs ≤ 232 := by
  have hlen := Lib.repeatL_length w (c + 1)
  have hm := Nat.mul_le_mul (show c ≤ 19 by omega) hw.2
  have hsplit : (c + 1) * w.length = c * w.length + w.length := by rw [Nat.add_mul, Nat.one_mul]
  have hper := zrep_bat w c
  generalize Lib.repeatL w (c + 1) = l at *
  generalize w.length = m at *
  generalize c * m = r at *
  have oc : ∀ i n, m ≤ i → 2 ≤ n → n ≤ 273 → i + n ≤ l.length → occ l 4096 i ((n : Int), (m : Int), 0) := fun i n g1 g2 g3 g4 =>
    .inr ⟨n, m, rfl, g2, g3, hw.1, by omega, g1, g4, fun k hk => by
      have := hper (i - m + k) (by omega)
      rw [show i - m + k + m = i + k by omega] at this
      exact this.symm⟩
  have rest : ∃ qs, Cov l 4096 (0 + m) qs ∧ costs lcst qs ≤ 52 := by
    rw [Nat.zero_add]
    by_cases r0 : r = 0
    · exact ⟨[], by show m = l.length; omega, by show (0 : Int) ≤ 52; decide⟩
    · by_cases r1 : r = 1
      · refine ⟨[litP l m], ⟨.inl ⟨by omega, rfl⟩, by show m + 1 = l.length; omega⟩, ?_⟩
        show price lcst (litP l m) + 0 ≤ 52
        rw [show price lcst (litP l m) = 9 from if_pos (litP_at l m)]
        decide
      · by_cases r2 : r ≤ 273
        · refine ⟨[((r : Int), (m : Int), 0)], ⟨oc m r (Nat.le_refl _) (by omega) r2 (by omega), by show m + (r : Int).toNat = l.length; omega⟩, ?_⟩
          have := price_far (n := r) (d := m) (by omega) (by omega)
          show price lcst _ + 0 ≤ 52
          omega
        · refine ⟨[((200 : Nat), (m : Int), 0), (((r - 200 : Nat) : Int), (m : Int), 0)], ⟨oc m 200 (Nat.le_refl _) (by omega) (by omega) (by omega), oc _ (r - 200) (by show m ≤ m + 200; omega) (by omega) (by omega) (by show m + 200 + _ ≤ _; omega), by show m + 200 + ((r - 200 : Nat) : Int).toNat = l.length; omega⟩, ?_⟩
          have h1 := price_far (n := 200) (d := m) (by omega) (by omega)
          have h2 := price_far (n := r - 200) (d := m) (by omega) (by omega)
          show price lcst _ + (price lcst _ + 0) ≤ 52
          omega
  obtain ⟨qs, q1, q2⟩ := rest
  have := lits_front m 0 (by omega) q1
  exact ⟨_, this.1, by rw [this.2]; omega⟩
theorem run_len (w : List UInt8) (k : Nat) (hw : w.length ≤ 20) (hk : k ≤ 20) : (lzE (Lib.repeatL w k)).1.length ≤ 60 := by
  have hlen := Lib.repeatL_length w k
  have hm := Nat.mul_le_mul hk hw
  by_cases h0 : Lib.repeatL w k = []
  · rw [h0, zx1]; decide
  · rw [lzE_ne (by omega) h0]
    have hk0 : 1 ≤ k ∧ 1 ≤ w.length := by
      refine ⟨?_, ?_⟩
      · rcases Nat.eq_zero_or_pos k with rfl | g
        · exact absurd rfl h0
        · exact g
      · rcases Nat.eq_zero_or_pos w.length with g | g
        · rw [g, Nat.mul_zero] at hlen
          exact absurd (List.length_eq_zero_iff.1 hlen) h0
        · exact g
    obtain ⟨c, rfl⟩ : ∃ c, k = c + 1 := ⟨k - 1, by omega⟩
    obtain ⟨qs, q1, q2⟩ := rep_cover w c ⟨hk0.2, hw⟩ hk
    generalize Lib.repeatL w (c + 1) = l at *
    have hle := parse_le lcst_ok (by decide) (by omega) q1
    have hC : costs lcst (pcs l) ≤ ((232 : Nat) : Int) := by
      show costs lcst (parse lcst l 4096).1 ≤ _
      omega
    have h1 := out_le (pcs_cov (l := l) (by omega)) hC (by decide)
    have h4 := vnum_len (n := (l.length : Int)) (by omega)
    have h5 : vk (l.length : Int) ≤ 1 := by
      by_cases g : (l.length : Int) < 128
      · rw [vk_lo g]; exact Nat.zero_le _
      · rw [vk_hi (by omega) (by omega)]; exact Nat.le_refl _
    show (vnum l.length ++ fin (wrun (pcs l) zs0).2).length ≤ _
    rw [List.length_append, fin_len]
    omega
end Go.Proofs.YteaohknkhlnojaaGreatDoor
end
section
set_option linter.unusedVariables false
set_option linter.unusedSimpArgs false
set_option maxRecDepth 4000
namespace Go.Proofs.YteaohknkhlnojaaGreatDoor
open Go.Gh Go.RowKit

theorem txt_front {b r : List UInt8} (hb : b.length ≤ 4096) : txt (vnum b.length ++ b ++ r) = some (b, r) := by
  unfold txt
  rw [List.append_assoc, rdN_num (by omega) (by omega)]
  dsimp only
  rw [if_pos ⟨rfl, by rw [List.length_append]; omega⟩, Int.toNat_natCast, List.take_append_of_le_length (Nat.le_refl _), List.take_length, List.drop_append_of_le_length (Nat.le_refl _), List.drop_length, List.nil_append]
theorem frm_at (k : Int) (hk : 0 ≤ k ∧ k ≤ 255) (b r : List UInt8) : bat (frm k b ++ r) 0 = 165 ∧ bat (frm k b ++ r) 1 = k ∧ (frm k b ++ r).drop 2 = vnum b.length ++ b ++ r := by
  refine ⟨b8_val (by decide), b8_val (by omega), ?_⟩
  show (vnum b.length ++ b) ++ r = _
  rfl
/-- A frame at the front, of a body with the content. -/
theorem prs_frm {k k' : Int} {b c : List UInt8} (r : List UInt8) (hk' : 0 ≤ k' ∧ k' ≤ 31) (hb : b.length ≤ 4096) (hc : (16 ≤ k' ∧ lzD b 4096 = (c, 0)) ∨ (k' ≤ 15 ∧ c = b)) (hk : k = k' % 16) :
    prs (sl (frm k' b) ++ r) = if wrp k c = (sl (frm k' b), 0) then some (k, c, (sl (frm k' b)).length, decide (16 ≤ k')) else none := by
  have e0 : sl (frm k' b) ++ r = frm k' b ++ (le4 (crcV (frm k' b)) ++ r) := by unfold sl; rw [List.append_assoc]
  obtain ⟨a1, a2, a3⟩ := frm_at k' (by omega) b (le4 (crcV (frm k' b)) ++ r)
  rw [← e0] at a1 a2 a3
  have hlen : (sl (frm k' b) ++ r).length = (sl (frm k' b)).length + r.length := List.length_append
  have h4 : (le4 (crcV (frm k' b)) ++ r).length = 4 + r.length := by rw [List.length_append, le4_len]
  have hl7 : 4 ≤ (sl (frm k' b)).length := by unfold sl; rw [List.length_append, le4_len]; omega
  have hsz : (sl (frm k' b) ++ r).length - ((le4 (crcV (frm k' b)) ++ r).length - 4) = (sl (frm k' b)).length := by omega
  have htk : (sl (frm k' b) ++ r).take (sl (frm k' b)).length = sl (frm k' b) := by rw [List.take_append_of_le_length (Nat.le_refl _), List.take_length]
  have hx : txt ((sl (frm k' b) ++ r).drop 2) = some (b, le4 (crcV (frm k' b)) ++ r) := by rw [a3]; exact txt_front hb
  have hop : (opn (sl (frm k' b))).2 = 0 := by unfold sl; rw [opn_seal]
  unfold prs
  rw [a1, a2, if_neg (by omega), hx]
  dsimp only
  rw [if_neg (by omega), hsz, htk, if_neg (by rw [hop]; exact fun g => g rfl)]
  unfold bdy
  rw [a2]
  rcases hc with ⟨g1, g2⟩ | ⟨g1, rfl⟩
  · rw [if_pos g1, g2, if_pos rfl, ← hk]
  · rw [if_neg (by omega), ← hk]
theorem lzD_most {c : List UInt8} (hl : c.length ≤ 4096) (h0 : c ≠ []) : lzD (lzE c).1 4096 = (c, 0) := by
  have h1 := lzE_ne hl h0
  rw [h1]
  show lzD (wrt c.length (pcs c)) 4096 = _
  rw [(lzD_wrt hl (by omega) (pcs_cov hl) 4096).1, if_neg (by omega), if_pos h1]
/-- What Wrap gives is found at the front. -/
theorem prs_wrp {k : Int} {c : List UInt8} (h : (wrp k c).2 = 0) (r : List UInt8) : prs ((wrp k c).1 ++ r) = some (k, c, (wrp k c).1.length, decide ((lzE c).1.length < c.length)) := by
  obtain ⟨h1, h2, _⟩ := wrp_len h
  have hw : wrp k c = ((if (lzE c).1.length < c.length then sl (frm (k + 16) (lzE c).1) else sl (frm k c)), 0) := by unfold wrp; rw [if_neg (by omega), if_neg (by omega)]
  by_cases hs : (lzE c).1.length < c.length
  · rw [if_pos hs] at hw
    rw [hw]
    dsimp only
    rw [prs_frm (k := k) (c := c) r (by omega) (by omega) (.inl ⟨by omega, lzD_most h2 (fun g => by rw [g] at hs; cases hs)⟩) (by omega), if_pos hw, decide_eq_true hs, decide_eq_true (by omega)]
  · rw [if_neg hs] at hw
    rw [hw]
    dsimp only
    rw [prs_frm (k := k) (c := c) r (by omega) (by omega) (.inr ⟨by omega, rfl⟩) (by omega), if_pos hw, decide_eq_false hs, decide_eq_false (by omega)]
theorem prs_no {d : List UInt8} (h : bat d 0 ≠ 165) : prs d = none := by
  unfold prs
  rw [if_pos (.inr (.inl h))]
theorem lzE_5 {c : List UInt8} (hl : c.length ≤ 4096) (h0 : c ≠ []) : 5 ≤ (lzE c).1.length := by
  have h1 := vnum_len (n := (c.length : Int)) (by omega)
  rw [lzE_ne hl h0]
  show 5 ≤ (vnum c.length ++ fin (wrun (pcs c) zs0).2).length
  rw [List.length_append, fin_len]
  omega
theorem wkL_none {d : List UInt8} {f at_ : Nat} (h : at_ < d.length) (hp : prs (d.drop at_) = none) : wkL d (f + 1) at_ = wkL d f (at_ + 1) := by
  show (if at_ < d.length then _ else _) = _
  rw [if_pos h, hp]
theorem wkL_some {d : List UInt8} {f at_ n : Nat} {k : Int} {c : List UInt8} {s : Bool} (h : at_ < d.length) (hp : prs (d.drop at_) = some (k, c, n, s)) : wkL d (f + 1) at_ = (at_, n, k, c) :: wkL d f (at_ + n) := by
  show (if at_ < d.length then _ else _) = _
  rw [if_pos h, hp]
theorem wkL_end {d : List UInt8} {f at_ : Nat} (h : ¬ at_ < d.length) : wkL d f at_ = [] := by
  cases f with
  | zero => rfl
  | succ f => exact if_neg h
theorem rep100 : (wrp 3 (List.replicate 100 97)).2 = 0 ∧ (lzE (List.replicate 100 97)).1.length < 100 := by
  have h := run_len (List.replicate 20 97) 5 (by decide) (by decide)
  rw [show Lib.repeatL (List.replicate 20 (97 : UInt8)) 5 = List.replicate 100 97 by decide] at h
  exact ⟨by unfold wrp; rw [if_neg (by decide), if_neg (by decide)], by omega⟩
theorem ab_frame : wrp 3 [97, 98] = ([165, 3, 2, 97, 98] ++ le4 (crcV [165, 3, 2, 97, 98]), 0) ∧ decide ((lzE [97, 98]).1.length < ([97, 98] : List UInt8).length) = false := by
  have h5 := lzE_5 (c := [97, 98]) (by decide) (by decide)
  have hn : ¬ (lzE [97, 98]).1.length < ([97, 98] : List UInt8).length := by show ¬ _ < 2; omega
  have hf : frm 3 [97, 98] = [165, 3, 2, 97, 98] := by decide +kernel
  refine ⟨?_, decide_eq_false hn⟩
  unfold wrp
  rw [if_neg (by decide), if_neg (by decide), if_neg hn]
  unfold sl
  rw [hf]
end Go.Proofs.YteaohknkhlnojaaGreatDoor
end
section
set_option linter.unusedVariables false
set_option linter.unusedSimpArgs false
set_option maxRecDepth 4000
namespace Go.Proofs.YteaohknkhlnojaaGreatDoor
open Go.Gh Go.RowKit

theorem prs_self {k : Int} {c : List UInt8} (h : (wrp k c).2 = 0) : prs (wrp k c).1 = some (k, c, (wrp k c).1.length, decide ((lzE c).1.length < c.length)) := by
  have := prs_wrp h []
  rw [List.append_nil] at this
  exact this
theorem awake_walk (Z T R : List UInt8) (h : SH) (hAl : Z.length = 9) (hW1 : ∀ h, SRun Tryz.prog 7 [frV 3 [97, 98]] h fun r q => r = .tuple #[S Z, I 0] ∧ q = h) (hS : ∀ h, SRun Tryz.prog 11 [S [165, 3, 2, 97, 98]] h fun r q => r = S Z ∧ q = h)
    (hC1 : ∀ h, SRun Tryz.prog 12 [S Z] h fun r q => r = B false ∧ q = h) (hC2 : ∀ h, SRun Tryz.prog 12 [S T] h fun r q => r = B true ∧ q = h)
    (hU : ∀ h, SRun Tryz.prog 9 [S Z] h fun r q => r = .tuple ⟨[frV 3 [97, 98], I 9, I 0]⟩ ∧ q = h)
    (hK : ∀ h, SRun Tryz.prog 8 [S (120 :: Z)] h fun r q => ∃ ad fl, r = .slice ad 1 fl ∧ Take q h)
    (hR : ∀ h, SRun Tryz.prog 10 [S [97], I 100] h fun r q => r = S R ∧ q = h) (hW2 : ∀ h, SRun Tryz.prog 7 [frV 3 R] h fun r q => r = .tuple #[S T, I 0] ∧ q = h) :
    SRun Tryz.prog 4 [] h fun r q => r = B true ∧ q = h := by
  refine w_body0 Tryz.func4 rfl rfl ?_
  repeat' (first | apply w_seq | apply w_region | apply o_nil | (apply o_g tyOk; exact rfl; exact rfl) | (apply o_notB; exact rfl; exact rfl) | (apply o_loads tyOk; (iterate 3 exact rfl); (focus (exact pk))) | (apply o_stores tyOk; (iterate 4 exact rfl); (focus (exact ⟨rfl⟩)); (focus (exact up))) | (apply o_alloc tyOk; iterate 5 exact rfl) | (apply o_eqs; (iterate 3 exact rfl); (focus (kernel_rfl)); exact rfl; exact rfl; (focus (kernel_rfl)); exact rfl) | (apply o_build tyOk; exact rfl; exact rfl; (focus (first | with_reducible exact pl8 | with_reducible exact pl28)); exact rfl; (focus (repeat (first | exact BuildR.nil | (apply BuildR.one; exact rfl; exact rfl; (first | (focus ((repeat (first | exact SetAt.zero | apply SetAt.succ)); done)) | exact setAt_bytes (by omega) (by omega) | exact setAt_mapZ (by omega) | exact setAt_map (by omega))) | (apply BuildR.agg; exact rfl; exact rfl; (first | exact putAt_all rfl | exact putAt_recZ (fun _ => rfl) (by omega) | exact putAt_rec (fun _ => rfl) (by omega)))))); exact rfl) | (apply o_call; exact rfl; exact rfl; (focus (first | exact rfl | assumption)); exact rfl; (focus (exact ⟨_, hW1 _, by repeat (first | with_reducible exact Take.nil | with_reducible apply Take.c | with_reducible apply Take.drop)⟩)); rintro _ _ ⟨rfl, rfl⟩) | (apply o_call; exact rfl; exact rfl; (focus (first | exact rfl | assumption)); exact rfl; (focus (exact ⟨_, hU _, by repeat (first | with_reducible exact Take.nil | with_reducible apply Take.c | with_reducible apply Take.drop)⟩)); rintro _ _ ⟨rfl, rfl⟩) | (apply o_call; exact rfl; exact rfl; (focus (first | exact rfl | assumption)); exact rfl; (focus (exact ⟨_, hR _, by repeat (first | with_reducible exact Take.nil | with_reducible apply Take.c | with_reducible apply Take.drop)⟩)); rintro _ _ ⟨rfl, rfl⟩) | (apply o_call; exact rfl; exact rfl; (focus (first | exact rfl | assumption)); exact rfl; (focus (exact ⟨_, hW2 _, by repeat (first | with_reducible exact Take.nil | with_reducible apply Take.c | with_reducible apply Take.drop)⟩)); rintro _ _ ⟨rfl, rfl⟩) | (apply o_call; exact rfl; exact rfl; (focus (first | exact rfl | assumption)); exact rfl; (focus (exact ⟨_, hS _, by repeat (first | with_reducible exact Take.nil | with_reducible apply Take.c | with_reducible apply Take.drop)⟩)); rintro _ _ ⟨rfl, rfl⟩) | (apply o_call; exact rfl; exact rfl; (focus (first | exact rfl | assumption)); exact rfl; (focus (exact ⟨_, hC1 _, by repeat (first | with_reducible exact Take.nil | with_reducible apply Take.c | with_reducible apply Take.drop)⟩)); rintro _ _ ⟨rfl, rfl⟩) | (apply o_call; exact rfl; exact rfl; (focus (first | exact rfl | assumption)); exact rfl; (focus (exact ⟨_, hC2 _, by repeat (first | with_reducible exact Take.nil | with_reducible apply Take.c | with_reducible apply Take.drop)⟩)); rintro _ _ ⟨rfl, rfl⟩) | (apply o_call; exact rfl; exact rfl; (focus (first | exact rfl | assumption)); exact rfl; (focus (exact ⟨_, hK _, by repeat (first | with_reducible exact Take.nil | with_reducible apply Take.c | with_reducible apply Take.drop)⟩)); rintro _ _ ⟨ad, fl, rfl, ht⟩) | (apply o_want; exact rfl; exact rfl) | (apply o_gT; (iterate 3 exact rfl); (focus (first | exact ‹_› | with_reducible exact rfl | omega))) | apply thenS_normal | apply w_ret | ((with_reducible apply Sd.mk); (first | exact True.intro | omega | (constructor <;> first | omega | (unfold maxLen; omega)) | (unfold maxLen; omega) | (show 1 + _ ≤ _; omega))) | ((with_reducible apply Ln.mk); (first | rfl | exact ‹_› | omega | (simp [hAl]; first | done | omega))) | ((with_reducible apply Pu.mk); (first | exact putAt_all rfl | exact putAt_recZ (fun _ => rfl) (by omega) | exact putAt_rec (fun _ => rfl) (by omega))) | ((with_reducible apply Su.mk); (first | exact subAt_all | exact subAt_recZ (fun _ => rfl) (by omega) | exact subAt_rec (fun _ => rfl) (by omega))) | exact True.intro | intro A | exact rfl)
  all_goals first
    | (exfalso; omega)
    | contradiction
    | skip
  (apply s_fin; (exact (show ResS _ _ _ _ [_] from ⟨rfl, trivial⟩)); (focus (exact ⟨rfl, rfl⟩)); (focus (repeat (first | with_reducible exact Take.nil | with_reducible apply Take.c | with_reducible apply Take.drop))))
  all_goals exact ht.trans (.drop (.drop .nil))
end Go.Proofs.YteaohknkhlnojaaGreatDoor
end
section
set_option linter.unusedVariables false
set_option linter.unusedSimpArgs false
set_option maxRecDepth 4000
namespace Go.Proofs.YteaohknkhlnojaaGreatDoor
open Go.Gh Go.RowKit

theorem rep_eq : Lib.repeatL [97] 100 = List.replicate 100 (97 : UInt8) := by decide +kernel
theorem wk_x (Z : List UInt8) (hl : Z.length = 9) (hp : prs Z = some (3, [97, 98], 9, false)) (h0 : prs (120 :: Z) = none) : wkL (120 :: Z) 10 0 = [(1, 9, 3, [97, 98])] := by
  obtain ⟨d, hd⟩ : ∃ d, d = 120 :: Z := ⟨_, rfl⟩
  have hdl : d.length = 10 := by rw [hd, List.length_cons, hl]
  have e0 : d.drop 0 = d := List.drop_zero
  have e1 : d.drop 1 = Z := by rw [hd]; rfl
  rw [← hd] at h0 ⊢
  rw [← e0] at h0
  rw [← e1] at hp
  have a := wkL_none (d := d) (f := 9) (at_ := 0) (by omega) h0
  have b := wkL_some (d := d) (f := 8) (at_ := 1) (by omega) hp
  have c := wkL_end (d := d) (f := 8) (at_ := 1 + 9) (by omega)
  rw [c] at b
  exact a.trans b
theorem rep_T (R : List UInt8) (r1 : (wrp 3 R).2 = 0) (r2 : (lzE R).1.length < R.length) : ∃ T, wrp 3 R = (T, 0) ∧ T.length ≤ 1000000 ∧ cmpr T = true := by
  obtain ⟨⟨T, e⟩, hT⟩ : ∃ T, wrp 3 R = T := ⟨_, rfl⟩
  have hp := prs_self r1
  have hl := (wrp_len r1).2.2
  rw [hT] at r1 hp hl
  dsimp only at r1 hp hl
  subst r1
  refine ⟨T, hT, by omega, ?_⟩
  unfold cmpr
  rw [hp]
  exact decide_eq_true r2
theorem ab_Z : ∃ Z, wrp 3 [97, 98] = (Z, 0) ∧ [165, 3, 2, 97, 98] ++ le4 (crcV [165, 3, 2, 97, 98]) = Z ∧ Z.length = 9 ∧ prs Z = some (3, [97, 98], 9, false) := by
  obtain ⟨e1, e2⟩ := ab_frame
  have hp1 := prs_self (k := 3) (c := [97, 98]) (by rw [e1])
  obtain ⟨Z, hZ⟩ : ∃ Z, [165, 3, 2, 97, 98] ++ le4 (crcV [165, 3, 2, 97, 98]) = Z := ⟨_, rfl⟩
  have hl : Z.length = 9 := by rw [← hZ, List.length_append, le4_len]; rfl
  rw [e1, hZ, e2] at hp1
  dsimp only at hp1
  rw [hl] at hp1
  exact ⟨Z, by rw [e1, hZ], hZ, hl, hp1⟩
theorem awakeF_any (h : SH) : SRun Tryz.prog 4 [] h fun r q => r = B true ∧ q = h := by
  obtain ⟨Z, e1, hZ, hAl, hp1⟩ := ab_Z
  obtain ⟨R, hRR⟩ : ∃ R, List.replicate 100 (97 : UInt8) = R := ⟨_, rfl⟩
  have hr := rep100
  have hre := rep_eq
  rw [hRR] at hr hre
  have hRl : R.length = 100 := by rw [← hRR, List.length_replicate]
  clear hRR
  obtain ⟨T, e2, hTl, hcT⟩ := rep_T R hr.1 (by rw [hRl]; exact hr.2)
  have hA0 : bat (120 :: Z) 0 ≠ 165 := by show (120 : Int) ≠ 165; decide
  have hwk := wk_x Z hAl hp1 (prs_no hA0)
  have h10 : (120 :: Z).length = 10 := by rw [List.length_cons, hAl]
  have hW1 := fun h => Wrap_any 3 [97, 98] h (by decide)
  have hW2 := fun h => Wrap_any 3 R h (by omega)
  have hS := fun h => Seal_any [165, 3, 2, 97, 98] h (by decide)
  rw [e1] at hW1
  rw [e2] at hW2
  rw [hZ] at hS
  have hR : ∀ h, SRun Tryz.prog 10 [S [97], I 100] h fun r q => r = S R ∧ q = h := fun h => hre ▸ Repeat_any [97] 100 h (by decide) (by decide)
  have hC1 := fun h => Compressed_any Z h (by omega)
  have hC2 := fun h => Compressed_any T h hTl
  rw [show cmpr Z = false by unfold cmpr; rw [hp1]] at hC1
  rw [hcT] at hC2
  have hU := fun h => Unwrap_any Z h (by omega)
  rw [hp1] at hU
  have hK := fun h => Walk_any (120 :: Z) h (by omega)
  rw [h10, hwk] at hK
  exact awake_walk Z T R h hAl hW1 hS hC1 hC2 hU (fun h => (hK h).mono fun r q ⟨⟨ad, fl, e, _⟩, t⟩ => ⟨ad, fl, e, t⟩) hR hW2
end Go.Proofs.YteaohknkhlnojaaGreatDoor
end
section
set_option linter.unusedVariables false
set_option linter.unusedSimpArgs false
set_option maxRecDepth 4000
namespace Go.Proofs.YteaohknkhlnojaaGreatDoor
open Go.Gh Go.RowKit

abbrev Fr1 : Type := Int × List UInt8
abbrev frC (x : Fr1) : List Value := [I x.1, S x.2]
theorem frC_len (l : List Fr1) : (recs frC l).length = 2 * l.length := by
  induction l with
  | nil => rfl
  | cons x r ih => show (frC x ++ recs frC r).length = 2 * (r.length + 1); rw [List.length_append, ih]; show 2 + _ = _; omega
/-- A slice of frames that grows. -/
inductive FrO (h : SH) : List Fr1 → Value → SH → Prop
  | nil : FrO h [] (.slice none 0 0) h
  | some (A : Nat) (l : List Fr1) : FrO h l (gsl A 0 (2 * l.length) l.length 2) ((A, ⟨recs frC l, false⟩) :: h)
theorem FrO.has {h q : SH} {l : List Fr1} {v : Value} (g : FrO h l v q) : Has q (recs frC l) 2 l.length v ∧ Take q h := by
  cases g with
  | nil => exact ⟨⟨none, 0, rfl, fun k => absurd rfl k⟩, .nil⟩
  | some A l => exact ⟨⟨_, _, rfl, fun _ => ⟨A, false, h, rfl, .head⟩⟩, .drop .nil⟩
end Go.Proofs.YteaohknkhlnojaaGreatDoor
end
section
set_option linter.unusedVariables false
set_option linter.unusedSimpArgs false
set_option maxRecDepth 4000
namespace Go.Proofs.YteaohknkhlnojaaGreatDoor
open Go.Gh Go.RowKit

theorem rShort_any (xs : List Fr1) (v : Value) (n m : Int) (h : SH) (hv : Has h (recs frC xs) 2 xs.length v) (hl : xs.length ≤ 9223372036854775807) (hs : ∀ x ∈ xs, x.2.length ≤ 9223372036854775807) :
    SRun Tryz.prog 5 [v, I n, I m] h fun r q => r = B (decide ((xs.length : Int) ≤ n ∧ ∀ x ∈ xs, (x.2.length : Int) ≤ m)) ∧ q = h := by
  have hlb := frC_len xs
  obtain ⟨ad, fl, rfl, hh⟩ := hv
  refine w_body3 Tryz.func5 rfl rfl ?_
  repeat' (first | apply w_seq | apply w_region | apply o_nil | (apply o_g tyOk; exact rfl; exact rfl) | apply thenS_normal | apply w_block | ((with_reducible apply Sd.mk); (first | exact True.intro | omega | (constructor <;> first | omega | (unfold maxLen; omega)) | (unfold maxLen; omega))))
  refine w_loop (S := Nat) (fun k => [(0, .slice ad xs.length fl), (1, I n), (2, I m), (7, I k)]) (fun _ => h) (fun k => k ≤ xs.length ∧ ∀ i, i < k → (xs[i]!.2.length : Int) ≤ m) (fun k => xs.length - k) 0 ⟨by omega, by omega⟩ (by repeat' (first | exact trivial | refine ⟨rfl, ?_⟩ | refine ⟨congrArg some ?_, ?_⟩)) (by repeat (first | with_reducible exact Take.nil | with_reducible apply Take.c | with_reducible apply Take.drop)) ?_
  rintro k ⟨hk, hb⟩
  by_cases hkl : k < xs.length
  · obtain ⟨A', ro, h1, rfl, hp⟩ := hh (by omega)
    have hx := hs _ (bang_mem hkl)
    repeat' (first | apply w_seq | apply w_region | apply o_nil | (apply o_g tyOk; exact rfl; exact rfl) | (apply o_ar tyOk; exact rfl; exact rfl) | (apply o_load tyOk; (iterate 3 exact rfl); (focus (exact pk))) | (apply w_dT; exact rfl; (focus (first | exact ‹_› | with_reducible exact rfl | omega))) | (apply w_if; exact rfl; all_goals intro hc) | apply thenS_normal | apply thenS_ret | apply blockS_normal | apply blockS_ret | apply w_skip | apply w_ret | apply w_block | ((with_reducible apply Sd.mk); (first | exact True.intro | omega | (constructor <;> first | omega | (unfold maxLen; omega)) | (unfold maxLen; omega))) | ((with_reducible apply Ln.mk); (first | rfl | exact ‹_› | omega | (simp [hlb]; first | done | omega))) | ((with_reducible apply Wr.mk); (first | exact IntWalk.i64_in _ (by omega) | exact IntWalk.u8_in _ (by omega) | exact IntWalk.u32_in _ (by omega) | exact IntWalk.u64_in _ (by omega) | exact IntKind.wrap_u8 _ | exact IntKind.wrap_u32 _ | rfl)) | ((with_reducible apply Ce.mk); (first | rfl | exact ‹_› | exact cell_recZ (fun _ => rfl) (by omega) (by decide) rfl | exact cell_rec (fun _ => rfl) (by omega) (by decide) rfl | exact cell_bytes (by omega) | exact cell_mapZ (by omega) | exact cell_map (by omega))) | exact True.intro | exact rfl)
    all_goals first
      | (exfalso; omega)
      | exact ⟨k + 1, ⟨hkl, fun i hi => by
          by_cases e : i = k
          · subst e; omega
          · exact hb i (by omega)⟩, by omega, (by repeat' (first | exact trivial | refine ⟨rfl, ?_⟩ | refine ⟨congrArg some ?_, ?_⟩)), (by repeat (first | with_reducible exact Take.nil | with_reducible apply Take.c | with_reducible apply Take.drop))⟩
      | skip
    (apply s_fin; (exact (show ResS _ _ _ _ [_] from ⟨rfl, trivial⟩)); (focus (exact ⟨congrArg B (decide_eq_false (fun g => by have := g.2 _ (bang_mem hkl); omega)).symm, rfl⟩)); (focus (repeat (first | with_reducible exact Take.nil | with_reducible apply Take.c | with_reducible apply Take.drop))))
  · repeat' (first | apply w_seq | apply w_region | apply o_nil | (apply o_g tyOk; exact rfl; exact rfl) | (apply w_dF; exact rfl; (focus (first | exact ‹_› | with_reducible exact rfl | omega))) | apply thenS_normal | apply thenS_exit | apply blockS_exit | apply w_ret | apply w_exit | ((with_reducible apply Sd.mk); (first | exact True.intro | omega | (constructor <;> first | omega | (unfold maxLen; omega)) | (unfold maxLen; omega))))
    all_goals first | (exfalso; omega) | skip
    have hall : ∀ x ∈ xs, (x.2.length : Int) ≤ m := fun x hx => by
      obtain ⟨i, hi, rfl⟩ := List.mem_iff_getElem.1 hx
      have := hb i (by omega)
      rwa [getElem!_pos xs i hi] at this
    (apply s_fin; (exact (show ResS _ _ _ _ [_] from ⟨rfl, trivial⟩)); (focus (exact ⟨congrArg Value.bool (decide_eq_decide.2 ⟨fun g => ⟨g, hall⟩, fun g => g.1⟩), rfl⟩)); (focus (repeat (first | with_reducible exact Take.nil | with_reducible apply Take.c | with_reducible apply Take.drop))))
end Go.Proofs.YteaohknkhlnojaaGreatDoor
end
section
set_option linter.unusedVariables false
set_option linter.unusedSimpArgs false
set_option maxRecDepth 4000
namespace Go.Gh
open Go.RowKit

theorem eqFields_int {P : Program} {w : World} (d : Nat) (xs ys : Array Value) (f : Field) (fs : List Field) {k : Nat} {k0 kk : IntKind} {m n : Int} {b : Bool} (hname : f.name ≠ "_") (hoff : f.offset = k) (hu : P.underlying f.type = some (.int k0))
    (hx : xs[k]? = some (.int kk m)) (hy : ys[k]? = some (.int kk n)) (ih : (Op.eqFields (d + 1) xs ys fs).run P w = .ok b w) : (Op.eqFields (d + 1) xs ys (f :: fs)).run P w = .ok (decide (m = n) && b) w := by
  have hag : aggT P f.type = some false := by unfold aggT; rw [hu]
  have he : (Op.equalIn (d + 1) f.type (.int kk m) (.int kk n)).run P w = .ok (decide (m = n)) w := by
    simp only [Op.equalIn, Sem.run_bind, run_underlying hu, Result.andThen_ok, if_true, Sem.run_pure]
    rfl
  unfold Op.eqFields
  rw [if_pos hname]
  simp only [Sem.run_bind, part, run_isAgg hag, Result.andThen_ok, Bool.false_eq_true, if_false, hoff, hx, hy, Sem.run_pure, he]
  by_cases h : m = n
  · simpa [h] using ih
  · simp [h]
theorem equalIn_flat {P : Program} {T : TypeId} {xs ys : Array Value} {n : Nat} {w : World} (d : Nat) (hT : flatB P T n = true) (hx : xs.size = n) (hy : ys.size = n) (hl : cellsLike xs.toList ys.toList = true)
    (hk : ∀ (i : Nat) (f : Field), (P.fieldsOf T).toList[i]? = some f → ∀ u v, xs[i]? = some u → ys[i]? = some v → (match P.underlying f.type, u with | some .bool, .bool _ => true | some (.int _), .int _ _ => true | some .string, .string _ => true | _, _ => false) = true) :
    (Op.equalIn (d + 2) T (.agg xs) (.agg ys)).run P w = .ok (cellsEqB xs.toList ys.toList) w := by
  unfold flatB at hT
  simp only [Bool.and_eq_true, decide_eq_true_eq, Bool.not_eq_true'] at hT
  obtain ⟨⟨⟨⟨h1, h2⟩, h3⟩, h4⟩, h5⟩ := hT
  have hst : P.underlying T = some (.struct (P.fieldsOf T)) := by
    unfold Program.fieldsOf
    cases hu : P.underlying T with
    | none => rw [hu] at h1; simp at h1
    | some d => rw [hu] at h1; cases d <;> first | rfl | (simp at h1)
  rw [run_equalIn_struct w (d + 1) T xs ys hst h3]
  have := eqFields_flat (P := P) (w := w) d xs ys (P.fieldsOf T).toList 0 h5 (by omega) (by omega) (by simpa using hl) (fun i f hf u v hu hv => hk i f hf u v (by simpa using hu) (by simpa using hv))
  simpa using this
/-- A struct of two numbers and a struct of a number and a text. -/
structure FoundT (P : Program) (T : TypeId) : Prop where
  st : (match P.underlying T with | some (.struct _) => true | _ => false) = true
  held : P.stoodInHeld T = false
  guard : P.eqGuardType P.depth T = false
  fs : ∃ f0 f1 f2 g0 g1 k0 k1 k2, (P.fieldsOf T).toList = [f0, f1, f2] ∧ f0.name ≠ "_" ∧ f1.name ≠ "_" ∧ f2.name ≠ "_" ∧ f0.offset = 0 ∧ f1.offset = 1 ∧ f2.offset = 2 ∧ P.underlying f0.type = some (.int k0) ∧ P.underlying f1.type = some (.int k1) ∧
    flatB P f2.type 2 = true ∧ (P.info? f2.type).map (·.size) = some 2 ∧ (P.fieldsOf f2.type).toList = [g0, g1] ∧ P.underlying g0.type = some (.int k2) ∧ P.underlying g1.type = some .string
theorem eq_found {P : Program} {T : TypeId} (h : FoundT P T) {a b k a' b' k' : Int} {c c' : List UInt8} {w : World} :
    (Op.equal T (.agg #[.int .i64 a, .int .i64 b, .int .i64 k, .string ⟨⟨c⟩⟩]) (.agg #[.int .i64 a', .int .i64 b', .int .i64 k', .string ⟨⟨c'⟩⟩])).run P w =
      .ok (cellsEqB [.int .i64 a, .int .i64 b, .int .i64 k, .string ⟨⟨c⟩⟩] [.int .i64 a', .int .i64 b', .int .i64 k', .string ⟨⟨c'⟩⟩]) w := by
  obtain ⟨h1, h3, _, f0, f1, f2, g0, g1, k0, k1, k2, e, n0, n1, n2, o0, o1, o2, u0, u1, hfl, hsz, eg, v0, v1⟩ := h
  have hst : P.underlying T = some (.struct (P.fieldsOf T)) := by
    unfold Program.fieldsOf
    cases hu : P.underlying T with
    | none => rw [hu] at h1; simp at h1
    | some d => rw [hu] at h1; cases d <;> first | rfl | (simp at h1)
  show (Op.equalIn (9999 + 1) T _ _).run P w = _
  rw [run_equalIn_struct w 9999 T _ _ hst h3, e]
  have hagg : aggT P f2.type = some true := by
    have := hfl
    unfold flatB at this
    simp only [Bool.and_eq_true] at this
    have h := this.1.1.1.1
    unfold aggT
    cases hu : P.underlying f2.type with
    | none => rw [hu] at h; simp at h
    | some q => rw [hu] at h; cases q <;> first | rfl | (simp at h)
  have hso : (sizeOf f2.type).run P w = .ok 2 w := by
    unfold sizeOf typeInfo
    cases hi : P.info? f2.type with
    | none => rw [hi] at hsz; cases hsz
    | some i =>
      rw [hi] at hsz
      have : i.size = 2 := by simpa using hsz
      simp [Sem.run_bind, hi, this, Result.andThen, program, Sem.run]
  have last : (Op.eqFields (9997 + 2) #[.int .i64 a, .int .i64 b, .int .i64 k, .string ⟨⟨c⟩⟩] #[.int .i64 a', .int .i64 b', .int .i64 k', .string ⟨⟨c'⟩⟩] [f2]).run P w =
      .ok (cellsEqB [.int .i64 k, .string ⟨⟨c⟩⟩] [.int .i64 k', .string ⟨⟨c'⟩⟩]) w := by
    have key := equalIn_flat (P := P) (T := f2.type) (xs := #[.int .i64 k, .string ⟨⟨c⟩⟩]) (ys := #[.int .i64 k', .string ⟨⟨c'⟩⟩]) (w := w) 9997 hfl rfl rfl rfl (fun i f hf u v hu hv => by
      rw [eg] at hf
      match i, hf, hu with
      | 0, hf, hu => obtain rfl := Option.some.inj hf; obtain rfl := Option.some.inj hu; rw [v0]; rfl
      | 1, hf, hu => obtain rfl := Option.some.inj hf; obtain rfl := Option.some.inj hu; rw [v1]; rfl
      | i + 2, hf, hu => simp at hf)
    unfold Op.eqFields
    rw [if_pos n2]
    simp only [Sem.run_bind, part, run_isAgg hagg, Result.andThen_ok, if_true, hso, o2, Sem.run_pure]
    have x1 : (#[Value.int .i64 a, .int .i64 b, .int .i64 k, .string ⟨⟨c⟩⟩] : Array Value).extract 2 (2 + 2) = #[.int .i64 k, .string ⟨⟨c⟩⟩] := rfl
    have x2 : (#[Value.int .i64 a', .int .i64 b', .int .i64 k', .string ⟨⟨c'⟩⟩] : Array Value).extract 2 (2 + 2) = #[.int .i64 k', .string ⟨⟨c'⟩⟩] := rfl
    rw [x1, x2, key]
    cases cellsEqB [.int .i64 k, .string ⟨⟨c⟩⟩] [.int .i64 k', .string ⟨⟨c'⟩⟩] <;> simp [Op.eqFields]
  exact eqFields_int 9998 _ _ f0 [f1, f2] n0 o0 u0 rfl rfl (eqFields_int 9998 _ _ f1 [f2] n1 o1 u1 rfl rfl last)
abbrev fnV (a b k : Int) (c : List UInt8) : List Value := [.int .i64 a, .int .i64 b, .int .i64 k, .string ⟨⟨c⟩⟩]
theorem a_neqF {P : Program} {N : Fr} {o : Oper} {a : AF} {H : Heap} (T U : TypeId) (x y : Operand) {m n k m' n' k' : Int} {c c' : List UInt8} (hF : FoundT P T) (ho : o.op = .binOp .neq T x y U) (hx : ev a x = some (.agg (fnV m n k c).toArray)) (hy : ev a y = some (.agg (fnV m' n' k' c').toArray)) :
    APure P N o a H (.bool (decide (¬ cellsEqB (fnV m n k c) (fnV m' n' k' c') = true))) := by
  refine ⟨fun _ _ φ w ac _ hf => ⟨_, .bool _, fun w _ => ?_⟩⟩
  have e1 := eqs_aux (ys := fnV m' n' k' c') hf hx rfl
  have e2 := eqs_aux (ys := fnV m n k c) hf hy rfl
  refine exec_binOp ho (by rw [e1, e2]; unfold eqGuard; simp [hF.guard]) ?_
  rw [e1, e2]
  have key := eq_found (w := w) hF (a := m) (b := n) (k := k) (a' := m') (b' := n') (k' := k') (c := c) (c' := c')
  simp only [binOp, Sem.run_bind, key, Result.andThen_ok, Sem.run_pure]
  simp
theorem o_neqF {mo : Mode} {P : Program} {sz : Nat} {ops : Array Oper} {Q : SPost} {rest : List Oper} {a : AF} {h : SH} {t : Nat} {ty : TypeId} {pos : String} {aft : Array Edge} {T U : Nat} {x y : Operand} {m n k m' n' k' : Int} {c c' : List UInt8}
    (hx : ev a x = some (.agg ⟨fnV m n k c⟩)) (hy : ev a y = some (.agg ⟨fnV m' n' k' c'⟩)) (hF : FoundT P T) (hN : Nat.blt t sz = true)
    (kk : GO mo.next P sz ops Q rest ((t, .bool (decide (¬ cellsEqB (fnV m n k c) (fnV m' n' k' c') = true))) :: a) h) : GO mo P sz ops Q (⟨some t, .binOp .neq T x y U, ty, pos, aft, none⟩ :: rest) a h :=
  o_pure (fun _ _ _ hag => a_neqF T U x y hF rfl ((hag.ev (by simp [Op.operands, Call.operands])).trans hx) ((hag.ev (by simp [Op.operands, Call.operands])).trans hy)) hN kk
end Go.Gh
end
section
set_option linter.unusedVariables false
set_option linter.unusedSimpArgs false
set_option maxRecDepth 4000
namespace Go.Proofs.YteaohknkhlnojaaGreatDoor
open Go.Gh Go.RowKit

theorem fnd_ok : FoundT Tryz.prog 34 :=
  ⟨by kernel_rfl, by kernel_rfl, by kernel_rfl, _, _, _, _, _, _, _, _, (by unfold Program.fieldsOf; rw [Tryz.underlying34]), by decide, by decide, by decide, rfl, rfl, rfl, Tryz.underlying3, Tryz.underlying3,
    by kernel_rfl, by kernel_rfl, (by unfold Program.fieldsOf; rw [Tryz.underlying28]), Tryz.underlying3, Tryz.underlying9⟩
theorem putAt_f4 {a b c d x y : Value} : PutAt [a, b, c, d] 2 [x, y] [a, b, x, y] := ⟨Nat.le_refl 4, rfl⟩
theorem fdC_len (l : List Fd) : (recs fdC l).length = 4 * l.length := by
  induction l with
  | nil => rfl
  | cons x r ih => show (fdC x ++ recs fdC r).length = 4 * (r.length + 1); rw [List.length_append, ih]; show 4 + _ = _; omega
theorem fdEq (a b : Nat) (k : Int) (c : List UInt8) : cellsEqB (fdC (a, b, k, c)) [I a, I b, I k, S c] = true := by
  show (decide ((a : Int) = a) && (decide ((b : Int) = b) && (decide (k = k) && (decide (c = c) && true)))) = true
  simp
end Go.Proofs.YteaohknkhlnojaaGreatDoor
end
section
set_option linter.unusedVariables false
set_option linter.unusedSimpArgs false
set_option maxRecDepth 4000
namespace Go.Proofs
open Go.Shelf Go.RowKit Go.Lib
variable {P : Program} {ρ : Ren}

/-- a text without a byte -/
def wout (c : UInt8) (l : List UInt8) : List UInt8 := l.filter (fun x => x != c)

theorem wout_none {c : UInt8} : ∀ {l : List UInt8}, l.count c = 0 → wout c l = l := by
  intro l h
  unfold wout
  rw [List.filter_eq_self]
  intro x hx
  have h2 := List.count_eq_zero.1 h
  simp only [bne_iff_ne, ne_eq]
  rintro rfl
  exact h2 hx

theorem wout_hit (c : UInt8) : ∀ {l : List UInt8}, 0 < l.count c → ∃ j : Nat, Lib.indexByte l c = (j : Int) ∧ j < l.length ∧ wout c l = l.take j ++ wout c (l.drop (j + 1)) ∧ l.count c = (l.drop (j + 1)).count c + 1
  | [], h => by simp at h
  | x :: r, h => by
    by_cases e : x = c
    · subst e
      refine ⟨0, ?_, by simp, ?_, ?_⟩
      · simp [Lib.indexByte]
      · simp [wout]
      · simp
    · have hc : (x :: r).count c = r.count c := List.count_cons_of_ne e
      rw [hc] at h
      obtain ⟨j, h1, h2, h3, h4⟩ := wout_hit c h
      refine ⟨j + 1, ?_, by simp; omega, ?_, ?_⟩
      · have : (x == c) = false := by simpa using e
        simp only [Lib.indexByte, this, h1]
        simp
        try omega
      · have h5 : wout c (x :: r) = x :: wout c r := by unfold wout; rw [List.filter_cons_of_pos]; simpa using e
        rw [h5, h3]
        rfl
      · rw [hc, h4]
        rfl

theorem hidW {p : Prop} (h : p) : Hid p := h

set_option maxHeartbeats 16000000 in
set_option maxRecDepth 1000000 in
theorem wout_walk (L : Lays.n154 P ρ) (X : Builder.Extra P ρ) (s old new : ByteArray) (c : UInt8) (w : World) (K : Nat)
    (ho : old.size = 1) (hn : new.size = 0) (hne : old ≠ new) (hK : s.data.toList.count c = K) (hK0 : 0 < K) (hs : s.size ≤ 140737488355328)
    (hC : Calls P (ρ.f 138) #[.string s, .string old] w fun e w' => e = .returned (.int .i64 K) ∧ w' = w)
    (hI : ∀ (t : ByteArray) (w : World), Calls P (ρ.f 143) #[.string t, .string old] w fun e w' => e = .returned (.int .i64 (Lib.indexByte t.data.toList c)) ∧ w' = w) :
    Calls P (ρ.f 154) #[.string s, .string old, .string new, .int .i64 (-1)] w fun e w' => e = .returned (.string ⟨(wout c s.data.toList).toArray⟩) ∧ Below w.heap.size w w' := by
  have hbeq : (old.toList == new.toList) = false := (Lib.bytes_beq_false_iff old new).2 hne
  have hcz : ((K : Int) == 0) = false := beq_eq_false_iff_ne.2 (by omega)
  have ho0 : (0 : Int) < (old.size : Int) := by omega
  have hlenL : s.data.toList.length = s.size := (Lib.size_eq s).symm
  have hKs : K ≤ s.size := by rw [← hK, ← hlenL]; exact List.count_le_length
  have hga : ((s.size : Int) + -(K : Int)) = ((s.size - K : Nat) : Int) := by omega
  have hgb : s.size - K ≤ 281474976710656 := by omega
  have mixed := L.mixed
  have t72 := L.t72; have a72 := L.a72; have z72 := L.z72; have v72 := L.v72; have u72 := run_underlying L.t72
  have t70 := L.t70; have a70 := L.a70; have z70 := L.z70; have v70 := L.v70; have u70 := run_underlying L.t70
  have t37 := L.t37; have a37 := L.a37; have z37 := L.z37; have v37 := L.v37; have u37 := run_underlying L.t37
  have t3 := L.t3; have a3 := L.a3; have z3 := L.z3; have v3 := L.v3; have u3 := run_underlying L.t3
  have t9 := L.t9; have a9 := L.a9; have z9 := L.z9; have v9 := L.v9; have u9 := run_underlying L.t9
  have t4 := L.t4; have a4 := L.a4; have z4 := L.z4; have v4 := L.v4; have u4 := run_underlying L.t4
  have e138 : ∀ args w, (callFunc (ρ.f 138) args).run P w = .ok (.enter (ρ.f 138) args) w := enters_of L.f138 (by kernel_rfl) rfl
  have e143 : ∀ args w, (callFunc (ρ.f 143) args).run P w = .ok (.enter (ρ.f 143) args) w := enters_of L.f143 (by kernel_rfl) rfl
  have e165 : ∀ args w, (callFunc (ρ.f 165) args).run P w = .ok (.enter (ρ.f 165) args) w := enters_of L.f165 (by kernel_rfl) rfl
  have e166 : ∀ args w, (callFunc (ρ.f 166) args).run P w = .ok (.enter (ρ.f 166) args) w := enters_of L.f166 (by kernel_rfl) rfl
  have e169 : ∀ args w, (callFunc (ρ.f 169) args).run P w = .ok (.enter (ρ.f 169) args) w := enters_of L.f169 (by kernel_rfl) rfl
  go_enter L.f154, Body.n154_ntmps ρ
  go_wp2_with (first | (go_at_fn (ρ.f 138); refine hC.mono ?_; rintro e w' ⟨rfl, hw⟩; rw [hw]))
  all_goals (
    clear hC
    try rw [hga]
    refine (Any.Builder_Grow_fresh { L with } X w.heap.size w.heap.size _ _ (Nat.le_refl _) (heap_alloc_new w _) (by simp) hgb).mono ?_
    rintro e w1 ⟨rfl, hb0, hb1⟩
    have H1 := hidW (Or.inr hb0 : Lib.IsBuilder (ρ.t 72) (ρ.t 5) w.heap.size w.heap.size (Lib.byteCells []) w1)
    have Hb1 := hidW (((Below.refl w.heap.size w).alloc (Nat.le_refl _) _).trans hb1)
    clear hb0 hb1 hga
    go_wp2_with fail
    go_loopg [11, 53] K (fun g s11 s53 wx => ∃ (i start : Nat) (acc : List UInt8), s53 = .int .i64 i ∧ s11 = .int .i64 start ∧ i + g = K ∧ start ≤ s.size ∧
      Hid (Lib.IsBuilder (ρ.t 72) (ρ.t 5) w.heap.size w.heap.size (Lib.byteCells acc) wx) ∧ Hid (Below w.heap.size w wx) ∧ Hid (acc ++ wout c (s.data.toList.drop start) = wout c s.data.toList) ∧
      (s.data.toList.drop start).count c = g ∧ acc.length + (s.size - start) ≤ s.size)
    case atStart => exact ⟨0, 0, [], rfl, rfl, by omega, Nat.zero_le _, H1, Hb1, hidW (by simp), by rw [List.drop_zero]; exact hK, by simp⟩
    case round =>
      obtain ⟨i, start, acc, rfl, rfl, hig, hst, HB, HW, HR, hgc, hbd⟩ := hrel
      have hBw : w.heap.size ≤ wr.heap.size := HW.out.size
      have c1 : (0 : Int) ≤ (start : Int) := by omega
      have c2 : (start : Int) ≤ (s.size : Int) := by omega
      cases gk with
      | zero =>
        have hiK : ¬ ((i : Int) < (K : Int)) := by omega
        go_wp2_with fail
        refine (Any.Builder_WriteString { L with } X w.heap.size w.heap.size _ _ wr HB.out (by rw [Lib.byteCells_length, ByteArray.size_extract]; omega) hBw).mono ?_
        rintro e w3 ⟨rfl, h3, hb3⟩
        rw [Lib.strCells_eq, Lib.extract_to_end, ← Lib.byteCells_append] at h3
        have hfin : acc ++ s.data.toList.drop start = wout c s.data.toList := by rw [← HR.out, wout_none hgc]
        rw [hfin] at h3
        have H3 := hidW (Or.inr h3 : Lib.IsBuilder (ρ.t 72) (ρ.t 5) w.heap.size w.heap.size _ w3)
        have Hb3 := hidW (HW.out.trans hb3)
        have hBw3 : w.heap.size ≤ w3.heap.size := Hb3.out.size
        clear h3 hb3 hfin
        go_wp2_with fail
        refine (Any.Builder_String_any { L with } X w.heap.size w.heap.size _ w3 H3.out hBw3).mono ?_
        rintro e w5 ⟨rfl, hb5⟩
        have Hb5 := hidW (Hb3.out.trans hb5)
        clear hb5
        go_wp2
        go_ret
        exact ⟨rfl, Hb5.out⟩
      | succ g =>
        have hiK : (i : Int) < (K : Int) := by omega
        obtain ⟨j, hj, hjl, hjw, hjc⟩ := wout_hit c (l := s.data.toList.drop start) (by omega)
        rw [List.length_drop, hlenL] at hjl
        rw [List.drop_drop] at hjw hjc
        have c3 : (start : Int) ≤ (start : Int) + (j : Int) := by omega
        have c4 : (start : Int) + (j : Int) ≤ (s.size : Int) := by omega
        have hnew : Lib.strCells new = [] := List.eq_nil_of_length_eq_zero (by rw [Lib.strCells_length]; exact hn)
        have hnext : Lib.byteCells acc ++ Lib.strCells (s.extract start (start + j)) ++ Lib.strCells new = Lib.byteCells (acc ++ (s.data.toList.drop start).take j) := by
          rw [hnew, List.append_nil, Lib.strCells_eq, Lib.extract_data, Nat.add_sub_cancel_left, ← Lib.byteCells_append]
        have hrep : (acc ++ (s.data.toList.drop start).take j) ++ wout c (s.data.toList.drop (start + j + 1)) = wout c s.data.toList := by
          rw [← HR.out, hjw, List.append_assoc]
          rfl
        have hcnt : (s.data.toList.drop (start + j + 1)).count c = g := by
          have : start + j + 1 = start + (j + 1) := by omega
          rw [this]
          omega
        have htl : ((s.data.toList.drop start).take j).length = j := by rw [List.length_take, List.length_drop, hlenL]; omega
        have Hn := hidW hnext
        have Hrep := hidW hrep
        clear hnext hrep HR hjw hjc
        go_wp2_with (first | (go_at_fn (ρ.f 143); refine (hI _ _).mono ?_; rintro e w' ⟨rfl, hw⟩; rw [hw, Lib.extract_to_end, hj]))
        refine (Any.Builder_WriteString { L with } X w.heap.size w.heap.size _ (s.extract start (start + j)) wr HB.out (by rw [Lib.byteCells_length, ByteArray.size_extract]; omega) hBw).mono ?_
        rintro e w3 ⟨rfl, h3, hb3⟩
        have hBw3 : w.heap.size ≤ w3.heap.size := Nat.le_trans hBw hb3.size
        have H3 := hidW h3
        have Hb3 := hidW hb3
        clear h3 hb3
        go_wp2_with fail
        refine (Any.Builder_WriteString { L with } X w.heap.size w.heap.size _ new w3 (Or.inr H3.out) (by rw [List.length_append, Lib.byteCells_length, Lib.strCells_length, ByteArray.size_extract]; omega) hBw3).mono ?_
        rintro e w4 ⟨rfl, h4, hb4⟩
        rw [Hn.out] at h4
        have H4 := hidW (Or.inr h4 : Lib.IsBuilder (ρ.t 72) (ρ.t 5) w.heap.size w.heap.size _ w4)
        have Hb4 := hidW ((HW.out.trans Hb3.out).trans hb4)
        clear h4 hb4
        go_wp2
        go_roundg g
        case measure => omega
        case rel => exact ⟨i + 1, start + j + 1, _, by first | rfl | (simp; unfold wrap64; omega), by first | rfl | simp | (simp; unfold wrap64; omega), by omega, by omega, H4, Hb4, Hrep, hcnt, by simp only [List.length_append, htl]; omega⟩)

set_option maxHeartbeats 4000000 in
set_option maxRecDepth 1000000 in
theorem wout_absent (L : Lays.n154 P ρ) (s old new : ByteArray) (w : World) (hne : old ≠ new)
    (hC : Calls P (ρ.f 138) #[.string s, .string old] w fun e w' => e = .returned (.int .i64 0) ∧ w' = w) :
    Calls P (ρ.f 154) #[.string s, .string old, .string new, .int .i64 (-1)] w fun e w' => e = .returned (.string s) ∧ w' = w := by
  have hbeq : (old.toList == new.toList) = false := (Lib.bytes_beq_false_iff old new).2 hne
  have t3 := L.t3; have a3 := L.a3; have z3 := L.z3; have v3 := L.v3
  have t9 := L.t9; have a9 := L.a9; have z9 := L.z9; have v9 := L.v9
  have t4 := L.t4; have a4 := L.a4; have z4 := L.z4; have v4 := L.v4
  have e138 : ∀ args w, (callFunc (ρ.f 138) args).run P w = .ok (.enter (ρ.f 138) args) w := enters_of L.f138 (by kernel_rfl) rfl
  go_enter L.f154, Body.n154_ntmps ρ
  go_wp2_with (first | (go_at_fn (ρ.f 138); refine hC.mono ?_; rintro e w' ⟨rfl, hw⟩; rw [hw]))
  go_ret
  exact ⟨rfl, rfl⟩

theorem wout_replace (L : Lays.n154 P ρ) (X : Builder.Extra P ρ) (l : List UInt8) (c : UInt8) (w : World) (hs : l.length ≤ 140737488355328) :
    Calls P (ρ.f 154) #[.string ⟨⟨l⟩⟩, .string ⟨⟨[c]⟩⟩, .string ⟨⟨[]⟩⟩, .int .i64 (-1)] w fun e w' => e = .returned (.string ⟨⟨wout c l⟩⟩) ∧ Below w.heap.size w w' := by
  have hC := Any.strings_Count_one (P := P) (ρ := ρ) { L with } ⟨⟨l⟩⟩ c w
  have hne : (⟨⟨[c]⟩⟩ : ByteArray) ≠ ⟨⟨[]⟩⟩ := by simp
  by_cases h0 : l.count c = 0
  · refine (wout_absent L ⟨⟨l⟩⟩ ⟨⟨[c]⟩⟩ ⟨⟨[]⟩⟩ w hne ?_).mono fun e w' ⟨h1, h2⟩ => ⟨?_, h2 ▸ Below.refl _ _⟩
    · have e0 : Lib.countByte (⟨⟨l⟩⟩ : ByteArray).data.toList c = 0 := h0
      rw [e0] at hC
      exact hC
    · rw [h1, wout_none h0]
  · exact wout_walk L X ⟨⟨l⟩⟩ ⟨⟨[c]⟩⟩ ⟨⟨[]⟩⟩ c w (l.count c) rfl rfl hne rfl (by omega) hs hC (fun t w => Any.strings_Index_one { L with } t c w)
end Go.Proofs
end
section
namespace Go.Proofs
open Go.Shelf
def Tryz.lays154_ren : Go.Shelf.Ren := ⟨fun | 154 => 13 | 138 => 25 | 165 => 20 | 143 => 26 | 166 => 21 | 197 => 27 | 169 => 23 | 195 => 52 | 218 => 53 | 240 => 49 | 241 => 50 | 219 => 54 | 260 => 55 | 276 => 70 | 277 => 71 | 217 => 73 | 225 => 74 | 224 => 75 | 267 => 76 | 266 => 94 | 314 => 95 | n => n, fun | 9 => 9 | 3 => 3 | 4 => 4 | 72 => 56 | 0 => 0 | 76 => 60 | 105 => 67 | 21 => 21 | 5 => 5 | 70 => 54 | 20 => 20 | 37 => 44 | 75 => 59 | 127 => 97 | 164 => 129 | 46 => 50 | 119 => 133 | 139 => 136 | 138 => 135 | 146 => 92 | 51 => 64 | 80 => 63 | n => n, fun | 1 => 0 | 3 => 1 | 4 => 2 | n => n⟩
theorem Tryz.lays154 : Go.Proofs.Lays.n154 Tryz.prog Tryz.lays154_ren := {
  mixed := by kernel_rfl
  f138 := Tryz.func25.trans (congrArg some (by kernel_rfl))
  f143 := Tryz.func26.trans (congrArg some (by kernel_rfl))
  f154 := Tryz.func13.trans (congrArg some (by kernel_rfl))
  f165 := Tryz.func20.trans (congrArg some (by kernel_rfl))
  f166 := Tryz.func21.trans (congrArg some (by kernel_rfl))
  f169 := Tryz.func23.trans (congrArg some (by kernel_rfl))
  f195 := Tryz.func52.trans (congrArg some (by kernel_rfl))
  f197 := Tryz.func27.trans (congrArg some (by kernel_rfl))
  f217 := Tryz.func73.trans (congrArg some (by kernel_rfl))
  f218 := Tryz.func53.trans (congrArg some (by kernel_rfl))
  f219 := Tryz.func54.trans (congrArg some (by kernel_rfl))
  f224 := Tryz.func75.trans (congrArg some (by kernel_rfl))
  f225 := Tryz.func74.trans (congrArg some (by kernel_rfl))
  f240 := Tryz.func49.trans (congrArg some (by kernel_rfl))
  f241 := Tryz.func50.trans (congrArg some (by kernel_rfl))
  f260 := Tryz.func55.trans (congrArg some (by kernel_rfl))
  f266 := Tryz.func94.trans (congrArg some (by kernel_rfl))
  f267 := Tryz.func76.trans (congrArg some (by kernel_rfl))
  f276 := Tryz.func70.trans (congrArg some (by kernel_rfl))
  f277 := Tryz.func71.trans (congrArg some (by kernel_rfl))
  f314 := Tryz.func95.trans (congrArg some (by kernel_rfl))
  t0 := Tryz.underlying0
  a0 := Tryz.isAgg0
  z0 := Tryz.sizeOf0
  v0 := Tryz.zeroValue0
  t3 := Tryz.underlying3
  a3 := Tryz.isAgg3
  z3 := Tryz.sizeOf3
  v3 := Tryz.zeroValue3
  t4 := Tryz.underlying4
  a4 := Tryz.isAgg4
  z4 := Tryz.sizeOf4
  v4 := Tryz.zeroValue4
  t5 := Tryz.underlying5
  a5 := Tryz.isAgg5
  z5 := Tryz.sizeOf5
  v5 := Tryz.zeroValue5
  t9 := Tryz.underlying9
  a9 := Tryz.isAgg9
  z9 := Tryz.sizeOf9
  v9 := Tryz.zeroValue9
  t20 := Tryz.underlying20
  a20 := Tryz.isAgg20
  z20 := Tryz.sizeOf20
  v20 := Tryz.zeroValue20
  t21 := Tryz.underlying21
  a21 := Tryz.isAgg21
  z21 := Tryz.sizeOf21
  v21 := Tryz.zeroValue21
  t37 := Tryz.underlying44
  a37 := Tryz.isAgg44
  z37 := Tryz.sizeOf44
  v37 := Tryz.zeroValue44
  t46 := Tryz.underlying50
  a46 := Tryz.isAgg50
  z46 := Tryz.sizeOf50
  v46 := Tryz.zeroValue50
  t51 := Tryz.underlying64
  a51 := Tryz.isAgg64
  z51 := Tryz.sizeOf64
  v51 := Tryz.zeroValue64
  t70 := Tryz.underlying54
  a70 := Tryz.isAgg54
  z70 := Tryz.sizeOf54
  v70 := Tryz.zeroValue54
  t72 := Tryz.underlying56
  a72 := Tryz.isAgg56
  z72 := Tryz.sizeOf56
  v72 := Tryz.zeroValue56
  t75 := Tryz.underlying59
  a75 := Tryz.isAgg59
  z75 := Tryz.sizeOf59
  v75 := Tryz.zeroValue59
  t76 := Tryz.underlying60
  a76 := Tryz.isAgg60
  z76 := Tryz.sizeOf60
  v76 := Tryz.zeroValue60
  t105 := Tryz.underlying67
  a105 := Tryz.isAgg67
  z105 := Tryz.sizeOf67
  v105 := Tryz.zeroValue67
  t119 := Tryz.underlying133
  a119 := Tryz.isAgg133
  z119 := Tryz.sizeOf133
  t127 := Tryz.underlying97
  a127 := Tryz.isAgg97
  z127 := Tryz.sizeOf97
  v127 := Tryz.zeroValue97
  t138 := Tryz.underlying135
  a138 := Tryz.isAgg135
  z138 := Tryz.sizeOf135
  v138 := Tryz.zeroValue135
  t139 := Tryz.underlying136
  a139 := Tryz.isAgg136
  z139 := Tryz.sizeOf136
  v139 := Tryz.zeroValue136
  t146 := Tryz.underlying92
  a146 := Tryz.isAgg92
  z146 := Tryz.sizeOf92
  v146 := Tryz.zeroValue92
  t164 := Tryz.underlying129
  a164 := Tryz.isAgg129
  z164 := Tryz.sizeOf129
  v164 := Tryz.zeroValue129
  g1 := by kernel_rfl
  g3 := by kernel_rfl
  g4 := by kernel_rfl }
theorem Tryz.Builder_Extra_154 : Builder.Extra Tryz.prog Tryz.lays154_ren := {
  sizeBuilder := by kernel_rfl
  liesBuilder := by kernel_rfl
  t5 := Tryz.lays154.t5
  a5 := Tryz.lays154.a5
  z5 := Tryz.lays154.z5
  v5 := Tryz.lays154.v5
  infoByte := by kernel_rfl
  cellsByte := by kernel_rfl
  sizeByte := by kernel_rfl
  neB5 := by decide }
end Go.Proofs
end
section
set_option linter.unusedVariables false
set_option linter.unusedSimpArgs false
set_option maxRecDepth 4000
namespace Go.Proofs.YteaohknkhlnojaaGreatDoor
open Go.Gh Go.RowKit

theorem ReplaceAll_any (l : List UInt8) (c : UInt8) (h : SH) (hl : l.length ≤ 140737488355328) : SRun Tryz.prog 6 [S l, S [c], S []] h fun r q => r = S (wout c l) ∧ q = h := by
  have hR : ∀ h, SRun Tryz.prog 13 [S l, S [c], S [], I (-1)] h fun r q => r = S (wout c l) ∧ q = h := fun h =>
    srun_lib rfl rfl fun w => wout_replace Tryz.lays154 Tryz.Builder_Extra_154 l c w hl
  refine w_body3 Tryz.func6 rfl rfl ?_
  repeat' (first | apply w_seq | apply w_region | apply o_nil | (apply o_g tyOk; exact rfl; exact rfl) | (apply o_call; exact rfl; exact rfl; (focus (first | exact rfl | assumption)); exact rfl; (focus (exact ⟨_, hR _, by repeat (first | with_reducible exact Take.nil | with_reducible apply Take.c | with_reducible apply Take.drop)⟩)); rintro _ _ ⟨rfl, rfl⟩) | apply thenS_normal | apply w_ret | ((with_reducible apply Sd.mk); (first | exact True.intro | omega | (constructor <;> first | omega | (unfold maxLen; omega)) | (unfold maxLen; omega))))
  (apply s_fin; (exact (show ResS _ _ _ _ [_] from ⟨rfl, trivial⟩)); (focus (exact ⟨rfl, rfl⟩)); (focus (repeat (first | with_reducible exact Take.nil | with_reducible apply Take.c | with_reducible apply Take.drop))))

theorem wout_ne {c : UInt8} {l : List UInt8} {b : UInt8} (h : b ∈ wout c l) : b ≠ c := by
  unfold wout at h
  have := (List.mem_filter.1 h).2
  simpa using this
theorem wout_len (c : UInt8) (l : List UInt8) : (wout c l).length ≤ l.length := List.length_filter_le _ _
theorem prs_gap {b : UInt8} {r : List UInt8} (h : b ≠ 165) : prs (b :: r) = none := by
  unfold prs
  refine if_pos (Or.inr (Or.inl fun g => h ?_))
  have g2 : (b.toNat : Int) = 165 := g
  apply UInt8.toNat_inj.1
  show b.toNat = 165
  omega
theorem wkL_gap : ∀ (g R P : List UInt8) (f : Nat), (∀ b ∈ g, b ≠ 165) → g.length + R.length ≤ f → ∃ f', R.length ≤ f' ∧ wkL (P ++ (g ++ R)) f P.length = wkL ((P ++ g) ++ R) f' (P ++ g).length
  | [], R, P, f, _, hf => ⟨f, by simpa using hf, by rw [List.append_nil]; rfl⟩
  | b :: g, R, P, f, hg, hf => by
    have hb := hg b (by simp)
    have hl : (b :: g).length = g.length + 1 := rfl
    obtain ⟨f, rfl⟩ : ∃ f', f = f' + 1 := ⟨f - 1, by omega⟩
    obtain ⟨f', h1, h2⟩ := wkL_gap g R (P ++ [b]) f (fun x hx => hg x (by simp [hx])) (by omega)
    refine ⟨f', h1, ?_⟩
    rw [wkL_none (by simp) (by rw [List.drop_left]; exact prs_gap hb)]
    have e1 : P ++ (b :: g ++ R) = P ++ [b] ++ (g ++ R) := by simp
    have e2 : P.length + 1 = (P ++ [b]).length := by simp
    have e3 : P ++ b :: g = P ++ [b] ++ g := by simp
    rw [e1, e2, e3]
    exact h2
/-- Frames, each with the bytes before it. -/
def tG : List (List UInt8 × Fr1) → List UInt8
  | [] => []
  | x :: r => x.1 ++ ((wrp x.2.1 x.2.2).1 ++ tG r)
def fdG : Nat → List (List UInt8 × Fr1) → List Fd
  | _, [] => []
  | a, x :: r => (a + x.1.length, (wrp x.2.1 x.2.2).1.length, x.2.1, x.2.2) :: fdG (a + x.1.length + (wrp x.2.1 x.2.2).1.length) r
abbrev okG (Q : List (List UInt8 × Fr1)) : Prop := ∀ x ∈ Q, (wrp x.2.1 x.2.2).2 = 0 ∧ ∀ b ∈ x.1, b ≠ 165
theorem wkL_tG : ∀ (Q : List (List UInt8 × Fr1)) (P : List UInt8) (f : Nat), okG Q → (tG Q).length ≤ f → wkL (P ++ tG Q) f P.length = fdG P.length Q
  | [], P, f, _, _ => by rw [show tG [] = [] from rfl, List.append_nil]; exact wkL_end (by omega)
  | x :: r, P, f, h, hf => by
    obtain ⟨hx, hg⟩ := h x (by simp)
    obtain ⟨_, _, w7, _⟩ := wrp_len hx
    have hcl : (tG (x :: r)).length = x.1.length + ((wrp x.2.1 x.2.2).1 ++ tG r).length := List.length_append
    obtain ⟨f', h1, h2⟩ := wkL_gap x.1 ((wrp x.2.1 x.2.2).1 ++ tG r) P f hg (by omega)
    rw [show tG (x :: r) = x.1 ++ ((wrp x.2.1 x.2.2).1 ++ tG r) from rfl, h2]
    have hcr : ((wrp x.2.1 x.2.2).1 ++ tG r).length = (wrp x.2.1 x.2.2).1.length + (tG r).length := List.length_append
    obtain ⟨f', rfl⟩ : ∃ g, f' = g + 1 := ⟨f' - 1, by omega⟩
    have hp := prs_wrp hx (tG r)
    have hpl : (P ++ x.1 ++ ((wrp x.2.1 x.2.2).1 ++ tG r)).length = (P ++ x.1).length + ((wrp x.2.1 x.2.2).1 ++ tG r).length := List.length_append
    rw [wkL_some (n := (wrp x.2.1 x.2.2).1.length) (k := x.2.1) (c := x.2.2) (by omega) (by rw [List.drop_left]; exact hp)]
    have := wkL_tG r (P ++ x.1 ++ (wrp x.2.1 x.2.2).1) f' (fun y hy => h y (by simp [hy])) (by omega)
    rw [List.append_assoc (P ++ x.1), List.length_append, List.length_append] at this
    rw [List.length_append, this]
    rfl
theorem tG_app : ∀ (A B : List (List UInt8 × Fr1)), tG (A ++ B) = tG A ++ tG B
  | [], B => rfl
  | x :: r, B => by
    show x.1 ++ ((wrp x.2.1 x.2.2).1 ++ tG (r ++ B)) = (x.1 ++ ((wrp x.2.1 x.2.2).1 ++ tG r)) ++ tG B
    rw [tG_app r B]
    simp only [List.append_assoc]
theorem fdG_app : ∀ (A B : List (List UInt8 × Fr1)) (a : Nat), fdG a (A ++ B) = fdG a A ++ fdG (a + (tG A).length) B
  | [], B, a => rfl
  | x :: r, B, a => by
    have hcl : (tG (x :: r)).length = x.1.length + ((wrp x.2.1 x.2.2).1.length + (tG r).length) := by
      show (x.1 ++ ((wrp x.2.1 x.2.2).1 ++ tG r)).length = _
      rw [List.length_append, List.length_append]
    show _ :: fdG _ (r ++ B) = _ :: (fdG _ r ++ _)
    rw [fdG_app r B, hcl]
    congr 3
    omega
/-- The bytes before a frame. -/
def gp (bt : List (List UInt8)) (i : Nat) : List UInt8 := if i < bt.length then wout 165 bt[i]! else []
def qG (L : List Fr1) (bt : List (List UInt8)) (i : Nat) : List (List UInt8 × Fr1) := (List.range i).map fun j => (gp bt j, L[j]!)
theorem qG_succ (L : List Fr1) (bt : List (List UInt8)) (i : Nat) : qG L bt (i + 1) = qG L bt i ++ [(gp bt i, L[i]!)] := by
  unfold qG
  rw [List.range_succ, List.map_append]
  rfl
theorem tG_succ (L : List Fr1) (bt : List (List UInt8)) (i : Nat) : tG (qG L bt (i + 1)) = (tG (qG L bt i) ++ gp bt i) ++ (wrp L[i]!.1 L[i]!.2).1 := by
  rw [qG_succ, tG_app, List.append_assoc]
  show _ ++ (gp bt i ++ ((wrp L[i]!.1 L[i]!.2).1 ++ [])) = _
  rw [List.append_nil]
theorem fdG_succ (L : List Fr1) (bt : List (List UInt8)) (i : Nat) : fdG 0 (qG L bt (i + 1)) = fdG 0 (qG L bt i) ++ [((tG (qG L bt i) ++ gp bt i).length, (wrp L[i]!.1 L[i]!.2).1.length, L[i]!.1, L[i]!.2)] := by
  rw [qG_succ, fdG_app]
  show _ ++ [(0 + (tG (qG L bt i)).length + (gp bt i).length, _, _, _)] = _
  rw [Nat.zero_add, List.length_append]
theorem fdG_len : ∀ (Q : List (List UInt8 × Fr1)) (a : Nat), (fdG a Q).length = Q.length
  | [], _ => rfl
  | _ :: r, a => congrArg (· + 1) (fdG_len r _)
theorem qG_len (L : List Fr1) (bt : List (List UInt8)) (i : Nat) : (qG L bt i).length = i := by
  unfold qG
  rw [List.length_map, List.length_range]
theorem gp_ne {bt : List (List UInt8)} {i : Nat} {b : UInt8} (h : b ∈ gp bt i) : b ≠ 165 := by
  unfold gp at h
  by_cases e : i < bt.length
  · rw [if_pos e] at h
    exact wout_ne h
  · rw [if_neg e] at h
    cases h
theorem qG_ok {L : List Fr1} {bt : List (List UInt8)} {i : Nat} (h : ∀ j, j < i → (wrp L[j]!.1 L[j]!.2).2 = 0) : okG (qG L bt i) := by
  intro x hx
  unfold qG at hx
  obtain ⟨j, hj, rfl⟩ := List.mem_map.1 hx
  exact ⟨h j (List.mem_range.1 hj), fun b hb => gp_ne hb⟩
/-- A slice of what is found that grows. -/
inductive FdO (h : SH) : List Fd → Value → SH → Prop
  | nil : FdO h [] (.slice none 0 0) h
  | some (A : Nat) (l : List Fd) : FdO h l (gsl A 0 (4 * l.length) l.length 4) ((A, ⟨recs fdC l, false⟩) :: h)
theorem FdO.has {h q : SH} {l : List Fd} {v : Value} (g : FdO h l v q) : Has q (recs fdC l) 4 l.length v ∧ Take q h := by
  cases g with
  | nil => exact ⟨⟨none, 0, rfl, fun k => absurd rfl k⟩, .nil⟩
  | some A l => exact ⟨⟨_, _, rfl, fun _ => ⟨A, false, h, rfl, .head⟩⟩, .drop .nil⟩
abbrev sgF (s : List UInt8) : List Value := [S s]
theorem sgF_len (l : List (List UInt8)) : (recs sgF l).length = l.length := by
  induction l with
  | nil => rfl
  | cons x r ih => show (sgF x ++ recs sgF r).length = r.length + 1; rw [List.length_append, ih]; show 1 + _ = _; omega
end Go.Proofs.YteaohknkhlnojaaGreatDoor
end
