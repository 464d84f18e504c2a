/- Part 9 of the proof of the law FrameStrict: texts merged. No condition. -/
import Derived.Test.YteaohknkhlnojaaZFrameStrictH
import Derived.Shelf.Strings.Builder1
import Derived.Shelf.Strings.Builder2
import Derived.Shelf.Small.Bits
import Derived.Shelf.Strings.BuilderF
import Derived.Shelf.Strconv.Itoa0
import Derived.Shelf.Strings.Prefix
import Derived.Shelf.Bits.Mul64
import Derived.Shelf.Strings.Repeat
import Derived.Test.YteaohknkhlnojaaProg
section
set_option linter.unusedVariables false
set_option linter.unusedSimpArgs false
set_option maxRecDepth 4000
namespace Go.Proofs.Yteaohknkhlnojaa
open Go.Gh Go.RowKit Go.Shelf

attribute [local go_sem] Oper.semAt_some

theorem wkL_len (d : List UInt8) : ∀ f at_, (wkL d f at_).length ≤ f
  | 0, _ => Nat.le_refl _
  | f + 1, at_ => by
    unfold wkL
    split
    · split
      · exact Nat.le_succ_of_le (wkL_len d f _)
      · exact Nat.succ_le_succ (wkL_len d f _)
    · exact Nat.zero_le _
set_option maxHeartbeats 1000000 in
theorem wlk_in (n : Nat) (d : List UInt8) (w : World) :
    CallsIn Fence.wide n Try.prog 28 #[S d] w fun e w' => e = .returned (.func (.func 53) #[] #[.pointer (some ⟨w.heap.size, 0, none⟩)]) ∧ w' = w.alloc (.cells #[S d] 9) := by
  refine callsIn_of_wp Try.func28 rfl trivial ?_ rfl
  simp only [Try.ntmps28, List.size_toArray, List.length_cons, List.length_nil, Nat.reduceAdd, Nat.reduceSub, Array.replicate_succ, Array.replicate_zero, List.push_toArray, List.append_toArray, List.nil_append, List.cons_append]
  gi_wp2
  go_ret
  exact ⟨rfl, rfl⟩
theorem walk1_stops (n : Nat) (hn : 1 ≤ n) (Bn : Nat) (d : List UInt8) (hd : d.length ≤ 1000000) (hlen : ∀ at_ k c n s, prs (d.drop at_) = some (k, c, n, s) → 1 ≤ n ∧ at_ + n ≤ d.length) (w : World) (hB0 : Bn < w.heap.size) (hc : w.cell? ⟨Bn, 0, none⟩ = some (S d)) :
    SeqStopsK Fence.wide n Try.prog 53 #[.pointer (some ⟨Bn, 0, none⟩)] (fun x : Fd => #[.agg ⟨fdC x⟩]) (KpB Bn) (fun ys => ys = wkL d d.length 0) (fun pre => pre <+: wkL d d.length 0) (wkL d d.length 0).length w :=
  fun l J Jx W hW hJ _ hY h0 => walk1_in n hn l Bn d hd hlen J Jx W hJ (Nat.lt_of_lt_of_le hB0 hW.size) hY ((hW.cell (p := ⟨Bn, 0, none⟩) hB0).trans hc) h0
theorem cells4_new (w : World) (a b c e : Value) (t : TypeId) : ∀ j u, [a, b, c, e][j]? = some u → (w.alloc (.cells #[a, b, c, e] t)).cell? ((⟨w.heap.size, 0, none⟩ : Addr).add j) = some u := by
  intro j u hj
  have h : (w.alloc (.cells #[a, b, c, e] t)).heap[w.heap.size]? = some (.cells #[a, b, c, e] t) := World.alloc_heap_new w _
  match j, hj with
  | 0, hj => show (match (w.alloc (.cells #[a, b, c, e] t)).heap[w.heap.size]? with | some (.cells c _ _) => c[0]? | _ => none) = some u; rw [h]; simpa using hj
  | 1, hj => show (match (w.alloc (.cells #[a, b, c, e] t)).heap[w.heap.size]? with | some (.cells c _ _) => c[1]? | _ => none) = some u; rw [h]; simpa using hj
  | 2, hj => show (match (w.alloc (.cells #[a, b, c, e] t)).heap[w.heap.size]? with | some (.cells c _ _) => c[2]? | _ => none) = some u; rw [h]; simpa using hj
  | 3, hj => show (match (w.alloc (.cells #[a, b, c, e] t)).heap[w.heap.size]? with | some (.cells c _ _) => c[3]? | _ => none) = some u; rw [h]; simpa using hj
  | j + 4, hj => simp at hj
theorem block4_own (B : Nat) (o : Obj) (ho : o.isCells = true) : Own (fun (_ : Unit) W => W.heap[B]? = some o) := fun s X Y row hs hg hrow =>
  (hg.block B (Array.getElem?_eq_some_iff.1 hs).1 (fun e => by obtain ⟨o', h1, h2⟩ := hrow B e.symm; rw [hs] at h1; cases h1; rw [ho] at h2; cases h2)).trans hs
theorem info46 : (Try.prog.info? 46).map (fun i => (i.zero, i.size, i.bytes)) = some (some (.agg #[.int .i64 0, .int .i64 0, .int .i64 0, .string ⟨⟨[]⟩⟩]), 4, 40) := by kernel_rfl
set_option maxRecDepth 100000 in
set_option maxHeartbeats 4000000 in
theorem Walk_in (n : Nat) (hn : 3 ≤ n) (d : List UInt8) (hd : d.length ≤ 1000000) (hlen : ∀ at_ k c n s, prs (d.drop at_) = some (k, c, n, s) → 1 ≤ n ∧ at_ + n ≤ d.length) (w : World) :
    CallsIn Fence.wide n Try.prog 15 #[S d] w fun e W' => ∃ v, e = .returned v ∧ W'.ownsRow w.heap.size 46 4 v (wkL d d.length 0).length ((wkL d d.length 0).flatMap fdC) ∧ (v = .slice none 0 0 ↔ wkL d d.length 0 = []) ∧ Below w.heap.size w W' := by
  have h1 : 1 ≤ n := by omega
  obtain ⟨i0, hi, hz0, hz1, hz2⟩ := info_parts info46
  refine callsIn_of_wp_marks Try.func15 rfl trivial ?_ rfl
  simp only [Try.ntmps15, List.size_toArray, List.length_cons, List.length_nil, Nat.reduceAdd, Nat.reduceSub, Array.replicate_succ, Array.replicate_zero, List.push_toArray, List.append_toArray, List.nil_append, List.cons_append]
  gi_wp2
  refine ⟨trivial, ?_⟩
  refine (wlk_in _ d _).mono ?_
  rintro e w2 ⟨rfl, rfl⟩
  gi_wp2
  have bO := (Boxed.new w 42 (.slice none 0 0)).alloc (.cells #[S d] 9)
  have bD := Boxed.new (w.alloc (.cells #[.slice none 0 0] 42)) 9 (S d)
  simp only [World.size_alloc] at bD
  have hB0 : Below w.heap.size w ((w.alloc (.cells #[.slice none 0 0] 42)).alloc (.cells #[S d] 9)) := ((Below.refl _ w).alloc (Nat.le_refl _) _).alloc (by simp) _
  have hsz : ((w.alloc (.cells #[.slice none 0 0] 42)).alloc (.cells #[S d] 9)).heap.size = w.heap.size + 2 := by simp
  obtain ⟨W0, hW0⟩ : ∃ W0, (w.alloc (.cells #[.slice none 0 0] 42)).alloc (.cells #[S d] 9) = W0 := ⟨_, rfl⟩
  rw [hW0] at bO bD hB0 hsz ⊢
  clear hW0
  have hN := wkL_len d d.length 0
  refine wpIn_rangeFunc_ownH rfl h1 (gf := 53) (lb := #[.pointer (some ⟨w.heap.size + 1, 0, none⟩)]) rfl trivial (enters_of Try.func53 (by kernel_rfl) rfl)
    (walk1_stops (n - 1) (by omega) (w.heap.size + 1) d hd hlen W0 (by omega) bD.cell) KpB.t
    (fun W l o o' hl h _ _ => ⟨World.putObj_heap_other (by omega), (grownBy_putObj' W l o').size⟩) (Below.refl _ _) (fun _ => rfl)
    (fun pre W => ((∃ v, Boxed W w.heap.size 42 v ∧ W.ownsRow w.heap.size 46 4 v pre.length (pre.flatMap fdC) ∧ (v = .slice none 0 0 ↔ pre = [])) ∧ Boxed W (w.heap.size + 1) 9 (S d)) ∧ Below w.heap.size w W)
    (fun _ _ _ => False)
    (OwnFrom.and (OwnFrom.and (Own.from (holdsRow_own w.heap.size w.heap.size 42 46 4 (fun pre : List Fd => pre.length) (fun pre => pre.flatMap fdC) (fun pre v => v = .slice none 0 0 ↔ pre = [])) _) (Own.from (boxed_own (w.heap.size + 1) 9 (fun _ => S d)) _)) (ownFrom_below (Nat.le_refl _) (by omega)))
    (fun _ _ _ _ _ hs _ _ => hs)
    ⟨⟨⟨_, bO, World.ownsRow_nil _ _ _ _, by simp⟩, bD⟩, hB0⟩
    (fun x a' W => ∃ Bx, w.heap.size + 1 < Bx ∧ W.heap[Bx]? = some (.cells #[I x.1, I x.2.1, I x.2.2.1, S x.2.2.2] 46 (0, 0)) ∧ a' = { tmps := #[S d, undef, Value.slice none 0 0, Value.pointer (some { block := w.heap.size, off := 0 }), Value.pointer (some { block := Bx, off := 0 }), S d,
          Value.func (Fn.func 53) #[] #[Value.pointer (some { block := w.heap.size + 1, off := 0 })], .agg #[I x.1, I x.2.1, I x.2.2.1, S x.2.2.2], undef, undef, undef, undef, undef], defers := [] })
    (fun x a' _ X Y row hs hg hr => by obtain ⟨Bx, h1, h2, h3⟩ := hs; exact ⟨Bx, h1, block4_own Bx _ rfl () X Y row h2 hg (fun r e => (hr r e).2), h3⟩)
    ?assign ?body ?done ?stop
  case assign =>
    rintro l pre x W K ⟨⟨⟨v, hv, hrow, hnil⟩, hD⟩, hB⟩ hK
    gi_wp2
    exact hK _ _ ((KeepsOthers.alloc _ _).from _) ⟨(hD.alloc _).trans hD.symm, by simp⟩ ⟨⟨⟨v, hv.alloc _, hrow.alloc _, hnil⟩, hD.alloc _⟩, hB.alloc hB.size _⟩ ⟨W.heap.size, hD.lt, World.alloc_heap_new W _, rfl⟩
  case body =>
    rintro l pre x a' W hl ⟨r, hr⟩ ⟨⟨⟨v, hv, hrow, hnil⟩, hD⟩, hB⟩ ⟨Bx, hBx, hX, rfl⟩ hlt
    have hc := hv.cell
    have c0 : W.cell? ⟨Bx, 0, none⟩ = some (I x.1) := by simp [World.cell?, hX]
    have c1 : W.cell? ⟨Bx, 1, none⟩ = some (I x.2.1) := by simp [World.cell?, hX]
    have c2 : W.cell? ⟨Bx, 2, none⟩ = some (I x.2.2.1) := by simp [World.cell?, hX]
    have c3 : W.cell? ⟨Bx, 3, none⟩ = some (S x.2.2.2) := by simp [World.cell?, hX]
    gi_wp2_with (gi_at_builtin; refine wpListIn_append_own _ rfl _ _ 42 rfl w.heap.size 46 i0 _ 4 40 Try.underlying42 hi hz0 hz1 hz2 rfl (by decide) _ _ _ rfl (hrow.alloc _) ⟨W.heap.size, 0, none⟩ 1 1 (fdC x) rfl rfl (cells4_new _ _ _ _ _ _) (by simp [Value.oneCell']) (by unfold maxLen; omega) (by omega) (by have := hB.size; simp; omega) ?_; intro v' w1 hown' hgrow _; obtain ⟨g', cap', rfl⟩ := ownsRow_succ hown'; obtain ⟨hv1, hv2, hr2, hk2, hb2⟩ := hv.appended (by decide) hrow hB.size (Nat.le_refl _) hown' hgrow; have hc1 := hv1.cell; have hf1 := hv1.frozen; have hD1 := ((hD.alloc _).kept hgrow (hD.not_row (by decide) hrow)).other (B' := w.heap.size) (by omega) (.slice (some ⟨g', 0, none⟩) (pre.length + 1) cap'))
    exact ⟨hk2.from _, ⟨hD1.trans hD.symm, hb2.size⟩, ⟨⟨_, hv2, by simpa using hr2, by simp⟩, hD1⟩, hB.trans hb2⟩
  case done =>
    rintro D ys W hD rfl ⟨⟨⟨v, hv, hrow, hnil⟩, hDD⟩, hB⟩ hK
    have hc := hv.cell
    gi_wp2
    refine ⟨by simp, .inl ⟨_, _, rfl, run_takeDeferred hK, ?_⟩⟩
    exact ⟨_, results_tmp rfl _ _ _, v, rfl, ownsRow_putObj hrow _ hK rfl, hnil, hB.trans (belowK_b (w := w) (Nat.le_refl _) W D _ _ (by omega) hK rfl rfl)⟩
  case stop =>
    rintro D c pre W _ _ h _
    exact h.elim
end Go.Proofs.Yteaohknkhlnojaa
end
section
set_option linter.unusedVariables false
set_option linter.unusedSimpArgs false
set_option maxRecDepth 4000
namespace Go.Gh
open Go.RowKit

theorem rel_row {B0 : Nat} {w0 : World} {φ : Nat → Go.Gh.Loc} {H : Heap} {w w' : World} (r : Rel B0 w0 φ H w) (hbw : Below w.heap.size w w') {g0 : Blk} {l0 : Go.Gh.Loc} {A0 : Nat} {H' : Heap}
    (hpl : Place H A0 H' g0) (hlb : w.heap.size ≤ l0.b) (hl0 : l0.base = 0)
    (hbr : Ext φ (lens H) (upd φ A0 l0) (lens H') → BRel (upd φ A0 l0) (lens H') g0 l0 w') :
    Ext φ (lens H) (upd φ A0 l0) (lens H') ∧ Rel B0 w0 (upd φ A0 l0) H' w' := by
  have hne : ∀ {A n}, lens H A = some n → A ≠ A0 := by
    intro A n hA e
    subst e
    obtain ⟨g, h, _⟩ := lens_live hA
    exact hpl.free g h
  have hext : Ext φ (lens H) (upd φ A0 l0) (lens H') := by
    intro A n hA
    have h := hne hA
    exact ⟨n, by rw [hpl.lens_ne h]; exact hA, .inl ⟨rfl, upd_ne h⟩⟩
  have hb : w0.heap.size ≤ w.heap.size := r.below.size
  have r2 := r.later hbw
  refine ⟨hext, ⟨r2.below, r.b0, ?_, ?_, ?_⟩⟩
  · intro A g hA
    by_cases e : A = A0
    · subst e
      rw [hpl.at_] at hA
      simp only [Option.some.injEq] at hA
      subst hA
      rw [upd_same]
      exact hbr hext
    · rw [hpl.ne A e] at hA
      obtain ⟨o1, c1, h1, h2, h3, h5⟩ := (r2.blk A g hA).any
      rw [upd_ne e]
      refine ⟨o1, c1, h1, h2, h3, fun i v hi => ?_⟩
      obtain ⟨v', g1, g2⟩ := h5 i v hi
      exact ⟨v', g1, g2.mono hext⟩
  · intro A g hA hro
    by_cases e : A = A0
    · subst e
      rw [upd_same]
      exact ⟨by have := r.b0; omega, hl0⟩
    · rw [hpl.ne A e] at hA
      rw [upd_ne e]
      exact r.own A g hA hro
  · intro A A' g g' hA hro hA' he
    by_cases e1 : A = A0
    · subst e1
      by_cases e2 : A' = A
      · exact e2
      · rw [hpl.ne A' e2] at hA'
        rw [upd_same, upd_ne e2] at he
        have := r.lt hA'
        omega
    · rw [hpl.ne A e1] at hA
      by_cases e2 : A' = A0
      · subst e2
        rw [upd_same, upd_ne e1] at he
        have := r.lt hA
        omega
      · rw [hpl.ne A' e2] at hA'
        rw [upd_ne e1, upd_ne e2] at he
        exact r.inj A A' g g' hA hro hA' he
/-- A call that hands back a slice that it owns. -/
theorem srun_row {P : Program} {f : FuncId} {xs : List Value} {E sz n : Nat} {cs : List Value} {h : SH} (hc : xs.all constOk = true) (hcs : cs.all constOk = true) (hsz : 0 < sz)
    (k : ∀ w : World, Calls P f xs.toArray w fun e w' => ∃ v, e = .returned v ∧ w'.ownsRow w.heap.size E sz v n cs ∧ (v = .slice none 0 0 ↔ n = 0) ∧ Below w.heap.size w w') :
    SRun P f xs h fun r q => ∃ o : Option Nat, r = (match o with | none => .slice none 0 0 | some A => gsl A 0 (n * sz) n sz) ∧ (o = none ↔ n = 0) ∧ q = (match o with | none => h | some A => (A, ⟨cs, false⟩) :: h) := by
  unfold SRun
  intro H i
  unfold Run
  intro B0 w0 φs Ls φ w vs he hr hvs
  rw [vrel_det hc hvs]
  refine (k w).mono ?_
  rintro e w' ⟨v, rfl, hrow, hnil, hb⟩
  rcases hrow.2 with ⟨rfl, h0⟩ | ⟨g, cap, cur, rfl, hg, hgg, hle, hcap, hcs2, htk⟩
  · exact ⟨φ, .slice none 0 0, H, .slice none 0 0, he, hr.later hb, rfl, .snil, h, ⟨none, rfl, ⟨fun _ => h0, fun _ => rfl⟩, rfl⟩, i⟩
  · have hn0 : n ≠ 0 := fun g0 => by have := hnil.2 g0; cases this
    have hlen := hrow.1
    have hcur : cs.length ≤ cur.size := by
      rw [hlen, hcs2]
      exact Nat.mul_le_mul_right _ hle
    have hcell : ∀ (j : Nat) (u : Value), cs[j]? = some u → cur[j]? = some u := by
      intro j u hj
      rw [← htk, List.getElem?_take] at hj
      split at hj
      · simpa using hj
      · cases hj
    obtain ⟨x1, x2⟩ := rel_row hr hb (Place.app H ⟨cs, false⟩) (l0 := ⟨g, 0, cur.size, false⟩) hg rfl (fun _ => ⟨⟨_, cur, hgg, .cells rfl rfl (fun _ j hj => by omega), by show 0 + cs.length ≤ cur.size; omega, fun j u hj => ⟨u, by show cur[0 + j]? = _; rw [Nat.zero_add]; exact hcell j u hj, Val.const ((List.all_eq_true.1 hcs) u (List.mem_of_getElem? hj))⟩⟩⟩)
    refine ⟨_, gsl H.length 0 (n * sz) n sz, _, .slice (some ⟨g, 0, none⟩) n cap, he.trans x1, x2, rfl, ?_, (H.length, ⟨cs, false⟩) :: h, ⟨some H.length, rfl, ⟨fun g0 => (by cases g0), fun g0 => absurd g0 hn0⟩, rfl⟩, i.new _⟩
    refine .slc H.length 0 (n * sz) (n * sz) n sz cap _ (by rw [lens_app_eq, hlen]) (Nat.le_refl _) hle hcap (fun _ => ?_)
    rw [upd_same]
    exact ⟨rfl, fun _ => by show 0 + 0 + cap * sz ≤ cur.size; rw [hcs2]; omega, rfl⟩
end Go.Gh
end
section
set_option linter.unusedVariables false
set_option linter.unusedSimpArgs false
set_option maxRecDepth 4000
namespace Go.Proofs.Yteaohknkhlnojaa
open Go.Gh Go.RowKit

theorem wrp_len {k : Int} {c : List UInt8} (h : (wrp k c).2 = 0) : (0 ≤ k ∧ k ≤ 15) ∧ c.length ≤ 4096 ∧ 7 ≤ (wrp k c).1.length ∧ (wrp k c).1.length ≤ 4120 := by
  unfold wrp at h ⊢
  split at h
  · exact absurd h (by decide)
  · split at h
    · exact absurd h (by decide)
    · rename_i h1 h2
      rw [if_neg h1, if_neg h2]
      have hf : ∀ (k : Int) (b : List UInt8), b.length ≤ 4096 → 7 ≤ (sl (frm k b)).length ∧ (sl (frm k b)).length ≤ 4120 := fun k b hb => by
        have hs1 := vnum_len (n := (b.length : Int)) (by omega)
        have hs2 := (vk_ok (n := (b.length : Int)) (by omega)).2
        unfold sl frm
        rw [List.length_append, List.length_append, List.length_append, le4_len, hd2_len]
        omega
      refine ⟨by omega, by omega, ?_⟩
      show 7 ≤ (if (lzE c).1.length < c.length then sl (frm (k + 16) (lzE c).1) else sl (frm k c)).length ∧ (if (lzE c).1.length < c.length then sl (frm (k + 16) (lzE c).1) else sl (frm k c)).length ≤ 4120
      split
      · exact hf _ _ (by omega)
      · exact hf _ _ (by omega)
/-- What parse finds is what Wrap gives. -/
theorem prs_ok {d : List UInt8} {k : Int} {c : List UInt8} {n : Nat} {s : Bool} (h : prs d = some (k, c, n, s)) : wrp k c = (d.take n, 0) ∧ n ≤ d.length ∧ 7 ≤ n ∧ bat d 0 = 165 ∧ s = decide (16 ≤ bat d 1) := by
  unfold prs at h
  split at h
  · cases h
  · rename_i h1
    split at h
    · cases h
    · rename_i b r hx
      split at h
      · cases h
      · split at h
        · cases h
        · split at h
          · cases h
          · rename_i h2 h3 _ c' hb
            split at h
            · rename_i hw
              cases h
              have hl := wrp_len (k := bat d 1 % 16) (c := c) (by rw [hw])
              rw [hw] at hl
              dsimp only at hl
              rw [List.length_take] at hl
              exact ⟨hw, by omega, by omega, by omega, rfl⟩
            · cases h
theorem prs_room {d : List UInt8} (at_ : Nat) (k : Int) (c : List UInt8) (n : Nat) (s : Bool) (h : prs (d.drop at_) = some (k, c, n, s)) : 1 ≤ n ∧ at_ + n ≤ d.length := by
  obtain ⟨_, h1, h2, _⟩ := prs_ok h
  rw [List.length_drop] at h1
  omega
theorem fdC_const (l : List Fd) : (l.flatMap fdC).all constOk = true := by
  rw [List.all_eq_true]
  intro v hv
  obtain ⟨x, _, hx⟩ := List.mem_flatMap.1 hv
  simp only [List.mem_cons, List.not_mem_nil, or_false] at hx
  rcases hx with rfl | rfl | rfl | rfl <;> rfl
theorem recs_flat (l : List Fd) : recs fdC l = l.flatMap fdC := by
  induction l with
  | nil => rfl
  | cons x r ih => show fdC x ++ recs fdC r = _; rw [ih]; rfl
theorem Walk_any (d : List UInt8) (h : SH) (hd : d.length ≤ 1000000) : SRun Try.prog 15 [S d] h fun r q => Has q (recs fdC (wkL d d.length 0)) 4 (wkL d d.length 0).length r ∧ Take q h := by
  have := srun_row (P := Try.prog) (f := 15) (xs := [S d]) (E := 46) (sz := 4) (n := (wkL d d.length 0).length) (cs := (wkL d d.length 0).flatMap fdC) (h := h) rfl (fdC_const _) (by decide) (fun w => by
    refine (callsIn_wide.1 (Walk_in 3 (Nat.le_refl _) d hd prs_room w)).mono ?_
    rintro e w' ⟨v, rfl, h1, h2, h3⟩
    exact ⟨v, rfl, h1, h2.trans List.length_eq_zero_iff.symm, h3⟩)
  rw [recs_flat]
  refine this.mono ?_
  rintro r q ⟨o, rfl, h2, rfl⟩
  cases o with
  | none =>
    have h0 := h2.1 rfl
    exact ⟨⟨none, 0, by rw [h0], fun g => absurd h0 g⟩, .nil⟩
  | some A =>
    exact ⟨⟨_, _, rfl, fun _ => ⟨A, false, h, by rw [Nat.mul_comm], .head⟩⟩, .drop .nil⟩
end Go.Proofs.Yteaohknkhlnojaa
end
section
set_option linter.unusedVariables false
set_option linter.unusedSimpArgs false
set_option maxRecDepth 4000
namespace Go.Proofs.Yteaohknkhlnojaa
open Go.Gh Go.RowKit

/-- The probability of a bit that comes again and again, as it grows. -/
def qn (q : Nat) : Nat := q + (2048 - q) / 32
def qs : Nat → Nat
  | 0 => 1024
  | t + 1 => qn (qs t)
/-- What such a bit costs at most, in parts of 64 of a bit. -/
def gq (q : Nat) : Nat := Nat.log2 ((2 ^ 24) ^ 64 / (q * 8191) ^ 64) + 1
theorem gq_ok {q : Nat} (h : 0 < q) : (2 ^ 24) ^ 64 ≤ (q * 8191) ^ 64 * 2 ^ gq q := by
  have hy : 0 < (q * 8191) ^ 64 := Nat.pow_pos (by omega)
  unfold gq
  generalize (2 ^ 24) ^ 64 = x
  generalize (q * 8191) ^ 64 = y at *
  have h1 : x / y < 2 ^ ((x / y).log2 + 1) := Nat.lt_log2_self
  have h2 := (Nat.div_lt_iff_lt_mul hy).1 h1
  rw [Nat.mul_comm] at h2
  omega
def lnC : Nat := 4294967295 ^ 64
/-- The bytes that were written so far, beside the size of the interval and what was paid. -/
def Paid (e : Enc) (G : Nat) : Prop := (256 ^ e.out.length) ^ 64 * lnC ≤ e.size.toNat ^ 64 * 2 ^ G
theorem Paid.mono {e : Enc} {G H : Nat} (h : Paid e G) (g : G ≤ H) : Paid e H :=
  Nat.le_trans h (Nat.mul_le_mul_left _ (Nat.pow_le_pow_right (by decide) g))
theorem paid_step {s s1 q L : Nat} {G : Nat} (hq : 0 < q) (h1 : s * (q * 8191) ≤ s1 * 2 ^ 24) (h : (256 ^ L) ^ 64 * lnC ≤ s ^ 64 * 2 ^ G) (j : Nat) : (256 ^ (L + j)) ^ 64 * lnC ≤ (s1 * 256 ^ j) ^ 64 * 2 ^ (G + gq q) := by
  have h2 := Nat.pow_le_pow_left h1 64
  rw [Nat.mul_pow s (q * 8191), Nat.mul_pow s1 (2 ^ 24)] at h2
  have h3 := gq_ok hq
  have hy : 0 < (q * 8191) ^ 64 := Nat.pow_pos (by omega)
  have h4 : s ^ 64 ≤ s1 ^ 64 * 2 ^ gq q := by
    refine Nat.le_of_mul_le_mul_right (Nat.le_trans h2 ?_) hy
    rw [Nat.mul_assoc, Nat.mul_comm (2 ^ gq q)]
    exact Nat.mul_le_mul_left _ h3
  rw [Nat.pow_add, Nat.mul_pow, Nat.mul_pow, Nat.pow_add]
  generalize (256 ^ L) ^ 64 = a at *
  generalize (256 ^ j) ^ 64 = b at *
  generalize s ^ 64 = u at *
  generalize s1 ^ 64 = w at *
  generalize 2 ^ G = g at *
  generalize 2 ^ gq q = p at *
  generalize lnC = c at *
  calc a * b * c = a * c * b := by rw [Nat.mul_assoc, Nat.mul_comm b, ← Nat.mul_assoc]
    _ ≤ u * g * b := Nat.mul_le_mul_right _ h
    _ ≤ w * p * g * b := Nat.mul_le_mul_right _ (Nat.mul_le_mul_right _ h4)
    _ = w * b * (g * p) := by rw [Nat.mul_assoc w, Nat.mul_assoc w, Nat.mul_assoc w, Nat.mul_comm p, Nat.mul_comm (g * p)]
theorem paid_bit {n : Nat} {e : Enc} {z b : Int} {q G : Nat} (hok : EncOk n e) (hi : InB e) (hq : 1 ≤ q ∧ q ≤ 2047) (hz : z = if b = 0 then (q : Int) else 2048 - q) (h : Paid e G) : Paid (ebit e z b) (G + gq q) := by
  obtain ⟨h1, h2, h3, h4⟩ := estep_num hok hi z b
  have hl := (estep_ok hok z b).2.1
  obtain ⟨j, j1, j2, j3⟩ := norm_in 2 hl
  have hsz := hok.size
  have hcl : clp z = z := by
    unfold clp
    split at hz <;> omega
  have hb : bound e.size z = e.size / 2048 * z := by unfold bound; rw [hcl]
  rw [hb] at h4
  obtain ⟨s, hs⟩ := Int.eq_ofNat_of_zero_le (show 0 ≤ e.size by omega)
  have key : ∃ s1 : Nat, (estep e z b).size = s1 ∧ s * (q * 8191) ≤ s1 * 2 ^ 24 := by
    rw [hs] at h4 hsz
    have hu : ((s : Int) / 2048) = ((s / 2048 : Nat) : Int) := by omega
    rw [hu] at h4
    obtain ⟨u, hu2⟩ : ∃ u, u = s / 2048 := ⟨_, rfl⟩
    rw [← hu2] at h4
    have a1 : s ≤ 2048 * u + 2047 := by omega
    have a2 : 2048 * u ≤ s := by omega
    have a3 : 8192 ≤ u := by omega
    by_cases hb0 : b = 0
    · rw [if_pos hb0] at h4 hz
      refine ⟨u * q, by rw [h4, hz, Int.natCast_mul], ?_⟩
      have : s * 8191 ≤ u * 16777216 := by omega
      have := Nat.mul_le_mul_right q this
      rw [show (2 : Nat) ^ 24 = 16777216 from rfl, Nat.mul_comm q, ← Nat.mul_assoc, Nat.mul_assoc u q, Nat.mul_comm q, ← Nat.mul_assoc]
      exact this
    · rw [if_neg hb0] at h4 hz
      have hp : (2048 - (q : Int)) = ((2048 - q : Nat) : Int) := by omega
      have h4 : (estep e z b).size = (s : Int) - ((u * (2048 - q) : Nat) : Int) := by rw [h4, hz, hp, Int.natCast_mul]
      have m1 := Nat.mul_le_mul_right (2048 - q) a2
      have m2 : s * (2048 - q) + s * q = s * 2048 := by rw [← Nat.mul_add]; congr 1; omega
      have m3 : 2048 * u * (2048 - q) = 2048 * (u * (2048 - q)) := Nat.mul_assoc _ _ _
      have m4 : s * (2048 - q) ≤ s * 2048 := Nat.mul_le_mul_left _ (by omega)
      refine ⟨s - u * (2048 - q), by rw [h4]; omega, ?_⟩
      rw [show (2 : Nat) ^ 24 = 16777216 from rfl, ← Nat.mul_assoc]
      generalize u * (2048 - q) = x at *
      generalize s * q = y at *
      generalize s * (2048 - q) = w at *
      omega
  obtain ⟨s1, hs1, hk⟩ := key
  have hp0 : Paid e G := h
  unfold Paid at hp0 ⊢
  rw [hs, Int.toNat_natCast] at hp0
  have := paid_step (L := e.out.length) (by omega) hk hp0 j
  have e1 : (ebit e z b).out.length = e.out.length + j := by show (norm 2 (estep e z b)).out.length = _; rw [j1, h3]
  have e2 : (ebit e z b).size.toNat = s1 * 256 ^ j := by
    show (norm 2 (estep e z b)).size.toNat = _
    rw [j3, hs1]; unfold pw
    rw [← Int.natCast_mul, Int.toNat_natCast]
  rw [e1, e2]
  exact this
end Go.Proofs.Yteaohknkhlnojaa
end
section
set_option linter.unusedVariables false
set_option linter.unusedSimpArgs false
set_option maxRecDepth 4000
namespace Go.Proofs.Yteaohknkhlnojaa
open Go.Gh Go.RowKit

/-- On the way of a number through a tree, all bits have the same probability. -/
def PathQ (t : List Int) (v : Int) (q : Nat) : Nat → Nat → Prop
  | 0, _ => True
  | k + 1, j => j < t.length ∧ t[j]! = (if v / 2 ^ k % 2 = 0 then (q : Int) else 2048 - q) ∧ PathQ t v q k (2 * j + (v / 2 ^ k % 2).toNat)
theorem set_far {t : List Int} {j i : Nat} {x : Int} (h : j ≠ i) : (t.set j x)[i]! = t[i]! := by
  rw [List.getElem!_eq_getElem?_getD, List.getElem!_eq_getElem?_getD, List.getElem?_set_ne h]
theorem set_here {t : List Int} {j : Nat} {x : Int} (h : j < t.length) : (t.set j x)[j]! = x := by
  rw [List.getElem!_eq_getElem?_getD, List.getElem?_set_self h]; rfl
theorem PathQ.set {t : List Int} {v : Int} {q i : Nat} {x : Int} : ∀ (k j : Nat), i < j → PathQ t v q k j → PathQ (t.set i x) v q k j
  | 0, _, _, _ => trivial
  | k + 1, j, hij, h => ⟨by rw [List.length_set]; exact h.1, by rw [set_far (by omega)]; exact h.2.1, PathQ.set k _ (by omega) h.2.2⟩
theorem tenc_low {v : Int} : ∀ (k : Nat) {t : List Int} {e : Enc} {j i : Nat}, i < j → (tenc v k t e j).1[i]! = t[i]!
  | 0, _, _, _, _, _ => rfl
  | k + 1, t, e, j, i, h => by
    have := tenc_low (v := v) k (t := t.set j (adp t[j]! (v / 2 ^ k % 2))) (e := ebit e t[j]! (v / 2 ^ k % 2)) (j := 2 * j + (v / 2 ^ k % 2).toNat) (i := i) (by omega)
    exact this.trans (set_far (by omega))
theorem tenc_len2 {v : Int} : ∀ (k : Nat) {t : List Int} {e : Enc} {j : Nat}, (tenc v k t e j).1.length = t.length
  | 0, _, _, _ => rfl
  | k + 1, t, e, j => (tenc_len2 k (t := t.set j (adp t[j]! (v / 2 ^ k % 2)))).trans List.length_set
theorem adp_q {q : Nat} (h : 1 ≤ q ∧ q ≤ 2047) (b : Int) (hb : b = 0 ∨ b = 1) : adp (if b = 0 then (q : Int) else 2048 - q) b = if b = 0 then (qn q : Int) else 2048 - qn q := by
  unfold adp qn
  rcases hb with rfl | rfl
  · rw [if_pos rfl, if_pos rfl, if_pos rfl]
    have : clp (q : Int) = q := by unfold clp; omega
    rw [this]; omega
  · rw [if_neg (by decide), if_neg (by decide), if_neg (by decide)]
    have : clp (2048 - (q : Int)) = 2048 - q := by unfold clp; omega
    rw [this]; omega
theorem PathQ.next {v : Int} {q : Nat} (hq : 1 ≤ q ∧ q ≤ 2047) : ∀ (k : Nat) {t : List Int} {e : Enc} {j : Nat}, 1 ≤ j → PathQ t v q k j → PathQ (tenc v k t e j).1 v (qn q) k j
  | 0, _, _, _, _, _ => trivial
  | k + 1, t, e, j, hj, h => by
    obtain ⟨h1, h2, h3⟩ := h
    have hb := bit01 v k
    show PathQ (tenc v k (t.set j (adp t[j]! (v / 2 ^ k % 2))) (ebit e t[j]! (v / 2 ^ k % 2)) (2 * j + (v / 2 ^ k % 2).toNat)).1 v (qn q) (k + 1) j
    refine ⟨by rw [tenc_len2, List.length_set]; exact h1, ?_, ?_⟩
    · rw [tenc_low k (by omega), set_here h1, h2]
      exact adp_q hq _ hb
    · exact PathQ.next hq k (by omega) (PathQ.set k _ (by omega) h3)
theorem paid_cut {L G S C : Nat} (m : Nat) (hm : 0 < m) (hC : (2 ^ 31) ^ m ≤ C) (hS : S < 2 ^ 32) (h : (256 ^ L) ^ m * C ≤ S ^ m * 2 ^ G) : 8 * (L * m) + 31 * m < 32 * m + G := by
  have h2 : S ^ m < (2 ^ 32) ^ m := Nat.pow_lt_pow_left hS (by omega)
  have h3 : (256 ^ L) ^ m * (2 ^ 31) ^ m < (2 ^ 32) ^ m * 2 ^ G :=
    Nat.lt_of_le_of_lt (Nat.le_trans (Nat.mul_le_mul_left _ hC) h) (Nat.mul_lt_mul_of_pos_right h2 (Nat.two_pow_pos G))
  rw [show (256 : Nat) = 2 ^ 8 from rfl, ← Nat.pow_mul, ← Nat.pow_mul, ← Nat.pow_mul, ← Nat.pow_mul, ← Nat.pow_add, ← Nat.pow_add] at h3
  exact (Nat.pow_lt_pow_iff_right (a := 2) (by decide)).1 h3
theorem paid_len {n : Nat} {e : Enc} {G : Nat} (hok : EncOk n e) (h : Paid e G) : 512 * e.out.length ≤ 64 + G := by
  have hsz := hok.size
  have h1 : (2 ^ 31) ^ 64 ≤ lnC := Nat.pow_le_pow_left (show 2 ^ 31 ≤ 4294967295 by decide) 64
  have := paid_cut 64 (by decide) h1 (by have : (2 : Nat) ^ 32 = 4294967296 := rfl; omega) h
  omega
end Go.Proofs.Yteaohknkhlnojaa
end
section
set_option linter.unusedVariables false
set_option linter.unusedSimpArgs false
set_option maxRecDepth 4000
namespace Go.Proofs.Yteaohknkhlnojaa
open Go.Gh Go.RowKit

/-- The least probability behind k changes. -/
def los : Nat → Nat
  | 0 => 1024
  | k + 1 => los k - los k / 32
theorem los_in : ∀ k, 1 ≤ los k ∧ los k ≤ 1024
  | 0 => by decide
  | k + 1 => by have := los_in k; show 1 ≤ los k - los k / 32 ∧ los k - los k / 32 ≤ 1024; omega
theorem lg_mono {x y : Nat} (h : x ≤ y) : Nat.log2 x ≤ Nat.log2 y := by
  by_cases h0 : x = 0
  · subst h0; exact Nat.zero_le _
  · exact (Nat.le_log2 (by omega)).2 (Nat.le_trans (Nat.log2_self_le h0) h)
theorem lgd_mono {x a b : Nat} (h : a ≤ b) (h0 : 0 < a) : Nat.log2 (x / b) + 1 ≤ Nat.log2 (x / a) + 1 := Nat.succ_le_succ (lg_mono (Nat.div_le_div_left h h0))
theorem gq_mono {p q : Nat} (h : p ≤ q) (hp : 0 < p) : gq q ≤ gq p := by
  unfold gq
  exact lgd_mono (Nat.pow_le_pow_left (Nat.mul_le_mul_right _ h) _) (Nat.pow_pos (by omega))
theorem gq_los : ∀ k, k < 45 → gq (los k) ≤ 66 + 3 * k := by decide +kernel
/-- All nodes are in the middle. -/
def InT (lo : Nat) (t : List Int) : Prop := ∀ i, i < t.length → (lo : Int) ≤ t[i]! ∧ t[i]! ≤ 2048 - lo
theorem adp_in2 {lo : Nat} {z b : Int} (hl : 1 ≤ lo ∧ lo ≤ 1024) (hz : (lo : Int) ≤ z ∧ z ≤ 2048 - lo) (hb : b = 0 ∨ b = 1) : ((lo - lo / 32 : Nat) : Int) ≤ adp z b ∧ adp z b ≤ 2048 - ((lo - lo / 32 : Nat) : Int) := by
  have hc : clp z = z := by unfold clp; omega
  unfold adp
  rcases hb with rfl | rfl
  · rw [if_pos rfl, hc]; omega
  · rw [if_neg (by decide), hc]; omega
theorem tenc_paid {v : Int} {lo : Nat} (hl : 1 ≤ lo ∧ lo ≤ 1024) (k : Nat) : ∀ {n : Nat} {t : List Int} {e : Enc} {j G : Nat}, 1 ≤ j → 2 ^ k * (j + 1) ≤ 2 * t.length → (∀ i, i < t.length → ((lo - lo / 32 : Nat) : Int) ≤ t[i]! ∧ t[i]! ≤ 2048 - ((lo - lo / 32 : Nat) : Int)) →
    (∀ i, j ≤ i → i < t.length → (lo : Int) ≤ t[i]! ∧ t[i]! ≤ 2048 - lo) → EncOk n e → InB e → Paid e G → Paid (tenc v k t e j).2 (G + k * gq lo) ∧ InT (lo - lo / 32) (tenc v k t e j).1 := by
  induction k with
  | zero => intro n t e j G _ _ h1 _ _ _ hp; exact ⟨by rw [Nat.zero_mul, Nat.add_zero]; exact hp, h1⟩
  | succ k ih =>
    intro n t e j G hj hlen h1 h2 hok hi hp
    have hb := bit01 v k
    have a2 := Nat.mul_le_mul_left (2 ^ k) (show 2 * j + (v / 2 ^ k % 2).toNat + 1 ≤ 2 * (j + 1) by omega)
    rw [Nat.pow_succ, Nat.mul_assoc] at hlen
    have a3 := Nat.mul_le_mul_right (2 * (j + 1)) (Nat.one_le_two_pow (n := k))
    have hjt : j < t.length := by omega
    have hz := h2 j (Nat.le_refl _) hjt
    obtain ⟨z, hzz⟩ : ∃ z, t[j]! = z := ⟨_, rfl⟩
    rw [hzz] at hz
    have had := adp_in2 hl hz hb
    obtain ⟨q, hq, hq2⟩ : ∃ q : Nat, (1 ≤ q ∧ q ≤ 2047 ∧ lo ≤ q) ∧ z = if v / 2 ^ k % 2 = 0 then (q : Int) else 2048 - q := by
      rcases hb with e1 | e1
      · exact ⟨z.toNat, by omega, by rw [e1, if_pos rfl]; omega⟩
      · exact ⟨(2048 - z).toNat, by omega, by rw [e1, if_neg (by decide)]; omega⟩
    have hpb := (paid_bit hok hi ⟨hq.1, hq.2.1⟩ hq2 hp).mono (H := G + gq lo) (by have := gq_mono hq.2.2 (by omega); omega)
    have hset : ∀ i, (t.set j (adp z (v / 2 ^ k % 2)))[i]! = if i = j then adp z (v / 2 ^ k % 2) else t[i]! := fun i => by
      by_cases e1 : i = j
      · subst e1; rw [if_pos rfl, set_here hjt]
      · rw [if_neg e1, set_far (fun g => e1 g.symm)]
    have := ih (t := t.set j (adp z (v / 2 ^ k % 2))) (j := 2 * j + (v / 2 ^ k % 2).toNat) (by omega) (by rw [List.length_set]; omega)
      (fun i hi => by rw [hset i]; rw [List.length_set] at hi; split; exact had; exact h1 i hi)
      (fun i hji hi => by rw [hset i, if_neg (by omega)]; rw [List.length_set] at hi; exact h2 i (by omega) hi)
      (ebit_ok hok z (v / 2 ^ k % 2)) (ebit_InB hok hi z (v / 2 ^ k % 2)) hpb
    show Paid (tenc v k (t.set j (adp t[j]! (v / 2 ^ k % 2))) (ebit e t[j]! (v / 2 ^ k % 2)) (2 * j + (v / 2 ^ k % 2).toNat)).2 _ ∧ InT _ (tenc v k (t.set j (adp t[j]! (v / 2 ^ k % 2))) (ebit e t[j]! (v / 2 ^ k % 2)) (2 * j + (v / 2 ^ k % 2).toNat)).1
    rw [hzz, show G + (k + 1) * gq lo = G + gq lo + k * gq lo by rw [Nat.add_mul]; omega]
    exact this
theorem InT.le {lo lo' : Nat} {t : List Int} (h : InT lo t) (hl : lo' ≤ lo) : InT lo' t := fun i hi => by have := h i hi; omega
theorem tree_paid {v : Int} {lo k n G : Nat} {t : List Int} {e : Enc} (hl : 1 ≤ lo ∧ lo ≤ 1024) (ht : t.length = 2 ^ k) (hI : InT lo t) (hok : EncOk n e) (hi : InB e) (hp : Paid e G) : Paid (tenc v k t e 1).2 (G + k * gq lo) ∧ InT (lo - lo / 32) (tenc v k t e 1).1 :=
  tenc_paid hl k (Nat.le_refl 1) (by rw [ht]; omega) (hI.le (by omega)) (fun i _ hi => hI i hi) hok hi hp
theorem ebits_paid {v : Int} (k : Nat) : ∀ {n : Nat} {e : Enc} {G : Nat}, EncOk n e → InB e → Paid e G → Paid (ebits v k e) (G + k * 65) := by
  induction k with
  | zero => intro n e G _ _ hp; rw [Nat.zero_mul, Nat.add_zero]; exact hp
  | succ k ih =>
    intro n e G hok hi hp
    have hb := bit01 v k
    have h1 := paid_bit (z := 1024) (b := v / 2 ^ k % 2) (q := 1024) hok hi (by decide) (by rcases hb with e1 | e1 <;> rw [e1] <;> decide) hp
    rw [show gq 1024 = 65 by decide +kernel] at h1
    have := ih (ebit_ok hok 1024 (v / 2 ^ k % 2)) (ebit_InB hok hi 1024 (v / 2 ^ k % 2)) h1
    rw [show G + (k + 1) * 65 = G + 65 + k * 65 by omega]
    exact this
end Go.Proofs.Yteaohknkhlnojaa
end
section
namespace Go.Proofs
open Go.Shelf
open Go.RowKit in
open Go.RowKit in
open Go.RowKit in
open Go.RowKit in
open Go.RowKit in
open Go.RowKit in
open Go.RowKit in
open Go.RowKit in
open Go.RowKit in
open Go.RowKit in
open Go.RowKit Go.Lib in
open Go.RowKit Go.Lib in
open Go.RowKit Go.Lib in
open Go.RowKit Go.Lib in
def Try.lays105_ren : Go.Shelf.Ren := ⟨fun | 105 => 10 | 212 => 22 | 99 => 23 | 165 => 24 | 166 => 25 | 170 => 26 | 169 => 27 | 263 => 48 | 264 => 49 | 206 => 50 | 240 => 51 | 241 => 52 | 276 => 67 | 277 => 68 | n => n, fun | 9 => 9 | 3 => 3 | 4 => 4 | 20 => 20 | 0 => 0 | 46 => 54 | 109 => 55 | 5 => 5 | 72 => 60 | 76 => 64 | 51 => 25 | 146 => 94 | 53 => 96 | 148 => 97 | 70 => 58 | 37 => 30 | 75 => 63 | 127 => 99 | 164 => 128 | 80 => 67 | n => n, fun | n => n⟩
theorem Try.lays105 : Go.Proofs.Lays.n105 Try.prog Try.lays105_ren := {
  mixed := by kernel_rfl
  f99 := Try.func23.trans (congrArg some (by kernel_rfl))
  f105 := Try.func10.trans (congrArg some (by kernel_rfl))
  f165 := Try.func24.trans (congrArg some (by kernel_rfl))
  f166 := Try.func25.trans (congrArg some (by kernel_rfl))
  f169 := Try.func27.trans (congrArg some (by kernel_rfl))
  f170 := Try.func26.trans (congrArg some (by kernel_rfl))
  f206 := Try.func50.trans (congrArg some (by kernel_rfl))
  f212 := Try.func22.trans (congrArg some (by kernel_rfl))
  f240 := Try.func51.trans (congrArg some (by kernel_rfl))
  f241 := Try.func52.trans (congrArg some (by kernel_rfl))
  f263 := Try.func48.trans (congrArg some (by kernel_rfl))
  f264 := Try.func49.trans (congrArg some (by kernel_rfl))
  f276 := Try.func67.trans (congrArg some (by kernel_rfl))
  f277 := Try.func68.trans (congrArg some (by kernel_rfl))
  t0 := Try.underlying0
  a0 := Try.isAgg0
  z0 := Try.sizeOf0
  v0 := Try.zeroValue0
  t3 := Try.underlying3
  a3 := Try.isAgg3
  z3 := Try.sizeOf3
  v3 := Try.zeroValue3
  t4 := Try.underlying4
  a4 := Try.isAgg4
  z4 := Try.sizeOf4
  v4 := Try.zeroValue4
  t5 := Try.underlying5
  a5 := Try.isAgg5
  z5 := Try.sizeOf5
  v5 := Try.zeroValue5
  t9 := Try.underlying9
  a9 := Try.isAgg9
  z9 := Try.sizeOf9
  v9 := Try.zeroValue9
  t20 := Try.underlying20
  a20 := Try.isAgg20
  z20 := Try.sizeOf20
  v20 := Try.zeroValue20
  t37 := Try.underlying30
  a37 := Try.isAgg30
  z37 := Try.sizeOf30
  v37 := Try.zeroValue30
  t46 := Try.underlying54
  a46 := Try.isAgg54
  z46 := Try.sizeOf54
  v46 := Try.zeroValue54
  t51 := Try.underlying25
  a51 := Try.isAgg25
  z51 := Try.sizeOf25
  v51 := Try.zeroValue25
  t53 := Try.underlying96
  a53 := Try.isAgg96
  z53 := Try.sizeOf96
  v53 := Try.zeroValue96
  t70 := Try.underlying58
  a70 := Try.isAgg58
  z70 := Try.sizeOf58
  v70 := Try.zeroValue58
  t72 := Try.underlying60
  a72 := Try.isAgg60
  z72 := Try.sizeOf60
  v72 := Try.zeroValue60
  t75 := Try.underlying63
  a75 := Try.isAgg63
  z75 := Try.sizeOf63
  v75 := Try.zeroValue63
  t76 := Try.underlying64
  a76 := Try.isAgg64
  z76 := Try.sizeOf64
  v76 := Try.zeroValue64
  t109 := Try.underlying55
  a109 := Try.isAgg55
  z109 := Try.sizeOf55
  v109 := Try.zeroValue55
  t127 := Try.underlying99
  a127 := Try.isAgg99
  z127 := Try.sizeOf99
  v127 := Try.zeroValue99
  t146 := Try.underlying94
  a146 := Try.isAgg94
  z146 := Try.sizeOf94
  v146 := Try.zeroValue94
  t148 := Try.underlying97
  a148 := Try.isAgg97
  z148 := Try.sizeOf97
  v148 := Try.zeroValue97
  t164 := Try.underlying128
  a164 := Try.isAgg128
  z164 := Try.sizeOf128
  v164 := Try.zeroValue128 }
theorem Try.Builder_Extra_105 : Builder.Extra Try.prog Try.lays105_ren := {
  sizeBuilder := by kernel_rfl
  liesBuilder := by kernel_rfl
  t5 := Try.underlying5
  a5 := Try.isAgg5
  z5 := Try.sizeOf5
  v5 := Try.zeroValue5
  infoByte := by kernel_rfl
  cellsByte := by kernel_rfl
  sizeByte := by kernel_rfl
  neB5 := by decide }
open Go.RowKit Go.Lib in
open Go.RowKit Go.Lib in
open Go.RowKit Go.Lib in
open Go.RowKit Go.Lib in
open Go.RowKit Go.Lib in
open Go.RowKit Go.Lib in
open Go.RowKit Go.Lib in
/-- **strings.Repeat: count ≥ 0, the result within one allocation: count copies of s.** (LAID: no walk: one application.) -/
theorem Try.strings_Repeat (s : ByteArray) (c : Nat) (w : World) (hc : c ≤ 9223372036854775807) (hlen : s.size * c ≤ 140737488355328) :
    Calls Try.prog 10 #[.string s, .int .i64 c] w fun e w' => e = .returned (.string ⟨(Lib.repeatL s.data.toList c).toArray⟩) ∧ Below w.heap.size w w' := Any.strings_Repeat Try.lays105 Try.Builder_Extra_105 s c w hc hlen
end Go.Proofs
end
section
set_option linter.unusedVariables false
set_option linter.unusedSimpArgs false
set_option maxRecDepth 4000
namespace Go.Proofs.Yteaohknkhlnojaa
open Go.Gh Go.RowKit

theorem Repeat_any (l : List UInt8) (n : Nat) (h : SH) (hn : n ≤ 9223372036854775807) (hl : l.length * n ≤ 140737488355328) : SRun Try.prog 10 [S l, I n] h fun r q => r = S (Lib.repeatL l n) ∧ q = h :=
  srun_lib rfl rfl fun w => Try.strings_Repeat ⟨⟨l⟩⟩ n w hn hl
end Go.Proofs.Yteaohknkhlnojaa
end
section
set_option linter.unusedVariables false
set_option linter.unusedSimpArgs false
set_option maxRecDepth 4000
namespace Go.Proofs.Yteaohknkhlnojaa
open Go.Gh Go.RowKit

theorem inT_mem {lo : Nat} {t : List Int} : InT lo t ↔ ∀ z ∈ t, (lo : Int) ≤ z ∧ z ≤ 2048 - lo := by
  constructor
  · intro h z hz
    obtain ⟨i, hi, rfl⟩ := List.mem_iff_getElem.1 hz
    have := h i hi
    rwa [getElem!_pos t i hi] at this
  · intro h i hi
    rw [getElem!_pos t i hi]
    exact h _ (List.getElem_mem hi)
theorem gq_65 {lo : Nat} (hl : 1 ≤ lo ∧ lo ≤ 1024) : 65 ≤ gq lo := by
  have := gq_mono hl.2 (by omega)
  rwa [show gq 1024 = 65 by decide +kernel] at this
theorem nenc_paid {v : Int} {lo n G : Nat} {t : List Int} {e : Enc} (hl : 1 ≤ lo ∧ lo ≤ 1024) (ht : t.length = 64) (hI : InT lo t) (hok : EncOk n e) (hi : InB e) (hp : Paid e G) (hv : 0 ≤ v ∧ v < 4096) :
    Paid (nenc t e v).2 (G + 6 * gq lo + (blen v.toNat - 1) * 65) ∧ InT (lo - lo / 32) (nenc t e v).1 := by
  have hcv : ncut v = v := if_neg (by omega)
  have hb : blen v.toNat ≤ 12 := blen_le (by have : (2 : Nat) ^ 12 = 4096 := rfl; omega)
  unfold nenc
  rw [hcv]
  obtain ⟨h1, h2⟩ := tree_paid (v := (blen v.toNat : Int)) (k := 6) hl ht hI hok hi hp
  have h3 := (tenc_ok (v := (blen v.toNat : Int)) (k := 6) (t := t) (j := 1) hok).1
  have h4 := (tenc_in (v := (blen v.toNat : Int)) 6 (t := t) (j := 1) hok hi).2
  refine ⟨?_, h2⟩
  dsimp only
  split
  · have e1 : edir (tenc (blen v.toNat) 6 t e 1).2 ((blen v.toNat : Int) - 1) v = ebits v (blen v.toNat - 1) (tenc (blen v.toNat) 6 t e 1).2 := by
      unfold edir
      rw [if_neg (by omega), show ((blen v.toNat : Int) - 1).toNat = blen v.toNat - 1 by omega]
    rw [e1]
    exact ebits_paid (v := v) _ h3 h4 h1
  · exact h1.mono (by omega)
theorem benc_paid {c v : Int} {lo n G : Nat} {P : List Int} {e : Enc} (hl : 1 ≤ lo ∧ lo ≤ 1024) (hP : P.length = 2048) (hc : 0 ≤ c ∧ c ≤ 255) (hI : InT lo P) (hok : EncOk n e) (hi : InB e) (hp : Paid e G) :
    Paid (benc P c e v).2 (G + 8 * gq lo) ∧ InT (lo - lo / 32) (benc P c e v).1 := by
  have hk : (c / 32).toNat < 8 := by omega
  have hs : InT lo (bsel P (c / 32).toNat) := inT_mem.2 fun z hz => inT_mem.1 hI z (List.mem_of_mem_drop (List.mem_of_mem_take hz))
  obtain ⟨h1, h2⟩ := tree_paid (v := v) (k := 8) hl (bsel_len hP hk) hs hok hi hp
  refine ⟨h1, inT_mem.2 fun z hz => ?_⟩
  have hI' := inT_mem.1 (hI.le (lo' := lo - lo / 32) (by omega))
  have hz : z ∈ P.take ((c / 32).toNat * 256) ++ (tenc v 8 (bsel P (c / 32).toNat) e 1).1 ++ P.drop ((c / 32).toNat * 256 + 256) := hz
  rcases List.mem_append.1 hz with hz | hz
  · rcases List.mem_append.1 hz with hz | hz
    · exact hI' z (List.mem_of_mem_take hz)
    · exact inT_mem.1 h2 z hz
  · exact hI' z (List.mem_of_mem_drop hz)
structure MsT (lo : Nat) (x : Ms) : Prop where
  K : InT lo x.K
  P : InT lo x.P
  L : InT lo x.L
  D : InT lo x.D
theorem inT_rep (n : Nat) : InT 1024 (List.replicate n 1024) := inT_mem.2 fun z hz => by rw [List.eq_of_mem_replicate hz]; decide
theorem ms0_T : MsT (los 0) ms0 := ⟨inT_rep 2, inT_rep 2048, inT_rep 64, inT_rep 64⟩
theorem blen_pos {n : Nat} (h : 1 ≤ n) : 1 ≤ blen n := by unfold blen; rw [if_neg (by omega)]; omega
theorem wst_paid {lo n G : Nat} {s : Ms × Enc} {t : Pc} (hl : 1 ≤ lo ∧ lo ≤ 1024) (hx : MsOk s.1) (hT : MsT lo s.1) (hok : EncOk n s.2) (hi : InB s.2) (hp : Paid s.2 G) (ht : vPb t) :
    Paid (wst s t).2 (G + (price lcst t).toNat * gq lo) ∧ MsT (lo - lo / 32) (wst s t).1 := by
  obtain ⟨hv, hy⟩ := ht
  have h65 := gq_65 hl
  have hlo : lo - lo / 32 ≤ lo := by omega
  obtain ⟨a, b, y⟩ := t
  dsimp only at hv hy
  unfold wst price lcst
  dsimp only
  by_cases h0 : b = 0
  · rw [if_pos h0, if_pos h0]
    obtain ⟨p1, q1⟩ := tree_paid (v := 0) (k := 1) hl hx.K hT.K hok hi hp
    have o1 := (tenc_ok (v := 0) (k := 1) (t := s.1.K) (j := 1) hok).1
    have i1 := (tenc_in (v := 0) 1 (t := s.1.K) (j := 1) hok hi).2
    obtain ⟨p2, q2⟩ := benc_paid (c := s.1.c) (v := y) hl hx.P hx.c hT.P o1 i1 p1
    exact ⟨p2.mono (by show _ ≤ G + 9 * gq lo; omega), ⟨q1, q2, hT.L.le hlo, hT.D.le hlo⟩⟩
  · rw [if_neg h0, if_neg h0]
    have hg : 1 ≤ b ∧ b ≤ 4096 ∧ 2 ≤ a ∧ a ≤ 273 := by rcases hv with g | g <;> (dsimp only at g; omega)
    obtain ⟨p1, q1⟩ := tree_paid (v := 1) (k := 1) hl hx.K hT.K hok hi hp
    have o1 := (tenc_ok (v := 1) (k := 1) (t := s.1.K) (j := 1) hok).1
    have i1 := (tenc_in (v := 1) 1 (t := s.1.K) (j := 1) hok hi).2
    obtain ⟨p2, q2⟩ := nenc_paid (v := a - 2) hl hx.L hT.L o1 i1 p1 (by omega)
    have o2 := (nenc_ok (t := s.1.L) o1 (a - 2)).1
    have i2 := (nenc_in (t := s.1.L) (v := a - 2) o1 i1).2
    obtain ⟨p3, q3⟩ := nenc_paid (v := b - 1) hl hx.D hT.D o2 i2 p2 (by omega)
    refine ⟨p3.mono ?_, ⟨q1, hT.P.le hlo, q2, q3⟩⟩
    have b1 := blen_mono (n := (a - 2).toNat) (m := a.toNat) (by omega)
    have b2 := blen_mono (n := (b - 1).toNat) (m := b.toNat) (by omega)
    have b3 := blen_pos (n := a.toNat) (by omega)
    have b4 := blen_pos (n := b.toNat) (by omega)
    have hpr : (12 + 1 * iblen b + 1 * iblen a).toNat = 12 + blen b.toNat + blen a.toNat := by unfold iblen; omega
    rw [hpr]
    generalize gq lo = g at *
    have m1 := Nat.mul_le_mul (show blen (a - 2).toNat - 1 ≤ blen a.toNat - 1 by omega) h65
    have m2 := Nat.mul_le_mul (show blen (b - 1).toNat - 1 ≤ blen b.toNat - 1 by omega) h65
    have m3 : (12 + blen b.toNat + blen a.toNat) * g = 14 * g + (blen b.toNat - 1) * g + (blen a.toNat - 1) * g := by
      rw [← Nat.add_mul, ← Nat.add_mul]; congr 1; omega
    omega
/-- What pieces cost behind k others. -/
def zcst : List Pc → Nat → Nat
  | [], _ => 0
  | t :: r, k => (price lcst t).toNat * gq (los k) + zcst r (k + 1)
theorem wrun_paid (ps : List Pc) : ∀ {n k G : Nat} {s : Ms × Enc}, MsOk s.1 → MsT (los k) s.1 → EncOk n s.2 → InB s.2 → Paid s.2 G → (∀ t ∈ ps, vPb t) → Paid (wrun ps s).2 (G + zcst ps k) := by
  induction ps with
  | nil => intro n k G s _ _ _ _ hp _; exact hp
  | cons t r ih =>
    intro n k G s hx hT hok hi hp ht
    have h1 := wst_ok hx hok (ht t (by simp))
    have g1 := wst_in (t := t) hok hi
    obtain ⟨p1, q1⟩ := wst_paid (los_in k) hx hT hok hi hp (ht t (by simp))
    have := ih (k := k + 1) h1.1 q1 h1.2 g1.2 p1 (fun u hu => ht u (by simp [hu]))
    rw [wrun_cons]
    exact this.mono (by show _ ≤ G + ((price lcst t).toNat * gq (los k) + zcst r (k + 1)); omega)
theorem price_9 {t : Pc} (h : vP t) : 9 ≤ price lcst t := by
  have := iblen_pos (n := t.2.1) (by rcases h with g | g <;> omega)
  have := iblen_pos (n := t.1) (by rcases h with g | g <;> omega)
  unfold price lcst
  dsimp only
  split <;> omega
theorem costs_9 : ∀ {ps : List Pc}, (∀ t ∈ ps, vP t) → 9 * (ps.length : Int) ≤ costs lcst ps
  | [], _ => by show 9 * ((0 : Nat) : Int) ≤ 0; omega
  | t :: r, h => by
    have h1 := price_9 (h t (by simp))
    have h2 := costs_9 (ps := r) (fun u hu => h u (by simp [hu]))
    show 9 * (((r.length + 1 : Nat)) : Int) ≤ price lcst t + costs lcst r
    omega
theorem zcst_le : ∀ (ps : List Pc) (k S C : Nat), (∀ t ∈ ps, vP t) → 9 * k ≤ S → k + ps.length ≤ 45 → costs lcst ps = C → 6 * zcst ps k + (S * S + 396 * S) ≤ (S + C) * (S + C) + 396 * (S + C)
  | [], k, S, C, _, _, _, hC => by
    have : C = 0 := by have : (0 : Int) = C := hC; omega
    subst this
    show 6 * 0 + _ ≤ _
    rw [Nat.add_zero]; omega
  | t :: r, k, S, C, h, hk, hl, hC => by
    have h1 := price_9 (h t (by simp))
    obtain ⟨p, hp⟩ := Int.eq_ofNat_of_zero_le (show 0 ≤ price lcst t by omega)
    have hr := costs_9 (ps := r) (fun u hu => h u (by simp [hu]))
    obtain ⟨c, hc⟩ := Int.eq_ofNat_of_zero_le (show 0 ≤ costs lcst r by omega)
    have hC' : (price lcst t) + costs lcst r = C := hC
    have hCe : C = p + c := by omega
    have hlr : k + 1 + r.length ≤ 45 := by rw [List.length_cons] at hl; omega
    have ih := zcst_le r (k + 1) (S + p) c (fun u hu => h u (by simp [hu])) (by omega) hlr hc
    have hg := gq_los k (by omega)
    show 6 * ((price lcst t).toNat * gq (los k) + zcst r (k + 1)) + _ ≤ _
    rw [hp, Int.toNat_natCast, hCe, show S + (p + c) = S + p + c from (Nat.add_assoc S p c).symm]
    have hg2 : 6 * gq (los k) ≤ 396 + 2 * S := by omega
    have m1 := Nat.mul_le_mul_left p hg2
    have m2 : p * (396 + 2 * S) = 396 * p + 2 * (S * p) := by rw [Nat.mul_add, Nat.mul_comm p 396, Nat.mul_left_comm p 2 S, Nat.mul_comm p S]
    have m3 : (S + p) * (S + p) = S * S + 2 * (S * p) + p * p := by rw [Nat.add_mul, Nat.mul_add, Nat.mul_add, Nat.mul_comm p S]; omega
    have m4 : p * (6 * gq (los k)) = 6 * (p * gq (los k)) := Nat.mul_left_comm _ _ _
    generalize gq (los k) = g at *
    generalize p * g = pg at *
    generalize (S + p + c) * (S + p + c) = F at *
    generalize S * p = sp at *
    generalize p * p = pp at *
    generalize S * S = ss at *
    omega
/-- The bytes of a text whose pieces cost at most C. -/
theorem out_le {l : List UInt8} {ps : List Pc} {C : Nat} (hc : Cov l 4096 0 ps) (hC : costs lcst ps ≤ C) (h : C ≤ 400) : 3072 * (wrun ps zs0).2.out.length ≤ 384 + C * C + 396 * C := by
  have hv := cov_vPb (by omega) hc
  have hv' : ∀ t ∈ ps, vP t := fun t ht => (hv t ht).1
  have h9 := costs_9 hv'
  obtain ⟨c, hcc⟩ := Int.eq_ofNat_of_zero_le (show 0 ≤ costs lcst ps by omega)
  have h0 : Paid encZ 0 := by
    show (256 ^ 0) ^ 64 * lnC ≤ 4294967295 ^ 64 * 2 ^ 0
    rw [Nat.pow_zero, Nat.one_pow, Nat.one_mul, Nat.mul_one]
    exact Nat.le_refl _
  have hp := wrun_paid ps (k := 0) (s := zs0) ms0_ok ms0_T encZ_ok e00_InB h0 hv
  have hok := (wrun_ok (s := zs0) ms0_ok encZ_ok hv).2
  have h1 := paid_len hok hp
  have h2 := zcst_le ps 0 0 c hv' (by omega) (by omega) hcc
  simp only [Nat.zero_add, Nat.mul_zero, Nat.add_zero] at h1 h2
  have h3 : c * c ≤ C * C := Nat.mul_le_mul (by omega) (by omega)
  omega
end Go.Proofs.Yteaohknkhlnojaa
end
section
set_option linter.unusedVariables false
set_option linter.unusedSimpArgs false
set_option maxRecDepth 4000
namespace Go.Proofs.Yteaohknkhlnojaa
open Go.Gh Go.RowKit

theorem zrep_get (w : List UInt8) (c k : Nat) (h : k < c * w.length) : (Lib.repeatL w (c + 1))[k + w.length]? = (Lib.repeatL w (c + 1))[k]? := by
  have h1 : Lib.repeatL w (c + 1) = w ++ Lib.repeatL w c := rfl
  have h2 : Lib.repeatL w (c + 1) = Lib.repeatL w c ++ Lib.repeatL w 1 := Lib.repeatL_add w c 1
  have hl := Lib.repeatL_length w c
  have e1 : (Lib.repeatL w (c + 1))[k + w.length]? = (Lib.repeatL w c)[k]? := by rw [h1, List.getElem?_append_right (by omega), Nat.add_sub_cancel]
  have e2 : (Lib.repeatL w (c + 1))[k]? = (Lib.repeatL w c)[k]? := by rw [h2, List.getElem?_append_left (by omega)]
  rw [e1, e2]
theorem zrep_bat (w : List UInt8) (c k : Nat) (h : k < c * w.length) : bat (Lib.repeatL w (c + 1)) ((k + w.length : Nat) : Int) = bat (Lib.repeatL w (c + 1)) (k : Int) := by
  unfold bat
  rw [Int.toNat_natCast, Int.toNat_natCast, List.getD_eq_getElem?_getD, List.getD_eq_getElem?_getD, zrep_get w c k h]
theorem lits_front {l : List UInt8} {w : Int} {qs : List Pc} : ∀ (f i : Nat), i + f ≤ l.length → Cov l w (i + f) qs → Cov l w i (allLit l f i ++ qs) ∧ costs lcst (allLit l f i ++ qs) = 9 * (f : Int) + costs lcst qs
  | 0, i, _, h => ⟨h, by show costs lcst qs = _; omega⟩
  | f + 1, i, h, hq => by
    have := lits_front (l := l) (w := w) (qs := qs) f (i + 1) (by omega) (by rw [show i + 1 + f = i + (f + 1) by omega]; exact hq)
    refine ⟨⟨.inl ⟨by omega, rfl⟩, this.1⟩, ?_⟩
    show price lcst (litP l i) + costs lcst (allLit l f (i + 1) ++ qs) = _
    rw [this.2, show price lcst (litP l i) = 9 from if_pos (litP_at l i)]
    omega
theorem price_far {n d : Nat} (hn : n ≤ 511) (hd : 1 ≤ d ∧ d ≤ 31) : price lcst ((n : Int), (d : Int), 0) ≤ 26 := by
  have h1 := blen_le (n := n) (k := 9) (by have : (2 : Nat) ^ 9 = 512 := rfl; omega)
  have h2 := blen_le (n := d) (k := 5) (by have : (2 : Nat) ^ 5 = 32 := rfl; omega)
  unfold price lcst iblen
  dsimp only
  rw [if_neg (by omega), Int.toNat_natCast, Int.toNat_natCast]
  omega
theorem rep_cover (w : List UInt8) (c : Nat) (hw : 1 ≤ w.length ∧ w.length ≤ 20) (hc : c + 1 ≤ 20) : ∃ qs, Cov (Lib.repeatL w (c + 1)) 4096 0 qs ∧ costs lcst qs ≤ 232 := by
  have hlen := Lib.repeatL_length w (c + 1)
  have hm := Nat.mul_le_mul (show c ≤ 19 by omega) hw.2
  have hsplit : (c + 1) * w.length = c * w.length + w.length := by rw [Nat.add_mul, Nat.one_mul]
  have hper := zrep_bat w c
  generalize Lib.repeatL w (c + 1) = l at *
  generalize w.length = m at *
  generalize c * m = r at *
  have oc : ∀ i n, m ≤ i → 2 ≤ n → n ≤ 273 → i + n ≤ l.length → occ l 4096 i ((n : Int), (m : Int), 0) := fun i n g1 g2 g3 g4 =>
    .inr ⟨n, m, rfl, g2, g3, hw.1, by omega, g1, g4, fun k hk => by
      have := hper (i - m + k) (by omega)
      rw [show i - m + k + m = i + k by omega] at this
      exact this.symm⟩
  have rest : ∃ qs, Cov l 4096 (0 + m) qs ∧ costs lcst qs ≤ 52 := by
    rw [Nat.zero_add]
    by_cases r0 : r = 0
    · exact ⟨[], by show m = l.length; omega, by show (0 : Int) ≤ 52; decide⟩
    · by_cases r1 : r = 1
      · refine ⟨[litP l m], ⟨.inl ⟨by omega, rfl⟩, by show m + 1 = l.length; omega⟩, ?_⟩
        show price lcst (litP l m) + 0 ≤ 52
        rw [show price lcst (litP l m) = 9 from if_pos (litP_at l m)]
        decide
      · by_cases r2 : r ≤ 273
        · refine ⟨[((r : Int), (m : Int), 0)], ⟨oc m r (Nat.le_refl _) (by omega) r2 (by omega), by show m + (r : Int).toNat = l.length; omega⟩, ?_⟩
          have := price_far (n := r) (d := m) (by omega) (by omega)
          show price lcst _ + 0 ≤ 52
          omega
        · refine ⟨[((200 : Nat), (m : Int), 0), (((r - 200 : Nat) : Int), (m : Int), 0)], ⟨oc m 200 (Nat.le_refl _) (by omega) (by omega) (by omega), oc _ (r - 200) (by show m ≤ m + 200; omega) (by omega) (by omega) (by show m + 200 + _ ≤ _; omega), by show m + 200 + ((r - 200 : Nat) : Int).toNat = l.length; omega⟩, ?_⟩
          have h1 := price_far (n := 200) (d := m) (by omega) (by omega)
          have h2 := price_far (n := r - 200) (d := m) (by omega) (by omega)
          show price lcst _ + (price lcst _ + 0) ≤ 52
          omega
  obtain ⟨qs, q1, q2⟩ := rest
  have := lits_front m 0 (by omega) q1
  exact ⟨_, this.1, by rw [this.2]; omega⟩
theorem run_len (w : List UInt8) (k : Nat) (hw : w.length ≤ 20) (hk : k ≤ 20) : (lzE (Lib.repeatL w k)).1.length ≤ 60 := by
  have hlen := Lib.repeatL_length w k
  have hm := Nat.mul_le_mul hk hw
  by_cases h0 : Lib.repeatL w k = []
  · rw [h0, zx1]; decide
  · rw [lzE_ne (by omega) h0]
    have hk0 : 1 ≤ k ∧ 1 ≤ w.length := by
      refine ⟨?_, ?_⟩
      · rcases Nat.eq_zero_or_pos k with rfl | g
        · exact absurd rfl h0
        · exact g
      · rcases Nat.eq_zero_or_pos w.length with g | g
        · rw [g, Nat.mul_zero] at hlen
          exact absurd (List.length_eq_zero_iff.1 hlen) h0
        · exact g
    obtain ⟨c, rfl⟩ : ∃ c, k = c + 1 := ⟨k - 1, by omega⟩
    obtain ⟨qs, q1, q2⟩ := rep_cover w c ⟨hk0.2, hw⟩ hk
    generalize Lib.repeatL w (c + 1) = l at *
    have hle := parse_le lcst_ok (by decide) (by omega) q1
    have hC : costs lcst (pcs l) ≤ ((232 : Nat) : Int) := by
      show costs lcst (parse lcst l 4096).1 ≤ _
      omega
    have h1 := out_le (pcs_cov (l := l) (by omega)) hC (by decide)
    have h4 := vnum_len (n := (l.length : Int)) (by omega)
    have h5 : vk (l.length : Int) ≤ 1 := by
      by_cases g : (l.length : Int) < 128
      · rw [vk_lo g]; exact Nat.zero_le _
      · rw [vk_hi (by omega) (by omega)]; exact Nat.le_refl _
    show (vnum l.length ++ fin (wrun (pcs l) zs0).2).length ≤ _
    rw [List.length_append, fin_len]
    omega
end Go.Proofs.Yteaohknkhlnojaa
end
section
set_option linter.unusedVariables false
set_option linter.unusedSimpArgs false
set_option maxRecDepth 4000
namespace Go.Proofs.Yteaohknkhlnojaa
open Go.Gh Go.RowKit

theorem txt_front {b r : List UInt8} (hb : b.length ≤ 4096) : txt (vnum b.length ++ b ++ r) = some (b, r) := by
  unfold txt
  rw [List.append_assoc, rdN_num (by omega) (by omega)]
  dsimp only
  rw [if_pos ⟨rfl, by rw [List.length_append]; omega⟩, Int.toNat_natCast, List.take_append_of_le_length (Nat.le_refl _), List.take_length, List.drop_append_of_le_length (Nat.le_refl _), List.drop_length, List.nil_append]
theorem frm_at (k : Int) (hk : 0 ≤ k ∧ k ≤ 255) (b r : List UInt8) : bat (frm k b ++ r) 0 = 165 ∧ bat (frm k b ++ r) 1 = k ∧ (frm k b ++ r).drop 2 = vnum b.length ++ b ++ r := by
  refine ⟨b8_val (by decide), b8_val (by omega), ?_⟩
  show (vnum b.length ++ b) ++ r = _
  rfl
/-- A frame at the front, of a body with the content. -/
theorem prs_frm {k k' : Int} {b c : List UInt8} (r : List UInt8) (hk' : 0 ≤ k' ∧ k' ≤ 31) (hb : b.length ≤ 4096) (hc : (16 ≤ k' ∧ lzD b 4096 = (c, 0)) ∨ (k' ≤ 15 ∧ c = b)) (hk : k = k' % 16) :
    prs (sl (frm k' b) ++ r) = if wrp k c = (sl (frm k' b), 0) then some (k, c, (sl (frm k' b)).length, decide (16 ≤ k')) else none := by
  have e0 : sl (frm k' b) ++ r = frm k' b ++ (le4 (crcV (frm k' b)) ++ r) := by unfold sl; rw [List.append_assoc]
  obtain ⟨a1, a2, a3⟩ := frm_at k' (by omega) b (le4 (crcV (frm k' b)) ++ r)
  rw [← e0] at a1 a2 a3
  have hlen : (sl (frm k' b) ++ r).length = (sl (frm k' b)).length + r.length := List.length_append
  have h4 : (le4 (crcV (frm k' b)) ++ r).length = 4 + r.length := by rw [List.length_append, le4_len]
  have hl7 : 4 ≤ (sl (frm k' b)).length := by unfold sl; rw [List.length_append, le4_len]; omega
  have hsz : (sl (frm k' b) ++ r).length - ((le4 (crcV (frm k' b)) ++ r).length - 4) = (sl (frm k' b)).length := by omega
  have htk : (sl (frm k' b) ++ r).take (sl (frm k' b)).length = sl (frm k' b) := by rw [List.take_append_of_le_length (Nat.le_refl _), List.take_length]
  have hx : txt ((sl (frm k' b) ++ r).drop 2) = some (b, le4 (crcV (frm k' b)) ++ r) := by rw [a3]; exact txt_front hb
  have hop : (opn (sl (frm k' b))).2 = 0 := by unfold sl; rw [opn_seal]
  unfold prs
  rw [a1, a2, if_neg (by omega), hx]
  dsimp only
  rw [if_neg (by omega), hsz, htk, if_neg (by rw [hop]; exact fun g => g rfl)]
  unfold bdy
  rw [a2]
  rcases hc with ⟨g1, g2⟩ | ⟨g1, rfl⟩
  · rw [if_pos g1, g2, if_pos rfl, ← hk]
  · rw [if_neg (by omega), ← hk]
theorem lzD_most {c : List UInt8} (hl : c.length ≤ 4096) (h0 : c ≠ []) : lzD (lzE c).1 4096 = (c, 0) := by
  have h1 := lzE_ne hl h0
  rw [h1]
  show lzD (wrt c.length (pcs c)) 4096 = _
  rw [(lzD_wrt hl (by omega) (pcs_cov hl) 4096).1, if_neg (by omega), if_pos h1]
/-- What Wrap gives is found at the front. -/
theorem prs_wrp {k : Int} {c : List UInt8} (h : (wrp k c).2 = 0) (r : List UInt8) : prs ((wrp k c).1 ++ r) = some (k, c, (wrp k c).1.length, decide ((lzE c).1.length < c.length)) := by
  obtain ⟨h1, h2, _⟩ := wrp_len h
  have hw : wrp k c = ((if (lzE c).1.length < c.length then sl (frm (k + 16) (lzE c).1) else sl (frm k c)), 0) := by unfold wrp; rw [if_neg (by omega), if_neg (by omega)]
  by_cases hs : (lzE c).1.length < c.length
  · rw [if_pos hs] at hw
    rw [hw]
    dsimp only
    rw [prs_frm (k := k) (c := c) r (by omega) (by omega) (.inl ⟨by omega, lzD_most h2 (fun g => by rw [g] at hs; cases hs)⟩) (by omega), if_pos hw, decide_eq_true hs, decide_eq_true (by omega)]
  · rw [if_neg hs] at hw
    rw [hw]
    dsimp only
    rw [prs_frm (k := k) (c := c) r (by omega) (by omega) (.inr ⟨by omega, rfl⟩) (by omega), if_pos hw, decide_eq_false hs, decide_eq_false (by omega)]
theorem prs_no {d : List UInt8} (h : bat d 0 ≠ 165) : prs d = none := by
  unfold prs
  rw [if_pos (.inr (.inl h))]
theorem lzE_5 {c : List UInt8} (hl : c.length ≤ 4096) (h0 : c ≠ []) : 5 ≤ (lzE c).1.length := by
  have h1 := vnum_len (n := (c.length : Int)) (by omega)
  rw [lzE_ne hl h0]
  show 5 ≤ (vnum c.length ++ fin (wrun (pcs c) zs0).2).length
  rw [List.length_append, fin_len]
  omega
theorem wkL_none {d : List UInt8} {f at_ : Nat} (h : at_ < d.length) (hp : prs (d.drop at_) = none) : wkL d (f + 1) at_ = wkL d f (at_ + 1) := by
  show (if at_ < d.length then _ else _) = _
  rw [if_pos h, hp]
theorem wkL_some {d : List UInt8} {f at_ n : Nat} {k : Int} {c : List UInt8} {s : Bool} (h : at_ < d.length) (hp : prs (d.drop at_) = some (k, c, n, s)) : wkL d (f + 1) at_ = (at_, n, k, c) :: wkL d f (at_ + n) := by
  show (if at_ < d.length then _ else _) = _
  rw [if_pos h, hp]
theorem wkL_end {d : List UInt8} {f at_ : Nat} (h : ¬ at_ < d.length) : wkL d f at_ = [] := by
  cases f with
  | zero => rfl
  | succ f => exact if_neg h
theorem rep100 : (wrp 3 (List.replicate 100 97)).2 = 0 ∧ (lzE (List.replicate 100 97)).1.length < 100 := by
  have h := run_len (List.replicate 20 97) 5 (by decide) (by decide)
  rw [show Lib.repeatL (List.replicate 20 (97 : UInt8)) 5 = List.replicate 100 97 by decide] at h
  exact ⟨by unfold wrp; rw [if_neg (by decide), if_neg (by decide)], by omega⟩
theorem ab_frame : wrp 3 [97, 98] = ([165, 3, 2, 97, 98] ++ le4 (crcV [165, 3, 2, 97, 98]), 0) ∧ decide ((lzE [97, 98]).1.length < ([97, 98] : List UInt8).length) = false := by
  have h5 := lzE_5 (c := [97, 98]) (by decide) (by decide)
  have hn : ¬ (lzE [97, 98]).1.length < ([97, 98] : List UInt8).length := by show ¬ _ < 2; omega
  have hf : frm 3 [97, 98] = [165, 3, 2, 97, 98] := by decide +kernel
  refine ⟨?_, decide_eq_false hn⟩
  unfold wrp
  rw [if_neg (by decide), if_neg (by decide), if_neg hn]
  unfold sl
  rw [hf]
end Go.Proofs.Yteaohknkhlnojaa
end
section
set_option linter.unusedVariables false
set_option linter.unusedSimpArgs false
set_option maxRecDepth 4000
namespace Go.Proofs.Yteaohknkhlnojaa
open Go.Gh Go.RowKit

theorem prs_self {k : Int} {c : List UInt8} (h : (wrp k c).2 = 0) : prs (wrp k c).1 = some (k, c, (wrp k c).1.length, decide ((lzE c).1.length < c.length)) := by
  have := prs_wrp h []
  rw [List.append_nil] at this
  exact this
theorem awake_walk (Z T R : List UInt8) (h : SH) (hAl : Z.length = 9) (hW1 : ∀ h, SRun Try.prog 8 [frV 3 [97, 98]] h fun r q => r = .tuple #[S Z, I 0] ∧ q = h) (hS : ∀ h, SRun Try.prog 18 [S [165, 3, 2, 97, 98]] h fun r q => r = S Z ∧ q = h)
    (hC1 : ∀ h, SRun Try.prog 11 [S Z] h fun r q => r = B false ∧ q = h) (hC2 : ∀ h, SRun Try.prog 11 [S T] h fun r q => r = B true ∧ q = h)
    (hU : ∀ h, SRun Try.prog 9 [S Z] h fun r q => r = .tuple ⟨[frV 3 [97, 98], I 9, I 0]⟩ ∧ q = h)
    (hK : ∀ h, SRun Try.prog 15 [S (120 :: Z)] h fun r q => ∃ ad fl, r = .slice ad 1 fl ∧ Take q h)
    (hR : ∀ h, SRun Try.prog 10 [S [97], I 100] h fun r q => r = S R ∧ q = h) (hW2 : ∀ h, SRun Try.prog 8 [frV 3 R] h fun r q => r = .tuple #[S T, I 0] ∧ q = h) :
    SRun Try.prog 7 [] h fun r q => r = B true ∧ q = h := by
  refine w_body0 Try.func7 rfl rfl ?_
  repeat' (first | apply w_seq | apply w_region | apply o_nil | (apply o_g tyOk; exact rfl; exact rfl) | (apply o_notB; exact rfl; exact rfl) | (apply o_loads tyOk; (iterate 3 exact rfl); (focus (exact pk))) | (apply o_stores tyOk; (iterate 4 exact rfl); (focus (exact ⟨rfl⟩)); (focus (exact up))) | (apply o_alloc tyOk; iterate 5 exact rfl) | (apply o_eqs; (iterate 3 exact rfl); (focus (kernel_rfl)); exact rfl; exact rfl; (focus (kernel_rfl)); exact rfl) | (apply o_build tyOk; exact rfl; exact rfl; (focus (first | with_reducible exact pl8 | with_reducible exact pl22 | with_reducible exact pl23)); exact rfl; (focus (repeat (first | exact BuildR.nil | (apply BuildR.one; exact rfl; exact rfl; (first | (focus ((repeat (first | exact SetAt.zero | apply SetAt.succ)); done)) | exact setAt_bytes (by omega) (by omega) | exact setAt_mapZ (by omega) | exact setAt_map (by omega))) | (apply BuildR.agg; exact rfl; exact rfl; (first | exact putAt_all rfl | exact putAt_recZ (fun _ => rfl) (by omega) | exact putAt_rec (fun _ => rfl) (by omega)))))); exact rfl) | (apply o_call; exact rfl; exact rfl; (focus (first | exact rfl | assumption)); exact rfl; (focus (exact ⟨_, hW1 _, by repeat (first | with_reducible exact Take.nil | with_reducible apply Take.c | with_reducible apply Take.drop)⟩)); rintro _ _ ⟨rfl, rfl⟩) | (apply o_call; exact rfl; exact rfl; (focus (first | exact rfl | assumption)); exact rfl; (focus (exact ⟨_, hU _, by repeat (first | with_reducible exact Take.nil | with_reducible apply Take.c | with_reducible apply Take.drop)⟩)); rintro _ _ ⟨rfl, rfl⟩) | (apply o_call; exact rfl; exact rfl; (focus (first | exact rfl | assumption)); exact rfl; (focus (exact ⟨_, hR _, by repeat (first | with_reducible exact Take.nil | with_reducible apply Take.c | with_reducible apply Take.drop)⟩)); rintro _ _ ⟨rfl, rfl⟩) | (apply o_call; exact rfl; exact rfl; (focus (first | exact rfl | assumption)); exact rfl; (focus (exact ⟨_, hW2 _, by repeat (first | with_reducible exact Take.nil | with_reducible apply Take.c | with_reducible apply Take.drop)⟩)); rintro _ _ ⟨rfl, rfl⟩) | (apply o_call; exact rfl; exact rfl; (focus (first | exact rfl | assumption)); exact rfl; (focus (exact ⟨_, hS _, by repeat (first | with_reducible exact Take.nil | with_reducible apply Take.c | with_reducible apply Take.drop)⟩)); rintro _ _ ⟨rfl, rfl⟩) | (apply o_call; exact rfl; exact rfl; (focus (first | exact rfl | assumption)); exact rfl; (focus (exact ⟨_, hC1 _, by repeat (first | with_reducible exact Take.nil | with_reducible apply Take.c | with_reducible apply Take.drop)⟩)); rintro _ _ ⟨rfl, rfl⟩) | (apply o_call; exact rfl; exact rfl; (focus (first | exact rfl | assumption)); exact rfl; (focus (exact ⟨_, hC2 _, by repeat (first | with_reducible exact Take.nil | with_reducible apply Take.c | with_reducible apply Take.drop)⟩)); rintro _ _ ⟨rfl, rfl⟩) | (apply o_call; exact rfl; exact rfl; (focus (first | exact rfl | assumption)); exact rfl; (focus (exact ⟨_, hK _, by repeat (first | with_reducible exact Take.nil | with_reducible apply Take.c | with_reducible apply Take.drop)⟩)); rintro _ _ ⟨ad, fl, rfl, ht⟩) | (apply o_want; exact rfl; exact rfl) | (apply o_gT; (iterate 3 exact rfl); (focus (first | exact ‹_› | with_reducible exact rfl | omega))) | apply thenS_normal | apply w_ret | ((with_reducible apply Sd.mk); (first | exact True.intro | omega | (constructor <;> first | omega | (unfold maxLen; omega)) | (unfold maxLen; omega) | (show 1 + _ ≤ _; omega))) | ((with_reducible apply Ln.mk); (first | rfl | exact ‹_› | omega | (simp [hAl]; first | done | omega))) | ((with_reducible apply Pu.mk); (first | exact putAt_all rfl | exact putAt_recZ (fun _ => rfl) (by omega) | exact putAt_rec (fun _ => rfl) (by omega))) | ((with_reducible apply Su.mk); (first | exact subAt_all | exact subAt_recZ (fun _ => rfl) (by omega) | exact subAt_rec (fun _ => rfl) (by omega))) | exact True.intro | intro A | exact rfl)
  all_goals first
    | (exfalso; omega)
    | contradiction
    | skip
  (apply s_fin; (exact (show ResS _ _ _ _ [_] from ⟨rfl, trivial⟩)); (focus (exact ⟨rfl, rfl⟩)); (focus (repeat (first | with_reducible exact Take.nil | with_reducible apply Take.c | with_reducible apply Take.drop))))
  all_goals exact ht.trans (.drop (.drop .nil))
end Go.Proofs.Yteaohknkhlnojaa
end
section
set_option linter.unusedVariables false
set_option linter.unusedSimpArgs false
set_option maxRecDepth 4000
namespace Go.Proofs.Yteaohknkhlnojaa
open Go.Gh Go.RowKit

theorem rep_eq : Lib.repeatL [97] 100 = List.replicate 100 (97 : UInt8) := by decide +kernel
theorem wk_x (Z : List UInt8) (hl : Z.length = 9) (hp : prs Z = some (3, [97, 98], 9, false)) (h0 : prs (120 :: Z) = none) : wkL (120 :: Z) 10 0 = [(1, 9, 3, [97, 98])] := by
  obtain ⟨d, hd⟩ : ∃ d, d = 120 :: Z := ⟨_, rfl⟩
  have hdl : d.length = 10 := by rw [hd, List.length_cons, hl]
  have e0 : d.drop 0 = d := List.drop_zero
  have e1 : d.drop 1 = Z := by rw [hd]; rfl
  rw [← hd] at h0 ⊢
  rw [← e0] at h0
  rw [← e1] at hp
  have a := wkL_none (d := d) (f := 9) (at_ := 0) (by omega) h0
  have b := wkL_some (d := d) (f := 8) (at_ := 1) (by omega) hp
  have c := wkL_end (d := d) (f := 8) (at_ := 1 + 9) (by omega)
  rw [c] at b
  exact a.trans b
theorem rep_T (R : List UInt8) (r1 : (wrp 3 R).2 = 0) (r2 : (lzE R).1.length < R.length) : ∃ T, wrp 3 R = (T, 0) ∧ T.length ≤ 1000000 ∧ cmpr T = true := by
  obtain ⟨⟨T, e⟩, hT⟩ : ∃ T, wrp 3 R = T := ⟨_, rfl⟩
  have hp := prs_self r1
  have hl := (wrp_len r1).2.2
  rw [hT] at r1 hp hl
  dsimp only at r1 hp hl
  subst r1
  refine ⟨T, hT, by omega, ?_⟩
  unfold cmpr
  rw [hp]
  exact decide_eq_true r2
theorem ab_Z : ∃ Z, wrp 3 [97, 98] = (Z, 0) ∧ [165, 3, 2, 97, 98] ++ le4 (crcV [165, 3, 2, 97, 98]) = Z ∧ Z.length = 9 ∧ prs Z = some (3, [97, 98], 9, false) := by
  obtain ⟨e1, e2⟩ := ab_frame
  have hp1 := prs_self (k := 3) (c := [97, 98]) (by rw [e1])
  obtain ⟨Z, hZ⟩ : ∃ Z, [165, 3, 2, 97, 98] ++ le4 (crcV [165, 3, 2, 97, 98]) = Z := ⟨_, rfl⟩
  have hl : Z.length = 9 := by rw [← hZ, List.length_append, le4_len]; rfl
  rw [e1, hZ, e2] at hp1
  dsimp only at hp1
  rw [hl] at hp1
  exact ⟨Z, by rw [e1, hZ], hZ, hl, hp1⟩
theorem awakeF_any (h : SH) : SRun Try.prog 7 [] h fun r q => r = B true ∧ q = h := by
  obtain ⟨Z, e1, hZ, hAl, hp1⟩ := ab_Z
  obtain ⟨R, hRR⟩ : ∃ R, List.replicate 100 (97 : UInt8) = R := ⟨_, rfl⟩
  have hr := rep100
  have hre := rep_eq
  rw [hRR] at hr hre
  have hRl : R.length = 100 := by rw [← hRR, List.length_replicate]
  clear hRR
  obtain ⟨T, e2, hTl, hcT⟩ := rep_T R hr.1 (by rw [hRl]; exact hr.2)
  have hA0 : bat (120 :: Z) 0 ≠ 165 := by show (120 : Int) ≠ 165; decide
  have hwk := wk_x Z hAl hp1 (prs_no hA0)
  have h10 : (120 :: Z).length = 10 := by rw [List.length_cons, hAl]
  have hW1 := fun h => Wrap_any 3 [97, 98] h (by decide)
  have hW2 := fun h => Wrap_any 3 R h (by omega)
  have hS := fun h => Seal_any [165, 3, 2, 97, 98] h (by decide)
  rw [e1] at hW1
  rw [e2] at hW2
  rw [hZ] at hS
  have hR : ∀ h, SRun Try.prog 10 [S [97], I 100] h fun r q => r = S R ∧ q = h := fun h => hre ▸ Repeat_any [97] 100 h (by decide) (by decide)
  have hC1 := fun h => Compressed_any Z h (by omega)
  have hC2 := fun h => Compressed_any T h hTl
  rw [show cmpr Z = false by unfold cmpr; rw [hp1]] at hC1
  rw [hcT] at hC2
  have hU := fun h => Unwrap_any Z h (by omega)
  rw [hp1] at hU
  have hK := fun h => Walk_any (120 :: Z) h (by omega)
  rw [h10, hwk] at hK
  exact awake_walk Z T R h hAl hW1 hS hC1 hC2 hU (fun h => (hK h).mono fun r q ⟨⟨ad, fl, e, _⟩, t⟩ => ⟨ad, fl, e, t⟩) hR hW2
end Go.Proofs.Yteaohknkhlnojaa
end
section
set_option linter.unusedVariables false
set_option linter.unusedSimpArgs false
set_option maxRecDepth 4000
namespace Go.Proofs.Yteaohknkhlnojaa
open Go.Gh Go.RowKit

abbrev Fr1 : Type := Int × List UInt8
abbrev frC (x : Fr1) : List Value := [I x.1, S x.2]
/-- What Encode gives, behind some bytes. -/
def encF : List Fr1 → List UInt8 → List UInt8 × Int
  | [], o => (o, 0)
  | x :: r, o => if (wrp x.1 x.2).2 ≠ 0 then ([], (wrp x.1 x.2).2) else encF r (o ++ (wrp x.1 x.2).1)
/-- What Decode gives, behind some frames. -/
def decF : Nat → List UInt8 → List Fr1 → Option (List Fr1)
  | 0, _, o => some o
  | f + 1, d, o => if d = [] then some o else match prs d with
    | none => none
    | some (k, c, n, _) => decF f (d.drop n) (o ++ [(k, c)])
theorem wrp_1 (k : Int) (c : List UInt8) : (wrp k c).1.length ≤ 4120 := by
  by_cases h : (wrp k c).2 = 0
  · exact (wrp_len h).2.2.2
  · unfold wrp at h ⊢
    split
    · exact Nat.zero_le _
    · split
      · exact Nat.zero_le _
      · rename_i h1 h2
        rw [if_neg h1, if_neg h2] at h
        exact absurd rfl h
theorem drop_bangF {α : Type} [Inhabited α] {l : List α} {i : Nat} (h : i < l.length) : l.drop i = l[i]! :: l.drop (i + 1) := by
  rw [getElem!_pos l i h]; exact List.drop_eq_getElem_cons h
theorem frC_len (l : List Fr1) : (recs frC l).length = 2 * l.length := by
  induction l with
  | nil => rfl
  | cons x r ih => show (frC x ++ recs frC r).length = 2 * (r.length + 1); rw [List.length_append, ih]; show 2 + _ = _; omega
theorem EncodeF_any (l : List Fr1) (v : Value) (h : SH) (hv : Has h (recs frC l) 2 l.length v) (hl : l.length ≤ 1000) (hc : ∀ x ∈ l, x.2.length ≤ 9223372036854775807) :
    SRun Try.prog 13 [v] h fun r q => r = .tuple #[S (encF l []).1, I (encF l []).2] ∧ q = h := by
  obtain ⟨ad, fl, rfl, hh⟩ := hv
  have hlb := frC_len l
  obtain ⟨R, hR⟩ : ∃ R, encF l [] = R := ⟨_, rfl⟩
  rw [hR]
  refine w_body1 Try.func13 rfl rfl ?_
  repeat' (first | apply w_seq | apply w_region | apply o_nil | (apply o_g tyOk; exact rfl; exact rfl) | apply thenS_normal | apply w_block | ((with_reducible apply Sd.mk); (first | exact True.intro | omega | (constructor <;> first | omega | (unfold maxLen; omega)) | (unfold maxLen; omega))))
  refine w_loop (S := Nat × List UInt8) (fun s => [(4, S s.2), (9, .slice ad l.length fl), (10, I l.length), (11, I s.1)]) (fun _ => h) (fun s => s.1 ≤ l.length ∧ s.2.length ≤ 4120 * s.1 ∧ encF (l.drop s.1) s.2 = R) (fun s => l.length - s.1)
    (0, []) ⟨Nat.zero_le _, Nat.zero_le _, hR⟩ (by repeat' (first | exact trivial | refine ⟨rfl, ?_⟩ | refine ⟨congrArg some ?_, ?_⟩)) (by repeat (first | with_reducible exact Take.nil | with_reducible apply Take.c | with_reducible apply Take.drop)) ?_
  rintro ⟨i, o⟩ ⟨hi, ho, he⟩
  dsimp only at hi ho he ⊢
  by_cases hil : i < l.length
  · obtain ⟨A', ro, h1, rfl, hp⟩ := hh (by omega)
    have hx := hc _ (bang_mem hil)
    rw [drop_bangF hil] at he
    generalize hz : l[i]! = z at he hx
    have hW := fun h => Wrap_any l[i]!.1 l[i]!.2 h (by rw [hz]; exact hx)
    rw [hz] at hW
    have hwl := wrp_1 z.1 z.2
    have he : (if (wrp z.1 z.2).2 ≠ 0 then ([], (wrp z.1 z.2).2) else encF (l.drop (i + 1)) (o ++ (wrp z.1 z.2).1)) = R := he
    generalize wrp z.1 z.2 = T at *
    obtain ⟨t, e⟩ := T
    dsimp only at he hW hwl
    have hW : ∀ h, SRun Try.prog 8 [.agg ⟨frC l[i]!⟩] h fun r q => r = .tuple #[S t, I e] ∧ q = h := fun h => by rw [hz]; exact hW h
    by_cases h0 : e = 0
    · subst h0
      rw [if_neg (fun k => k rfl)] at he
      repeat' (first | apply w_seq | apply w_region | apply o_nil | (apply o_g tyOk; exact rfl; exact rfl) | (apply o_ar tyOk; exact rfl; exact rfl) | (apply o_loads tyOk; (iterate 3 exact rfl); (focus (exact pk))) | (apply o_stores tyOk; (iterate 4 exact rfl); (focus (exact ⟨rfl⟩)); (focus (exact up))) | (apply o_alloc tyOk; iterate 5 exact rfl) | (apply o_call; exact rfl; exact rfl; (focus (first | exact rfl | assumption)); exact rfl; (focus (exact ⟨_, hW _, by repeat (first | with_reducible exact Take.nil | with_reducible apply Take.c | with_reducible apply Take.drop)⟩)); rintro _ _ ⟨rfl, rfl⟩) | (apply w_false; exact rfl) | (apply w_dT; exact rfl; (focus (first | exact ‹_› | with_reducible exact rfl | omega))) | apply thenS_normal | apply blockS_normal | apply w_skip | apply w_block | ((with_reducible apply Sd.mk); (first | exact True.intro | omega | (constructor <;> first | omega | (unfold maxLen; omega)) | (unfold maxLen; omega))) | ((with_reducible apply Ln.mk); (first | rfl | exact ‹_› | omega | (simp [hlb]; first | done | omega))) | ((with_reducible apply Wr.mk); (first | exact IntWalk.i64_in _ (by omega) | exact IntWalk.u8_in _ (by omega) | exact IntWalk.u32_in _ (by omega) | exact IntWalk.u64_in _ (by omega) | exact IntKind.wrap_u8 _ | exact IntKind.wrap_u32 _ | rfl)) | ((with_reducible apply Pu.mk); (first | exact putAt_all rfl | exact putAt_recZ (fun _ => rfl) (by omega) | exact putAt_rec (fun _ => rfl) (by omega))) | ((with_reducible apply Su.mk); (first | exact subAt_all | exact subAt_recZ (fun _ => rfl) (by omega) | exact subAt_rec (fun _ => rfl) (by omega))) | exact True.intro | intro A | exact rfl)
      all_goals first
        | (exfalso; omega)
        | contradiction
        | exact ⟨(i + 1, o ++ t), ⟨hil, by show (o ++ t).length ≤ _; rw [List.length_append]; omega, he⟩, by show l.length - (i + 1) < l.length - i; omega, (by repeat' (first | exact trivial | refine ⟨rfl, ?_⟩ | refine ⟨congrArg some ?_, ?_⟩)), (by repeat (first | with_reducible exact Take.nil | with_reducible apply Take.c | with_reducible apply Take.drop))⟩
        | trace_state
    · rw [if_pos h0] at he
      subst he
      repeat' (first | apply w_seq | apply w_region | apply o_nil | (apply o_g tyOk; exact rfl; exact rfl) | (apply o_loads tyOk; (iterate 3 exact rfl); (focus (exact pk))) | (apply o_stores tyOk; (iterate 4 exact rfl); (focus (exact ⟨rfl⟩)); (focus (exact up))) | (apply o_alloc tyOk; iterate 5 exact rfl) | (apply o_call; exact rfl; exact rfl; (focus (first | exact rfl | assumption)); exact rfl; (focus (exact ⟨_, hW _, by repeat (first | with_reducible exact Take.nil | with_reducible apply Take.c | with_reducible apply Take.drop)⟩)); rintro _ _ ⟨rfl, rfl⟩) | (apply w_dT; exact rfl; (focus (first | exact ‹_› | with_reducible exact rfl | omega))) | apply thenS_normal | apply thenS_ret | apply blockS_ret | apply w_skip | apply w_ret | apply w_block | ((with_reducible apply Sd.mk); (first | exact True.intro | omega | (constructor <;> first | omega | (unfold maxLen; omega)) | (unfold maxLen; omega))) | ((with_reducible apply Ln.mk); (first | rfl | exact ‹_› | omega | (simp [hlb]; first | done | omega))) | ((with_reducible apply Pu.mk); (first | exact putAt_all rfl | exact putAt_recZ (fun _ => rfl) (by omega) | exact putAt_rec (fun _ => rfl) (by omega))) | ((with_reducible apply Su.mk); (first | exact subAt_all | exact subAt_recZ (fun _ => rfl) (by omega) | exact subAt_rec (fun _ => rfl) (by omega))) | exact True.intro | intro A | exact rfl)
      all_goals first
        | (exfalso; omega)
        | contradiction
        | (apply s_fin; (exact (show ResS _ _ _ _ [_, _] from ⟨rfl, ⟨rfl, trivial⟩⟩)); (focus (exact ⟨rfl, rfl⟩)); (focus (repeat (first | with_reducible exact Take.nil | with_reducible apply Take.c | with_reducible apply Take.drop))))
        | trace_state
  · obtain rfl : i = l.length := by omega
    rw [List.drop_length] at he
    have he : (o, 0) = R := he
    subst he
    repeat' (first | apply w_seq | apply w_region | apply o_nil | (apply o_g tyOk; exact rfl; exact rfl) | (apply w_dF; exact rfl; (focus (first | exact ‹_› | with_reducible exact rfl | omega))) | apply thenS_normal | apply thenS_exit | apply blockS_exit | apply w_ret | apply w_exit | ((with_reducible apply Sd.mk); (first | exact True.intro | omega | (constructor <;> first | omega | (unfold maxLen; omega)) | (unfold maxLen; omega))))
    all_goals first
      | (exfalso; omega)
      | (apply s_fin; (exact (show ResS _ _ _ _ [_, _] from ⟨rfl, ⟨rfl, trivial⟩⟩)); (focus (exact ⟨rfl, rfl⟩)); (focus (repeat (first | with_reducible exact Take.nil | with_reducible apply Take.c | with_reducible apply Take.drop))))
      | trace_state
/-- A slice of frames that grows. -/
inductive FrO (h : SH) : List Fr1 → Value → SH → Prop
  | nil : FrO h [] (.slice none 0 0) h
  | some (A : Nat) (l : List Fr1) : FrO h l (gsl A 0 (2 * l.length) l.length 2) ((A, ⟨recs frC l, false⟩) :: h)
theorem FrO.has {h q : SH} {l : List Fr1} {v : Value} (g : FrO h l v q) : Has q (recs frC l) 2 l.length v ∧ Take q h := by
  cases g with
  | nil => exact ⟨⟨none, 0, rfl, fun k => absurd rfl k⟩, .nil⟩
  | some A l => exact ⟨⟨_, _, rfl, fun _ => ⟨A, false, h, rfl, .head⟩⟩, .drop .nil⟩
theorem DecodeF_any (d : List UInt8) (h : SH) (hl : d.length ≤ 1000000) : SRun Try.prog 14 [S d] h fun r q =>
    match decF d.length d [] with
    | none => r = .tuple #[.slice none 0 0, I 12] ∧ q = h
    | some l => ∃ v, r = .tuple #[v, I 0] ∧ Has q (recs frC l) 2 l.length v ∧ Take q h := by
  obtain ⟨R, hR⟩ : ∃ R, decF d.length d [] = R := ⟨_, rfl⟩
  rw [hR]
  refine w_body1 Try.func14 rfl rfl ?_
  repeat' (first | apply w_seq | apply w_region | apply o_nil | (apply o_g tyOk; exact rfl; exact rfl) | apply thenS_normal | apply w_block | ((with_reducible apply Sd.mk); (first | exact True.intro | omega | (constructor <;> first | omega | (unfold maxLen; omega)) | (unfold maxLen; omega))))
  refine w_loop (S := Nat × List UInt8 × List Fr1 × Value × SH) (fun s => [(0, S s.2.1), (4, s.2.2.2.1)]) (fun s => s.2.2.2.2) (fun s => s.2.1.length ≤ s.1 ∧ s.2.1.length ≤ 1000000 ∧ s.2.2.1.length + s.2.1.length ≤ 1000000 ∧ FrO h s.2.2.1 s.2.2.2.1 s.2.2.2.2 ∧ decF s.1 s.2.1 s.2.2.1 = R) (fun s => s.1)
    (d.length, d, [], .slice none 0 0, h) ⟨Nat.le_refl _, hl, by show 0 + d.length ≤ _; omega, .nil, hR⟩ (by repeat' (first | exact trivial | refine ⟨rfl, ?_⟩ | refine ⟨congrArg some ?_, ?_⟩)) (by repeat (first | with_reducible exact Take.nil | with_reducible apply Take.c | with_reducible apply Take.drop)) ?_
  rintro ⟨f, d, l, v, q⟩ ⟨hf, hd, hs, hg, he⟩
  dsimp only at hf hd hs hg he ⊢
  by_cases h0 : d = []
  · subst h0
    have he : some l = R := by
      cases f with
      | zero => exact he
      | succ f => exact he
    subst he
    repeat' (first | apply w_seq | apply w_region | apply o_nil | (apply o_g tyOk; exact rfl; exact rfl) | (apply w_false; exact rfl) | apply thenS_normal | apply thenS_exit | apply blockS_exit | apply w_ret | apply w_exit | ((with_reducible apply Sd.mk); (first | exact True.intro | omega | (constructor <;> first | omega | (unfold maxLen; omega)) | (unfold maxLen; omega))))
    all_goals first
      | contradiction
      | (apply s_fin; (exact (show ResS _ _ _ _ [_, _] from ⟨rfl, ⟨rfl, trivial⟩⟩)); (focus (exact ⟨v, rfl, hg.has⟩)); (focus (repeat (first | with_reducible exact Take.nil | with_reducible apply Take.c | with_reducible apply Take.drop))))
      | trace_state
  · obtain ⟨f, rfl⟩ : ∃ f', f = f' + 1 := ⟨f - 1, by have := List.length_pos_iff.2 h0; omega⟩
    have hU := fun h => Unwrap_any d h hd
    have he : (match prs d with
      | none => none
      | some (k, c, n, _) => decF f (d.drop n) (l ++ [(k, c)])) = R := by
      rw [← he]
      exact (if_neg h0).symm
    cases hp : prs d with
    | none =>
      rw [hp] at hU he
      dsimp only at he
      subst he
      have hU : ∀ h, SRun Try.prog 9 [S d] h fun r q => r = .tuple ⟨[frV 0 [], I 0, I 12]⟩ ∧ q = h := hU
      repeat' (first | apply w_seq | apply w_region | apply o_nil | (apply o_g tyOk; exact rfl; exact rfl) | (apply o_stores tyOk; (iterate 4 exact rfl); (focus (exact ⟨rfl⟩)); (focus (exact up))) | (apply o_alloc tyOk; iterate 5 exact rfl) | (apply o_call; exact rfl; exact rfl; (focus (first | exact rfl | assumption)); exact rfl; (focus (exact ⟨_, hU _, by repeat (first | with_reducible exact Take.nil | with_reducible apply Take.c | with_reducible apply Take.drop)⟩)); rintro _ _ ⟨rfl, rfl⟩) | (apply w_true; exact rfl) | (apply w_dT; exact rfl; (focus (first | exact ‹_› | with_reducible exact rfl | omega | exact h0))) | apply thenS_normal | apply thenS_ret | apply blockS_ret | apply w_skip | apply w_ret | apply w_block | ((with_reducible apply Sd.mk); (first | exact True.intro | omega | (constructor <;> first | omega | (unfold maxLen; omega)) | (unfold maxLen; omega))) | ((with_reducible apply Ln.mk); (first | rfl | exact ‹_› | omega | (simp ; first | done | omega))) | ((with_reducible apply Pu.mk); (first | exact putAt_all rfl | exact putAt_recZ (fun _ => rfl) (by omega) | exact putAt_rec (fun _ => rfl) (by omega))) | exact True.intro | intro A)
      all_goals first
        | contradiction
        | (apply s_fin; (exact (show ResS _ _ _ _ [_, _] from ⟨rfl, ⟨rfl, trivial⟩⟩)); (focus (exact ⟨rfl, rfl⟩)); (focus (repeat (first | with_reducible exact Take.nil | with_reducible apply Take.c | with_reducible apply Take.drop))))
        | trace_state
      all_goals exact hg.has.2
    | some V =>
      obtain ⟨k, c, n, s⟩ := V
      obtain ⟨_, p1, p2, _⟩ := prs_ok hp
      rw [hp] at hU he
      dsimp only at he
      have hU : ∀ h, SRun Try.prog 9 [S d] h fun r q => r = .tuple ⟨[frV k c, I n, I 0]⟩ ∧ q = h := hU
      have hdl : (d.drop n).length = d.length - n := List.length_drop
      cases hg with
      | nil =>
        repeat' (first | apply w_seq | apply w_region | apply o_nil | (apply o_g tyOk; exact rfl; exact rfl) | (apply o_loads tyOk; (iterate 3 exact rfl); (focus (exact pk))) | (apply o_stores tyOk; (iterate 4 exact rfl); (focus (exact ⟨rfl⟩)); (focus (exact up))) | (apply o_alloc tyOk; iterate 5 exact rfl) | (apply o_buildSlice tyOk; (iterate 5 exact rfl); (focus (decide)); exact rfl; (focus (decide)); (focus (repeat (first | exact CatR.nil | exact CatR.last rfl | (apply CatR.one; exact rfl; exact rfl) | (apply CatR.agg; exact rfl)))); exact rfl) | (apply o_append_nil tyOk; (iterate 5 exact rfl); (focus (exact ⟨by decide⟩)); (focus (exact pk))) | (apply o_call; exact rfl; exact rfl; (focus (first | exact rfl | assumption)); exact rfl; (focus (exact ⟨_, hU _, by repeat (first | with_reducible exact Take.nil | with_reducible apply Take.c | with_reducible apply Take.drop)⟩)); rintro _ _ ⟨rfl, rfl⟩) | (apply w_false; exact rfl) | (apply w_dT; exact rfl; (focus (first | exact ‹_› | with_reducible exact rfl | omega | exact h0))) | apply thenS_normal | apply blockS_normal | apply w_skip | apply w_block | ((with_reducible apply Sd.mk); (first | exact True.intro | omega | (constructor <;> first | omega | (unfold maxLen; omega)) | (unfold maxLen; omega))) | ((with_reducible apply Ln.mk); (first | rfl | exact ‹_› | omega | (simp ; first | done | omega))) | ((with_reducible apply Pu.mk); (first | exact putAt_all rfl | exact putAt_recZ (fun _ => rfl) (by omega) | exact putAt_rec (fun _ => rfl) (by omega))) | ((with_reducible apply Su.mk); (first | exact subAt_all | exact subAt_recZ (fun _ => rfl) (by omega) | exact subAt_rec (fun _ => rfl) (by omega))) | exact True.intro | intro A | exact rfl)
        all_goals first
          | contradiction
          | (exfalso; omega)
          | skip
        rename_i q0 a1 a2
        exact ⟨(f, d.drop n, [(k, c)], gsl A 0 2 1 2, (A, ⟨recs frC [(k, c)], false⟩) :: q0), ⟨by show (d.drop n).length ≤ f; omega, by show (d.drop n).length ≤ _; omega, by show 1 + (d.drop n).length ≤ _; omega, .some A [(k, c)], he⟩, by show f < f + 1; omega, (by repeat' (first | exact trivial | refine ⟨rfl, ?_⟩ | refine ⟨congrArg some ?_, ?_⟩)), (by repeat (first | with_reducible exact Take.nil | with_reducible apply Take.c | ((with_reducible apply Take.cE); (first | exact rfl | (apply blkE; (focus (first | exact rfl | exact recs_snocE rfl | exact map_snocE rfl | exact congrArg (fun v => [v]) (gslE rfl rfl (by first | rfl | exact ‹_› | omega | (simp ; first | done | omega)) (by first | rfl | exact ‹_› | omega | (simp ; first | done | omega)) rfl)))))) | with_reducible apply Take.drop))⟩
      | some A0 l =>
        have hlb := frC_len l
        repeat' (first | apply w_seq | apply w_region | apply o_nil | (apply o_g tyOk; exact rfl; exact rfl) | (apply o_loads tyOk; (iterate 3 exact rfl); (focus (exact pk))) | (apply o_stores tyOk; (iterate 4 exact rfl); (focus (exact ⟨rfl⟩)); (focus (exact up))) | (apply o_alloc tyOk; iterate 5 exact rfl) | (apply o_buildSlice tyOk; (iterate 5 exact rfl); (focus (decide)); exact rfl; (focus (decide)); (focus (repeat (first | exact CatR.nil | exact CatR.last rfl | (apply CatR.one; exact rfl; exact rfl) | (apply CatR.agg; exact rfl)))); exact rfl) | (apply o_append tyOk; (iterate 5 exact rfl); (focus (exact ⟨by decide⟩)); (focus (exact up)); (focus (exact pk))) | (apply o_call; exact rfl; exact rfl; (focus (first | exact rfl | assumption)); exact rfl; (focus (exact ⟨_, hU _, by repeat (first | with_reducible exact Take.nil | with_reducible apply Take.c | with_reducible apply Take.drop)⟩)); rintro _ _ ⟨rfl, rfl⟩) | (apply w_false; exact rfl) | (apply w_dT; exact rfl; (focus (first | exact ‹_› | with_reducible exact rfl | omega | exact h0))) | apply thenS_normal | apply blockS_normal | apply w_skip | apply w_block | ((with_reducible apply Sd.mk); (first | exact True.intro | omega | (constructor <;> first | omega | (unfold maxLen; omega)) | (unfold maxLen; omega))) | ((with_reducible apply Ln.mk); (first | rfl | exact ‹_› | omega | (simp [hlb]; first | done | omega))) | ((with_reducible apply Pu.mk); (first | exact putAt_all rfl | exact putAt_recZ (fun _ => rfl) (by omega) | exact putAt_rec (fun _ => rfl) (by omega))) | ((with_reducible apply Su.mk); (first | exact subAt_all | exact subAt_recZ (fun _ => rfl) (by omega) | exact subAt_rec (fun _ => rfl) (by omega))) | exact True.intro | intro A | exact rfl)
        all_goals first
          | contradiction
          | (exfalso; omega)
          | skip
        exact ⟨(f, d.drop n, l ++ [(k, c)], gsl A0 0 (2 * (l ++ [(k, c)]).length) (l ++ [(k, c)]).length 2, (A0, ⟨recs frC (l ++ [(k, c)]), false⟩) :: h), ⟨by show (d.drop n).length ≤ f; omega, by show (d.drop n).length ≤ _; omega, by show (l ++ [(k, c)]).length + (d.drop n).length ≤ _; rw [List.length_append, List.length_singleton]; omega, .some A0 (l ++ [(k, c)]), he⟩, by show f < f + 1; omega,
          ⟨rfl, congrArg some (gslE rfl rfl (by simp; omega) (by simp) rfl), trivial⟩, .consE (by repeat (first | exact .head | apply Pick.tail)) (blkE (recs_snocE rfl)) (by repeat (first | exact Take.nil | apply Take.drop))⟩
end Go.Proofs.Yteaohknkhlnojaa
end
section
set_option linter.unusedVariables false
set_option linter.unusedSimpArgs false
set_option maxRecDepth 4000
namespace Go.Proofs.Yteaohknkhlnojaa
open Go.Gh Go.RowKit

theorem edir_ok2 {n k : Nat} {e : Enc} (h : EncOk n e) (x v : Int) (hx : x ≤ k) : EncOk (n + 2 * k) (edir e x v) := by
  unfold edir
  split
  · exact h.mono (by omega)
  · exact (ebits_ok h).mono (by omega)
theorem nenc_ok2 {n : Nat} {t : List Int} {e : Enc} (h : EncOk n e) (v : Int) (hv : v < 4096) : EncOk (n + 34) (nenc t e v).2 ∧ (nenc t e v).1.length = t.length := by
  have h6 := tenc_ok (v := (blen (ncut v).toNat : Int)) (k := 6) (t := t) (j := 1) h
  have hb : blen (ncut v).toNat ≤ 12 := blen_le (by
    have : (2 : Nat) ^ 12 = 4096 := rfl
    unfold ncut
    split <;> omega)
  refine ⟨?_, h6.2⟩
  show EncOk _ (if _ then _ else _)
  split
  · exact (edir_ok2 (k := 11) h6.1 ((blen (ncut v).toNat : Int) - 1) (ncut v) (by omega)).mono (by omega)
  · exact h6.1.mono (by omega)
theorem wst_ok2 {n : Nat} {s : Ms × Enc} {t : Pc} (hx : MsOk s.1) (hok : EncOk n s.2) (ht : vPb t) : MsOk (wst s t).1 ∧ EncOk (n + 35 * t.1.toNat) (wst s t).2 := by
  refine ⟨(wst_ok hx hok ht).1, ?_⟩
  obtain ⟨hv, hy⟩ := ht
  unfold wst
  split
  · have h1 := tenc_ok (v := 0) (k := 1) (t := s.1.K) (j := 1) hok
    have h2 := benc_ok (v := t.2.2) h1.1 hx.P hx.c
    exact h2.1.mono (by rcases hv with g | g <;> omega)
  · rename_i h0
    have h1 := tenc_ok (v := 1) (k := 1) (t := s.1.K) (j := 1) hok
    have h2 := nenc_ok2 (t := s.1.L) h1.1 (t.1 - 2) (by rcases hv with g | g <;> omega)
    have h3 := nenc_ok2 (t := s.1.D) h2.1 (t.2.1 - 1) (by rcases hv with g | g <;> omega)
    exact h3.1.mono (by rcases hv with g | g <;> omega)
theorem wrun_ok2 : ∀ {l : List Pc} {n : Nat} {s : Ms × Enc}, MsOk s.1 → EncOk n s.2 → (∀ t ∈ l, vPb t) → EncOk (n + 35 * psum l) (wrun l s).2
  | [], n, s, hx, hok, _ => hok
  | t :: r, n, s, hx, hok, ht => by
    have h1 := wst_ok2 hx hok (ht t (by simp))
    have h2 := wrun_ok2 (l := r) h1.1 h1.2 (fun u hu => ht u (by simp [hu]))
    rw [wrun_cons]
    exact h2.mono (by show _ ≤ n + 35 * (t.1.toNat + psum r); omega)
theorem lzE_len2 {l : List UInt8} (hl : l.length ≤ 4096) : (lzE l).1.length ≤ 35 * l.length + 13 := by
  by_cases h0 : l = []
  · subst h0; rw [zx1]; decide
  · rw [lzE_ne hl h0]
    have hc := pcs_cov hl
    have h1 := wrun_ok2 (s := zs0) ms0_ok encZ_ok (cov_vPb (by omega) hc)
    have h2 := cov_psum (by omega) hc
    have h3 := h1.out
    have h4 := vnum_len (n := (l.length : Int)) (by omega)
    have h5 := (vk_ok (n := (l.length : Int)) (by omega)).2
    show (vnum l.length ++ fin (wrun (pcs l) zs0).2).length ≤ _
    rw [List.length_append, fin_len]
    omega
theorem vpeek_num2 {n : Int} (h0 : 128 ≤ n) (h : n < 16512) (r : List UInt8) : vpeek (vnum n ++ r) = (n, 2, true) := by
  rw [vnum_hi h0 h]
  have e1 := b8_val (n := 128 + (n - 128) / 256) (by omega)
  have e2 := b8_val (n := (n - 128) % 256) (by omega)
  show vpeek (b8 (128 + (n - 128) / 256) :: b8 ((n - 128) % 256) :: r) = _
  rw [vpeek_hi (by omega) (by omega), e1, e2]
  have : (128 + (n - 128) / 256 - 128) * 256 + (n - 128) % 256 + 128 = n := by omega
  rw [this]
theorem txt_far {b r : List UInt8} (h1 : 4096 < b.length) (h2 : b.length < 16512) : txt (vnum b.length ++ b ++ r) = none := by
  unfold txt
  rw [if_neg]
  rintro ⟨g, _⟩
  unfold rdN at g
  rw [List.append_assoc, vpeek_num2 (by omega) (by omega)] at g
  dsimp only at g
  rw [if_neg (by decide), if_pos (by omega)] at g
  exact absurd g (by show ¬ (2 : Int) = 0; decide)
/-- A frame with its content as it is. -/
theorem prs_plain {k : Int} {c : List UInt8} (hk : 0 ≤ k ∧ k ≤ 15) (hc : c.length ≤ 4096) : prs (sl (frm k c)) = if (lzE c).1.length < c.length then none else some (k, c, (sl (frm k c)).length, false) := by
  have h := prs_frm (k := k) (k' := k) (b := c) (c := c) [] (by omega) hc (.inr ⟨hk.2, rfl⟩) (by omega)
  rw [List.append_nil] at h
  rw [h]
  have hw : wrp k c = ((if (lzE c).1.length < c.length then sl (frm (k + 16) (lzE c).1) else sl (frm k c)), 0) := by unfold wrp; rw [if_neg (by omega), if_neg (by omega)]
  by_cases hs : (lzE c).1.length < c.length
  · rw [if_pos hs] at hw ⊢
    rw [if_neg]
    rw [hw]
    intro g
    have := congrArg (fun l => bat l 1) (congrArg Prod.fst g)
    dsimp only at this
    have a1 := (frm_at (k + 16) (by omega) (lzE c).1 (le4 (crcV (frm (k + 16) (lzE c).1)))).2.1
    have a2 := (frm_at k (by omega) c (le4 (crcV (frm k c)))).2.1
    unfold sl at this
    omega
  · rw [if_neg hs] at hw ⊢
    rw [if_pos hw, decide_eq_false (by omega)]
/-- A frame with its content compressed. -/
theorem prs_packed {k : Int} {c : List UInt8} (hk : 0 ≤ k ∧ k ≤ 15) (hc : c.length ≤ 400) : prs (sl (frm (k + 16) (lzE c).1)) = if (lzE c).1.length < c.length then some (k, c, (sl (frm (k + 16) (lzE c).1)).length, true) else none := by
  have hl := lzE_len2 (l := c) (by omega)
  have hw : wrp k c = ((if (lzE c).1.length < c.length then sl (frm (k + 16) (lzE c).1) else sl (frm k c)), 0) := by unfold wrp; rw [if_neg (by omega), if_neg (by omega)]
  by_cases hb : (lzE c).1.length ≤ 4096
  · have hD : lzD (lzE c).1 4096 = (c, 0) := by
      by_cases h0 : c = []
      · subst h0; decide +kernel
      · exact lzD_most (by omega) h0
    have h := prs_frm (k := k) (k' := k + 16) (b := (lzE c).1) (c := c) [] (by omega) hb (.inl ⟨by omega, hD⟩) (by omega)
    rw [List.append_nil] at h
    rw [h]
    by_cases hs : (lzE c).1.length < c.length
    · rw [if_pos hs] at hw ⊢
      rw [if_pos hw, decide_eq_true (by omega)]
    · rw [if_neg hs] at hw ⊢
      rw [if_neg]
      rw [hw]
      intro g
      have := congrArg (fun l => bat l 1) (congrArg Prod.fst g)
      dsimp only at this
      have a1 := (frm_at (k + 16) (by omega) (lzE c).1 (le4 (crcV (frm (k + 16) (lzE c).1)))).2.1
      have a2 := (frm_at k (by omega) c (le4 (crcV (frm k c)))).2.1
      unfold sl at this
      omega
  · rw [if_neg (by omega)]
    obtain ⟨a1, a2, a3⟩ := frm_at (k + 16) (by omega) (lzE c).1 (le4 (crcV (frm (k + 16) (lzE c).1)))
    unfold prs sl
    rw [a1, a2, if_neg (by rw [List.length_append, le4_len]; omega), a3, txt_far (by omega) (by omega)]
/-- What Decode accepts, Encode gives. -/
theorem decF_enc : ∀ (f : Nat) (d : List UInt8) (o l : List Fr1), d.length ≤ f → decF f d o = some l → ∃ m, l = o ++ m ∧ m.length ≤ d.length ∧ (∀ x ∈ m, x.2.length ≤ 4096) ∧ ∀ a, encF m a = (a ++ d, 0)
  | 0, d, o, l, hf, h => by
    obtain rfl : d = [] := List.length_eq_zero_iff.1 (by omega)
    obtain rfl := Option.some.inj h
    exact ⟨[], by simp, Nat.le_refl _, fun x hx => (by cases hx), fun a => by rw [List.append_nil]; rfl⟩
  | f + 1, d, o, l, hf, h => by
    by_cases h0 : d = []
    · subst h0
      obtain rfl := Option.some.inj h
      exact ⟨[], by simp, Nat.le_refl _, fun x hx => (by cases hx), fun a => by rw [List.append_nil]; rfl⟩
    · have h : (match prs d with
        | none => none
        | some (k, c, n, _) => decF f (d.drop n) (o ++ [(k, c)])) = some l := by rw [← h]; exact (if_neg h0).symm
      split at h
      · cases h
      · rename_i k c n s hp
        obtain ⟨p1, p2, p3, _⟩ := prs_ok hp
        have hdl : (d.drop n).length = d.length - n := List.length_drop
        obtain ⟨m, rfl, g2, g3, g4⟩ := decF_enc f (d.drop n) (o ++ [(k, c)]) l (by omega) h
        refine ⟨(k, c) :: m, by simp, by rw [List.length_cons]; omega, fun x hx => ?_, fun a => ?_⟩
        · rcases List.mem_cons.1 hx with rfl | hx
          · exact (wrp_len (k := k) (c := c) (by rw [p1])).2.1
          · exact g3 x hx
        · show (if (wrp k c).2 ≠ 0 then _ else encF m (a ++ (wrp k c).1)) = _
          rw [p1, if_neg (fun g => g rfl), g4]
          dsimp only
          rw [List.append_assoc, List.take_append_drop]
end Go.Proofs.Yteaohknkhlnojaa
end
section
set_option linter.unusedVariables false
set_option linter.unusedSimpArgs false
set_option maxRecDepth 4000
namespace Go.Proofs.Yteaohknkhlnojaa
open Go.Gh Go.RowKit

theorem hd1_sub {k : Int} (hk : 0 ≤ k ∧ k ≤ 255) : SubAt [Y k] 0 (bytesV [b8 k]) := by
  rw [bytesV_one (by omega)]; exact subAt_all
theorem raw_frm (k : Int) (b : List UInt8) : [165] ++ [b8 k] ++ vnum b.length ++ b = frm k b := by
  unfold frm hd2
  rw [List.append_assoc]
  rfl
/-- What Unwrap gives, as numbers. -/
theorem Unwrap_parts (d : List UInt8) (hl : d.length ≤ 1000000) : ∃ (k : Int) (c : List UInt8) (n : Nat) (e : Int), (∀ h, SRun Try.prog 9 [S d] h fun r q => r = .tuple ⟨[frV k c, I n, I e]⟩ ∧ q = h) ∧
    ((e = 0 ∧ wrp k c = (d.take n, 0) ∧ n ≤ d.length ∧ c.length ≤ 4096) ∨ (e = 12 ∧ n = 0 ∧ k = 0 ∧ c = [])) ∧ (e = 0 ↔ (prs d).isSome = true) := by
  have hU := fun h => Unwrap_any d h hl
  cases hp : prs d with
  | none =>
    rw [hp] at hU
    exact ⟨0, [], 0, 12, hU, .inr ⟨rfl, rfl, rfl, rfl⟩, ⟨fun g => absurd g (by decide), fun g => (by cases g)⟩⟩
  | some V =>
    obtain ⟨k, c, n, s⟩ := V
    rw [hp] at hU
    obtain ⟨p1, p2, p3, _⟩ := prs_ok hp
    exact ⟨k, c, n, 0, hU, .inl ⟨rfl, p1, p2, (wrp_len (k := k) (c := c) (by rw [p1])).2.1⟩, ⟨fun _ => rfl, fun _ => rfl⟩⟩
theorem Decode_parts (d : List UInt8) (hl : d.length ≤ 1000) : ∃ (l : List Fr1) (e : Int), (∀ h, SRun Try.prog 14 [S d] h fun r q => ∃ v, r = .tuple #[v, I e] ∧ Has q (recs frC l) 2 l.length v ∧ Take q h) ∧
    ((e = 0 ∧ encF l [] = (d, 0)) ∨ (e = 12 ∧ l = [])) ∧ l.length ≤ 1000 ∧ ∀ x ∈ l, x.2.length ≤ 9223372036854775807 := by
  have hD := fun h => DecodeF_any d h (by omega)
  cases hp : decF d.length d [] with
  | none =>
    rw [hp] at hD
    exact ⟨[], 12, fun h => (hD h).mono fun r q ⟨e1, e2⟩ => ⟨_, e1, ⟨none, 0, rfl, fun k => absurd rfl k⟩, by rw [e2]; exact .nil⟩, .inr ⟨rfl, rfl⟩, Nat.zero_le _, fun x hx => (by cases hx)⟩
  | some l =>
    rw [hp] at hD
    obtain ⟨m, g1, g2, g3, g4⟩ := decF_enc d.length d [] l (Nat.le_refl _) hp
    rw [List.nil_append] at g1
    subst g1
    exact ⟨l, 0, hD, .inl ⟨rfl, g4 []⟩, by omega, fun x hx => Nat.le_trans (g3 x hx) (by decide)⟩
set_option maxHeartbeats 8000000 in
theorem StrictF_any (D C : List UInt8) (kd : Int) (_ : D.length ≤ 9223372036854775807) (_ : C.length ≤ 9223372036854775807) (hk : 0 ≤ kd ∧ kd < 256) : SRun Try.prog 6 [S D, S C, Y kd] [] fun r _ => r = B true := by
  by_cases hbig : 300 < D.length ∨ 200 < C.length
  · rcases Nat.lt_or_ge 300 D.length with hb | hb
    all_goals
      refine w_body3 Try.func6 rfl rfl ?_
      repeat' (first | apply w_seq | apply w_region | apply o_nil | (apply o_g tyOk; exact rfl; exact rfl) | (apply o_notB; exact rfl; exact rfl) | (apply o_call; exact rfl; exact rfl; (focus (first | exact rfl | assumption)); exact rfl; (focus (exact ⟨_, awakeF_any _, by repeat (first | with_reducible exact Take.nil | with_reducible apply Take.c | with_reducible apply Take.drop)⟩)); rintro _ _ ⟨rfl, rfl⟩) | (apply o_want; exact rfl; exact rfl) | (apply o_skip; iterate 4 exact rfl) | (apply o_gF; (iterate 3 exact rfl); (focus (first | exact ‹_› | with_reducible exact rfl | omega))) | (apply o_sT; (iterate 3 exact rfl); (focus (first | exact ‹_› | with_reducible exact rfl | omega)); exact rfl) | (apply w_true; exact rfl) | (apply w_false; exact rfl) | (apply w_dT; exact rfl; (focus (first | exact ‹_› | with_reducible exact rfl | omega))) | apply thenS_normal | apply thenS_ret | apply w_skip | apply w_ret | ((with_reducible apply Sd.mk); (first | exact True.intro | omega | (constructor <;> first | omega | (unfold maxLen; omega)) | (unfold maxLen; omega))))
      all_goals first
        | contradiction
        | (exfalso; omega)
        | (apply s_fin; (exact (show ResS _ _ _ _ [_] from ⟨rfl, trivial⟩)); (focus (rfl)); (focus (repeat (first | with_reducible exact Take.nil | with_reducible apply Take.c | with_reducible apply Take.drop))))
        | trace_state
  obtain ⟨k1, c1, n1, e1, hU, hor, -⟩ := Unwrap_parts D (by omega)
  obtain ⟨l, e2, hD, hor2, hl1, hl2⟩ := Decode_parts D (by omega)
  have hE := fun v h hv => EncodeF_any l v h hv hl1 hl2
  have hW := fun h => Wrap_any k1 c1 h (by rcases hor with g | g; omega; rw [g.2.2.2]; decide)
  have hL := fun h => Encode_any' C h (by omega)
  have hz : lzE C = ((lzE C).1, 0) := by unfold lzE; rw [if_neg (by omega)]
  have hzl := lzE_len2 (l := C) (by omega)
  have hpl := prs_plain (k := kd % 16) (c := C) (by omega) (by omega)
  have hpk := prs_packed (k := kd % 16) (c := C) (by omega) (by omega)
  rw [hz] at hL
  generalize (lzE C).1 = z at *
  have hv1 := vnum_len (n := (C.length : Int)) (by omega)
  have hv2 := (vk_ok (n := (C.length : Int)) (by omega)).2
  have hv3 := vnum_len (n := (z.length : Int)) (by omega)
  have hv4 := (vk_ok (n := (z.length : Int)) (by omega)).2
  have hs1 : (sl (frm (kd % 16) C)).length ≤ 1000000 := by unfold sl frm; rw [List.length_append, List.length_append, List.length_append, le4_len, hd2_len]; omega
  have hs2 : (sl (frm ((kd % 16) + 16) z)).length ≤ 1000000 := by unfold sl frm; rw [List.length_append, List.length_append, List.length_append, le4_len, hd2_len]; omega
  have hS1 : ∀ h, SRun Try.prog 18 [S ([165] ++ [b8 (kd % 16)] ++ vnum C.length ++ C)] h fun r q => r = S (sl (frm (kd % 16) C)) ∧ q = h := fun h => by
    have := Seal_any ([165] ++ [b8 (kd % 16)] ++ vnum C.length ++ C) h (by rw [List.length_append, List.length_append]; show 2 + _ + _ ≤ _; omega)
    rw [raw_frm] at this ⊢
    exact this
  have hS2 : ∀ h, SRun Try.prog 18 [S ([165] ++ [b8 ((kd % 16) + 16)] ++ vnum z.length ++ z)] h fun r q => r = S (sl (frm ((kd % 16) + 16) z)) ∧ q = h := fun h => by
    have := Seal_any ([165] ++ [b8 ((kd % 16) + 16)] ++ vnum z.length ++ z) h (by rw [List.length_append, List.length_append]; show 2 + _ + _ ≤ _; omega)
    rw [raw_frm] at this ⊢
    exact this
  obtain ⟨k2, c2, n2, e3, hA, -, ha⟩ := Unwrap_parts (sl (frm (kd % 16) C)) hs1
  obtain ⟨k3, c3, n3, e4, hB, -, hb⟩ := Unwrap_parts (sl (frm ((kd % 16) + 16) z)) hs2
  rw [hpl] at ha
  rw [hpk] at hb
  have hab : (z.length < C.length ∧ e3 ≠ 0 ∧ e4 = 0) ∨ (¬ z.length < C.length ∧ e3 = 0 ∧ e4 ≠ 0) := by
    by_cases hs : z.length < C.length
    · rw [if_pos hs] at ha hb
      exact .inl ⟨hs, (fun g => by cases ha.1 g), hb.2 rfl⟩
    · rw [if_neg hs] at ha hb
      exact .inr ⟨hs, ha.2 rfl, (fun g => by cases hb.1 g)⟩
  have hN1 := fun h => Number_any (C.length : Int) h (by omega)
  have hN2 := fun h => Number_any (z.length : Int) h (by omega)
  have hsub1 := hd1_sub (k := kd % 16) (by omega)
  have hsub2 := hd1_sub (k := (kd % 16) + 16) (by omega)
  clear ha hb hpl hpk hz hs1 hs2
  generalize sl (frm (kd % 16) C) = P1 at *
  generalize sl (frm ((kd % 16) + 16) z) = P2 at *
  generalize vnum (C.length : Int) = V1 at *
  generalize vnum (z.length : Int) = V2 at *
  generalize encF l [] = E at *
  generalize wrp k1 c1 = W at *
  obtain ⟨E1, E2⟩ := E
  obtain ⟨W1, W2⟩ := W
  dsimp only at hE hW
  refine w_body3 Try.func6 rfl rfl ?_
  repeat' ((fail_if_success (show SWp _ _ (Code.cond (Operand.tmp 44) _ _) _ _ _)); first | apply w_seq | apply w_region | apply o_nil | (apply o_g tyOk; exact rfl; exact rfl) | (apply o_notB; exact rfl; exact rfl) | (apply o_stores tyOk; (iterate 4 exact rfl); (focus (exact ⟨rfl⟩)); (focus (exact up))) | (apply o_alloc tyOk; iterate 5 exact rfl) | (apply o_call; exact rfl; exact rfl; (focus (first | exact rfl | assumption)); exact rfl; (focus (exact ⟨_, awakeF_any _, by repeat (first | with_reducible exact Take.nil | with_reducible apply Take.c | with_reducible apply Take.drop)⟩)); rintro _ _ ⟨rfl, rfl⟩) | (apply o_call; exact rfl; exact rfl; (focus (first | exact rfl | assumption)); exact rfl; (focus (exact ⟨_, hU _, by repeat (first | with_reducible exact Take.nil | with_reducible apply Take.c | with_reducible apply Take.drop)⟩)); rintro _ _ ⟨rfl, rfl⟩) | (apply o_want; exact rfl; exact rfl) | (apply o_gF; (iterate 3 exact rfl); (focus (first | exact ‹_› | with_reducible exact rfl | omega))) | (apply w_false; exact rfl) | (apply w_dF; exact rfl; (focus (first | exact ‹_› | with_reducible exact rfl | omega))) | apply thenS_normal | apply w_skip | ((with_reducible apply Sd.mk); (first | exact True.intro | omega | (constructor <;> first | omega | (unfold maxLen; omega)) | (unfold maxLen; omega) | (simp only [List.length_append, List.length_singleton, List.length_nil, List.length_cons]; omega))) | ((with_reducible apply Ln.mk); (first | rfl | exact ‹_› | omega | (simp ; first | done | omega))) | ((with_reducible apply Pu.mk); (first | exact putAt_all rfl | exact putAt_recZ (fun _ => rfl) (by omega) | exact putAt_rec (fun _ => rfl) (by omega))) | exact True.intro | intro A)
  all_goals first | contradiction | (exfalso; omega) | skip
  refine w_meet (S := SH) (fun _ => [(0, S D), (1, S C), (2, Y kd)]) (fun q => q) (fun _ => True) ?_ ?_
  · rcases hor with ⟨rfl, hw, hn1, hcl⟩ | ⟨rfl, rfl, rfl, rfl⟩
    · obtain ⟨rfl, rfl⟩ := Prod.mk.inj hw
      repeat' (first | apply w_seq | apply w_region | apply o_nil | (apply o_g tyOk; exact rfl; exact rfl) | (apply o_loads tyOk; (iterate 3 exact rfl); (focus (exact pk))) | (apply o_call; exact rfl; exact rfl; (focus (first | exact rfl | assumption)); exact rfl; (focus (exact ⟨_, hW _, by repeat (first | with_reducible exact Take.nil | with_reducible apply Take.c | with_reducible apply Take.drop)⟩)); rintro _ _ ⟨rfl, rfl⟩) | (apply o_want; exact rfl; exact rfl) | (apply o_gF; (iterate 3 exact rfl); (focus (first | exact ‹_› | with_reducible exact rfl | omega))) | (apply w_true; exact rfl) | (apply w_ifN; exact rfl; all_goals intro hc) | apply thenS_normal | apply thenS_ret | apply w_skip | apply w_ret | ((with_reducible apply Sd.mk); (first | exact True.intro | omega | (constructor <;> first | omega | (unfold maxLen; omega)) | (unfold maxLen; omega) | (simp only [List.length_append, List.length_singleton, List.length_nil, List.length_cons]; omega))) | ((with_reducible apply Ln.mk); (first | rfl | exact ‹_› | omega | (simp ; first | done | omega))) | ((with_reducible apply Su.mk); (first | exact hsub1 | exact hsub2 | exact subAt_all | exact subAt_recZ (fun _ => rfl) (by omega) | exact subAt_rec (fun _ => rfl) (by omega))) | exact True.intro | exact rfl)
      all_goals first
        | contradiction
        | (exfalso; omega)
        | exact ⟨_, trivial, (by repeat' (first | exact trivial | refine ⟨rfl, ?_⟩ | refine ⟨congrArg some ?_, ?_⟩)), Take.nil⟩
        | trace_state
    · repeat' (first | apply w_seq | apply w_region | apply o_nil | (apply o_g tyOk; exact rfl; exact rfl) | (apply o_loads tyOk; (iterate 3 exact rfl); (focus (exact pk))) | (apply o_neqs; (iterate 3 exact rfl); (focus (kernel_rfl)); exact rfl; exact rfl; (focus (kernel_rfl)); exact rfl) | (apply o_build tyOk; exact rfl; exact rfl; (focus (first | with_reducible exact pl8 | with_reducible exact pl23)); exact rfl; (focus (repeat (first | exact BuildR.nil | (apply BuildR.one; exact rfl; exact rfl; (first | (focus ((repeat (first | exact SetAt.zero | apply SetAt.succ)); done)) | exact setAt_bytes (by omega) (by omega) | exact setAt_mapZ (by omega) | exact setAt_map (by omega))) | (apply BuildR.agg; exact rfl; exact rfl; (first | exact putAt_all rfl | exact putAt_recZ (fun _ => rfl) (by omega) | exact putAt_rec (fun _ => rfl) (by omega)))))); exact rfl) | (apply o_want; exact rfl; exact rfl) | (apply w_false; exact rfl) | apply thenS_normal | apply w_skip | ((with_reducible apply Sd.mk); (first | exact True.intro | omega | (constructor <;> first | omega | (unfold maxLen; omega)) | (unfold maxLen; omega) | (simp only [List.length_append, List.length_singleton, List.length_nil, List.length_cons]; omega))) | ((with_reducible apply Ln.mk); (first | rfl | exact ‹_› | omega | (simp ; first | done | omega))) | ((with_reducible apply Su.mk); (first | exact hsub1 | exact hsub2 | exact subAt_all | exact subAt_recZ (fun _ => rfl) (by omega) | exact subAt_rec (fun _ => rfl) (by omega))) | exact True.intro | exact rfl)
      all_goals first
        | contradiction
        | (exfalso; omega)
        | exact ⟨_, trivial, (by repeat' (first | exact trivial | refine ⟨rfl, ?_⟩ | refine ⟨congrArg some ?_, ?_⟩)), Take.nil⟩
        | trace_state
  rintro q -
  repeat' ((fail_if_success (show SWp _ _ (Code.cond (Operand.tmp 86) _ _) _ _ _)); first | apply w_seq | apply w_region | apply o_nil | (apply o_g tyOk; exact rfl; exact rfl) | (apply o_call; exact rfl; exact rfl; (focus (first | exact rfl | assumption)); exact rfl; (focus (exact ⟨_, hD _, by repeat (first | with_reducible exact Take.nil | with_reducible apply Take.c | with_reducible apply Take.drop)⟩)); rintro _ _ ⟨v, rfl, hv, ht⟩) | apply thenS_normal | ((with_reducible apply Sd.mk); (first | exact True.intro | omega | (constructor <;> first | omega | (unfold maxLen; omega)) | (unfold maxLen; omega) | (simp only [List.length_append, List.length_singleton, List.length_nil, List.length_cons]; omega))))
  refine w_meet (S := SH) (fun _ => [(1, S C), (2, Y kd)]) (fun q => q) (fun _ => True) ?_ ?_
  · rcases hor2 with ⟨rfl, he⟩ | ⟨rfl, rfl⟩
    · obtain ⟨rfl, rfl⟩ := Prod.mk.inj he
      repeat' (first | apply w_seq | apply w_region | apply o_nil | (apply o_g tyOk; exact rfl; exact rfl) | (apply o_call; exact rfl; exact rfl; (focus (first | exact rfl | assumption)); exact rfl; (focus (exact ⟨_, hE _ _ hv, by repeat (first | with_reducible exact Take.nil | with_reducible apply Take.c | with_reducible apply Take.drop)⟩)); rintro _ _ ⟨rfl, rfl⟩) | (apply o_want; exact rfl; exact rfl) | (apply w_true; exact rfl) | (apply w_ifN; exact rfl; all_goals intro hc) | apply thenS_normal | apply thenS_ret | apply w_skip | apply w_ret | ((with_reducible apply Sd.mk); (first | exact True.intro | omega | (constructor <;> first | omega | (unfold maxLen; omega)) | (unfold maxLen; omega) | (simp only [List.length_append, List.length_singleton, List.length_nil, List.length_cons]; omega))))
      all_goals first
        | contradiction
        | (exfalso; omega)
        | exact ⟨_, trivial, (by repeat' (first | exact trivial | refine ⟨rfl, ?_⟩ | refine ⟨congrArg some ?_, ?_⟩)), Take.nil⟩
        | trace_state
    · repeat' (first | (apply w_false; exact rfl) | apply thenS_normal | apply w_skip)
      all_goals first
        | contradiction
        | (exfalso; omega)
        | exact ⟨_, trivial, (by repeat' (first | exact trivial | refine ⟨rfl, ?_⟩ | refine ⟨congrArg some ?_, ?_⟩)), Take.nil⟩
        | trace_state
  rintro q -
  repeat' ((fail_if_success (show SWp _ _ (Code.seq (Code.region 21 _ _) _) _ _ _)); (fail_if_success (show SWp _ _ (Code.region 21 _ _) _ _ _)); first | apply w_seq | apply w_region | apply o_nil | (apply o_g tyOk; exact rfl; exact rfl) | (apply o_ex; exact rfl; exact rfl) | (apply o_call; exact rfl; exact rfl; (focus (first | exact rfl | assumption)); exact rfl; (focus (exact ⟨_, hL _, by repeat (first | with_reducible exact Take.nil | with_reducible apply Take.c | with_reducible apply Take.drop)⟩)); rintro _ _ ⟨rfl, rfl⟩) | (apply w_false; exact rfl) | apply thenS_normal | apply w_skip | ((with_reducible apply Sd.mk); (first | exact True.intro | omega | (constructor <;> first | omega | (unfold maxLen; omega)) | (unfold maxLen; omega) | (simp only [List.length_append, List.length_singleton, List.length_nil, List.length_cons]; omega))) | ((with_reducible apply Ex.mk); (first | exact Int.tmod_eq_emod_of_nonneg (by omega) | rfl)))
  all_goals first | contradiction | (exfalso; omega) | skip
  rename_i q2
  repeat' (first | apply w_seq | apply w_region | apply o_nil | (apply w_draw; (focus (kernel_rfl)); (focus (kernel_rfl))) | (apply o_g tyOk; exact rfl; exact rfl) | (apply o_ar tyOk; exact rfl; exact rfl) | (apply o_stores tyOk; (iterate 4 exact rfl); (focus (exact ⟨rfl⟩)); (focus (exact up))) | (apply o_alloc tyOk; iterate 5 exact rfl) | (apply o_buildSlice tyOk; (iterate 5 exact rfl); (focus (decide)); exact rfl; (focus (decide)); (focus (repeat (first | exact CatR.nil | exact CatR.last rfl | (apply CatR.one; exact rfl; exact rfl) | (apply CatR.agg; exact rfl)))); exact rfl) | (apply o_toString tyOk; (iterate 6 exact rfl); (focus (exact pk))) | (apply o_callD; (iterate 4 exact rfl); (focus (exact ⟨_, hN1 (lockS q2), by repeat (first | with_reducible exact Take.nil | with_reducible apply take_lock | with_reducible apply Take.c | with_reducible apply Take.drop)⟩)); (focus (exact fun _ _ h => h.1)); (focus ((repeat (first | exact Flat.c rfl | apply flat_tuple | apply flat_agg | exact FlatL.nil | apply FlatL.cons))))) | (apply o_callD; (iterate 4 exact rfl); (focus (exact ⟨_, hS1 (lockS q2), by repeat (first | with_reducible exact Take.nil | with_reducible apply take_lock | with_reducible apply Take.c | with_reducible apply Take.drop)⟩)); (focus (exact fun _ _ h => h.1)); (focus ((repeat (first | exact Flat.c rfl | apply flat_tuple | apply flat_agg | exact FlatL.nil | apply FlatL.cons))))) | (apply o_callD; (iterate 4 exact rfl); (focus (exact ⟨_, hN2 (lockS q2), by repeat (first | with_reducible exact Take.nil | with_reducible apply take_lock | with_reducible apply Take.c | with_reducible apply Take.drop)⟩)); (focus (exact fun _ _ h => h.1)); (focus ((repeat (first | exact Flat.c rfl | apply flat_tuple | apply flat_agg | exact FlatL.nil | apply FlatL.cons))))) | (apply o_callD; (iterate 4 exact rfl); (focus (exact ⟨_, hS2 (lockS q2), by repeat (first | with_reducible exact Take.nil | with_reducible apply take_lock | with_reducible apply Take.c | with_reducible apply Take.drop)⟩)); (focus (exact fun _ _ h => h.1)); (focus ((repeat (first | exact Flat.c rfl | apply flat_tuple | apply flat_agg | exact FlatL.nil | apply FlatL.cons))))) | (apply o_call; exact rfl; exact rfl; (focus (first | exact rfl | assumption)); exact rfl; (focus (exact ⟨_, hA _, by repeat (first | with_reducible exact Take.nil | with_reducible apply take_lock | with_reducible apply Take.c | with_reducible apply Take.drop)⟩)); rintro _ _ ⟨rfl, rfl⟩) | (apply o_call; exact rfl; exact rfl; (focus (first | exact rfl | assumption)); exact rfl; (focus (exact ⟨_, hB _, by repeat (first | with_reducible exact Take.nil | with_reducible apply take_lock | with_reducible apply Take.c | with_reducible apply Take.drop)⟩)); rintro _ _ ⟨rfl, rfl⟩) | (apply o_want; exact rfl; exact rfl) | (apply o_skip; iterate 4 exact rfl) | (apply o_guardT; (iterate 3 exact rfl); all_goals intro hc) | apply thenS_normal | apply w_ret | ((with_reducible apply Sd.mk); (first | exact True.intro | omega | (constructor <;> first | omega | (unfold maxLen; omega)) | (unfold maxLen; omega) | (simp only [List.length_append, List.length_singleton, List.length_nil, List.length_cons]; omega))) | ((with_reducible apply Ln.mk); (first | rfl | exact ‹_› | omega | (simp ; first | done | omega))) | ((with_reducible apply Wr.mk); (first | exact IntWalk.i64_in _ (by omega) | exact IntWalk.u8_in _ (by omega) | exact IntWalk.u32_in _ (by omega) | exact IntWalk.u64_in _ (by omega) | exact IntKind.wrap_u8 _ | exact IntKind.wrap_u32 _ | rfl)) | ((with_reducible apply Pu.mk); (first | exact putAt_all rfl | exact putAt_recZ (fun _ => rfl) (by omega) | exact putAt_rec (fun _ => rfl) (by omega))) | ((with_reducible apply Su.mk); (first | exact hsub1 | exact hsub2 | exact subAt_all | exact subAt_recZ (fun _ => rfl) (by omega) | exact subAt_rec (fun _ => rfl) (by omega))) | exact True.intro | exact Rd.mk ⟨_, hN1 (lockS q2), by repeat (first | with_reducible exact Take.nil | with_reducible apply take_lock | with_reducible apply take_lock | with_reducible apply Take.c | with_reducible apply Take.drop)⟩ | exact Rd.mk ⟨_, hS1 (lockS q2), by repeat (first | with_reducible exact Take.nil | with_reducible apply take_lock | with_reducible apply take_lock | with_reducible apply Take.c | with_reducible apply Take.drop)⟩ | exact Rd.mk ⟨_, hN2 (lockS q2), by repeat (first | with_reducible exact Take.nil | with_reducible apply take_lock | with_reducible apply take_lock | with_reducible apply Take.c | with_reducible apply Take.drop)⟩ | exact Rd.mk ⟨_, hS2 (lockS q2), by repeat (first | with_reducible exact Take.nil | with_reducible apply take_lock | with_reducible apply take_lock | with_reducible apply Take.c | with_reducible apply Take.drop)⟩ | exact Or.inl rfl | apply And.intro | apply Or.inr | intro A | exact rfl)
  all_goals first
    | contradiction
    | (exfalso; omega)
    | (apply s_fin; (exact (show ResS _ _ _ _ [_] from ⟨rfl, trivial⟩)); (focus (exact congrArg Value.bool (decide_eq_true (by rcases hab with ⟨a1, a2, a3⟩ | ⟨a1, a2, a3⟩; rw [decide_eq_true a3, decide_eq_true (by omega)]; rw [decide_eq_false a3, decide_eq_false (by omega)])))); (focus (repeat (first | with_reducible exact Take.nil | with_reducible apply Take.c | with_reducible apply Take.drop))))
    | (exfalso
       rcases hab with ⟨a1, a2, a3⟩ | ⟨a1, a2, a3⟩
       · exact hc (by rw [decide_eq_false a2, decide_eq_false (by omega)])
       · exact hc (by rw [decide_eq_true a2, decide_eq_true (by omega)]))
    | trace_state
end Go.Proofs.Yteaohknkhlnojaa
end
