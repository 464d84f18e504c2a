/- The ghost heap: slices, aggregates, conversions. -/
import Derived.Test.YtinfmojbdaiogaaGhD
set_option linter.unusedVariables false
set_option linter.unusedSimpArgs false
set_option maxRecDepth 4000
namespace Go.Gh
open Go.RowKit

section
variable {P : Program} {N : Fr} {ops : Array Oper} {Q : Post} {rest : List Oper} {o : Oper} {a : AF} {H : Heap}

theorem vrel_of_agg {φ : Nat → Loc} {L : Lens} {vs : List Value} {u : Value} (h : Val φ L (.agg vs.toArray) u) : ∃ us, u = .agg us ∧ VRel φ L vs us := by
  cases h with
  | agg _ us e1 e2 => exact ⟨us, rfl, by have := VRel.of_arrays e1 e2; simpa using this⟩
theorem agg_of_vrel {φ : Nat → Loc} {L : Lens} {vs : List Value} {us : Array Value} (h : VRel φ L vs us) : Val φ L (.agg vs.toArray) (.agg us) := by
  refine .agg _ _ (by simp [h.size]) fun i hi hi' => ?_
  obtain ⟨v', k1, k2⟩ := h.get i vs.toArray[i] (by simp)
  have : v' = us[i] := by rw [Array.getElem?_eq_getElem hi'] at k1; exact (Option.some.inj k1).symm
  rw [← this]; exact k2

/-- A field of one cell of a struct value. -/
theorem a_field (T : TypeId) (x : Operand) (f : Nat) {F fo : Nat} {vs : List Value} {v : Value} (ho : o.op = .field T x f) (hx : ev a x = some (.agg vs.toArray)) (hF : fieldOf P T f = some (F, fo)) (hT : aggT P F = some false)
    (hv : vs[fo]? = some v) : APure P N o a H v := by
  refine ⟨fun B0 w0 φ w ac r hf => ?_⟩
  obtain ⟨us, hu, hr⟩ := vrel_of_agg (ev_rel hf hx)
  obtain ⟨v', g1, g2⟩ := hr.get fo v hv
  refine ⟨v', g2, fun w1 _ => ?_⟩
  unfold fieldOf at hF
  cases hd : P.underlying T with
  | none => rw [hd] at hF; cases hF
  | some d =>
    rw [hd] at hF
    cases d <;> simp only [reduceCtorEq] at hF
    rename_i fs
    cases hfs : fs[f]? with
    | none => rw [hfs] at hF; cases hF
    | some fl =>
      rw [hfs] at hF
      simp only [Option.map_some, Option.some.injEq, Prod.mk.injEq] at hF
      obtain ⟨rfl, rfl⟩ := hF
      unfold execOp
      simp only [ho, hu, Instr.field, Sem.run_bind, run_underlying hd, Result.andThen_ok, hfs, asAgg, Sem.run_pure, part, run_isAgg hT, Bool.false_eq_true, if_false, g1]

/-- A field that is a struct or an array, of a struct value. -/
theorem a_fields (T : TypeId) (x : Operand) (f : Nat) {F fo s b : Nat} {z : Option Value} {vs : List Value} (ho : o.op = .field T x f) (hx : ev a x = some (.agg vs.toArray)) (hF : fieldOf P T f = some (F, fo)) (hT : aggT P F = some true)
    (hI : tinf P F = some (z, s, b)) (hs : fo + s ≤ vs.length) : APure P N o a H (.agg ((vs.drop fo).take s).toArray) := by
  refine ⟨fun B0 w0 φ w ac r hf => ?_⟩
  obtain ⟨us, hu, hr⟩ := vrel_of_agg (ev_rel hf hx)
  refine ⟨.agg (us.extract fo (fo + s)), agg_of_vrel ⟨?_, fun i v hi => ?_⟩, fun w1 _ => ?_⟩
  · simp [hr.size]; omega
  · rw [List.getElem?_take] at hi
    split at hi
    · rename_i hlt
      rw [List.getElem?_drop] at hi
      obtain ⟨v', g1, g2⟩ := hr.get _ v hi
      refine ⟨v', ?_, g2⟩
      rw [Array.getElem?_extract, if_pos (by have := hr.size; omega)]
      exact g1
    · cases hi
  unfold fieldOf at hF
  cases hd : P.underlying T with
  | none => rw [hd] at hF; cases hF
  | some d =>
    rw [hd] at hF
    cases d <;> simp only [reduceCtorEq] at hF
    rename_i fs
    cases hfs : fs[f]? with
    | none => rw [hfs] at hF; cases hF
    | some fl =>
      rw [hfs] at hF
      simp only [Option.map_some, Option.some.injEq, Prod.mk.injEq] at hF
      obtain ⟨rfl, rfl⟩ := hF
      unfold execOp
      simp only [ho, hu, Instr.field, Sem.run_bind, run_underlying hd, Result.andThen_ok, hfs, asAgg, Sem.run_pure, part, run_isAgg hT, if_true, run_sizeOf hI]

/-- An element of one cell of an array value. -/
theorem a_aindex (T : TypeId) (x y : Operand) {len E b : Nat} {z : Option Value} {vs : List Value} {v : Value} {k : IntKind} {i : Int} (ho : o.op = .index T x y) (hx : ev a x = some (.agg vs.toArray)) (hy : ev a y = some (.int k i))
    (hT : P.underlying T = some (.array len E)) (hE : aggT P E = some false) (hI : tinf P E = some (z, 1, b)) (hi : 0 ≤ i ∧ i < len) (hv : vs[i.toNat]? = some v) : APure P N o a H v := by
  refine ⟨fun B0 w0 φ w ac r hf => ?_⟩
  obtain ⟨us, hu, hr⟩ := vrel_of_agg (ev_rel hf hx)
  have h2 := (ev_rel hf hy).scalar rfl
  obtain ⟨v', g1, g2⟩ := hr.get _ v hv
  refine ⟨v', g2, fun w _ => ?_⟩
  unfold execOp
  simp only [ho, hu, h2, Instr.index, asIntOf, Sem.run_bind, Sem.run_pure, Result.andThen_ok, run_underlying hT]
  rw [if_pos hi]
  simp only [Sem.run_bind, run_sizeOf hI, Result.andThen_ok, Nat.mul_one, part, run_isAgg hE, Bool.false_eq_true, if_false, g1, Sem.run_pure]

/-- Parts laid into cells. -/
def gfill (places : Nat → Option (Nat × Nat)) (cells : List Value) : List (Nat × Value) → Option (List Value)
  | [] => some cells
  | (i, v) :: r => match places i with
    | none => none
    | some (off, size) => bif decide (v.cells.size = size) && decide (off + v.cells.size ≤ cells.length) && constOk1 v then gfill places (lset cells off v.cells.toList) r else none
where constOk1 (_ : Value) : Bool := true

def evps (a : AF) : List (Nat × Operand) → Option (List (Nat × Value))
  | [] => some []
  | (i, x) :: r => match ev a x, evps a r with
    | some v, some vs => some ((i, v) :: vs)
    | _, _ => none

theorem cells_vrel {φ : Nat → Loc} {L : Lens} {v u : Value} (h : Val φ L v u) : VRel φ L v.cells.toList u.cells := by
  by_cases hone : one v = true
  · obtain ⟨_, e1, e2⟩ := one_rel h hone
    rw [e1, e2]
    refine ⟨rfl, fun i x hi => ?_⟩
    cases i with
    | zero => simp at hi; subst hi; exact ⟨u, rfl, h⟩
    | succ i => simp at hi
  · cases h with
    | agg _ _ h1 h2 => exact VRel.of_arrays h1 h2
    | tuple c d h1 h2 =>
      refine ⟨rfl, fun i x hi => ?_⟩
      simp only [Value.cells] at hi ⊢
      cases i with
      | zero => simp at hi; subst hi; exact ⟨_, rfl, .tuple _ _ h1 h2⟩
      | succ i => simp at hi
    | _ => exact absurd rfl hone

theorem foldl_writes (vs : Array Value) (cs : Array Value) (off : Nat) : vs.zipIdx.foldl (fun cs (c, j) => cs.setIfInBounds (off + j) c) cs = writesA cs off vs.toList := by
  rw [← Array.foldl_toList, Array.toList_zipIdx]
  generalize vs.toList = l
  have : ∀ (l : List Value) (k : Nat) (cs : Array Value), (l.zipIdx k).foldl (fun cs (x : Value × Nat) => cs.setIfInBounds (off + x.2) x.1) cs = writesA cs (off + k) l := by
    intro l
    induction l with
    | nil => intro k cs; rfl
    | cons v r ih => intro k cs; simp only [List.zipIdx_cons, List.foldl_cons, writesA]; rw [ih]; rfl
  exact this l 0 cs

theorem fill_rel {φ : Nat → Loc} {L : Lens} {N : Fr} {ac : Act} (hf : FRel φ L N a ac) (places : Nat → Option (Nat × Nat)) : ∀ (ps : List (Nat × Operand)) (vs : List (Nat × Value)) (cells : List Value) (us : Array Value) (out : List Value),
    evps a ps = some vs → VRel φ L cells us → gfill places cells vs = some out →
    ∃ os, Instr.fill places us (ps.map fun x => (x.1, ac.eval x.2)) = some os ∧ VRel φ L out os := by
  intro ps
  induction ps with
  | nil =>
    intro vs cells us out h1 h2 h3
    simp only [evps, Option.some.injEq] at h1
    subst h1
    simp only [gfill, Option.some.injEq] at h3
    subst h3
    exact ⟨us, rfl, h2⟩
  | cons p ps ih =>
    obtain ⟨i, x⟩ := p
    intro vs cells us out h1 h2 h3
    simp only [evps] at h1
    cases hx : ev a x with
    | none => rw [hx] at h1; simp at h1
    | some v =>
      cases hr : evps a ps with
      | none => rw [hx, hr] at h1; simp at h1
      | some vr =>
        rw [hx, hr] at h1
        simp only [Option.some.injEq] at h1
        subst h1
        simp only [gfill] at h3
        cases hp : places i with
        | none => rw [hp] at h3; simp at h3
        | some q =>
          obtain ⟨off, size⟩ := q
          rw [hp] at h3
          simp only at h3
          cases hc : (decide (v.cells.size = size) && decide (off + v.cells.size ≤ cells.length) && gfill.constOk1 v) with
          | false => rw [hc] at h3; simp at h3
          | true =>
            rw [hc] at h3
            simp only [cond_true] at h3
            simp only [Bool.and_eq_true] at hc
            have e1 : v.cells.size = size := of_decide_eq_true hc.1.1
            have e2 : off + v.cells.size ≤ cells.length := of_decide_eq_true hc.1.2
            have hv := cells_vrel (ev_rel hf hx)
            have hsz : (ac.eval x).cells.size = v.cells.size := by have := hv.size; simpa using this
            have hus : us.size = cells.length := h2.size
            have hvr : VRel φ L (lset cells off v.cells.toList) (writesA us off (ac.eval x).cells.toList) := by
              refine ⟨by rw [size_writesA, len_lset (by simpa using e2), hus], fun j y hj => ?_⟩
              rw [get_lset (by simpa using e2)] at hj
              rw [get_writesA _ _ _ _ (by simp; omega)]
              simp only [Array.length_toList, hsz] at hj ⊢
              by_cases hin : off ≤ j ∧ j < off + v.cells.size
              · rw [if_pos hin] at hj ⊢
                obtain ⟨y', k1, k2⟩ := hv.get _ y hj
                exact ⟨y', by simpa using k1, k2⟩
              · rw [if_neg hin] at hj ⊢
                exact h2.get j y hj
            obtain ⟨os, g1, g2⟩ := ih vr _ _ out hr hvr h3
            refine ⟨os, ?_, g2⟩
            simp only [List.map_cons, Instr.fill, hp]
            rw [if_neg (by simp only [Bool.or_eq_true, decide_eq_true_eq, not_or]; exact ⟨fun h => h (hsz.trans e1), by rw [hsz]; omega⟩), foldl_writes]
            exact g1

theorem mapFst (ps : List (Nat × Operand)) (ρ : Operand → Value) : (ps.toArray.map fun (i, x) => (i, ρ x)) = (ps.map fun x => (x.1, ρ x.2)).toArray := by simp

/-- The places of a struct's fields. -/
def placesOf (P : Program) (T : TypeId) : Option (List (Nat × Nat)) := match P.underlying T with
  | some (.struct fs) => fs.toList.mapM fun f => (P.info? f.type).map fun i => (f.offset, i.size)
  | _ => none

theorem run_places {P : Program} {w : World} : ∀ (fs : List Field) (pl : List (Nat × Nat)), (fs.mapM fun f => (P.info? f.type).map fun i => (f.offset, i.size)) = some pl →
    (fs.mapM fun f => (do pure (f.offset, ← sizeOf f.type) : Sem (Nat × Nat))).run P w = .ok pl w
  | [], pl, h => by simp at h; subst h; simp
  | f :: fs, pl, h => by
    rw [List.mapM_cons] at h ⊢
    cases hi : P.info? f.type with
    | none => rw [hi] at h; simp at h
    | some i =>
      rw [hi] at h
      cases hm : (fs.mapM fun f => (P.info? f.type).map fun i => (f.offset, i.size)) with
      | none => rw [hm] at h; simp at h
      | some pr =>
        rw [hm] at h
        simp at h
        subst h
        have := run_places (w := w) fs pr hm
        have hsz : (sizeOf f.type).run P w = .ok i.size w := by simp [sizeOf, typeInfo, hi]
        simp only [Sem.run_bind, hsz, Result.andThen_ok, Sem.run_pure, this]

theorem a_build (T : TypeId) (ps : List (Nat × Operand)) {pl : List (Nat × Nat)} {zs : List Value} {s b : Nat} {vs : List (Nat × Value)} {out : List Value} (ho : o.op = .build T ps.toArray) (hv : evps a ps = some vs)
    (hp : placesOf P T = some pl) (hI : tinf P T = some (some (.agg zs.toArray), s, b)) (hz : constOk (.agg zs.toArray) = true) (hout : gfill (fun i : Nat => pl[i]?) zs vs = some out) : APure P N o a H (.agg out.toArray) := by
  refine ⟨fun B0 w0 φ w ac r hf => ?_⟩
  obtain ⟨zs', hz1, hz2⟩ := vrel_of_agg (Val.const (φ := φ) (L := lens H) hz)
  simp only [Value.agg.injEq] at hz1
  subst hz1
  obtain ⟨os, g1, g2⟩ := fill_rel hf (fun i : Nat => pl[i]?) ps vs zs _ out hv hz2 hout
  refine ⟨.agg os, agg_of_vrel g2, fun w _ => ?_⟩
  unfold placesOf at hp
  cases hd : P.underlying T with
  | none => rw [hd] at hp; cases hp
  | some d =>
    rw [hd] at hp
    cases d <;> simp only [reduceCtorEq] at hp
    rename_i fs
    have hpl := run_places (P := P) (w := w) fs.toList pl hp
    unfold execOp
    simp only [ho, Instr.build, Sem.run_bind, run_zeroValue hI, Result.andThen_ok, Value.cells, run_underlying hd]
    rw [Array.mapM_eq_mapM_toList]
    simp only [Sem.run_map, hpl, Result.andThen_ok, mapFst]
    have : (fun i : Nat => (pl.toArray[i]? : Option (Nat × Nat))) = fun i : Nat => pl[i]? := by funext i; simp
    rw [this, g1]
    rfl

/-- A row of zero values, m cells. -/
def zrow (z : Value) (m : Nat) : List Value := (List.range m).map fun i => z.cells.toList.getD (i % z.cells.size) undef
theorem zrow_one {z : Value} (h : one z = true) (m : Nat) : zrow z m = List.replicate m z := by
  have : z.cells = #[z] := by cases z <;> first | rfl | (simp [one] at h)
  unfold zrow
  rw [this]
  apply List.ext_getElem
  · simp
  · intro i h1 h2; simp [Nat.mod_one]
theorem zrow_vrel {φ : Nat → Loc} {L : Lens} {z : Value} (hz : constOk z = true) (m : Nat) (hs : 0 < z.cells.size) :
    VRel φ L (zrow z m) ((Array.range m).map (z.cells[· % z.cells.size]!)) := by
  have hv := cells_vrel (φ := φ) (L := L) (Val.const hz)
  refine ⟨by simp [zrow], fun i v hi => ?_⟩
  unfold zrow at hi
  rw [List.getElem?_map] at hi
  cases hr : (List.range m)[i]? with
  | none => rw [hr] at hi; cases hi
  | some j =>
    have hlt : i < m := by have := (List.getElem?_eq_some_iff.1 hr).1; simpa using this
    have hj : j = i := by have := (List.getElem?_eq_some_iff.1 hr).2; simpa using this.symm
    subst hj
    rw [hr] at hi
    simp only [Option.map_some, Option.some.injEq] at hi
    have hmod : j % z.cells.size < z.cells.size := Nat.mod_lt _ hs
    have hv2 : z.cells.toList[j % z.cells.size]? = some v := by
      rw [← hi, List.getD_eq_getElem?_getD, List.getElem?_eq_getElem (by simpa using hmod)]; rfl
    obtain ⟨v', g1, g2⟩ := hv.get _ v hv2
    refine ⟨v', ?_, g2⟩
    rw [Array.getElem?_map]
    simp only [Array.getElem?_range, hlt, if_true, Option.map_some, Option.some.injEq]
    rw [getElem!_pos z.cells (j % z.cells.size) hmod]
    rw [Array.getElem?_eq_getElem hmod] at g1
    exact Option.some.inj g1

theorem gfill_mono {f g : Nat → Option (Nat × Nat)} (h : ∀ i p, f i = some p → g i = some p) : ∀ {vs : List (Nat × Value)} {zs out : List Value}, gfill f zs vs = some out → gfill g zs vs = some out
  | [], zs, out, k => k
  | (i, v) :: r, zs, out, k => by
    simp only [gfill] at k ⊢
    cases hf : f i with
    | none => rw [hf] at k; cases k
    | some p =>
      rw [hf] at k
      rw [h i p hf]
      obtain ⟨off, size⟩ := p
      simp only at k ⊢
      cases hc : (decide (v.cells.size = size) && decide (off + v.cells.size ≤ zs.length) && gfill.constOk1 v) with
      | false => rw [hc] at k; cases k
      | true => rw [hc] at k; exact gfill_mono h k
def arrPl (n s : Nat) : List (Nat × Nat) := (List.range n).map fun i => (i * s, s)
/-- An array that is written out. -/
theorem a_buildArr (T : TypeId) (ps : List (Nat × Operand)) {n E s s1 b b1 : Nat} {z : Option Value} {zs : List Value} {vs : List (Nat × Value)} {out : List Value} (ho : o.op = .build T ps.toArray) (hv : evps a ps = some vs)
    (hT : P.underlying T = some (.array n E)) (hE : tinf P E = some (z, s, b1)) (hI : tinf P T = some (some (.agg zs.toArray), s1, b)) (hz : constOk (.agg zs.toArray) = true) (hout : gfill (fun i : Nat => (arrPl n s)[i]?) zs vs = some out) : APure P N o a H (.agg out.toArray) := by
  have hout := gfill_mono (g := fun i => some (i * s, s)) (fun i p hp => by
    unfold arrPl at hp
    rw [List.getElem?_map] at hp
    cases hr : (List.range n)[i]? with
    | none => rw [hr] at hp; cases hp
    | some j =>
      rw [hr] at hp
      obtain ⟨h1, h2⟩ := List.getElem?_eq_some_iff.1 hr
      rw [List.getElem_range] at h2
      subst h2; exact hp) hout
  refine ⟨fun B0 w0 φ w ac r hf => ?_⟩
  obtain ⟨zs', hz1, hz2⟩ := vrel_of_agg (Val.const (φ := φ) (L := lens H) hz)
  simp only [Value.agg.injEq] at hz1
  subst hz1
  obtain ⟨os, g1, g2⟩ := fill_rel hf (fun i : Nat => some (i * s, s)) ps vs zs _ out hv hz2 hout
  refine ⟨.agg os, agg_of_vrel g2, fun w _ => ?_⟩
  unfold execOp
  simp only [ho, Instr.build, Sem.run_bind, run_zeroValue hI, Result.andThen_ok, Value.cells, run_underlying hT, run_sizeOf hE, mapFst]
  rw [g1]
  rfl

/-- A slice literal: a new block. -/
theorem e_buildSlice (T : TypeId) (n : Nat) (ps : List (Nat × Operand)) {E s b : Nat} {z : Value} {vs : List (Nat × Value)} {out : List Value} (ho : o.op = .buildSlice T n ps.toArray) (hv : evps a ps = some vs)
    (hT : P.underlying T = some (.slice E)) (hI : tinf P E = some (some z, s, b)) (hz : constOk z = true) (hzs : z.cells.size = s) (hs : 0 < s) (hle : n * s ≤ 16777216)
    (hout : gfill (fun i => some (i * s, s)) (zrow z (n * s)) vs = some out)
    {A0 : Nat} {H' : Heap} (hpl : Place H A0 H' ⟨out, false⟩) : AEff P N o a H (gsl A0 0 (n * s) n s) H' := by
  refine eff_value (fun B0 w0 φ w ac r hf => ?_)
  obtain ⟨os, g1, g2⟩ := fill_rel hf (fun i => some (i * s, s)) ps vs _ _ out hv (zrow_vrel hz (n * s) (by omega)) hout
  have hlen : out.length = n * s := by
    have : ∀ (vs : List (Nat × Value)) (cells out : List Value), gfill (fun i => some (i * s, s)) cells vs = some out → out.length = cells.length := by
      intro vs
      induction vs with
      | nil => intro cells out h; simp only [gfill, Option.some.injEq] at h; rw [h]
      | cons p r ih =>
        intro cells out h
        obtain ⟨i, v⟩ := p
        simp only [gfill] at h
        cases hc : (decide (v.cells.size = s) && decide (i * s + v.cells.size ≤ cells.length) && gfill.constOk1 v) with
        | false => rw [hc] at h; simp at h
        | true =>
          rw [hc] at h
          simp only [cond_true] at h
          simp only [Bool.and_eq_true] at hc
          rw [ih _ _ h, len_lset (by simpa using of_decide_eq_true hc.1.2)]
    rw [this _ _ _ hout]; simp [zrow]
  have hos : os.size = n * s := by rw [g2.size, hlen]
  obtain ⟨h1, h2⟩ := rel_new (w' := { w with heap := w.heap.push (.cells os E) }) r (ro := false) (fz := (0, 0)) hpl g2 rfl rfl rfl rfl (Nat.le_refl _) (fun _ _ => rfl) (fun i _ h => by simp at h)
  have hnm : n ≤ maxLen := by
    have : n ≤ n * s := Nat.le_mul_of_pos_right n hs
    unfold maxLen; omega
  refine ⟨_, .slice (some ⟨w.heap.size, 0, none⟩) n n, _, h1, h2, ?_, ?_⟩
  · refine .slc _ _ _ (n * s) _ _ _ _ ?_ (Nat.le_refl _) (Nat.le_refl _) hnm (fun _ => ⟨by rw [upd_same], fun _ => by rw [upd_same]; simp [hos], by rw [upd_same]⟩)
    rw [hpl.lens]; simp [hlen]
  · unfold execOp
    simp only [ho, Instr.buildSlice, Sem.run_bind, run_underlying hT, Result.andThen_ok, run_sizeOf hI]
    rw [if_neg (by omega)]
    by_cases h0 : n * s = 0
    · rw [if_pos h0]
      have : n = 0 := by rcases Nat.mul_eq_zero.1 h0 with h | h <;> omega
      subst this
      have e0 : (Array.range (0 * s)).map (fun x => z.cells[x % z.cells.size]!) = #[] := by simp
      have e1 : (Array.range (0 * s)).map (fun x => (#[] : Array Value)[x % (#[] : Array Value).size]!) = #[] := by simp
      rw [e0] at g1
      simp only [Sem.run_pure, Result.andThen_ok, mapFst, e1, g1, Sem.run_bind, newRow, run_newObj]
    · rw [if_neg h0]
      simp only [Sem.run_bind, run_zeroValue hI, Result.andThen_ok, Sem.run_pure, mapFst, g1, newRow, run_newObj]

theorem madeCells_rel {φ : Nat → Loc} {L : Lens} {z : Value} (hz : constOk z = true) (m : Nat) (hs : 0 < z.cells.size) : VRel φ L (zrow z m) (madeCells z.cells m) := zrow_vrel hz m hs

/-- make([]T, n), make([]T, n, c). -/
theorem e_makeSlice (T : TypeId) (x y : Operand) {E s b : Nat} {z : Value} {j k : IntKind} {n c : Int} (ho : o.op = .makeSlice T x y) (hx : ev a x = some (.int j n)) (hy : ev a y = some (.int k c))
    (hT : P.underlying T = some (.slice E)) (hI : tinf P E = some (some z, s, b)) (hz : constOk z = true) (hzs : z.cells.size = s) (hs : 0 < s) (hn : 0 ≤ n ∧ n ≤ c ∧ (b : Int) * c ≤ 281474976710656 ∧ c ≤ 9223372036854775807)
    {A0 : Nat} {H' : Heap} (hpl : Place H A0 H' ⟨zrow z (n.toNat * s), false⟩) : AEff P N o a H (gsl A0 0 (n.toNat * s) n.toNat s) H' := by
  refine eff_value (fun B0 w0 φ w ac r hf => ?_)
  have h1 := (ev_rel hf hx).scalar rfl
  have h2 := (ev_rel hf hy).scalar rfl
  obtain ⟨i, hi, e1, e2, e3⟩ := tinf_some hI
  subst e2 e3
  have hrun := run_make (P := P) w T E i z hT hi e1 j k n c hn.1 hn.2.1 hn.2.2.1 hn.2.2.2
  have hle : n.toNat * i.size ≤ c.toNat * i.size := Nat.mul_le_mul_right _ (by omega)
  have hv : VRel φ (lens H) (zrow z (n.toNat * i.size)) ((madeCells z.cells (c.toNat * i.size)).extract 0 (n.toNat * i.size)) := by
    have hm := madeCells_rel (φ := φ) (L := lens H) hz (n.toNat * i.size) (by omega)
    have : (madeCells z.cells (c.toNat * i.size)).extract 0 (n.toNat * i.size) = madeCells z.cells (n.toNat * i.size) := by
      apply Array.ext
      · simp only [Array.size_extract, size_madeCells]; omega
      · intro q h1 h2; simp [madeCells]
    rw [this]; exact hm
  obtain ⟨g1, g2⟩ := rel_new (w' := w.alloc (.cells (madeCells z.cells (c.toNat * i.size)) E)) r (ro := false) (fz := (0, 0)) (c := madeCells z.cells (c.toNat * i.size)) hpl hv rfl rfl rfl rfl
    (by simp only [Array.size_extract, size_madeCells]; omega) (fun q hq => by
      simp only [Array.size_extract, size_madeCells] at hq
      rw [Array.getElem?_extract, if_pos (by rw [size_madeCells]; omega), Nat.zero_add]) (fun i _ h => by simp at h)
  refine ⟨_, .slice (some ⟨w.heap.size, 0, none⟩) n.toNat c.toNat, _, g1, g2, ?_, ?_⟩
  · refine .slc _ _ _ (n.toNat * i.size) _ _ _ _ ?_ (Nat.le_refl _) (by omega) (by unfold maxLen; omega) (fun _ => ⟨by rw [upd_same], fun _ => by rw [upd_same]; simp [madeCells], by rw [upd_same]⟩)
    rw [hpl.lens]; simp [zrow]
  · unfold execOp
    simp only [ho, h1, h2, Sem.run_bind, hrun, Result.andThen_ok, Sem.run_pure]

end
end Go.Gh
