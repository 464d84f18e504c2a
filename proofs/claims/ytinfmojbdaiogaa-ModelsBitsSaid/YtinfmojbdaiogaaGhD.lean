/- The ghost heap: operations on memory. -/
import Derived.Test.YtinfmojbdaiogaaGhC
set_option linter.unusedVariables false
set_option linter.unusedSimpArgs false
set_option maxRecDepth 4000
namespace Go.Gh
open Go.RowKit

/-- A pointer to cell o of block A, which has n cells; a slice of block A from cell o on. -/
abbrev gptr (A o n : Nat) : Value := .pointer (some ⟨A, o, some n⟩)
abbrev gsl (A o n len fl : Nat) : Value := .slice (some ⟨A, o, some n⟩) len fl
abbrev sempty : Value := .slice (some ⟨0, 0, none⟩) 0 0

def writesA (c : Array Value) (o : Nat) : List Value → Array Value
  | [] => c
  | v :: r => writesA (c.setIfInBounds o v) (o + 1) r

theorem size_writesA : ∀ (vs : List Value) (c : Array Value) (o : Nat), (writesA c o vs).size = c.size
  | [], _, _ => rfl
  | v :: r, c, o => by rw [writesA, size_writesA r]; simp

theorem get_writesA : ∀ (vs : List Value) (c : Array Value) (o i : Nat), o + vs.length ≤ c.size →
    (writesA c o vs)[i]? = if o ≤ i ∧ i < o + vs.length then vs[i - o]? else c[i]?
  | [], c, o, i, _ => by
    rw [writesA, if_neg (by simp only [List.length_nil]; omega)]
  | v :: r, c, o, i, h => by
    simp only [List.length_cons] at h
    rw [writesA, get_writesA r _ _ _ (by simp; omega)]
    simp only [List.length_cons]
    by_cases h1 : i = o
    · subst h1
      rw [if_neg (by omega), if_pos (by omega), Nat.sub_self, List.getElem?_cons_zero]
      rw [Array.getElem?_setIfInBounds_self_of_lt (by omega)]
    · by_cases h2 : o + 1 ≤ i ∧ i < o + 1 + r.length
      · rw [if_pos h2, if_pos (by omega), show i - o = (i - (o + 1)) + 1 from by omega, List.getElem?_cons_succ]
      · rw [if_neg h2, if_neg (by omega), Array.getElem?_setIfInBounds_ne (by omega)]

structure Wrote (w w' : World) (b : Nat) (c : Array Value) (T : TypeId) (fz : Nat × Nat) : Prop where
  os : w'.os = w.os
  tape : w'.tape = w.tape
  output : w'.output = w.output
  size : w'.heap.size = w.heap.size
  block : w'.heap[b]? = some (.cells c T fz)
  oth : ∀ k, k ≠ b → w'.heap[k]? = w.heap[k]?

theorem wrote_setCell {w : World} {b o : Nat} {v : Value} {c : Array Value} {T : TypeId} {fz : Nat × Nat} (h : w.heap[b]? = some (.cells c T fz)) :
    Wrote w (w.setCell ⟨b, o, none⟩ v) b (c.setIfInBounds o v) T fz := by
  refine ⟨rfl, rfl, rfl, by simp [World.setCell], ?_, fun k hk => ?_⟩
  · simp only [World.setCell]
    rw [Array.getElem?_modify, if_pos rfl, h]
    simp
  · simp only [World.setCell]
    rw [Array.getElem?_modify, if_neg (by omega)]

theorem wrote_setCells : ∀ (vs : List Value) (w : World) (b o : Nat) (c : Array Value) (T : TypeId) (fz : Nat × Nat), w.heap[b]? = some (.cells c T fz) →
    Wrote w (w.setCells b o vs) b (writesA c o vs) T fz
  | [], w, b, o, c, T, fz, h => ⟨rfl, rfl, rfl, rfl, h, fun _ _ => rfl⟩
  | v :: r, w, b, o, c, T, fz, h => by
    have h1 := wrote_setCell (o := o) (v := v) h
    have h2 := wrote_setCells r _ b (o + 1) _ T fz h1.block
    exact ⟨h2.os.trans h1.os, h2.tape.trans h1.tape, h2.output.trans h1.output, h2.size.trans h1.size, h2.block, fun k hk => (h2.oth k hk).trans (h1.oth k hk)⟩

theorem cell_of {w : World} {b : Nat} {c : Array Value} {T : TypeId} {fz : Nat × Nat} (h : w.heap[b]? = some (.cells c T fz)) (i : Nat) : w.cell? ⟨b, i, none⟩ = c[i]? := by
  simp [World.cell?, h]
theorem frozen_of {w : World} {b : Nat} {c : Array Value} {T : TypeId} {fz : Nat × Nat} (h : w.heap[b]? = some (.cells c T fz)) (i : Nat) : w.frozen? ⟨b, i, none⟩ = (fz.1 ≤ i && i < fz.2) := by
  simp [World.frozen?, h]

theorem addr_add (b o n : Nat) : (⟨b, o, none⟩ : Addr).add n = ⟨b, o + n, none⟩ := by
  unfold Addr.add; split <;> simp_all

theorem run_storeCells_in {P : Program} {w : World} {b : Nat} {c : Array Value} {T : TypeId} {fz : Nat × Nat} {o : Nat} {vs : List Value} (h : w.heap[b]? = some (.cells c T fz))
    (hfit : o + vs.length ≤ c.size) (hfz : ∀ i, i < c.size → ¬ (fz.1 ≤ i ∧ i < fz.2)) (h1 : ∀ v ∈ vs, v.oneCell' = true) :
    (storeCells ⟨b, o, none⟩ vs).run P w = .ok () (w.setCells b o vs) := by
  have := run_storeCells_cells (P := P) b o vs 0 w (fun j hj => by rw [cell_of h]; simp; omega) (fun j hj => by
    rw [frozen_of h]
    have := hfz (o + 0 + j) (by omega)
    simp only [Bool.and_eq_false_iff, decide_eq_false_iff_not]
    omega) h1
  simpa using this

/-- The cells of a value that is one. -/
def one (v : Value) : Bool := match v with
  | .agg _ | .tuple _ => false
  | _ => true
theorem one_rel {φ : Nat → Loc} {L : Lens} {v v' : Value} (h : Val φ L v v') (ho : one v = true) : v'.oneCell' = true ∧ v'.cells = #[v'] ∧ v.cells = #[v] := by
  cases h <;> first | (simp [one] at ho; done) | exact ⟨rfl, rfl, rfl⟩

def aggT (P : Program) (T : TypeId) : Option Bool := match P.underlying T with
  | some (.struct _) | some (.array _ _) => some true
  | some _ => some false
  | none => none

theorem run_isAgg {P : Program} {T : TypeId} {b : Bool} (h : aggT P T = some b) (w : World) : (isAgg T).run P w = .ok b w := by
  unfold aggT at h
  cases hu : P.underlying T with
  | none => rw [hu] at h; cases h
  | some d =>
    rw [hu] at h
    unfold isAgg
    simp only [Sem.run_bind, run_underlying hu, Result.andThen_ok]
    cases d <;> (simp at h; subst h; rfl)

/-- What the type's row of the table says: the zero value, the cells, the bytes. -/
def tinf (P : Program) (T : TypeId) : Option (Option Value × Nat × Nat) := (P.info? T).map fun i => (i.zero, i.size, i.bytes)

theorem tinf_some {P : Program} {T : TypeId} {z : Option Value} {s b : Nat} (h : tinf P T = some (z, s, b)) : ∃ i, P.info? T = some i ∧ i.zero = z ∧ i.size = s ∧ i.bytes = b := by
  unfold tinf at h
  cases hi : P.info? T with
  | none => rw [hi] at h; cases h
  | some i =>
    rw [hi] at h
    simp only [Option.map_some, Option.some.injEq, Prod.mk.injEq] at h
    exact ⟨i, rfl, h.1, h.2.1, h.2.2⟩

theorem run_sizeOf {P : Program} {T : TypeId} {z : Option Value} {s b : Nat} (h : tinf P T = some (z, s, b)) (w : World) : (sizeOf T).run P w = .ok s w := by
  obtain ⟨i, hi, _, h2, _⟩ := tinf_some h
  simp [sizeOf, typeInfo, hi, h2]
theorem run_zeroValue {P : Program} {T : TypeId} {z : Value} {s b : Nat} (h : tinf P T = some (some z, s, b)) (w : World) : (zeroValue T).run P w = .ok z w := by
  obtain ⟨i, hi, h1, _, _⟩ := tinf_some h
  simp [zeroValue, typeInfo, hi, h1]

section
variable {P : Program} {N : Fr} {ops : Array Oper} {Q : Post} {rest : List Oper} {o : Oper} {a : AF} {H : Heap}

/-- The cells behind a ghost pointer, as the model has them. -/
theorem ptr_cells {B0 : Nat} {w0 : World} {φ : Nat → Loc} {w : World} (_r : Rel B0 w0 φ H w) {A off n : Nat} {g : Blk} (hA : H[A]? = some (some g)) (hn : g.cells.length = n)
    {u : Value} (hu : Val φ (lens H) (gptr A off n) u) :
    u = .pointer (some ⟨(φ A).b, (φ A).base + off, none⟩) ∧ (φ A).mp = false := by
  cases hu with
  | ptr _ _ _ m c hL hv h =>
    rw [lens_of hA] at hL
    simp only [Option.some.injEq] at hL
    obtain ⟨h1, h2⟩ := h (by omega)
    exact ⟨by rw [h1], h2⟩

theorem cells_rel {B0 : Nat} {w0 : World} {φ : Nat → Loc} {w : World} (r : Rel B0 w0 φ H w) {A : Nat} {g : Blk} (hA : H[A]? = some (some g)) (hmp : (φ A).mp = false) (off : Nat) {vs : List Value}
    (hc : ∀ (i : Nat) v, vs[i]? = some v → g.cells[off + i]? = some v) :
    ∃ us : List Value, VRel φ (lens H) vs us.toArray ∧ ∀ j u, us[j]? = some u → w.cell? ((⟨(φ A).b, (φ A).base + off, none⟩ : Addr).add j) = some u := by
  obtain ⟨c, T, fz, h1, h2, h3, h4, h5⟩ := (r.blk A g hA).ex hmp
  induction vs generalizing off with
  | nil => exact ⟨[], ⟨rfl, fun i v h => by simp at h⟩, fun j u h => by simp at h⟩
  | cons v vs ih =>
    obtain ⟨us, g1, g2⟩ := ih (off + 1) (fun i x hx => by rw [show off + 1 + i = off + (i + 1) from by omega]; exact hc (i + 1) x (by simpa using hx))
    obtain ⟨v', g3, g4⟩ := h5 off v (by have := hc 0 v (by simp); simpa using this)
    refine ⟨v' :: us, ⟨by have := g1.size; simp at this ⊢; exact this, fun i x hx => ?_⟩, fun j u hu => ?_⟩
    · cases i with
      | zero => simp only [List.getElem?_cons_zero, Option.some.injEq] at hx; subst hx; exact ⟨v', by simp, g4⟩
      | succ i =>
        obtain ⟨x', k1, k2⟩ := g1.get i x (by simpa using hx)
        exact ⟨x', by simpa using k1, k2⟩
    · rw [addr_add, cell_of h1]
      cases j with
      | zero => simp only [List.getElem?_cons_zero, Option.some.injEq] at hu; subst hu; simpa using g3
      | succ j =>
        have := g2 j u (by simpa using hu)
        rw [addr_add, cell_of h1] at this
        rw [show (φ A).base + off + (j + 1) = (φ A).base + (off + 1) + j from by omega]
        exact this

theorem cells_later {B0 : Nat} {w0 : World} {φ : Nat → Loc} {w w1 : World} (r : Rel B0 w0 φ H w) {A : Nat} {g : Blk} (hA : H[A]? = some (some g)) (off : Nat) {us : List Value} (hb : Below w.heap.size w w1)
    (h : ∀ (j : Nat) u, us[j]? = some u → w.cell? ((⟨(φ A).b, off, none⟩ : Addr).add j) = some u) : ∀ (j : Nat) u, us[j]? = some u → w1.cell? ((⟨(φ A).b, off, none⟩ : Addr).add j) = some u := by
  intro j u hu
  have := h j u hu
  rw [addr_add] at this ⊢
  rw [hb.cell (p := ⟨(φ A).b, off + j, none⟩) (r.lt hA)]
  exact this

theorem e_alloc (T : TypeId) {z : Value} {s b : Nat} (ho : o.op = .alloc T) (hI : tinf P T = some (some z, s, b)) (hz : constOk z = true)
    {A0 : Nat} {H' : Heap} (hpl : Place H A0 H' ⟨z.cells.toList, false⟩) : AEff P N o a H (gptr A0 0 z.cells.size) H' := by
  refine eff_value (fun B0 w0 φ w ac r hf => ?_)
  have hv : VRel φ (lens H) z.cells.toList z.cells := by
    refine ⟨by simp, fun i v hi => ⟨v, by simpa using hi, ?_⟩⟩
    have hzr : Val φ (lens H) z z := Val.const hz
    have key : ∀ cs : Array Value, (∀ i (h : i < cs.size) (h' : i < cs.size), Val φ (lens H) cs[i] cs[i]) → cs.toList[i]? = some v → Val φ (lens H) v v := by
      intro cs h hi
      have hlt : i < cs.size := by have := (List.getElem?_eq_some_iff.1 hi).1; simpa using this
      have : v = cs[i] := by have := (List.getElem?_eq_some_iff.1 hi).2; simpa using this.symm
      rw [this]; exact h i hlt hlt
    by_cases hone : one z = true
    · rw [(one_rel hzr hone).2.2] at hi
      cases i with
      | zero => simp at hi; subst hi; exact hzr
      | succ i => simp at hi
    · cases hzr with
      | agg _ _ h1 h2 => exact key _ h2 hi
      | tuple =>
        simp only [Value.cells] at hi
        cases i with
        | zero => simp at hi; subst hi; exact Val.const hz
        | succ i => simp at hi
      | _ => exact absurd rfl hone
  obtain ⟨h1, h2⟩ := rel_new (w' := { w with heap := w.heap.push (.cells z.cells T) }) r (ro := false) (fz := (0, 0)) hpl hv rfl rfl rfl rfl (Nat.le_refl _) (fun _ _ => rfl) (fun i _ h => by simp at h)
  refine ⟨_, .pointer (some ⟨w.heap.size, 0, none⟩), _, h1, h2, ?_, ?_⟩
  · refine .ptr _ _ _ z.cells.size _ ?_ (Nat.le_refl _) (fun _ => by rw [upd_same]; exact ⟨rfl, rfl⟩)
    rw [hpl.lens]; simp
  · unfold execOp
    simp only [ho, Instr.alloc, Sem.run_bind, run_zeroValue hI, Result.andThen_ok, newVar, newRow, run_newObj, Sem.run_pure]

theorem e_box (T : TypeId) (x : Operand) {v : Value} (ho : o.op = .box T x) (hx : ev a x = some v)
    {A0 : Nat} {H' : Heap} (hpl : Place H A0 H' ⟨v.cells.toList, false⟩) : AEff P N o a H (gptr A0 0 v.cells.size) H' := by
  refine eff_value (fun B0 w0 φ w ac r hf => ?_)
  have hvr := ev_rel hf hx
  generalize hu : ac.eval x = u at hvr
  have hv : VRel φ (lens H) v.cells.toList u.cells := by
    by_cases hone : one v = true
    · obtain ⟨_, e1, e2⟩ := one_rel hvr hone
      rw [e1, e2]
      refine ⟨rfl, fun i x hi => ?_⟩
      cases i with
      | zero => simp at hi; subst hi; exact ⟨u, rfl, hvr⟩
      | succ i => simp at hi
    · cases hvr with
      | agg _ _ h1 h2 => exact VRel.of_arrays h1 h2
      | tuple c d h1 h2 =>
        refine ⟨rfl, fun i x hi => ?_⟩
        simp only [Value.cells] at hi ⊢
        cases i with
        | zero => simp at hi; subst hi; exact ⟨_, rfl, .tuple _ _ h1 h2⟩
        | succ i => simp at hi
      | _ => exact absurd rfl hone
  obtain ⟨h1, h2⟩ := rel_new (w' := { w with heap := w.heap.push (.cells u.cells T) }) r (ro := false) (fz := (0, 0)) hpl hv rfl rfl rfl rfl (Nat.le_refl _) (fun _ _ => rfl) (fun i _ h => by simp at h)
  refine ⟨_, .pointer (some ⟨w.heap.size, 0, none⟩), _, h1, h2, ?_, ?_⟩
  · refine .ptr _ _ _ v.cells.size _ ?_ (Nat.le_refl _) (fun _ => by rw [upd_same]; exact ⟨rfl, rfl⟩)
    rw [hpl.lens]; simp
  · unfold execOp
    simp only [ho, Instr.box, Sem.run_bind, newVar, newRow, run_newObj, Result.andThen_ok, Sem.run_pure, hu]

/-- A load of one cell. -/
theorem a_load (T : TypeId) (x : Operand) {A off n : Nat} {g : Blk} {v : Value} (ho : o.op = .load T x) (hx : ev a x = some (gptr A off n)) (hT : aggT P T = some false)
    (hA : H[A]? = some (some g)) (hn : g.cells.length = n) (hc : g.cells[off]? = some v) : APure P N o a H v := by
  refine ⟨fun B0 w0 φ w ac r hf => ?_⟩
  obtain ⟨hu, hmp⟩ := ptr_cells r hA hn (ev_rel hf hx)
  obtain ⟨us, g1, g2⟩ := cells_rel r hA hmp off (vs := [v]) (fun i u hi => by
    cases i with
    | zero => simp at hi; subst hi; simpa using hc
    | succ i => simp at hi)
  obtain ⟨v', g3, g4⟩ := g1.get 0 v rfl
  refine ⟨v', g4, fun w1 hb => ?_⟩
  have g5 := cells_later r hA _ hb g2 0 v' (by simpa using g3)
  rw [addr_add, Nat.add_zero] at g5
  unfold execOp
  simp only [ho, hu, Instr.loadAt, Instr.sureAddr, Sem.run_bind, Sem.run_pure, Result.andThen_ok, loadVar, run_isAgg hT, Bool.false_eq_true, if_false, run_load, g5]

/-- A load of a struct or an array. -/
theorem a_loads (T : TypeId) (x : Operand) {A off n s b : Nat} {z : Option Value} {g : Blk} {vs : List Value} (ho : o.op = .load T x) (hx : ev a x = some (gptr A off n)) (hT : aggT P T = some true)
    (hI : tinf P T = some (z, s, b)) (hA : H[A]? = some (some g)) (hn : g.cells.length = n) (hs : vs.length = s) (hc : ∀ (i : Nat) v, vs[i]? = some v → g.cells[off + i]? = some v) : APure P N o a H (.agg vs.toArray) := by
  refine ⟨fun B0 w0 φ w ac r hf => ?_⟩
  obtain ⟨hu, hmp⟩ := ptr_cells r hA hn (ev_rel hf hx)
  obtain ⟨us, g1, g2⟩ := cells_rel r hA hmp off hc
  have hl : us.length = s := by have := g1.size; simp at this; omega
  refine ⟨.agg us.toArray, .agg _ _ (by have := g1.size; simp at this ⊢; omega) (fun i h h' => ?_), fun w1 hb => ?_⟩
  · obtain ⟨v', k1, k2⟩ := g1.get i vs.toArray[i] (by simp)
    have : v' = us.toArray[i] := by rw [Array.getElem?_eq_getElem h'] at k1; exact (Option.some.inj k1).symm
    rw [← this]; exact k2
  · have hload := run_loadCells_list (P := P) w1 _ us (cells_later r hA _ hb g2)
    rw [hl] at hload
    unfold execOp
    simp only [ho, hu, Instr.loadAt, Instr.sureAddr, Sem.run_bind, Sem.run_pure, Result.andThen_ok, loadVar, run_isAgg hT, if_true, run_sizeOf hI, hload]

/-- A whole block that is a struct or an array. -/
theorem a_loadw (T : TypeId) (x : Operand) {A n b : Nat} {z : Option Value} {g : Blk} (ho : o.op = .load T x) (hx : ev a x = some (gptr A 0 n)) (hT : aggT P T = some true)
    (hI : tinf P T = some (z, n, b)) (hA : H[A]? = some (some g)) (hn : g.cells.length = n) : APure P N o a H (.agg g.cells.toArray) :=
  a_loads T x ho hx hT hI hA hn hn (fun i v h => by rw [Nat.zero_add]; exact h)

/-- Cells written over in a list. -/
def lset (l : List Value) (o : Nat) (vs : List Value) : List Value := l.take o ++ vs ++ l.drop (o + vs.length)
theorem len_lset {l vs : List Value} {o : Nat} (h : o + vs.length ≤ l.length) : (lset l o vs).length = l.length := by
  simp [lset]; omega
theorem get_lset {l vs : List Value} {o : Nat} (h : o + vs.length ≤ l.length) (i : Nat) : (lset l o vs)[i]? = if o ≤ i ∧ i < o + vs.length then vs[i - o]? else l[i]? := by
  have ht : (l.take o).length = o := by simp; omega
  unfold lset
  by_cases h1 : i < o
  · rw [if_neg (by omega), List.getElem?_append_left (by simp; omega), List.getElem?_append_left (by omega), List.getElem?_take, if_pos h1]
  · by_cases h2 : i < o + vs.length
    · rw [if_pos (by omega), List.getElem?_append_left (by simp; omega), List.getElem?_append_right (by omega), ht]
    · rw [if_neg (by omega), List.getElem?_append_right (by simp; omega), List.getElem?_drop]
      congr 1
      simp
      omega

/-- What a store into a block of the ghost's own does. -/
theorem store_rel {B0 : Nat} {w0 : World} {φ : Nat → Loc} {w : World} (r : Rel B0 w0 φ H w) {A off : Nat} {cells vs us : List Value} (hA : H[A]? = some (some ⟨cells, false⟩)) (hmp : (φ A).mp = false)
    (hfit : off + vs.length ≤ cells.length) (hv : VRel φ (lens H) vs us.toArray) (h1 : ∀ u ∈ us, u.oneCell' = true) :
    ∃ φ' w', (storeCells ⟨(φ A).b, (φ A).base + off, none⟩ us).run P w = .ok () w' ∧ Ext φ (lens H) φ' (lens (H.set A (some ⟨lset cells off vs, false⟩))) ∧ Rel B0 w0 φ' (H.set A (some ⟨lset cells off vs, false⟩)) w' := by
  obtain ⟨c, T, fz, k1, k2, k3, k4, k5⟩ := (r.blk A _ hA).ex hmp
  obtain ⟨_, hbase⟩ := r.own A _ hA rfl
  have hul : us.length = vs.length := by have := hv.size; simpa using this
  simp only at k3 k5
  have hrun := run_storeCells_in (P := P) (o := (φ A).base + off) (vs := us) k1 (by omega) (k4 rfl) h1
  have hw := wrote_setCells us w (φ A).b ((φ A).base + off) c T fz k1
  refine ⟨upd φ A (φ A), _, hrun, ?_⟩
  have hupd : upd φ A (φ A) = φ := by funext B; unfold upd; split <;> simp_all
  refine rel_set r hA rfl hw.os hw.tape hw.output (by rw [hw.size]; exact Nat.le_refl _) (fun k _ hk => hw.oth k hk) (.inl rfl) hbase hmp hmp hw.block (by rw [size_writesA]; exact k2)
    (by rw [size_writesA, len_lset hfit]; omega) (by rw [size_writesA]; exact k4 rfl) (.inl ⟨len_lset hfit, rfl⟩) ?_
  intro i v hi
  have hl : lens (H.set A (some ⟨lset cells off vs, false⟩)) = lens H := by
    funext B
    by_cases e : B = A
    · subst e; rw [lens_set_eq (List.getElem?_eq_some_iff.1 hA).1, lens_of hA]; simp [len_lset hfit]
    · exact lens_set_ne e
  rw [hupd, hl]
  rw [get_writesA _ _ _ _ (by omega), hbase, Nat.zero_add]
  simp only at hi
  rw [get_lset hfit] at hi
  rw [hul]
  by_cases hin : off ≤ i ∧ i < off + vs.length
  · rw [if_pos hin] at hi
    rw [if_pos hin]
    obtain ⟨v', g1, g2⟩ := hv.get _ v hi
    exact ⟨v', by simpa using g1, g2⟩
  · rw [if_neg hin] at hi
    rw [if_neg hin]
    obtain ⟨v', g1, g2⟩ := k5 i v hi
    rw [hbase, Nat.zero_add] at g1
    exact ⟨v', g1, g2⟩

/-- A store of one cell. -/
theorem e_store (T : TypeId) (x y : Operand) {A off n b : Nat} {z : Option Value} {cells : List Value} {v : Value} (ho : o.op = .store T x y) (hx : ev a x = some (gptr A off n)) (hy : ev a y = some v)
    (h1 : one v = true) (hI : tinf P T = some (z, 1, b)) (hA : H[A]? = some (some ⟨cells, false⟩)) (hn : cells.length = n) (hoff : Nat.blt off n = true)
    : AEff P N o a H undef (H.set A (some ⟨cells.set off v, false⟩)) := by
  have hoff := Nat.le_of_ble_eq_true hoff
  have hset : lset cells off [v] = cells.set off v := by
    simp only [lset, List.length_singleton]
    rw [List.set_eq_take_append_cons_drop, if_pos (by omega)]
    simp
  rw [← hset]
  refine eff_unit (fun B0 w0 φ w ac r hf => ?_)
  obtain ⟨hu, hmp⟩ := ptr_cells r hA hn (ev_rel hf hx)
  have hvr := ev_rel hf hy
  generalize hv : ac.eval y = u at hvr
  obtain ⟨e1, e2, _⟩ := one_rel hvr h1
  obtain ⟨φ', w', g1, g2, g3⟩ := store_rel (P := P) (off := off) (vs := [v]) (us := [u]) r hA hmp (by simp; omega) ⟨rfl, fun i x hi => by
    cases i with
    | zero => simp at hi; subst hi; exact ⟨u, rfl, hvr⟩
    | succ i => simp at hi⟩ (fun x hx => by simp at hx; subst hx; exact e1)
  refine ⟨φ', w', g2, g3, ?_⟩
  unfold execOp
  simp only [ho, hu, hv, Instr.storeAt, Instr.sureAddr, Sem.run_bind, Sem.run_pure, Result.andThen_ok, storeVar, e2, run_sizeOf hI, List.size_toArray, List.length_singleton, ne_eq, not_true_eq_false, if_false, g1]

/-- A store of a struct or an array. -/
theorem e_stores (T : TypeId) (x y : Operand) {A off n s b : Nat} {z : Option Value} {cells vs : List Value} (ho : o.op = .store T x y) (hx : ev a x = some (gptr A off n)) (hy : ev a y = some (.agg vs.toArray))
    (h1 : vs.all one = true) (hI : tinf P T = some (z, s, b)) (hs : vs.length = s) (hA : H[A]? = some (some ⟨cells, false⟩)) (hn : cells.length = n) (hoff : Nat.ble (off + s) n = true)
    : AEff P N o a H undef (H.set A (some ⟨lset cells off vs, false⟩)) := by
  have hoff := Nat.le_of_ble_eq_true hoff
  refine eff_unit (fun B0 w0 φ w ac r hf => ?_)
  obtain ⟨hu, hmp⟩ := ptr_cells r hA hn (ev_rel hf hx)
  have hvr := ev_rel hf hy
  generalize hv : ac.eval y = u at hvr
  cases hvr with
  | agg _ us e1 e2 =>
    have hvv : VRel φ (lens H) vs us := by have := VRel.of_arrays e1 e2; simpa using this
    obtain ⟨φ', w', g1, g2, g3⟩ := store_rel (P := P) (off := off) (vs := vs) (us := us.toList) r hA hmp (by omega) (by simpa using hvv) (fun x hx => by
      obtain ⟨i, hi, rfl⟩ := List.getElem_of_mem hx
      have hi' : i < us.size := by simpa using hi
      have hvl : i < vs.length := by have := hvv.size; omega
      obtain ⟨v', k1, k2⟩ := hvv.get i vs[i] (by simp [hvl])
      rw [Array.getElem?_eq_getElem hi'] at k1
      simp only [Option.some.injEq] at k1
      have := (one_rel k2 ((List.all_eq_true.1 h1) vs[i] (List.getElem_mem hvl))).1
      rw [← k1] at this
      simpa using this)
    refine ⟨φ', w', g2, g3, ?_⟩
    have hsz : us.size = s := by rw [hvv.size, hs]
    unfold execOp
    simp only [ho, hu, hv, Instr.storeAt, Instr.sureAddr, Sem.run_bind, Sem.run_pure, Result.andThen_ok, storeVar, Value.cells, run_sizeOf hI, hsz, ne_eq, not_true_eq_false, if_false, g1]

def fieldOf (P : Program) (T : TypeId) (f : Nat) : Option (TypeId × Nat) := match P.underlying T with
  | some (.struct fs) => (fs[f]?).map fun x => (x.type, x.offset)
  | _ => none

theorem a_fieldAddr (T : TypeId) (x : Operand) (f : Nat) {A off n F fo s b : Nat} {z : Option Value} (ho : o.op = .fieldAddr T x f) (hx : ev a x = some (gptr A off n)) (hF : fieldOf P T f = some (F, fo))
    (hI : tinf P F = some (z, s, b)) (hs : s ≠ 0) : APure P N o a H (gptr A (off + fo) n) := by
  refine ⟨fun B0 w0 φ w ac r hf => ?_⟩
  have hu := ev_rel hf hx
  generalize hv : ac.eval x = u at hu
  unfold fieldOf at hF
  cases hu with
  | ptr _ _ _ m c hL hle h =>
    refine ⟨.pointer (some (c.add fo)), .ptr _ _ _ m _ hL hle (fun e => ⟨by rw [(h e).1, addr_add, Nat.add_assoc], (h e).2⟩), fun w _ => ?_⟩
    cases hd : P.underlying T with
    | none => rw [hd] at hF; cases hF
    | some d =>
      rw [hd] at hF
      cases d <;> simp only [reduceCtorEq] at hF
      rename_i fs
      cases hfs : fs[f]? with
      | none => rw [hfs] at hF; cases hF
      | some fl =>
        rw [hfs] at hF
        simp only [Option.map_some, Option.some.injEq, Prod.mk.injEq] at hF
        obtain ⟨rfl, rfl⟩ := hF
        unfold execOp
        simp only [ho, hv, Instr.fieldAt, Sem.run_bind, run_underlying hd, Result.andThen_ok, hfs, Instr.sureAddr, Sem.run_pure, fieldPlace, run_sizeOf hI, hs, if_false]

/-- The address of an element of a slice. -/
theorem a_idxAddr (T : TypeId) (x y : Operand) {A off n len fl E s b : Nat} {z : Option Value} {k : IntKind} {i : Int} (ho : o.op = .indexAddr T x y) (hx : ev a x = some (gsl A off n len fl)) (hy : ev a y = some (.int k i))
    (hT : P.underlying T = some (.slice E)) (hI : tinf P E = some (z, s, b)) (hi : 0 ≤ i ∧ i < len) : APure P N o a H (gptr A (off + i.toNat * s) n) := by
  refine ⟨fun B0 w0 φ w ac r hf => ?_⟩
  have hu := ev_rel hf hx
  have h2 := (ev_rel hf hy).scalar rfl
  generalize hv : ac.eval x = u at hu
  cases hu with
  | slc _ _ _ m _ _ cap c hL hle hc hm h =>
    refine ⟨.pointer (some (c.add (i.toNat * s))), .ptr _ _ _ m _ hL hle (fun e => ⟨by rw [(h e).1, addr_add, Nat.add_assoc], (h e).2.2⟩), fun w _ => ?_⟩
    unfold execOp
    simp only [ho, hv, h2, Instr.indexAt, asIntOf, Sem.run_bind, Sem.run_pure, run_underlying hT, Result.andThen_ok]
    rw [if_pos hi]
    simp only [Sem.run_bind, run_sizeOf hI, Result.andThen_ok, Sem.run_pure]

/-- The address of an element of an array. -/
theorem a_aidxAddr (T : TypeId) (x y : Operand) {A off n len E s b : Nat} {z : Option Value} {k : IntKind} {i : Int} (ho : o.op = .indexAddr T x y) (hx : ev a x = some (gptr A off n)) (hy : ev a y = some (.int k i))
    (hT : P.underlying T = some (.array len E)) (hI : tinf P E = some (z, s, b)) (hi : 0 ≤ i ∧ i < len) : APure P N o a H (gptr A (off + i.toNat * s) n) := by
  refine ⟨fun B0 w0 φ w ac r hf => ?_⟩
  have hu := ev_rel hf hx
  have h2 := (ev_rel hf hy).scalar rfl
  generalize hv : ac.eval x = u at hu
  cases hu with
  | ptr _ _ _ m c hL hle h =>
    refine ⟨.pointer (some (c.add (i.toNat * s))), .ptr _ _ _ m _ hL hle (fun e => ⟨by rw [(h e).1, addr_add, Nat.add_assoc], (h e).2⟩), fun w _ => ?_⟩
    unfold execOp
    simp only [ho, hv, h2, Instr.indexAt, asIntOf, Sem.run_bind, Sem.run_pure, run_underlying hT, Result.andThen_ok, Instr.sureAddr]
    rw [if_pos hi]
    simp only [Sem.run_bind, run_sizeOf hI, Result.andThen_ok, Sem.run_pure]

end
end Go.Gh
