/- The ghost heap: regions whose order is drawn, equality of structs, forgetting and renaming of blocks. -/
import Derived.Test.YtinfmojbdaiogaaGhF
set_option linter.unusedVariables false
set_option linter.unusedSimpArgs false
set_option maxRecDepth 4000
namespace Go.Gh
open Go.RowKit

/-! Regions that draw -/
theorem Rel.later {B0 : Nat} {w0 : World} {φ : Nat → Loc} {H : Heap} {w w1 : World} (r : Rel B0 w0 φ H w) (hb : Below w.heap.size w w1) : Rel B0 w0 φ H w1 := by
  refine ⟨r.below.trans (hb.mono (Nat.le_trans r.b0 r.below.size)), r.b0, fun A g hA => ?_, r.own, r.inj⟩
  obtain ⟨o, c, h1, h2⟩ := (r.blk A g hA).any
  exact ⟨o, c, by rw [hb.block _ (r.lt hA)]; exact h1, h2⟩

def Blk.lock (g : Blk) : Blk := ⟨g.cells, true⟩
def lock (H : Heap) : Heap := H.map (Option.map Blk.lock)
theorem lens_lock (H : Heap) : lens (lock H) = lens H := by
  funext A
  simp only [lens, lock, List.getElem?_map]
  cases H[A]? with
  | none => rfl
  | some x => cases x <;> rfl
theorem get_lock {H : Heap} {A : Nat} {g : Blk} (h : H[A]? = some (some g)) : (lock H)[A]? = some (some g.lock) := by simp [lock, h]

theorem Rel.locked {B0 : Nat} {w0 : World} {φ : Nat → Loc} {H : Heap} {w : World} (r : Rel B0 w0 φ H w) : Rel w.heap.size w φ (lock H) w := by
  have key : ∀ (A : Nat) (g : Blk), (lock H)[A]? = some (some g) → g.ro = true ∧ ∃ g', H[A]? = some (some g') ∧ g.cells = g'.cells := by
    intro A g hA
    simp only [lock, List.getElem?_map] at hA
    cases h : H[A]? with
    | none => rw [h] at hA; cases hA
    | some x =>
      cases x with
      | none => rw [h] at hA; cases hA
      | some g' =>
        rw [h] at hA
        simp only [Option.map_some, Option.some.injEq] at hA
        subst hA
        exact ⟨rfl, g', rfl, rfl⟩
  refine ⟨Below.refl _ _, Nat.le_refl _, fun A g hA => ?_, fun A g hA hro => ?_, fun A A' g _ hA hro => ?_⟩
  · obtain ⟨hro, g', h1, h2⟩ := key A g hA
    obtain ⟨o, c, k1, k2, k3, k5⟩ := (r.blk A g' h1).any
    refine ⟨o, c, k1, ?_, by rw [h2]; exact k3, by rw [h2, lens_lock]; exact k5⟩
    cases k2 with
    | cells hm hs hf => exact .cells hm hs fun h => by rw [hro] at h; cases h
    | map hm hb hl => exact .map hm hb (by rw [h2]; exact hl)
  · rw [(key A g hA).1] at hro; cases hro
  · rw [(key A g hA).1] at hro; cases hro

section
variable {P : Program} {N : Fr} {ops : Array Oper} {rest : List Oper} {o : Oper} {a : AF} {H : Heap}

/-- The lexical walk of a region whose operations leave the ghost heap alone. -/
structure AQ (P : Program) (N : Fr) (ops : Array Oper) (Q : AF → Prop) (l : List Oper) (a : AF) (H : Heap) : Prop where
  go : ∀ B0 w0 φ w ac, Rel B0 w0 φ H w → FRel φ (lens H) N a ac →
    wpQuiet P ops (fun w1 => Below w.heap.size w w1) (fun ac' => ∃ a', FRel φ (lens H) N a' ac' ∧ Q a') l ac

theorem awp_draw {id : Nat} {Q : Post} (hm : P.follows .mixedOrders = true) (hB : Region.lexB .any ops = true) (h : AQ P N ops (fun a' => Q .normal a' H) ops.toList a H) :
    AWp P N (.region id ops true) Q a H := by
  unfold AWp
  intro B0 w0 φs Ls φ w ac hdm he hr hf
  refine wp_region_quiet (C := fun w1 => Below w.heap.size w w1) hm hB ((Below.refl _ _).drew) ?_
  have := h.go B0 w0 φ w ac hr hf
  have mono : ∀ (l : List Oper) (ac : Act) (Q1 Q2 : Act → Prop), (∀ a, Q1 a → Q2 a) → wpQuiet P ops (fun w1 => Below w.heap.size w w1) Q1 l ac → wpQuiet P ops (fun w1 => Below w.heap.size w w1) Q2 l ac := by
    intro l
    induction l with
    | nil => intro ac Q1 Q2 h1 h2; exact h1 _ h2
    | cons o l ih =>
      intro ac Q1 Q2 h1 h2
      simp only [wpQuiet] at h2 ⊢
      split at h2
      · rename_i hw; rw [if_pos hw]; exact Oper.quiet_mono (fun a => ih a Q1 Q2 h1) h2
      · rename_i hw; rw [if_neg hw]; exact ih _ Q1 Q2 h1 h2
  refine mono _ _ _ _ ?_ this
  rintro ac' ⟨a', h1, h2⟩ w' hw'
  exact ⟨φ, a', H, he, hr.later hw', h1, h2⟩

variable {Q : AF → Prop}

theorem aq_nil (h : Q a) : AQ P N ops Q [] a H := ⟨fun _ _ _ _ _ _ hf => ⟨a, hf, h⟩⟩

/-- One operation at its turn. -/
structure AQO (P : Program) (N : Fr) (o : Oper) (ops : Array Oper) (rest : List Oper) (Q : AF → Prop) (a : AF) (H : Heap) : Prop where
  go : ∀ B0 w0 φ w ac, Rel B0 w0 φ H w → FRel φ (lens H) N a ac →
    o.quiet P ac (fun w1 => Below w.heap.size w w1) (wpQuiet P ops (fun w1 => Below w.heap.size w w1) (fun ac' => ∃ a', FRel φ (lens H) N a' ac' ∧ Q a') rest)

theorem aq_plain {dst : Option Tmp} {op : Op} {ty : TypeId} {pos : String} {aft : Array Edge} (h : AQO P N ⟨dst, op, ty, pos, aft, none⟩ ops rest Q a H) : AQ P N ops Q (⟨dst, op, ty, pos, aft, none⟩ :: rest) a H := by
  refine ⟨fun B0 w0 φ w ac hr hf => ?_⟩
  simp only [wpQuiet]
  rw [if_pos (by simp [Region.wanted])]
  exact h.go B0 w0 φ w ac hr hf

theorem aq_want {dst : Option Tmp} {op : Op} {ty : TypeId} {pos : String} {aft : Array Edge} {j : Nat} {want : Bool} {d : Nat} {b : Bool} (hd : (ops[j]?).bind (·.dst) = some d) (hb : get a d = some (.bool b)) (e : b = want)
    (h : AQO P N ⟨dst, op, ty, pos, aft, some (j, want)⟩ ops rest Q a H) : AQ P N ops Q (⟨dst, op, ty, pos, aft, some (j, want)⟩ :: rest) a H := by
  refine ⟨fun B0 w0 φ w ac hr hf => ?_⟩
  simp only [wpQuiet]
  rw [if_pos (by simp only [Region.wanted]; rw [yielded_of hf hd hb, e]; simp)]
  exact h.go B0 w0 φ w ac hr hf

theorem aq_skip {t : Nat} {op : Op} {ty : TypeId} {pos : String} {aft : Array Edge} {j : Nat} {want : Bool} {d : Nat} {b : Bool} (hd : (ops[j]?).bind (·.dst) = some d) (hb : get a d = some (.bool b)) (e : b = !want)
    (hN : Nat.blt t N.sz = true) (h : AQ P N ops Q rest ((t, undef) :: a) H) : AQ P N ops Q (⟨some t, op, ty, pos, aft, some (j, want)⟩ :: rest) a H := by
  refine ⟨fun B0 w0 φ w ac hr hf => ?_⟩
  simp only [wpQuiet]
  rw [if_neg (by simp only [Region.wanted]; rw [yielded_of hf hd hb, e]; cases want <;> simp)]
  exact h.go B0 w0 φ w _ hr (hf.put (dst := some t) (fun d hd => by simp only [Option.some.injEq] at hd; subst hd; exact Nat.le_of_ble_eq_true hN) undef_rel)

theorem aq_skip_undef {t : Nat} {op : Op} {ty : TypeId} {pos : String} {aft : Array Edge} {j : Nat} {want : Bool} {d : Nat} (hd : (ops[j]?).bind (·.dst) = some d) (hb : get a d = some undef)
    (hN : Nat.blt t N.sz = true) (h : AQ P N ops Q rest ((t, undef) :: a) H) : AQ P N ops Q (⟨some t, op, ty, pos, aft, some (j, want)⟩ :: rest) a H := by
  refine ⟨fun B0 w0 φ w ac hr hf => ?_⟩
  simp only [wpQuiet]
  obtain ⟨v', h1, h2⟩ := hf.slot d _ hb
  have := Val.det rfl h2
  subst this
  rw [if_neg (by simp [Region.wanted, yielded, hd, h1, undef])]
  exact h.go B0 w0 φ w _ hr (hf.put (dst := some t) (fun d hd => by simp only [Option.some.injEq] at hd; subst hd; exact Nat.le_of_ble_eq_true hN) undef_rel)

theorem aq_guardT {t : Nat} {op : Op} {ty : TypeId} {pos : String} {aft : Array Edge} {j : Nat} {d : Nat} {p : Prop} [Decidable p] (hd : (ops[j]?).bind (·.dst) = some d) (hb : get a d = some (.bool (decide p)))
    (hN : Nat.blt t N.sz = true) (h1 : p → AQO P N ⟨some t, op, ty, pos, aft, some (j, true)⟩ ops rest Q a H) (h2 : ¬ p → AQ P N ops Q rest ((t, undef) :: a) H) : AQ P N ops Q (⟨some t, op, ty, pos, aft, some (j, true)⟩ :: rest) a H := by
  by_cases hp : p
  · exact aq_want hd hb (decide_eq_true hp) (h1 hp)
  · exact aq_skip hd hb (decide_eq_false hp) hN (h2 hp)
theorem aq_guardF {t : Nat} {op : Op} {ty : TypeId} {pos : String} {aft : Array Edge} {j : Nat} {d : Nat} {p : Prop} [Decidable p] (hd : (ops[j]?).bind (·.dst) = some d) (hb : get a d = some (.bool (decide p)))
    (hN : Nat.blt t N.sz = true) (h1 : ¬ p → AQO P N ⟨some t, op, ty, pos, aft, some (j, false)⟩ ops rest Q a H) (h2 : p → AQ P N ops Q rest ((t, undef) :: a) H) : AQ P N ops Q (⟨some t, op, ty, pos, aft, some (j, false)⟩ :: rest) a H := by
  by_cases hp : p
  · exact aq_skip hd hb (decide_eq_true hp) hN (h2 hp)
  · exact aq_want hd hb (decide_eq_false hp) (h1 hp)

theorem aq_of {t : Nat} {op : Op} {ty : TypeId} {pos : String} {aft : Array Edge} {gd : Option (Nat × Bool)} {v : Value} (h : APure P N ⟨some t, op, ty, pos, aft, gd⟩ a H v) (hN : Nat.blt t N.sz = true)
    (k : AQ P N ops Q rest ((t, v) :: a) H) : AQO P N ⟨some t, op, ty, pos, aft, gd⟩ ops rest Q a H := by
  refine ⟨fun B0 w0 φ w ac hr hf => ?_⟩
  obtain ⟨v', h1, h2⟩ := h.go B0 w0 φ w ac hr hf
  refine ⟨v', fun w1 hw1 => ?_, k.go B0 w0 φ w _ hr (hf.put (dst := some t) (fun d hd => by simp only [Option.some.injEq] at hd; subst hd; exact Nat.le_of_ble_eq_true hN) h1)⟩
  unfold Oper.quietAt
  rw [h2 w1 hw1]
  exact ⟨rfl, rfl⟩

/-- A call that leaves the ghost heap alone and hands back a value without addresses. -/
theorem aq_call {t : Nat} {x : Operand} {xs : List Operand} {ts : Array TypeId} {ty : TypeId} {pos : String} {aft : Array Edge} {gd : Option (Nat × Bool)} {f : FuncId} {first captured : Array Value} {as : List Value} {v : Value}
    (hx : ev a x = some (.func (.func f) first captured)) (hxs : evs a xs = some as) (hf : enters P f = true) (hN : Nat.blt t N.sz = true) (hc : constOk v = true)
    (hr : Run P f (first.toList ++ as ++ captured.toList) (lock H) (fun r _ => r = v))
    (k : AQ P N ops Q rest ((t, v) :: a) H) : AQO P N ⟨some t, .call { callee := .value x, args := xs.toArray, argTypes := ts }, ty, pos, aft, gd⟩ ops rest Q a H := by
  refine ⟨fun B0 w0 φ w ac hrel hfr => ?_⟩
  have h1 := ev_rel hfr hx
  have h2 := evs_rel hfr hxs
  refine ⟨v, fun w1 hw1 => ?_, k.go B0 w0 φ w _ hrel (hfr.put (dst := some t) (fun d hd => by simp only [Option.some.injEq] at hd; subst hd; exact Nat.le_of_ble_eq_true hN) (Val.const hc))⟩
  generalize hu : ac.eval x = u at h1
  cases h1 with
  | func _ _ b _ d e1 e2 e3 e4 =>
    have hv := ((VRel.of_arrays e1 e2).append h2).append (VRel.of_arrays e3 e4)
    unfold Oper.quietAt execOp
    simp only [resolve, List.map_toArray, hu, Deferred.ofValue, Sem.run_bind, Sem.run_pure, Result.andThen_ok, invoke]
    rw [run_callFunc_enters hf]
    refine ⟨rfl, ?_⟩
    have hl := (hrel.later hw1).locked
    unfold Run at hr
    refine (hr _ _ φ (lens (lock H)) φ w1 _ (.refl _ _) hl (by rw [lens_lock]; exact hv)).mono ?_
    rintro e w' ⟨φ', r, H', v', g1, g2, rfl, g4, rfl⟩
    exact ⟨by rw [Val.det hc g4], hw1.trans (g2.below.mono hw1.size)⟩

end

/-! Equality of structs -/
def cellsEqB : List Value → List Value → Bool
  | .int _ a :: r, .int _ b :: s => decide (a = b) && cellsEqB r s
  | .bool a :: r, .bool b :: s => decide (a = b) && cellsEqB r s
  | .string a :: r, .string b :: s => decide (a.data.toList = b.data.toList) && cellsEqB r s
  | _, _ => true
def cellsLike : List Value → List Value → Bool
  | [], [] => true
  | .int k _ :: r, .int k' _ :: s => decide (k = k') && cellsLike r s
  | .bool _ :: r, .bool _ :: s => cellsLike r s
  | .string _ :: r, .string _ :: s => cellsLike r s
  | _, _ => false

/-- A struct whose fields are n scalars, one cell each. -/
def flatB (P : Program) (T : TypeId) (n : Nat) : Bool :=
  (match P.underlying T with | some (.struct _) => true | _ => false) && decide ((P.fieldsOf T).toList.length = n) && !P.stoodInHeld T && !P.eqGuardType P.depth T &&
  (P.fieldsOf T).toList.zipIdx.all fun (f, i) => f.name != "_" && f.offset == i &&
    (match P.underlying f.type with | some .bool | some (.int _) | some .string => true | _ => false)

theorem eqFields_flat {P : Program} {w : World} (d : Nat) (xs ys : Array Value) : ∀ (fs : List Field) (k : Nat),
    (fs.zipIdx k).all (fun (f, i) => f.name != "_" && f.offset == i && (match P.underlying f.type with | some .bool | some (.int _) | some .string => true | _ => false)) = true →
    xs.size = k + fs.length → ys.size = k + fs.length → cellsLike (xs.toList.drop k) (ys.toList.drop k) = true →
    (∀ (i : Nat) (f : Field), fs[i]? = some f → ∀ u v, xs[k + i]? = some u → ys[k + i]? = some v → (match P.underlying f.type, u with | some .bool, .bool _ => true | some (.int _), .int _ _ => true | some .string, .string _ => true | _, _ => false) = true) →
    (Op.eqFields (d + 1) xs ys fs).run P w = .ok (cellsEqB (xs.toList.drop k) (ys.toList.drop k)) w
  | [], k, _, hx, hy, _, _ => by
    rw [List.drop_of_length_le (by simp; simp at hx; omega)]
    rfl
  | f :: fs, k, hall, hx, hy, hlike, hty => by
    simp only [List.length_cons] at hx hy
    have hkx : k < xs.toList.length := by simp; omega
    have hky : k < ys.toList.length := by simp; omega
    have ex : xs.toList.drop k = xs[k]'(by simpa using hkx) :: xs.toList.drop (k + 1) := by rw [List.drop_eq_getElem_cons hkx]; simp
    have ey : ys.toList.drop k = ys[k]'(by simpa using hky) :: ys.toList.drop (k + 1) := by rw [List.drop_eq_getElem_cons hky]; simp
    simp only [List.zipIdx_cons, List.all_cons, Bool.and_eq_true, bne_iff_ne, ne_eq, beq_iff_eq] at hall
    obtain ⟨⟨⟨hname, hoff⟩, hT⟩, hrest⟩ := hall
    have ih := eqFields_flat (P := P) (w := w) d xs ys fs (k + 1) hrest (by omega) (by omega)
    have gx : xs[k]? = some (xs[k]'(by simpa using hkx)) := by simp
    have gy : ys[k]? = some (ys[k]'(by simpa using hky)) := by simp
    have hty0 := hty 0 f rfl _ _ (by rw [Nat.add_zero]; exact gx) (by rw [Nat.add_zero]; exact gy)
    have hag : aggT P f.type = some false := by
      unfold aggT
      revert hT
      cases P.underlying f.type with
      | none => simp
      | some q => cases q <;> simp
    unfold Op.eqFields
    rw [if_pos hname]
    simp only [Sem.run_bind, part, run_isAgg hag, Result.andThen_ok, Bool.false_eq_true, if_false, hoff, gx, gy, Sem.run_pure]
    rw [ex, ey] at hlike ⊢
    generalize xs[k]'(by simpa using hkx) = u at *
    generalize ys[k]'(by simpa using hky) = v at *
    have hty' : ∀ (i : Nat) (f : Field), fs[i]? = some f → ∀ u v, xs[k + 1 + i]? = some u → ys[k + 1 + i]? = some v → (match P.underlying f.type, u with | some .bool, .bool _ => true | some (.int _), .int _ _ => true | some .string, .string _ => true | _, _ => false) = true :=
      fun i f hf u v h1 h2 => hty (i + 1) f (by simpa using hf) u v (by rw [show k + (i + 1) = k + 1 + i from by omega]; exact h1) (by rw [show k + (i + 1) = k + 1 + i from by omega]; exact h2)
    have fin : ∀ b : Bool, (Op.equalIn (d + 1) f.type u v).run P w = .ok b w → cellsLike (xs.toList.drop (k + 1)) (ys.toList.drop (k + 1)) = true →
        ((Op.equalIn (d + 1) f.type u v).run P w).andThen (fun r w => (if (!r) = true then pure false else Op.eqFields (d + 1) xs ys fs : Sem Bool).run P w) = .ok (b && cellsEqB (xs.toList.drop (k + 1)) (ys.toList.drop (k + 1))) w := by
      intro b hb hl
      rw [hb]
      cases b with
      | false => simp
      | true => simpa using ih hl hty'
    cases hu : P.underlying f.type with
    | none => rw [hu] at hT; simp at hT
    | some q =>
      rw [hu] at hty0
      cases u <;> cases v <;> (first | (simp [cellsLike] at hlike; done) | skip) <;> cases q <;> (first | (simp at hty0; done) | skip)
      · simp only [cellsLike] at hlike
        simp only [cellsEqB]
        refine fin _ ?_ hlike
        simp only [Op.equalIn, Sem.run_bind, run_underlying hu, Result.andThen_ok, Sem.run_pure, beql]
      · simp only [cellsLike, Bool.and_eq_true, decide_eq_true_eq] at hlike
        simp only [cellsEqB]
        refine fin _ ?_ hlike.2
        simp only [Op.equalIn, Sem.run_bind, run_underlying hu, Result.andThen_ok, if_pos hlike.1, Sem.run_pure]
        rfl
      · simp only [cellsLike] at hlike
        simp only [cellsEqB]
        refine fin _ ?_ hlike
        simp only [Op.equalIn, Sem.run_bind, run_underlying hu, Result.andThen_ok, Sem.run_pure]
        rw [beq_toListBytes, ByteArray.toList_eq, ByteArray.toList_eq]
        congr 1
        rw [Bool.eq_iff_iff]; simp

theorem run_equal_flat {P : Program} {T : TypeId} {xs ys : Array Value} {n : Nat} {w : World} (hT : flatB P T n = true) (hx : xs.size = n) (hy : ys.size = n) (hl : cellsLike xs.toList ys.toList = true)
    (hk : ∀ (i : Nat) (f : Field), (P.fieldsOf T).toList[i]? = some f → ∀ u v, xs[i]? = some u → ys[i]? = some v → (match P.underlying f.type, u with | some .bool, .bool _ => true | some (.int _), .int _ _ => true | some .string, .string _ => true | _, _ => false) = true) :
    (Op.equal T (.agg xs) (.agg ys)).run P w = .ok (cellsEqB xs.toList ys.toList) w := by
  unfold flatB at hT
  simp only [Bool.and_eq_true, decide_eq_true_eq, Bool.not_eq_true'] at hT
  obtain ⟨⟨⟨⟨h1, h2⟩, h3⟩, h4⟩, h5⟩ := hT
  have hst : P.underlying T = some (.struct (P.fieldsOf T)) := by
    unfold Program.fieldsOf
    cases hu : P.underlying T with
    | none => rw [hu] at h1; simp at h1
    | some d => rw [hu] at h1; cases d <;> first | rfl | (simp at h1)
  show (Op.equalIn (9999 + 1) T _ _).run P w = _
  rw [run_equalIn_struct w 9999 T xs ys hst h3]
  have := eqFields_flat (P := P) (w := w) 9998 xs ys (P.fieldsOf T).toList 0 h5 (by omega) (by omega) (by simpa using hl) (fun i f hf u v hu hv => hk i f hf u v (by simpa using hu) (by simpa using hv))
  simpa using this

section
variable {P : Program} {N : Fr} {o : Oper} {a : AF} {H : Heap}

/-- The kinds of the fields and of the cells agree. -/
def kindsB (P : Program) (T : TypeId) (xs : List Value) : Bool :=
  (P.fieldsOf T).toList.zipIdx.all fun (f, i) => match P.underlying f.type, xs[i]? with
    | some .bool, some (.bool _) => true | some (.int _), some (.int _ _) => true | some .string, some (.string _) => true | _, _ => false

theorem det_cells {φ : Nat → Loc} {L : Lens} : ∀ {xs ys : List Value}, cellsLike xs ys = true → ∀ {us : Array Value}, VRel φ L xs us → us = xs.toArray := by
  intro xs
  induction xs with
  | nil => intro ys _ us h; have := h.size; simp at this; simpa using this
  | cons x r ih =>
    intro ys hl us h
    obtain ⟨u, g1, g2⟩ := h.get 0 x rfl
    have hx : scalar x = true ∧ ∃ s, cellsLike r s = true := by
      cases ys with
      | nil => cases x <;> simp [cellsLike] at hl
      | cons y s =>
        cases x <;> cases y <;> (first | (simp [cellsLike] at hl; done) | skip)
        · exact ⟨rfl, s, by simpa [cellsLike] using hl⟩
        · refine ⟨rfl, s, ?_⟩
          simp only [cellsLike, Bool.and_eq_true] at hl
          exact hl.2
        · exact ⟨rfl, s, by simpa [cellsLike] using hl⟩
    obtain ⟨hs, s, hr⟩ := hx
    have hu := g2.scalar hs
    subst hu
    have ht : us.toList.tail.toArray = r.toArray := ih hr ⟨by have := h.size; simp at this ⊢; omega, fun i v hi => by
      obtain ⟨v', k1, k2⟩ := h.get (i + 1) v (by simpa using hi)
      exact ⟨v', by simpa using k1, k2⟩⟩
    apply Array.ext'
    have hne : us.toList ≠ [] := by intro e; have := h.size; simp [← Array.length_toList, e] at this
    obtain ⟨z, zs, hz⟩ := List.exists_cons_of_ne_nil hne
    have e1 : us[0]? = some z := by rw [← Array.getElem?_toList, hz]; rfl
    rw [e1] at g1
    rw [hz] at ht ⊢
    simp at ht g1
    simp [ht, g1]

theorem eqs_aux {φ : Nat → Loc} {ac : Act} (hf : FRel φ (lens H) N a ac) {x : Operand} {xs ys : List Value} (hx : ev a x = some (.agg xs.toArray)) (hl : cellsLike xs ys = true) : ac.eval x = .agg xs.toArray := by
  obtain ⟨us, h1, h2⟩ := vrel_of_agg (ev_rel hf hx)
  rw [h1, det_cells hl h2]

theorem cellsLike_symm : ∀ {xs ys : List Value}, cellsLike xs ys = true → cellsLike ys xs = true := by
  intro xs
  induction xs with
  | nil => intro ys h; cases ys with
    | nil => rfl
    | cons y s => simp [cellsLike] at h
  | cons x r ih =>
    intro ys h
    cases ys with
    | nil => cases x <;> simp [cellsLike] at h
    | cons y s =>
      cases x <;> cases y <;> (first | (simp [cellsLike] at h; done) | skip)
      · simp only [cellsLike] at h ⊢; exact ih h
      · simp only [cellsLike, Bool.and_eq_true, decide_eq_true_eq] at h ⊢; exact ⟨h.1.symm, ih h.2⟩
      · simp only [cellsLike] at h ⊢; exact ih h

theorem guard_flat {T : TypeId} {x y : Operand} {xs ys : Array Value} {n : Nat} {op : BinOp} {w : World} (hT : flatB P T n = true) : (eqGuard op T x y (.agg xs) (.agg ys)).run P w = .ok () w := by
  unfold flatB at hT
  simp only [Bool.and_eq_true, Bool.not_eq_true'] at hT
  unfold eqGuard
  cases op <;> simp [hT.1.2]

theorem kinds_of {T : TypeId} {xs : List Value} (hk : kindsB P T xs = true) : ∀ (i : Nat) (f : Field), (P.fieldsOf T).toList[i]? = some f → ∀ u v : Value, xs.toArray[i]? = some u → (ys : Array Value) → ys[i]? = some v →
    (match P.underlying f.type, u with | some .bool, .bool _ => true | some (.int _), .int _ _ => true | some .string, .string _ => true | _, _ => false) = true := by
  intro i f hf u v hu ys hv
  unfold kindsB at hk
  have := (List.all_eq_true.1 hk) (f, i) (by rw [List.mem_zipIdx_iff_getElem?]; simpa using hf)
  simp only at this
  have hu' : xs[i]? = some u := by simpa using hu
  rw [hu'] at this
  cases hq : P.underlying f.type with
  | none => rw [hq] at this; simp at this
  | some q => rw [hq] at this; cases q <;> cases u <;> simp at this ⊢

theorem a_eqs (T U : TypeId) (x y : Operand) {n : Nat} {xs ys : List Value} (ho : o.op = .binOp .eql T x y U) (hx : ev a x = some (.agg xs.toArray)) (hy : ev a y = some (.agg ys.toArray))
    (hT : flatB P T n = true) (hn : xs.length = n) (hm : ys.length = n) (hl : cellsLike xs ys = true) (hk : kindsB P T xs = true) : APure P N o a H (.bool (decide (cellsEqB xs ys = true))) := by
  refine ⟨fun _ _ φ w ac _ hf => ⟨_, .bool _, fun w _ => ?_⟩⟩
  have e1 := eqs_aux hf hx hl
  have e2 := eqs_aux hf hy (cellsLike_symm hl)
  refine exec_binOp ho (by rw [e1, e2]; exact guard_flat hT) ?_
  rw [e1, e2]
  have key := run_equal_flat (P := P) (xs := xs.toArray) (ys := ys.toArray) (w := w) hT (by simpa using hn) (by simpa using hm) (by simpa using hl) (fun i f hf u v hu hv => kinds_of hk i f hf u v hu _ hv)
  simp only [binOp, Sem.run_bind, key, Result.andThen_ok, Sem.run_pure, Bool.decide_eq_true]
theorem a_neqs (T U : TypeId) (x y : Operand) {n : Nat} {xs ys : List Value} (ho : o.op = .binOp .neq T x y U) (hx : ev a x = some (.agg xs.toArray)) (hy : ev a y = some (.agg ys.toArray))
    (hT : flatB P T n = true) (hn : xs.length = n) (hm : ys.length = n) (hl : cellsLike xs ys = true) (hk : kindsB P T xs = true) : APure P N o a H (.bool (decide (¬ cellsEqB xs ys = true))) := by
  refine ⟨fun _ _ φ w ac _ hf => ⟨_, .bool _, fun w _ => ?_⟩⟩
  have e1 := eqs_aux hf hx hl
  have e2 := eqs_aux hf hy (cellsLike_symm hl)
  refine exec_binOp ho (by rw [e1, e2]; exact guard_flat hT) ?_
  rw [e1, e2]
  have key := run_equal_flat (P := P) (xs := xs.toArray) (ys := ys.toArray) (w := w) hT (by simpa using hn) (by simpa using hm) (by simpa using hl) (fun i f hf u v hu hv => kinds_of hk i f hf u v hu _ hv)
  simp only [binOp, Sem.run_bind, key, Result.andThen_ok, Sem.run_pure]
  simp
end

end Go.Gh
