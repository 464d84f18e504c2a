/- The ghost heap: entry and end of a function. -/
import Derived.Test.YtinfmojbdaiogaaGhG
set_option linter.unusedVariables false
set_option linter.unusedSimpArgs false
set_option maxRecDepth 4000
namespace Go.Gh
open Go.RowKit
section
variable {P : Program} {N : Fr} {a : AF} {H : Heap}

def frameFrom (k : Nat) : List Value → AF
  | [] => []
  | v :: r => (k, v) :: frameFrom (k + 1) r

theorem get_frameFrom : ∀ (as : List Value) (k t : Nat) (v : Value), get (frameFrom k as) t = some v → k ≤ t ∧ as[t - k]? = some v := by
  intro as
  induction as with
  | nil => intro k t v h; cases h
  | cons u r ih =>
    intro k t v h
    rcases get_put h with ⟨rfl, rfl⟩ | ⟨hne, h⟩
    · exact ⟨Nat.le_refl _, by simp⟩
    · obtain ⟨h1, h2⟩ := ih (k + 1) t v h
      refine ⟨by omega, ?_⟩
      rw [show t - k = (t - (k + 1)) + 1 from by omega]
      simpa using h2

theorem enter_rel {φ : Nat → Loc} {L : Lens} {as : List Value} {vs : Array Value} (h : VRel φ L as vs) {n m : Nat} (hN : as.length ≤ n) :
    FRel φ L ⟨n, m⟩ (frameFrom 0 as) { tmps := vs ++ Array.replicate (n - vs.size) undef, defers := [] } := by
  refine ⟨rfl, by simp [h.size]; omega, fun t v ht => ?_⟩
  obtain ⟨_, h2⟩ := get_frameFrom as 0 t v ht
  obtain ⟨v', h3, h4⟩ := h.get t v h2
  refine ⟨v', ?_, h4⟩
  rw [Array.getElem?_append_left]
  · exact h3
  · exact (Array.getElem?_eq_some_iff.1 h3).1


def resv : List Value → Value
  | [v] => v
  | vs => .tuple vs.toArray


def resF (tmps : Array Value) : ResultVar → Sem Value
  | .tmp t => pure (tmps.getD t undef)
  | .cell a t => do loadVar t (← asAddr (tmps.getD a undef))

theorem results_eq (fn : Func) (tmps : Array Value) : results fn tmps = (do let vs ← fn.results.mapM (resF tmps); pure (if h : vs.size = 1 then vs[0] else .tuple vs)) := by
  unfold results
  congr 1


theorem resv_rel {φ : Nat → Loc} {L : Lens} {vs us : List Value} (h : VRel φ L vs us.toArray) :
    Val φ L (resv vs) (if h : us.toArray.size = 1 then us.toArray[0] else .tuple us.toArray) := by
  have hs := h.size
  simp at hs
  by_cases h1 : us.length = 1
  · rw [dif_pos (by simpa using h1)]
    obtain ⟨u, rfl⟩ := List.length_eq_one_iff.1 h1
    obtain ⟨v, rfl⟩ := List.length_eq_one_iff.1 (hs.symm.trans h1)
    obtain ⟨v', g1, g2⟩ := h.get 0 v rfl
    simp at g1
    subst g1
    exact g2
  · rw [dif_neg (by simpa using h1)]
    have hv : resv vs = .tuple vs.toArray := by
      match vs, hs, h1 with
      | [], _, _ => rfl
      | [_], hs, h1 => simp at hs; omega
      | _ :: _ :: _, _, _ => rfl
    rw [hv]
    refine .tuple _ _ (by simp [hs]) fun i hi hi' => ?_
    obtain ⟨v', g1, g2⟩ := h.get i (vs.toArray[i]) (by simp)
    simp at g1
    have : us.toArray[i] = v' := by
      simp
      have := (List.getElem?_eq_some_iff.1 g1).2
      exact this
    rw [this]
    exact g2

/-- The results of a function: slots, and structs that lie in blocks. -/
def ResR (P : Program) (a : AF) (H : Heap) : List ResultVar → List Value → Prop
  | [], [] => True
  | .tmp t :: r, v :: vs => get a t = some v ∧ ResR P a H r vs
  | .cell b T :: r, v :: vs => (∃ A off n g, get a b = some (gptr A off n) ∧ H[A]? = some (some g) ∧ g.cells.length = n ∧
      ((∃ z s by', aggT P T = some true ∧ tinf P T = some (z, s, by') ∧ off + s ≤ g.cells.length ∧ v = .agg ((g.cells.drop off).take s).toArray) ∨
       (aggT P T = some false ∧ g.cells[off]? = some v))) ∧ ResR P a H r vs
  | _, _ => False

theorem resR_rel {B0 : Nat} {w0 : World} {φ : Nat → Loc} {w : World} {ac : Act} (r : Rel B0 w0 φ H w) (hf : FRel φ (lens H) N a ac) : ∀ {l : List ResultVar} {vs : List Value}, ResR P a H l vs →
    ∃ us : List Value, Sem.run P (l.mapM (resF ac.tmps)) w = .ok us w ∧ VRel φ (lens H) vs us.toArray := by
  intro l
  have cons : ∀ {v u : Value} {vs us : List Value}, Val φ (lens H) v u → VRel φ (lens H) vs us.toArray → VRel φ (lens H) (v :: vs) (u :: us).toArray := by
    intro v u vs us h1 h2
    refine ⟨by have := h2.size; simp at this ⊢; exact this, fun i x hi => ?_⟩
    cases i with
    | zero => simp only [List.getElem?_cons_zero, Option.some.injEq] at hi; subst hi; exact ⟨u, by simp, h1⟩
    | succ i =>
      obtain ⟨v', g1, g2⟩ := h2.get i x (by simpa using hi)
      exact ⟨v', by simpa using g1, g2⟩
  induction l with
  | nil =>
    intro vs h
    cases vs with
    | nil => exact ⟨[], by simp, rfl, fun i v hi => by simp at hi⟩
    | cons v vs => exact h.elim
  | cons x l ih =>
    intro vs h
    cases vs with
    | nil => cases x <;> exact h.elim
    | cons v vs =>
      cases x with
      | tmp t =>
        obtain ⟨h1, h2⟩ := h
        obtain ⟨us, h3, h4⟩ := ih h2
        obtain ⟨u, h5, h6⟩ := hf.slot t v h1
        refine ⟨u :: us, ?_, cons h6 h4⟩
        rw [List.mapM_cons]
        simp only [resF, Sem.run_bind, Sem.run_pure, Result.andThen_ok, h3, Array.getD_eq_getD_getElem?, h5, Option.getD_some]
      | cell b T =>
        obtain ⟨⟨A, off, n, g, h1, hA, hn, hv⟩, h2⟩ := h
        obtain ⟨us, h3, h4⟩ := ih h2
        obtain ⟨p, h5, h6⟩ := hf.slot b _ h1
        obtain ⟨hp, hmp⟩ := ptr_cells r hA hn h6
        subst hp
        rcases hv with ⟨z, s, by', e1, e2, e3, rfl⟩ | ⟨e1, e2⟩
        · obtain ⟨cs, g1, g2⟩ := cells_rel r hA hmp off (vs := (g.cells.drop off).take s) (fun i v hi => by
            rw [List.getElem?_take] at hi
            split at hi
            · rw [List.getElem?_drop] at hi; exact hi
            · cases hi)
          have hl : cs.length = s := by have := g1.size; simp at this; omega
          have hload := run_loadCells_list (P := P) w _ cs g2
          rw [hl] at hload
          refine ⟨.agg cs.toArray :: us, ?_, cons (agg_of_vrel g1) h4⟩
          rw [List.mapM_cons]
          simp only [resF, Sem.run_bind, Sem.run_pure, Result.andThen_ok, h3, Array.getD_eq_getD_getElem?, h5, Option.getD_some, asAddr, loadVar, run_isAgg e1, if_true, run_sizeOf e2, hload]
        · obtain ⟨cs, g1, g2⟩ := cells_rel r hA hmp off (vs := [v]) (fun i u hi => by
            cases i with
            | zero => simp at hi; subst hi; simpa using e2
            | succ i => simp at hi)
          obtain ⟨v', g3, g4⟩ := g1.get 0 v rfl
          have g5 := g2 0 v' (by simpa using g3)
          rw [addr_add, Nat.add_zero] at g5
          refine ⟨v' :: us, ?_, cons g4 h4⟩
          rw [List.mapM_cons]
          simp only [resF, Sem.run_bind, Sem.run_pure, Result.andThen_ok, h3, Array.getD_eq_getD_getElem?, h5, Option.getD_some, asAddr, loadVar, run_isAgg e1, Bool.false_eq_true, if_false, run_load, g5]

/-- The end of a function: its results; what is kept of the ghost heap; the contract. -/
def bodyA (P : Program) (N : Fr) (fn : Func) (R : Value → Heap → Prop) : Post
  | .normal, a, H | .ret, a, H => ∃ vs, ResR P a H fn.results.toList vs ∧ ∃ vs2 H2, Keep ⟨vs.length, N.n0⟩ (frameFrom 0 vs) H (frameFrom 0 vs2) H2 ∧ vs2.length = vs.length ∧ R (resv vs2) H2
  | _, _, _ => False

theorem vrel_frame {φ : Nat → Loc} {L : Lens} {vs : List Value} {us : Array Value} {n m : Nat} (h : FRel φ L ⟨n, m⟩ (frameFrom 0 vs) ⟨us, []⟩) (hs : us.size = vs.length) : VRel φ L vs us := by
  refine ⟨hs, fun i v hi => h.slot i v ?_⟩
  have key : ∀ (vs : List Value) (k i : Nat) (v : Value), vs[i]? = some v → get (frameFrom k vs) (k + i) = some v := by
    intro vs
    induction vs with
    | nil => intro k i v h; simp at h
    | cons u r ih =>
      intro k i v h
      cases i with
      | zero => simp only [List.getElem?_cons_zero, Option.some.injEq] at h; subst h; simp [frameFrom, get]
      | succ i =>
        have := ih (k + 1) i v (by simpa using h)
        simp only [frameFrom, get]
        rw [show Nat.beq k (k + (i + 1)) = false from by
          cases hq : Nat.beq k (k + (i + 1)) with
          | true => have := Nat.eq_of_beq_eq_true hq; omega
          | false => rfl]
        rw [show k + (i + 1) = k + 1 + i from by omega]
        exact this
  have := key vs 0 i v hi
  simpa using this

/-- A function by its body. -/
theorem run_body {f : FuncId} {fn : Func} {c : Code} {as : List Value} {R : Value → Heap → Prop} (hf : P.funcs[f]? = some fn) (hb : fn.body = some c)
    (hN : Nat.ble as.length fn.ntmps = true) (h : CloH H → AWp P ⟨fn.ntmps, H.length⟩ c (bodyA P ⟨fn.ntmps, H.length⟩ fn R) (frameFrom 0 as) H) : Run P f as H R := by
  unfold Run
  unfold AWp at h
  intro B0 w0 φs Ls φ w vs he hr hv
  have hdm : Dom Ls H.length := fun A m hA => let ⟨_, h1, _⟩ := he A m hA; lens_some h1
  refine calls_of_wp hf hb (wp_mono (h hr.clo B0 w0 φs Ls φ w _ hdm he hr (enter_rel hv (Nat.le_of_ble_eq_true hN))) ?_)
  rintro e ac w' ⟨φ', a', H', h1, h2, h3, h4⟩
  have fin : bodyA P ⟨fn.ntmps, H.length⟩ fn R .ret a' H' → ac.defers = [] ∧ ∃ v, (results fn ac.tmps).run P w' = .ok v w' ∧ RC B0 w0 φs Ls R (.returned v) w' := by
    rintro ⟨vs, g1, vs2, H2, hk, hl2, g2⟩
    obtain ⟨us, g3, g4⟩ := resR_rel (P := P) h2 h3 g1
    have hsz := g4.size
    have hfr : FRel φ' (lens H') ⟨vs.length, H.length⟩ (frameFrom 0 vs) ⟨us.toArray, []⟩ := by
      have := enter_rel (n := vs.length) (m := H.length) g4 (Nat.le_refl _)
      rw [hsz, Nat.sub_self] at this
      simpa using this
    obtain ⟨φ2, k1, k2, k3⟩ := hk.go B0 w0 φ' w' ⟨us.toArray, []⟩ h2 hfr
    refine ⟨h3.defers, _, ?_, φ2, _, H2, _, ext_keep hdm h1 k3, k1, rfl, resv_rel (vrel_frame k2 (by rw [hl2, hsz])), g2⟩
    rw [results_eq, Array.mapM_eq_mapM_toList]
    simp only [Sem.run_bind, Sem.run_map, Sem.run_pure, g3, Result.andThen_ok]
  cases e with
  | normal => exact fin h4
  | ret => exact fin h4
  | _ => exact h4.elim
end
end Go.Gh
