/- Methods called through an interface value (a pointer's own method); a slice's array. -/
import Derived.Test.YtinfmojbdaiogaaSlD
set_option linter.unusedVariables false
set_option linter.unusedSimpArgs false
set_option maxRecDepth 4000
namespace Go.Gh
open Go.RowKit

/-- A pointer type's own method. -/
def pmeth (P : Program) (T : TypeId) (name : String) (f : FuncId) : Bool :=
  match P.info? T with
  | some i => match i.methods.find? (·.name == name) with
    | some m => m.path.toList.isEmpty && (match m.func with | some (g, b) => g == f && b | none => false) && (match P.underlying T with | some (.pointer _) => true | _ => false)
    | none => false
  | none => false
theorem run_pmeth {P : Program} {T : TypeId} {name : String} {f : FuncId} (h : pmeth P T name f = true) {n : Nat} (hn : 0 < n) (v : Value) (w : World) : (Go.method n T v name).run P w = .ok (f, v) w := by
  obtain ⟨k, rfl⟩ : ∃ k, n = k + 1 := ⟨n - 1, by omega⟩
  unfold pmeth at h
  cases hi : P.info? T with
  | none => rw [hi] at h; cases h
  | some i =>
    rw [hi] at h
    dsimp only at h
    cases hm : i.methods.find? (·.name == name) with
    | none => rw [hm] at h; cases h
    | some m =>
      rw [hm] at h
      dsimp only at h
      simp only [Bool.and_eq_true] at h
      obtain ⟨⟨h1, h2⟩, h3⟩ := h
      have hp : m.path.toList = [] := by simpa using h1
      cases hf : m.func with
      | none => rw [hf] at h2; cases h2
      | some gb =>
        obtain ⟨g, b⟩ := gb
        rw [hf] at h2
        simp only [Bool.and_eq_true, beq_iff_eq] at h2
        obtain ⟨rfl, rfl⟩ := h2
        cases hu : P.underlying T with
        | none => rw [hu] at h3; cases h3
        | some d =>
          rw [hu] at h3
          cases d <;> first | cases h3 | skip
          simp [Go.method, typeInfo, hi, hm, hp, hf, Go.follow, Go.receiverAt, run_underlying hu, Go.Place.get]
theorem VRel.one {φ : Nat → Loc} {L : Lens} {v u : Value} (h : Val φ L v u) : VRel φ L [v] #[u] :=
  ⟨rfl, fun i w hi => by
    cases i with
    | zero => simp only [List.getElem?_cons_zero, Option.some.injEq] at hi; subst hi; exact ⟨u, rfl, h⟩
    | succ i => simp at hi⟩
section
variable {P : Program} {N : Fr} {ops : Array Oper} {Q : Post} {rest : List Oper} {o : Oper} {a : AF} {H : Heap}
theorem a_invoke (x : Operand) (name : String) (xs : List Operand) (ts : Array TypeId) {T : TypeId} {v : Value} {f : FuncId} {as : List Value} {R : Value → Heap → Prop}
    (ho : o.op = .call { callee := .invoke x name, args := xs.toArray, argTypes := ts }) (hx : ev a x = some (.iface T v)) (hxs : evs a xs = some as)
    (hm : pmeth P T name f = true) (hf : enters P f = true) (hN : dstLt o N = true) (hr : Run P f ([v] ++ as) H R)
    (k : ∀ r H', R r H' → AOps P N ops Q rest (put a o.dst r) H') : AOp P N o ops rest Q a H := by
  refine aop_enter hN ?_ hr k
  intro φ ac hfr
  have h1 := ev_rel hfr hx
  have h2 := evs_rel hfr hxs
  generalize hu : ac.eval x = u at h1
  cases h1 with
  | iface _ _ v' hv =>
    refine ⟨_, (VRel.one hv).append h2, fun w => ?_⟩
    unfold execOp
    have hz : (#[Value.iface T v'] ++ (List.map ac.eval xs).toArray).extract 1 (#[Value.iface T v'] ++ (List.map ac.eval xs).toArray).size = (List.map ac.eval xs).toArray := by
      apply Array.ext'
      simp [List.take_of_length_le]
    have h0 : (#[Value.iface T v'] ++ (List.map ac.eval xs).toArray)[0]? = some (Value.iface T v') := by simp
    simp only [ho, resolve, List.map_toArray, hu, Sem.run_bind, Sem.run_pure, Result.andThen_ok, invoke, hz]
    rw [h0]
    simp only [callMethod, Sem.run_bind, program, Sem.run, Sem.run_pure, Result.andThen_ok, run_pmeth hm (Nat.lt_of_lt_of_le (by decide : 0 < Made.depth) (Nat.le_add_left _ _))]
    exact run_callFunc_enters hf _ w
theorem a_s2a (T : TypeId) (x : Operand) {A off v len fl n E : Nat} (ho : o.op = .sliceToArrayPointer T x) (hx : ev a x = some (.slice (some ⟨A, off, some v⟩) len fl)) (hT : P.underlying T = some (.array n E)) (hn : n ≤ len) : APure P N o a H (.pointer (some ⟨A, off, some v⟩)) := by
  refine ⟨fun _ _ φ w ac _ hf => ?_⟩
  have h1 := ev_rel hf hx
  generalize hu : ac.eval x = u at h1
  cases h1 with
  | slc _ _ _ m _ _ cap c hL hv hc hm h =>
    refine ⟨.pointer (some c), .ptr _ _ _ m _ hL hv (fun e => ⟨(h e).1, (h e).2.2⟩), fun w _ => ?_⟩
    unfold execOp
    simp [ho, hu, Instr.arrayAt, run_underlying hT, Nat.not_lt.2 hn]
end
section
variable {P : Program} {sz : Nat} {ops : Array Oper} {Q : SPost} {rest : List Oper} {a : AF} {h : SH} {m : Mode} {t : Nat} {ty : TypeId} {pos : String} {aft : Array Edge}
theorem o_invoke {x : Operand} {name : String} {xs : List Operand} {ts : Array TypeId} {T : TypeId} {v : Value} {f : FuncId} {as : List Value} {R : Value → SH → Prop} (hx : ev a x = some (.iface T v)) (hxs : evs a xs = some as)
    (hN : Nat.blt t sz = true) (hrt : ∃ h1, SRun P f ([v] ++ as) h1 R ∧ Take h h1) (hm : pmeth P T name f = true) (hf : enters P f = true) (k : ∀ r q, R r q → GO .seq P sz ops Q rest ((t, r) :: a) q) :
    GO .seq P sz ops Q (⟨some t, .call { callee := .invoke x name, args := xs.toArray, argTypes := ts }, ty, pos, aft, none⟩ :: rest) a h := by
  obtain ⟨_, hr, ht⟩ := hrt
  unfold SRun at hr
  unfold GO at k ⊢
  exact fun E H n0 i => aops_plain rfl (a_invoke x name xs ts rfl hx hxs hm hf hN (hr H (i.le ht.le).refl) fun r H' ⟨q, hq, i'⟩ => k r q hq E H' n0 ((i.le ht.le).comp i'))
theorem o_invokeN {x : Operand} {name : String} {xs : List Operand} {ts : Array TypeId} {T : TypeId} {v : Value} {f : FuncId} {as : List Value} {R : Value → SH → Prop} (hx : ev a x = some (.iface T v)) (hxs : evs a xs = some as)
    (hrt : ∃ h1, SRun P f ([v] ++ as) h1 R ∧ Take h h1) (hm : pmeth P T name f = true) (hf : enters P f = true) (k : ∀ r q, R r q → GO .seq P sz ops Q rest a q) :
    GO .seq P sz ops Q (⟨none, .call { callee := .invoke x name, args := xs.toArray, argTypes := ts }, ty, pos, aft, none⟩ :: rest) a h := by
  obtain ⟨_, hr, ht⟩ := hrt
  unfold SRun at hr
  unfold GO at k ⊢
  exact fun E H n0 i => aops_plain rfl (a_invoke x name xs ts rfl hx hxs hm hf rfl (hr H (i.le ht.le).refl) fun r H' ⟨q, hq, i'⟩ => k r q hq E H' n0 ((i.le ht.le).comp i'))
theorem o_s2a {T : Nat} {x : Operand} {A off v len fl n E : Nat} (hx : ev a x = some (.slice (some ⟨A, off, some v⟩) len fl)) (hT : P.underlying T = some (.array n E)) (hn : Sd (n ≤ len)) (hN : Nat.blt t sz = true) (k : GO m.next P sz ops Q rest ((t, .pointer (some ⟨A, off, some v⟩)) :: a) h) :
    GO m P sz ops Q (⟨some t, .sliceToArrayPointer T x, ty, pos, aft, none⟩ :: rest) a h := o_pure (fun _ _ _ hag => a_s2a T x rfl ((hag.ev (by simp [Op.operands, Call.operands])).trans hx) hT hn.h) hN k
end
end Go.Gh
