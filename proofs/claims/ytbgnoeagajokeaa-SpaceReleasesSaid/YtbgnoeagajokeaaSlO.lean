/- The cut of an empty slice. -/
import Derived.Test.YtbgnoeagajokeaaSlL
set_option linter.unusedVariables false
set_option linter.unusedSimpArgs false
namespace Go.Gh
open Go.RowKit

section
variable {P : Program} {N : Fr} {o : Oper} {a : AF} {H : Heap}
theorem a_cut0 (T : TypeId) (x hi : Operand) {ad : Option Addr} {fl E s b : Nat} {z : Option Value} {k : IntKind} {h : Int} (ho : o.op = .slice T x none (some hi) none) (hx : ev a x = some (.slice ad 0 fl))
    (hhi : ev a hi = some (.int k h)) (hT : P.underlying T = some (.slice E)) (hI : tinf P E = some (z, s, b)) (h1 : h = 0) : APure P N o a H (.slice ad 0 fl) := by
  subst h1
  refine ⟨fun B0 w0 φ w ac r hf => ?_⟩
  have hu := ev_rel hf hx
  have e3 := (ev_rel hf hhi).scalar rfl
  obtain ⟨bs, cp, hv⟩ : ∃ bs cp, ac.eval x = .slice bs 0 cp := by
    generalize ac.eval x = u2 at hu
    cases hu <;> exact ⟨_, _, rfl⟩
  refine ⟨ac.eval x, hu, fun w _ => ?_⟩
  unfold execOp
  simp only [ho, hv, e3, Instr.sliceAt, Instr.slice, Option.map_some, Option.map_none, Sem.run_bind, run_underlying hT, Result.andThen_ok, Instr.sliceBounds, Instr.sliceBound, asIntOf, Sem.run_pure,
    Sem.run_ite, if_pos (show (0 : Int) ≤ 0 ∧ (0 : Int) ≤ (cp : Int) from ⟨by omega, by omega⟩), run_sizeOf hI, Nat.zero_mul]
  cases bs <;> simp [Addr.add]
theorem a_cutlo0 (T : TypeId) (x lo : Operand) {ad : Option Addr} {fl E s b : Nat} {z : Option Value} {k : IntKind} {h : Int} (ho : o.op = .slice T x (some lo) none none) (hx : ev a x = some (.slice ad 0 fl))
    (hlo : ev a lo = some (.int k h)) (hT : P.underlying T = some (.slice E)) (hI : tinf P E = some (z, s, b)) (h1 : h = 0) : APure P N o a H (.slice ad 0 fl) := by
  subst h1
  refine ⟨fun B0 w0 φ w ac r hf => ?_⟩
  have hu := ev_rel hf hx
  have e3 := (ev_rel hf hlo).scalar rfl
  obtain ⟨bs, cp, hv⟩ : ∃ bs cp, ac.eval x = .slice bs 0 cp := by
    generalize ac.eval x = u2 at hu
    cases hu <;> exact ⟨_, _, rfl⟩
  refine ⟨ac.eval x, hu, fun w _ => ?_⟩
  unfold execOp
  simp only [ho, hv, e3, Instr.sliceAt, Instr.slice, Option.map_some, Option.map_none, Sem.run_bind, run_underlying hT, Result.andThen_ok, Instr.sliceBounds, Instr.sliceBound, asIntOf, Sem.run_pure,
    Sem.run_ite, if_pos (show (0 : Int) ≤ 0 ∧ (0 : Int) ≤ ((0 : Nat) : Int) from ⟨by omega, by omega⟩), run_sizeOf hI, Nat.zero_mul]
  cases bs <;> simp [Addr.add]
end
section
variable {P : Program} {tt : TT} {sz : Nat} {ops : Array Oper} {Q : SPost} {rest : List Oper} {a : AF} {h h' h1 h2 : SH} {m : Mode} {t : Nat} {op : Op} {ty : TypeId} {pos : String} {aft : Array Edge} {p : Prop} {v : Value}
theorem o_cut0 {T : Nat} {x hi : Operand} {ad : Option Addr} {fl : Nat} {k : IntKind} {i : Int} {E s b : Nat} {z : Option Value} {e : TE} (ht : tt.Ok P) (hx : ev a x = some (.slice ad 0 fl)) (hhi : ev a hi = some (.int k i)) (hT : tt.get T = some ⟨.slice E, s, b, z⟩) (hE : tt.get E = some e) (hi0 : i = 0)
    (hN : Nat.blt t sz = true) (kk : GO m.next P sz ops Q rest ((t, .slice ad 0 fl) :: a) h) : GO m P sz ops Q (⟨some t, .slice T x none (some hi) none, ty, pos, aft, none⟩ :: rest) a h :=
  let ⟨_, hI, _⟩ := te_inf (TT.get_ok ht hE)
  o_pure (fun _ _ _ hag => a_cut0 T x hi rfl ((hag.ev (by simp [Op.operands, Call.operands])).trans hx) ((hag.ev (by simp [Op.operands, Call.operands])).trans hhi) (te_slice (TT.get_ok ht hT) rfl) hI hi0) hN kk
theorem o_cutlo0 {T : Nat} {x lo : Operand} {ad : Option Addr} {fl : Nat} {k : IntKind} {i : Int} {E s b : Nat} {z : Option Value} {e : TE} (ht : tt.Ok P) (hx : ev a x = some (.slice ad 0 fl)) (hlo : ev a lo = some (.int k i)) (hT : tt.get T = some ⟨.slice E, s, b, z⟩) (hE : tt.get E = some e) (hi0 : i = 0)
    (hN : Nat.blt t sz = true) (kk : GO m.next P sz ops Q rest ((t, .slice ad 0 fl) :: a) h) : GO m P sz ops Q (⟨some t, .slice T x (some lo) none none, ty, pos, aft, none⟩ :: rest) a h :=
  let ⟨_, hI, _⟩ := te_inf (TT.get_ok ht hE)
  o_pure (fun _ _ _ hag => a_cutlo0 T x lo rfl ((hag.ev (by simp [Op.operands, Call.operands])).trans hx) ((hag.ev (by simp [Op.operands, Call.operands])).trans hlo) (te_slice (TT.get_ok ht hT) rfl) hI hi0) hN kk
end
end Go.Gh
