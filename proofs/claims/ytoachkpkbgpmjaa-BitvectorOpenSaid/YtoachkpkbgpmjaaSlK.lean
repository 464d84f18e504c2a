/- The length of a map. -/
import Derived.Test.YtoachkpkbgpmjaaSlM
set_option linter.unusedVariables false
set_option linter.unusedSimpArgs false
namespace Go.Gh
open Go.RowKit Go.MapKept

section
variable {P : Program} {N : Fr} {o : Oper} {a : AF} {H : Heap} {α : Type}
theorem a_maplen (T : TypeId) (x : Operand) {A K E : Nat} {d : TypeDesc} {kf : α → Value} {l : List (α × Value)} {ro : Bool} (ho : o.op = .call { callee := .builtin .len, args := #[x], argTypes := #[T] }) (hx : ev a x = some (.map (some A)))
    (hA : H[A]? = some (some ⟨mapC kf l, ro⟩)) (hT : P.underlying T = some (.map K E)) (KF : KeyF d kf) : APure P N o a H (I l.length) := by
  refine ⟨fun B0 w0 φ w ac r hf => ?_⟩
  obtain ⟨h1, _, _, es, cl, h2, h3⟩ := map_obj r KF hA (ev_rel hf hx)
  have h4 := h3.len
  refine ⟨_, .int _ _, fun w1 hb => ?_⟩
  have h2' : w1.heap[(φ A).b]? = some (.map es cl) := by rw [hb.block _ (r.lt hA)]; exact h2
  unfold execOp
  simp [ho, resolve, invoke, builtin, h1, Builtin.len_, run_underlying hT, MapKept.run_getObj_map h2', goInt]
  simp at h4
  omega
end
section
variable {P : Program} {tt : TT} {sz : Nat} {ops : Array Oper} {Q : SPost} {rest : List Oper} {a : AF} {h h' h1 h2 : SH} {m : Mode} {t : Nat} {op : Op} {ty : TypeId} {pos : String} {aft : Array Edge} {p : Prop} {v : Value} {α : Type}
theorem o_maplen {T : Nat} {x : Operand} {A K E : Nat} {d : TypeDesc} {kf : α → Value} {l : List (α × Value)} {ro : Bool} (hx : ev a x = some (.map (some A))) (hp : Pick h A ⟨mapC kf l, ro⟩ h1)
    (hT : P.underlying T = some (.map K E)) (KF : KeyF d kf) (hN : Nat.blt t sz = true)
    (k : GO .seq P sz ops Q rest ((t, I l.length) :: a) h) : GO .seq P sz ops Q (⟨some t, .call { callee := .builtin .len, args := #[x], argTypes := #[T] }, ty, pos, aft, none⟩ :: rest) a h :=
  o_read (m := .seq) (fun h' => ∃ h1, Pick h' A ⟨mapC kf l, ro⟩ h1) ⟨_, hp⟩ (fun _ _ _ _ _ i ⟨_, hp⟩ hag => a_maplen T x rfl ((hag.ev (by simp [Op.operands, Call.operands])).trans hx) (i.look hp) hT KF) hN trivial k
end
end Go.Gh
