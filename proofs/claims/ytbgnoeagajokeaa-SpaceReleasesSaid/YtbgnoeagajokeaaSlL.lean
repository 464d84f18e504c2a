/- A slice held against nil; the append of an empty slice. -/
import Derived.Test.YtbgnoeagajokeaaSlE
set_option linter.unusedVariables false
set_option linter.unusedSimpArgs false
namespace Go.Gh
open Go.RowKit

abbrev prF (x : Int × Int) : List Value := [I x.1, I x.2]
/-- In ascending order of the first numbers. -/
def ascL (L : List (Int × Int)) : Prop := ∀ i j : Nat, i < j → j < L.length → L[i]!.1 ≤ L[j]!.1
section
variable {P : Program} {N : Fr} {o : Oper} {a : AF} {H : Heap}
theorem run_equal_slc {T E : TypeId} {m : Option Addr} {k c k' c' : Nat} {w : World} (hT : P.underlying T = some (.slice E)) : (Op.equal T (.slice m k c) (.slice none k' c')).run P w = .ok m.isNone w := by
  show (Op.equalIn (9999 + 1) _ _ _).run P w = _
  rw [Op.equalIn]
  simp only [Sem.run_bind, run_underlying hT, Result.andThen_ok]
  cases m <;> rfl
theorem a_slnil (T U : TypeId) (x y : Operand) {E : TypeId} {ad : Option Addr} {n fl : Nat} (ho : o.op = .binOp .eql T x y U) (hx : ev a x = some (.slice ad n fl)) (hy : ev a y = some (.slice none 0 0))
    (hT : P.underlying T = some (.slice E)) : APure P N o a H (.bool ad.isNone) := by
  refine ⟨fun _ _ φ w ac _ hf => ?_⟩
  have h1 := ev_rel hf hx
  have h2 := ev_rel hf hy
  generalize hu : ac.eval x = u at h1
  generalize hv : ac.eval y = v at h2
  cases h2
  refine ⟨.bool ad.isNone, .bool _, fun w _ => exec_binOp ho ?_ ?_⟩
  · rw [hu, hv]; cases h1 <;> (unfold eqGuard; simp)
  · rw [hu, hv]; cases h1 <;> simp only [binOp, Sem.run_bind, run_equal_slc hT, Result.andThen_ok, Sem.run_pure] <;> rfl
theorem a_slnotnil (T U : TypeId) (x y : Operand) {E : TypeId} {ad : Option Addr} {n fl : Nat} (ho : o.op = .binOp .neq T x y U) (hx : ev a x = some (.slice ad n fl)) (hy : ev a y = some (.slice none 0 0))
    (hT : P.underlying T = some (.slice E)) : APure P N o a H (.bool ad.isSome) := by
  refine ⟨fun _ _ φ w ac _ hf => ?_⟩
  have h1 := ev_rel hf hx
  have h2 := ev_rel hf hy
  generalize hu : ac.eval x = u at h1
  generalize hv : ac.eval y = v at h2
  cases h2
  refine ⟨.bool ad.isSome, .bool _, fun w _ => exec_binOp ho ?_ ?_⟩
  · rw [hu, hv]; cases h1 <;> (unfold eqGuard; simp)
  · rw [hu, hv]; cases h1 <;> simp only [binOp, Sem.run_bind, run_equal_slc hT, Result.andThen_ok, Sem.run_pure] <;> rfl
/-- append of a slice without elements: what it was. -/
theorem a_append_zero (T : TypeId) (x y : Operand) {A n len fl E s b : Nat} {ad : Option Addr} {fl2 : Nat} {z : Option Value} {g : Blk}
    (ho : o.op = .call { callee := .builtin .append, args := #[x, y], argTypes := #[T, T] }) (hx : ev a x = some (gsl A 0 n len fl)) (hy : ev a y = some (.slice ad 0 fl2))
    (hT : P.underlying T = some (.slice E)) (hI : tinf P E = some (z, s, b)) (hA : H[A]? = some (some g)) (hn : g.cells.length = n) : APure P N o a H (gsl A 0 n len fl) := by
  refine ⟨fun B0 w0 φ w ac r hf => ?_⟩
  have hvr := ev_rel hf hx
  obtain ⟨cap, hu, hlc, hcm, hsz, _⟩ := slc_cells r hA hn hvr
  have hy2 := ev_rel hf hy
  obtain ⟨bs, cp, hu2⟩ : ∃ bs cp, ac.eval y = .slice bs 0 cp := by
    generalize ac.eval y = u2 at hy2
    cases hy2 <;> exact ⟨_, _, rfl⟩
  refine ⟨ac.eval x, hvr, fun w _ => exec_append ho ?_⟩
  obtain ⟨i, hi, e1, e2, e3⟩ := tinf_some hI
  rw [hu, hu2]
  cases bs <;> simp [Builtin.append_, run_underlying hT, sizeOf, typeInfo, hi, Builtin.lenOf, hlc, Builtin.firstCells, storeCells, loadCells, loadCellsFrom]
end
section
variable {P : Program} {tt : TT} {sz : Nat} {ops : Array Oper} {Q : SPost} {rest : List Oper} {a : AF} {h h' h1 h2 : SH} {m : Mode} {t : Nat} {op : Op} {ty : TypeId} {pos : String} {aft : Array Edge} {p : Prop} {v : Value}
theorem o_slnil {T U : Nat} {x y : Operand} {E s b : Nat} {z : Option Value} {ad : Option Addr} {n fl : Nat} (ht : tt.Ok P) (hx : ev a x = some (.slice ad n fl)) (hy : ev a y = some (.slice none 0 0)) (hT : tt.get T = some ⟨.slice E, s, b, z⟩) (hN : Nat.blt t sz = true)
    (k : GO m.next P sz ops Q rest ((t, .bool ad.isNone) :: a) h) : GO m P sz ops Q (⟨some t, .binOp .eql T x y U, ty, pos, aft, none⟩ :: rest) a h :=
  o_pure (fun _ _ _ hag => a_slnil T U x y rfl ((hag.ev (by simp [Op.operands, Call.operands])).trans hx) ((hag.ev (by simp [Op.operands, Call.operands])).trans hy) (te_slice (TT.get_ok ht hT) rfl)) hN k
theorem o_slnotnil {T U : Nat} {x y : Operand} {E s b : Nat} {z : Option Value} {ad : Option Addr} {n fl : Nat} (ht : tt.Ok P) (hx : ev a x = some (.slice ad n fl)) (hy : ev a y = some (.slice none 0 0)) (hT : tt.get T = some ⟨.slice E, s, b, z⟩) (hN : Nat.blt t sz = true)
    (k : GO m.next P sz ops Q rest ((t, .bool ad.isSome) :: a) h) : GO m P sz ops Q (⟨some t, .binOp .neq T x y U, ty, pos, aft, none⟩ :: rest) a h :=
  o_pure (fun _ _ _ hag => a_slnotnil T U x y rfl ((hag.ev (by simp [Op.operands, Call.operands])).trans hx) ((hag.ev (by simp [Op.operands, Call.operands])).trans hy) (te_slice (TT.get_ok ht hT) rfl)) hN k
theorem o_append_zero {T : Nat} {x y : Operand} {A n len fl E s b : Nat} {ad : Option Addr} {fl2 : Nat} {z : Option Value} {e : TE} {g : Blk} (ht : tt.Ok P) (hx : ev a x = some (gsl A 0 n len fl)) (hy : ev a y = some (.slice ad 0 fl2)) (hT : tt.get T = some ⟨.slice E, s, b, z⟩) (hE : tt.get E = some e) (hp : Pick h A g h1) (hN : Nat.blt t sz = true) (hn : Ln (g.cells.length = n))
    (hok : m.rdOk ops fun h' => Rc (∃ g h1, Pick h' A g h1 ∧ Ln (g.cells.length = n))) (k : GO (m.rd fun h' => Rc (∃ g h1, Pick h' A g h1 ∧ Ln (g.cells.length = n))) P sz ops Q rest ((t, gsl A 0 n len fl) :: a) h) : GO m P sz ops Q (⟨some t, .call { callee := .builtin .append, args := #[x, y], argTypes := #[T, T] }, ty, pos, aft, none⟩ :: rest) a h :=
  o_read (fun h' => Rc (∃ g h1, Pick h' A g h1 ∧ Ln (g.cells.length = n))) ⟨_, _, hp, hn⟩ (fun _ _ _ _ _ i ⟨_, _, hp, ⟨hn⟩⟩ hag => let ⟨_, hI, _⟩ := te_inf (TT.get_ok ht hE); a_append_zero T x y rfl ((hag.ev (by simp [Op.operands, Call.operands])).trans hx) ((hag.ev (by simp [Op.operands, Call.operands])).trans hy) (te_slice (TT.get_ok ht hT) rfl) hI (i.look hp) hn) hN hok k
end
end Go.Gh
