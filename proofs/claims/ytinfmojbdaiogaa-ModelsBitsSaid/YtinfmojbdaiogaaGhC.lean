/- The ghost heap: operations that only compute. -/
import Derived.Test.YtinfmojbdaiogaaGhB
set_option linter.unusedVariables false
set_option linter.unusedSimpArgs false
set_option maxRecDepth 4000
namespace Go.Gh
open Go.RowKit

/-- A string by its bytes. -/
abbrev S (l : List UInt8) : Value := .string ⟨⟨l⟩⟩
abbrev I (n : Int) : Value := .int .i64 n
abbrev B (b : Bool) : Value := .bool b
/-- The byte at an index, 0 outside. -/
def bat (l : List UInt8) (i : Int) : Int := ((l.getD i.toNat 0).toNat : Int)
theorem bat_lo (l : List UInt8) (i : Int) : 0 ≤ bat l i := by unfold bat; omega
theorem bat_hi (l : List UInt8) (i : Int) : bat l i < 256 := by unfold bat; have := (l.getD i.toNat 0).toNat_lt; omega

theorem str_eq (s : ByteArray) : ∃ l, s = ⟨⟨l⟩⟩ := ⟨s.data.toList, by cases s; rfl⟩

section
variable {P : Program} {N : Fr} {ops : Array Oper} {Q : Post} {rest : List Oper} {o : Oper} {a : AF} {H : Heap}

theorem exec_binOp {ρ : Operand → Value} {op : BinOp} {T U : TypeId} {x y : Operand} {r : Value} {w : World} (ho : o.op = .binOp op T x y U)
    (hg : (eqGuard op T x y (ρ x) (ρ y)).run P w = .ok () w) (hr : (binOp op T (ρ x) (ρ y)).run P w = .ok r w) : (execOp ρ o).run P w = .ok (.value r) w := by
  unfold execOp
  simp only [ho, Sem.run_bind, hg, Result.andThen_ok, hr, Sem.run_pure]

theorem guard_int {op : BinOp} {T : TypeId} {x y : Operand} {k k' : IntKind} {m n : Int} {w : World} : (eqGuard op T x y (.int k m) (.int k' n)).run P w = .ok () w := by
  unfold eqGuard; cases op <;> simp
theorem guard_str {op : BinOp} {T : TypeId} {x y : Operand} {m n : ByteArray} {w : World} : (eqGuard op T x y (.string m) (.string n)).run P w = .ok () w := by
  unfold eqGuard; cases op <;> simp
theorem guard_bool {op : BinOp} {T : TypeId} {x y : Operand} {m n : Bool} {w : World} : (eqGuard op T x y (.bool m) (.bool n)).run P w = .ok () w := by
  unfold eqGuard; cases op <;> simp

/-- An operation on two scalars. -/
theorem a_bin2 (op : BinOp) (T U : TypeId) (x y : Operand) {u v r : Value} (ho : o.op = .binOp op T x y U) (hx : ev a x = some u) (hy : ev a y = some v)
    (hu : scalar u = true) (hv : scalar v = true) (hg : ∀ w, (eqGuard op T x y u v).run P w = .ok () w) (hr : ∀ w, (binOp op T u v).run P w = .ok r w) (hc : constOk r = true) : APure P N o a H r := by
  refine ⟨fun _ _ φ w ac _ hf => ?_⟩
  have h1 := (ev_rel hf hx).scalar hu
  have h2 := (ev_rel hf hy).scalar hv
  exact ⟨r, Val.const hc, fun w _ => exec_binOp ho (by rw [h1, h2]; exact hg w) (by rw [h1, h2]; exact hr w)⟩

section
variable (T U : TypeId) (x y : Operand) {k : IntKind} {m n r : Int}

theorem a_add (ho : o.op = .binOp .add T x y U) (hx : ev a x = some (.int k m)) (hy : ev a y = some (.int k n)) (hr : k.wrap (m + n) = r) : APure P N o a H (.int k r) :=
  a_bin2 .add T U x y ho hx hy rfl rfl (fun _ => guard_int) (fun _ => by simp [binOp, Op.intArith, hr]) rfl

theorem a_sub (ho : o.op = .binOp .sub T x y U) (hx : ev a x = some (.int k m)) (hy : ev a y = some (.int k n)) (hr : k.wrap (m - n) = r) : APure P N o a H (.int k r) :=
  a_bin2 .sub T U x y ho hx hy rfl rfl (fun _ => guard_int) (fun _ => by simp [binOp, Op.intArith, hr]) rfl

theorem a_mul (ho : o.op = .binOp .mul T x y U) (hx : ev a x = some (.int k m)) (hy : ev a y = some (.int k n)) (hr : k.wrap (m * n) = r) : APure P N o a H (.int k r) :=
  a_bin2 .mul T U x y ho hx hy rfl rfl (fun _ => guard_int) (fun _ => by simp [binOp, Op.intArith, hr]) rfl

theorem a_quo (ho : o.op = .binOp .quo T x y U) (hx : ev a x = some (.int k m)) (hy : ev a y = some (.int k n)) (hn : n ≠ 0) (hr : k.wrap (m.tdiv n) = r) : APure P N o a H (.int k r) :=
  a_bin2 .quo T U x y ho hx hy rfl rfl (fun _ => guard_int) (fun _ => by simp [binOp, Op.intDiv, hn, hr]) rfl

theorem a_rem (ho : o.op = .binOp .rem T x y U) (hx : ev a x = some (.int k m)) (hy : ev a y = some (.int k n)) (hn : n ≠ 0) (hr : m.tmod n = r) : APure P N o a H (.int k r) :=
  a_bin2 .rem T U x y ho hx hy rfl rfl (fun _ => guard_int) (fun _ => by simp [binOp, Op.intDiv, hn, hr]) rfl

theorem a_and (ho : o.op = .binOp .and T x y U) (hx : ev a x = some (.int k m)) (hy : ev a y = some (.int k n)) (hr : k.wrap (BitVec.ofInt k.bits m &&& BitVec.ofInt k.bits n).toNat = r) : APure P N o a H (.int k r) :=
  a_bin2 .and T U x y ho hx hy rfl rfl (fun _ => guard_int) (fun _ => by subst hr; simp [binOp, Op.intBits]) rfl

theorem a_or (ho : o.op = .binOp .or T x y U) (hx : ev a x = some (.int k m)) (hy : ev a y = some (.int k n)) (hr : k.wrap (BitVec.ofInt k.bits m ||| BitVec.ofInt k.bits n).toNat = r) : APure P N o a H (.int k r) :=
  a_bin2 .or T U x y ho hx hy rfl rfl (fun _ => guard_int) (fun _ => by subst hr; simp [binOp, Op.intBits]) rfl

theorem a_xor (ho : o.op = .binOp .xor T x y U) (hx : ev a x = some (.int k m)) (hy : ev a y = some (.int k n)) (hr : k.wrap (BitVec.ofInt k.bits m ^^^ BitVec.ofInt k.bits n).toNat = r) : APure P N o a H (.int k r) :=
  a_bin2 .xor T U x y ho hx hy rfl rfl (fun _ => guard_int) (fun _ => by subst hr; simp [binOp, Op.intBits]) rfl

theorem a_shl {k' : IntKind} (ho : o.op = .binOp .shl T x y U) (hx : ev a x = some (.int k m)) (hy : ev a y = some (.int k' n)) (hn : 0 ≤ n) (hr : k.wrap (m * 2 ^ (min n.toNat k.bits)) = r) : APure P N o a H (.int k r) :=
  a_bin2 .shl T U x y ho hx hy rfl rfl (fun _ => guard_int) (fun _ => by subst hr; simp only [binOp, Op.shift]; rw [if_neg (by omega)]; rfl) rfl

theorem a_shr {k' : IntKind} (ho : o.op = .binOp .shr T x y U) (hx : ev a x = some (.int k m)) (hy : ev a y = some (.int k' n)) (hn : 0 ≤ n) (hr : m.fdiv (2 ^ (min n.toNat k.bits)) = r) : APure P N o a H (.int k r) :=
  a_bin2 .shr T U x y ho hx hy rfl rfl (fun _ => guard_int) (fun _ => by subst hr; simp only [binOp, Op.shift]; rw [if_neg (by omega)]; rfl) rfl

theorem a_lss (ho : o.op = .binOp .lss T x y U) (hx : ev a x = some (.int k m)) (hy : ev a y = some (.int k n)) : APure P N o a H (.bool (decide (m < n))) :=
  a_bin2 .lss T U x y ho hx hy rfl rfl (fun _ => guard_int) (fun _ => by simp [binOp, Op.intCmp]) rfl
theorem a_leq (ho : o.op = .binOp .leq T x y U) (hx : ev a x = some (.int k m)) (hy : ev a y = some (.int k n)) : APure P N o a H (.bool (decide (m ≤ n))) :=
  a_bin2 .leq T U x y ho hx hy rfl rfl (fun _ => guard_int) (fun _ => by simp [binOp, Op.intCmp]) rfl
theorem a_gtr (ho : o.op = .binOp .gtr T x y U) (hx : ev a x = some (.int k m)) (hy : ev a y = some (.int k n)) : APure P N o a H (.bool (decide (n < m))) :=
  a_bin2 .gtr T U x y ho hx hy rfl rfl (fun _ => guard_int) (fun _ => by simp [binOp, Op.intCmp]) rfl
theorem a_geq (ho : o.op = .binOp .geq T x y U) (hx : ev a x = some (.int k m)) (hy : ev a y = some (.int k n)) : APure P N o a H (.bool (decide (n ≤ m))) :=
  a_bin2 .geq T U x y ho hx hy rfl rfl (fun _ => guard_int) (fun _ => by simp [binOp, Op.intCmp]) rfl
theorem a_eql (ho : o.op = .binOp .eql T x y U) (hx : ev a x = some (.int k m)) (hy : ev a y = some (.int k n)) : APure P N o a H (.bool (decide (m = n))) :=
  a_bin2 .eql T U x y ho hx hy rfl rfl (fun _ => guard_int) (fun _ => by simp only [binOp, Op.intCmp, ne_eq, not_true_eq_false, if_false]; rfl) rfl
theorem a_neq (ho : o.op = .binOp .neq T x y U) (hx : ev a x = some (.int k m)) (hy : ev a y = some (.int k n)) : APure P N o a H (.bool (decide (m ≠ n))) :=
  a_bin2 .neq T U x y ho hx hy rfl rfl (fun _ => guard_int) (fun _ => by
    simp only [binOp, Op.intCmp, ne_eq, not_true_eq_false, if_false, Sem.run_pure]
    rw [show (m != n) = decide (¬ m = n) from by rw [Bool.eq_iff_iff]; simp]) rfl
end

theorem toList_mk (l : List UInt8) : (⟨⟨l⟩⟩ : ByteArray).toList = l := by rw [ByteArray.toList_eq]

section
variable (T U : TypeId) (x y : Operand) {l m : List UInt8}
theorem a_sadd (ho : o.op = .binOp .add T x y U) (hx : ev a x = some (S l)) (hy : ev a y = some (S m)) (hl : l.length + m.length ≤ 9223372036854775807) : APure P N o a H (S (l ++ m)) :=
  a_bin2 .add T U x y ho hx hy rfl rfl (fun _ => guard_str) (fun _ => by
    simp only [binOp, Op.stringOp]
    rw [if_neg (by
      have : IntKind.i64.max = 9223372036854775807 := by decide
      rw [this]
      show ¬ (((l.length + m.length : Nat) : Int) > _)
      omega)]
    simp only [Sem.run_pure]
    congr 2) rfl
theorem a_seql (ho : o.op = .binOp .eql T x y U) (hx : ev a x = some (S l)) (hy : ev a y = some (S m)) : APure P N o a H (.bool (decide (l = m))) :=
  a_bin2 .eql T U x y ho hx hy rfl rfl (fun _ => guard_str) (fun _ => by
    simp only [binOp, Op.stringOp, toList_mk, Sem.run_pure]
    rw [show (l == m) = decide (l = m) from by rw [Bool.eq_iff_iff]; simp]) rfl
theorem a_sneq (ho : o.op = .binOp .neq T x y U) (hx : ev a x = some (S l)) (hy : ev a y = some (S m)) : APure P N o a H (.bool (decide (l ≠ m))) :=
  a_bin2 .neq T U x y ho hx hy rfl rfl (fun _ => guard_str) (fun _ => by
    simp only [binOp, Op.stringOp, toList_mk, Sem.run_pure]
    rw [show (!(l == m)) = decide (l ≠ m) from by rw [Bool.eq_iff_iff]; simp]) rfl
theorem a_slss (ho : o.op = .binOp .lss T x y U) (hx : ev a x = some (S l)) (hy : ev a y = some (S m)) : APure P N o a H (.bool (Op.bytesLess l m)) :=
  a_bin2 .lss T U x y ho hx hy rfl rfl (fun _ => guard_str) (fun _ => by simp only [binOp, Op.stringOp, toList_mk, Sem.run_pure]) rfl
theorem a_sgtr (ho : o.op = .binOp .gtr T x y U) (hx : ev a x = some (S l)) (hy : ev a y = some (S m)) : APure P N o a H (.bool (!(Op.bytesLess l m || (l == m)))) :=
  a_bin2 .gtr T U x y ho hx hy rfl rfl (fun _ => guard_str) (fun _ => by simp only [binOp, Op.stringOp, toList_mk, Sem.run_pure]) rfl
end

theorem run_equal_bool {T : TypeId} {m n : Bool} {w : World} (hT : P.underlying T = some .bool) : (Op.equal T (.bool m) (.bool n)).run P w = .ok (m == n) w := by
  show (Op.equalIn (9999 + 1) _ _ _).run P w = _
  rw [Op.equalIn]
  simp only [Sem.run_bind, run_underlying hT, Result.andThen_ok, Sem.run_pure]
theorem run_equal_ptr {T E : TypeId} {m n : Option Addr} {w : World} (hT : P.underlying T = some (.pointer E)) (h : n = none) : (Op.equal T (.pointer m) (.pointer n)).run P w = .ok m.isNone w := by
  subst h
  show (Op.equalIn (9999 + 1) _ _ _).run P w = _
  rw [Op.equalIn]
  simp only [Sem.run_bind, run_underlying hT, Result.andThen_ok]
  cases m <;> rfl
theorem beql (a b : Bool) : (a == b) = decide (a = b) := by cases a <;> cases b <;> rfl
theorem bneq (a b : Bool) : (!(a == b)) = decide (a ≠ b) := by cases a <;> cases b <;> rfl
theorem a_beql (T U : TypeId) (x y : Operand) {m n : Bool} (ho : o.op = .binOp .eql T x y U) (hx : ev a x = some (.bool m)) (hy : ev a y = some (.bool n))
    (hT : P.underlying T = some .bool) : APure P N o a H (.bool (decide (m = n))) :=
  a_bin2 .eql T U x y ho hx hy rfl rfl (fun _ => guard_bool) (fun _ => by
    simp only [binOp, Sem.run_bind, run_equal_bool hT, Result.andThen_ok, Sem.run_pure, beql]) rfl
theorem a_bneq (T U : TypeId) (x y : Operand) {m n : Bool} (ho : o.op = .binOp .neq T x y U) (hx : ev a x = some (.bool m)) (hy : ev a y = some (.bool n))
    (hT : P.underlying T = some .bool) : APure P N o a H (.bool (decide (m ≠ n))) :=
  a_bin2 .neq T U x y ho hx hy rfl rfl (fun _ => guard_bool) (fun _ => by
    simp only [binOp, Sem.run_bind, run_equal_bool hT, Result.andThen_ok, Sem.run_pure, bneq]) rfl

/-- A pointer against nil. -/
theorem a_pnil (T U : TypeId) (x y : Operand) {E : TypeId} {ad : Option Addr} (ho : o.op = .binOp .eql T x y U) (hx : ev a x = some (.pointer ad)) (hy : ev a y = some (.pointer none))
    (hT : P.underlying T = some (.pointer E)) : APure P N o a H (.bool ad.isNone) := by
  refine ⟨fun _ _ φ w ac _ hf => ?_⟩
  have h1 := ev_rel hf hx
  have h2 := ev_rel hf hy
  generalize hu : ac.eval x = u at h1
  generalize hv : ac.eval y = v at h2
  cases h2
  refine ⟨.bool ad.isNone, .bool _, fun w _ => exec_binOp ho ?_ ?_⟩
  · rw [hu, hv]; cases h1 <;> (unfold eqGuard; simp)
  · rw [hu, hv]; cases h1 <;> simp only [binOp, Sem.run_bind, run_equal_ptr hT rfl, Result.andThen_ok, Sem.run_pure] <;> rfl
theorem a_pnotnil (T U : TypeId) (x y : Operand) {E : TypeId} {ad : Option Addr} (ho : o.op = .binOp .neq T x y U) (hx : ev a x = some (.pointer ad)) (hy : ev a y = some (.pointer none))
    (hT : P.underlying T = some (.pointer E)) : APure P N o a H (.bool ad.isSome) := by
  refine ⟨fun _ _ φ w ac _ hf => ?_⟩
  have h1 := ev_rel hf hx
  have h2 := ev_rel hf hy
  generalize hu : ac.eval x = u at h1
  generalize hv : ac.eval y = v at h2
  cases h2
  refine ⟨.bool ad.isSome, .bool _, fun w _ => exec_binOp ho ?_ ?_⟩
  · rw [hu, hv]; cases h1 <;> (unfold eqGuard; simp)
  · rw [hu, hv]; cases h1 <;> simp only [binOp, Sem.run_bind, run_equal_ptr hT rfl, Result.andThen_ok, Sem.run_pure] <;> rfl

theorem a_not (T : TypeId) (x : Operand) {b : Bool} (ho : o.op = .unOp .not T x) (hx : ev a x = some (.bool b)) : APure P N o a H (.bool (!b)) := by
  refine ⟨fun _ _ φ w ac _ hf => ?_⟩
  have h1 := (ev_rel hf hx).scalar rfl
  exact ⟨_, .bool _, fun w _ => by unfold execOp; simp only [ho, h1, Op.unary, Sem.run_bind, Sem.run_pure, Result.andThen_ok]⟩

theorem a_neg (T : TypeId) (x : Operand) {k : IntKind} {n r : Int} (ho : o.op = .unOp .neg T x) (hx : ev a x = some (.int k n)) (hr : k.wrap (0 - n) = r) : APure P N o a H (.int k r) := by
  refine ⟨fun _ _ φ w ac _ hf => ?_⟩
  have h1 := (ev_rel hf hx).scalar rfl
  exact ⟨_, .int _ _, fun w _ => by unfold execOp; simp only [ho, h1, Op.unary, Op.intArith, Sem.run_bind, Sem.run_pure, Result.andThen_ok, hr]⟩

theorem a_pick (c x y : Operand) {b : Bool} {v u : Value} (ho : o.op = .pick c x y) (hc : ev a c = some (.bool b)) (hx : ev a x = some v) (hy : ev a y = some u) : APure P N o a H (bif b then v else u) := by
  refine ⟨fun _ _ φ w ac _ hf => ?_⟩
  have h1 := (ev_rel hf hc).scalar rfl
  cases b with
  | true => exact ⟨_, ev_rel hf hx, fun w _ => by unfold execOp; simp only [ho, h1, asBool, Sem.run_bind, Sem.run_pure, Result.andThen_ok, if_true]⟩
  | false => exact ⟨_, ev_rel hf hy, fun w _ => by unfold execOp; simp [ho, h1, asBool]⟩
theorem a_pick_true (c x y : Operand) {b : Bool} {v : Value} (ho : o.op = .pick c x y) (hc : ev a c = some (.bool b)) (hb : b = true) (hx : ev a x = some v) : APure P N o a H v := by
  refine ⟨fun _ _ φ w ac _ hf => ?_⟩
  have h1 := (ev_rel hf hc).scalar rfl
  subst hb
  exact ⟨_, ev_rel hf hx, fun w _ => by unfold execOp; simp only [ho, h1, asBool, Sem.run_bind, Sem.run_pure, Result.andThen_ok, if_true]⟩
theorem a_pick_false (c x y : Operand) {b : Bool} {v : Value} (ho : o.op = .pick c x y) (hc : ev a c = some (.bool b)) (hb : b = false) (hy : ev a y = some v) : APure P N o a H v := by
  refine ⟨fun _ _ φ w ac _ hf => ?_⟩
  have h1 := (ev_rel hf hc).scalar rfl
  subst hb
  exact ⟨_, ev_rel hf hy, fun w _ => by unfold execOp; simp [ho, h1, asBool]⟩

theorem a_conv (T U : TypeId) (x : Operand) {j k : IntKind} {n r : Int} {d : TypeDesc} (ho : o.op = .convert T U x) (hx : ev a x = some (.int j n))
    (hT : P.underlying T = some d) (hU : P.underlying U = some (.int k)) (hr : k.wrap n = r) : APure P N o a H (.int k r) := by
  refine ⟨fun _ _ φ w ac _ hf => ?_⟩
  have h1 := (ev_rel hf hx).scalar rfl
  exact ⟨_, .int _ _, fun w _ => by unfold execOp; simp [ho, h1, convert, run_underlying hT, run_underlying hU, Conv.intToInt, hr]⟩

theorem a_convs (T U : TypeId) (x : Operand) {l : List UInt8} (ho : o.op = .convert T U x) (hx : ev a x = some (S l))
    (hT : P.underlying T = some .string) (hU : P.underlying U = some .string) : APure P N o a H (S l) := by
  refine ⟨fun _ _ φ w ac _ hf => ?_⟩
  have h1 := (ev_rel hf hx).scalar rfl
  exact ⟨_, .str _, fun w _ => by unfold execOp; simp [ho, h1, convert, run_underlying hT, run_underlying hU]⟩

theorem a_sidx (T : TypeId) (x y : Operand) {l : List UInt8} {k : IntKind} {i : Int} (ho : o.op = .index T x y) (hx : ev a x = some (S l)) (hy : ev a y = some (.int k i))
    (hT : P.underlying T = some .string) (hi : 0 ≤ i ∧ i < l.length) : APure P N o a H (.int .u8 (bat l i)) := by
  refine ⟨fun _ _ φ w ac _ hf => ?_⟩
  have h1 := (ev_rel hf hx).scalar rfl
  have h2 := (ev_rel hf hy).scalar rfl
  have h3 : (⟨⟨l⟩⟩ : ByteArray)[i.toNat]? = some (l.getD i.toNat 0) := by
    have hlt : i.toNat < l.length := by omega
    have hs : i.toNat < (⟨⟨l⟩⟩ : ByteArray).size := hlt
    rw [getElem?_pos (⟨⟨l⟩⟩ : ByteArray) i.toNat hs]
    congr 1
    show (⟨l⟩ : Array UInt8)[i.toNat] = _
    simp [hlt]
  refine ⟨_, .int _ _, fun w _ => ?_⟩
  unfold execOp
  simp only [ho, h1, h2, Instr.index, asIntOf, Sem.run_bind, Sem.run_pure, Result.andThen_ok, run_underlying hT, if_pos hi.1, h3]
  rfl

theorem a_slen (T : TypeId) (x : Operand) {l : List UInt8} (ho : o.op = .call { callee := .builtin .len, args := #[x], argTypes := #[T] }) (hx : ev a x = some (S l))
    (hT : P.underlying T = some .string) : APure P N o a H (I l.length) := by
  refine ⟨fun _ _ φ w ac _ hf => ?_⟩
  have h1 := (ev_rel hf hx).scalar rfl
  refine ⟨_, .int _ _, fun w _ => ?_⟩
  unfold execOp
  simp [ho, resolve, invoke, builtin, h1, Builtin.len_, run_underlying hT, goInt]
  rfl

theorem a_len (T : TypeId) (x : Operand) {E : TypeId} {ad : Option Addr} {n fl : Nat} (ho : o.op = .call { callee := .builtin .len, args := #[x], argTypes := #[T] }) (hx : ev a x = some (.slice ad n fl))
    (hT : P.underlying T = some (.slice E)) : APure P N o a H (I n) := by
  refine ⟨fun _ _ φ w ac _ hf => ?_⟩
  have h1 := ev_rel hf hx
  generalize hu : ac.eval x = u at h1
  refine ⟨_, .int _ _, fun w _ => ?_⟩
  unfold execOp
  cases h1 <;> simp [ho, resolve, invoke, builtin, hu, Builtin.len_, run_underlying hT, goInt]

theorem a_alen (T : TypeId) (x : Operand) {E : TypeId} {n : Nat} {v : Value} (ho : o.op = .call { callee := .builtin .len, args := #[x], argTypes := #[T] }) (_hx : ev a x = some v)
    (hT : P.underlying T = some (.array n E)) : APure P N o a H (I n) := by
  refine ⟨fun _ _ φ w ac _ hf => ?_⟩
  refine ⟨_, .int _ _, fun w _ => ?_⟩
  unfold execOp
  simp [ho, resolve, invoke, builtin, Builtin.len_, run_underlying hT, goInt]

theorem a_min (T U : TypeId) (x y : Operand) {k : IntKind} {m n : Int} (ho : o.op = .call { callee := .builtin .min, args := #[x, y], argTypes := #[T, U] }) (hx : ev a x = some (.int k m)) (hy : ev a y = some (.int k n)) : APure P N o a H (.int k (min m n)) := by
  refine ⟨fun _ _ φ w ac _ hf => ?_⟩
  have h1 := (ev_rel hf hx).scalar rfl
  have h2 := (ev_rel hf hy).scalar rfl
  refine ⟨_, .int _ _, fun w _ => ?_⟩
  unfold execOp
  simp only [ho, resolve, invoke, builtin, List.map_toArray, List.map_cons, List.map_nil, h1, h2, Builtin.min_, List.foldlM_cons, List.foldlM_nil, Builtin.min2, Sem.run_bind, Sem.run_pure, Result.andThen_ok]
  rw [show (if n < m then n else m) = min m n from by omega]

theorem a_max (T U : TypeId) (x y : Operand) {k : IntKind} {m n : Int} (ho : o.op = .call { callee := .builtin .max, args := #[x, y], argTypes := #[T, U] }) (hx : ev a x = some (.int k m)) (hy : ev a y = some (.int k n)) : APure P N o a H (.int k (max m n)) := by
  refine ⟨fun _ _ φ w ac _ hf => ?_⟩
  have h1 := (ev_rel hf hx).scalar rfl
  have h2 := (ev_rel hf hy).scalar rfl
  refine ⟨_, .int _ _, fun w _ => ?_⟩
  unfold execOp
  simp only [ho, resolve, invoke, builtin, List.map_toArray, List.map_cons, List.map_nil, h1, h2, Builtin.max_, List.foldlM_cons, List.foldlM_nil, Builtin.max2, Sem.run_bind, Sem.run_pure, Result.andThen_ok]
  rw [show (if n > m then n else m) = max m n from by omega]

theorem ext_mk (l : List UInt8) (i j : Nat) : (⟨⟨l⟩⟩ : ByteArray).extract i j = ⟨⟨(l.take j).drop i⟩⟩ := by
  apply ByteArray.ext
  rw [ByteArray.data_extract]
  apply Array.ext'
  simp [List.drop_take]

theorem a_sslice (T : TypeId) (x lo hi : Operand) {l : List UInt8} {j k : IntKind} {i n : Int} (ho : o.op = .slice T x (some lo) (some hi) none) (hx : ev a x = some (S l)) (hlo : ev a lo = some (.int j i)) (hhi : ev a hi = some (.int k n))
    (hT : P.underlying T = some .string) (h1 : 0 ≤ i ∧ i ≤ n ∧ n ≤ l.length) : APure P N o a H (S ((l.take n.toNat).drop i.toNat)) := by
  refine ⟨fun _ _ φ w ac _ hf => ?_⟩
  have e1 := (ev_rel hf hx).scalar rfl
  have e2 := (ev_rel hf hlo).scalar rfl
  have e3 := (ev_rel hf hhi).scalar rfl
  have hs : (⟨⟨l⟩⟩ : ByteArray).size = l.length := rfl
  refine ⟨_, .str _, fun w _ => ?_⟩
  unfold execOp
  simp only [ho, Instr.sliceAt, Instr.slice, e1, e2, e3, Option.map_some, Option.map_none, Sem.run_bind, run_underlying hT, Result.andThen_ok, Option.isSome_none, Bool.false_eq_true, if_false, Instr.sliceBounds, Instr.sliceBound, asIntOf, Sem.run_pure, hs,
    Sem.run_ite, if_pos (show 0 ≤ n ∧ n ≤ l.length from ⟨by omega, h1.2.2⟩), if_pos (show 0 ≤ i ∧ i ≤ (n.toNat : Int) from ⟨h1.1, by omega⟩), ext_mk]

theorem a_sfrom (T : TypeId) (x lo : Operand) {l : List UInt8} {j : IntKind} {i : Int} (ho : o.op = .slice T x (some lo) none none) (hx : ev a x = some (S l)) (hlo : ev a lo = some (.int j i))
    (hT : P.underlying T = some .string) (h1 : 0 ≤ i ∧ i ≤ l.length) : APure P N o a H (S (l.drop i.toNat)) := by
  refine ⟨fun _ _ φ w ac _ hf => ?_⟩
  have e1 := (ev_rel hf hx).scalar rfl
  have e2 := (ev_rel hf hlo).scalar rfl
  have hs : (⟨⟨l⟩⟩ : ByteArray).size = l.length := rfl
  refine ⟨_, .str _, fun w _ => ?_⟩
  unfold execOp
  simp only [ho, Instr.sliceAt, Instr.slice, e1, e2, Option.map_some, Option.map_none, Sem.run_bind, run_underlying hT, Result.andThen_ok, Option.isSome_none, Bool.false_eq_true, if_false, Instr.sliceBounds, Instr.sliceBound, asIntOf, Sem.run_pure, hs,
    Sem.run_ite, if_pos h1, ext_mk, List.take_length]

theorem a_sto (T : TypeId) (x hi : Operand) {l : List UInt8} {k : IntKind} {n : Int} (ho : o.op = .slice T x none (some hi) none) (hx : ev a x = some (S l)) (hhi : ev a hi = some (.int k n))
    (hT : P.underlying T = some .string) (h1 : 0 ≤ n ∧ n ≤ l.length) : APure P N o a H (S (l.take n.toNat)) := by
  refine ⟨fun _ _ φ w ac _ hf => ?_⟩
  have e1 := (ev_rel hf hx).scalar rfl
  have e3 := (ev_rel hf hhi).scalar rfl
  have hs : (⟨⟨l⟩⟩ : ByteArray).size = l.length := rfl
  refine ⟨_, .str _, fun w _ => ?_⟩
  unfold execOp
  simp only [ho, Instr.sliceAt, Instr.slice, e1, e3, Option.map_some, Option.map_none, Sem.run_bind, run_underlying hT, Result.andThen_ok, Option.isSome_none, Bool.false_eq_true, if_false, Instr.sliceBounds, Instr.sliceBound, asIntOf, Sem.run_pure, hs,
    Sem.run_ite, if_pos h1, ext_mk, List.drop_zero]

theorem a_extract (x : Operand) (i : Nat) {vs : Array Value} {v : Value} (ho : o.op = .extract x i) (hx : ev a x = some (.tuple vs)) (hv : vs[i]? = some v) : APure P N o a H v := by
  refine ⟨fun _ _ φ w ac _ hf => ?_⟩
  have h1 := ev_rel hf hx
  generalize hu : ac.eval x = u at h1
  cases h1 with
  | tuple _ us e1 e2 =>
    obtain ⟨u', g1, g2⟩ := (VRel.of_arrays e1 e2).get i v (by simpa using hv)
    refine ⟨u', g2, fun w _ => ?_⟩
    unfold execOp
    simp only [ho, hu, Instr.extract, g1, Sem.run_bind, Sem.run_pure, Result.andThen_ok]

theorem a_makeFunc (fn : Fn) (xs ys : List Operand) {us vs : List Value} (ho : o.op = .makeFunc fn xs.toArray ys.toArray) (hx : evs a xs = some us) (hy : evs a ys = some vs) : APure P N o a H (.func fn us.toArray vs.toArray) := by
  refine ⟨fun _ _ φ w ac _ hf => ?_⟩
  have h1 := evs_rel hf hx
  have h2 := evs_rel hf hy
  refine ⟨.func fn (xs.map ac.eval).toArray (ys.map ac.eval).toArray, ?_, fun w _ => ?_⟩
  · refine .func _ _ _ _ _ ?_ ?_ ?_ ?_
    · simpa using h1.size.symm
    · intro i h h'
      obtain ⟨v', g1, g2⟩ := h1.get i us.toArray[i] (by simp)
      have : v' = (xs.map ac.eval).toArray[i] := by rw [Array.getElem?_eq_getElem h'] at g1; exact (Option.some.inj g1).symm
      rw [← this]; exact g2
    · simpa using h2.size.symm
    · intro i h h'
      obtain ⟨v', g1, g2⟩ := h2.get i vs.toArray[i] (by simp)
      have : v' = (ys.map ac.eval).toArray[i] := by rw [Array.getElem?_eq_getElem h'] at g1; exact (Option.some.inj g1).symm
      rw [← this]; exact g2
  · unfold execOp
    simp only [ho, Instr.makeFunc, Sem.run_bind, Sem.run_pure, Result.andThen_ok, List.map_toArray]

theorem a_nilCheck (x : Operand) {ad : Addr} (ho : o.op = .nilCheck x) (hx : ev a x = some (.pointer (some ad))) : APure P N o a H (.pointer (some ad)) := by
  refine ⟨fun _ _ φ w ac _ hf => ?_⟩
  have h1 := ev_rel hf hx
  refine ⟨ac.eval x, h1, ?_⟩
  generalize hu : ac.eval x = u at h1
  unfold execOp
  cases h1
  simp [ho, hu]

theorem a_nilCheckF (x : Operand) {f : FuncId} {us vs : Array Value} (ho : o.op = .nilCheck x) (hx : ev a x = some (.func (.func f) us vs)) : APure P N o a H (.func (.func f) us vs) := by
  refine ⟨fun _ _ φ w ac _ hf => ?_⟩
  have h1 := ev_rel hf hx
  refine ⟨ac.eval x, h1, ?_⟩
  generalize hu : ac.eval x = u at h1
  unfold execOp
  cases h1
  simp [ho, hu]

theorem a_makeIface (T : TypeId) (x : Operand) {v : Value} {d : TypeDesc} (ho : o.op = .makeInterface T x) (hx : ev a x = some v) (hT : P.underlying T = some d) (hd : (match d with | .interface _ => false | _ => true) = true) : APure P N o a H (.iface T v) := by
  refine ⟨fun _ _ φ w ac _ hf => ?_⟩
  refine ⟨.iface T (ac.eval x), .iface _ _ _ (ev_rel hf hx), fun w _ => ?_⟩
  unfold execOp
  cases d <;> first | (simp at hd; done) | simp [ho, Instr.makeInterface, run_underlying hT]

end
end Go.Gh
