/- Separation over the ghost heap: rows of cells, ends of functions, small helpers. -/
import Derived.Test.YtinfmojbdaiogaaSlC
set_option linter.unusedVariables false
set_option linter.unusedSimpArgs false
set_option maxRecDepth 4000
namespace Go.Gh
open Go.RowKit

/-! Rows of records, each of w cells -/
section
variable {α : Type} {f : α → List Value} {w : Nat}
def recs (f : α → List Value) : List α → List Value
  | [] => []
  | x :: r => f x ++ recs f r
@[simp] theorem recs_nil : recs f [] = [] := rfl
theorem recs_app : ∀ {l m : List α}, recs f (l ++ m) = recs f l ++ recs f m
  | [], _ => rfl
  | x :: r, m => by simp only [List.cons_append, recs, recs_app (l := r), List.append_assoc]
theorem recs_one {x : α} : recs f [x] = f x := List.append_nil _
theorem recs_snoc {l : List α} {x : α} : recs f (l ++ [x]) = recs f l ++ f x := by rw [recs_app, recs_one]
theorem recs_snocE {l : List α} {x : α} {c : List Value} (h : c = f x) : recs f l ++ c = recs f (l ++ [x]) := by rw [h, recs_snoc]
theorem recs_len (hw : ∀ x, (f x).length = w) : ∀ l : List α, (recs f l).length = l.length * w
  | [] => by simp [recs]
  | x :: r => by simp only [recs, List.length_append, List.length_cons, hw, recs_len hw r, Nat.add_mul, Nat.one_mul]; omega
theorem recs_get [Inhabited α] (hw : ∀ x, (f x).length = w) : ∀ {l : List α} {i j : Nat}, i < l.length → j < w → (recs f l)[i * w + j]? = (f l[i]!)[j]?
  | [], i, j, h, _ => by simp at h
  | x :: r, 0, j, _, hj => by
    simp only [recs, Nat.zero_mul, Nat.zero_add]
    rw [List.getElem?_append_left (by rw [hw]; exact hj)]
    rfl
  | x :: r, i + 1, j, h, hj => by
    simp only [recs]
    rw [List.getElem?_append_right (by rw [hw, Nat.add_mul]; omega), hw, show (i + 1) * w + j - w = i * w + j by rw [Nat.add_mul]; omega,
      recs_get hw (by simpa using h) hj]
    simp
theorem recs_set (hw : ∀ x, (f x).length = w) : ∀ {l : List α} {i : Nat} {x : α}, i < l.length → lset (recs f l) (i * w) (f x) = recs f (l.set i x)
  | [], i, x, h => by simp at h
  | y :: r, 0, x, _ => by
    simp only [recs, lset, List.set_cons_zero, Nat.zero_mul, List.take_zero, List.nil_append, Nat.zero_add, hw]
    rw [List.drop_append_of_le_length (by rw [hw]; exact Nat.le_refl _), List.drop_of_length_le (by rw [hw]; exact Nat.le_refl _), List.nil_append]
  | y :: r, i + 1, x, h => by
    have ih := recs_set hw (l := r) (i := i) (x := x) (by simpa using h)
    simp only [lset, hw] at ih
    simp only [recs, lset, List.set_cons_succ, hw]
    rw [← ih, show (i + 1) * w = (f y).length + i * w by rw [hw, Nat.add_mul]; omega, show (f y).length + i * w + w = (f y).length + (i * w + w) from by omega, List.take_append, List.drop_append, List.take_of_length_le (by omega), List.drop_of_length_le (l := f y) (by omega)]
    simp [List.append_assoc]
theorem recs_zrow [Inhabited α] (hw : ∀ x, (f x).length = w) (h0 : 0 < w) {z : Value} (x : α) (hz : vcells z = f x) (n : Nat) : zrow z (n * w) = recs f (List.replicate n x) := by
  have hz' : z.cells.toList = f x := by rw [vcells_ok, hz]
  have hs : z.cells.size = w := by rw [← Array.length_toList, hz', hw]
  apply List.ext_getElem?
  intro k
  by_cases hk : k < n * w
  · have hq : k / w < n := (Nat.div_lt_iff_lt_mul h0).2 hk
    have := recs_get hw (l := List.replicate n x) (i := k / w) (j := k % w) (by simpa using hq) (Nat.mod_lt _ h0)
    rw [Nat.div_add_mod'] at this
    rw [this, getElem!_pos _ _ (by simpa using hq), List.getElem_replicate]
    unfold zrow
    rw [List.getElem?_map, List.getElem?_range hk, hs, Option.map_some, hz', List.getD_eq_getElem?_getD, List.getElem?_eq_getElem (by rw [hw]; exact Nat.mod_lt _ h0)]
    rfl
  · rw [List.getElem?_eq_none (by simp [zrow]; omega), List.getElem?_eq_none (by rw [recs_len hw]; simp; omega)]
/-- A record, a cell of a record. -/
theorem subAt_rec [Inhabited α] {l : List α} {i : Nat} (hw : ∀ x, (f x).length = w) (hi : i < l.length) : SubAt (recs f l) (0 + i * w) (f l[i]!) := fun j v hj => by
  have hj2 := (List.getElem?_eq_some_iff.1 hj).1
  rw [hw] at hj2
  rw [Nat.zero_add, recs_get hw hi hj2]; exact hj
theorem subAt_recZ [Inhabited α] {l : List α} {i : Nat} (hw : ∀ x, (f x).length = w) (hi : i < l.length) : SubAt (recs f l) (0 + ((i : Int)).toNat * w) (f l[i]!) := subAt_rec hw hi
theorem cell_rec [Inhabited α] {l : List α} {i fo : Nat} {v : Value} (hw : ∀ x, (f x).length = w) (hi : i < l.length) (hf : fo < w) (hv : (f l[i]!)[fo]? = some v) : (recs f l)[0 + i * w + fo]? = some v := by
  rw [Nat.zero_add, recs_get hw hi hf]; exact hv
theorem cell_recZ [Inhabited α] {l : List α} {i fo : Nat} {v : Value} (hw : ∀ x, (f x).length = w) (hi : i < l.length) (hf : fo < w) (hv : (f l[i]!)[fo]? = some v) : (recs f l)[0 + ((i : Int)).toNat * w + fo]? = some v := cell_rec hw hi hf hv
theorem putAt_rec {l : List α} {i : Nat} {x : α} (hw : ∀ x, (f x).length = w) (hi : i < l.length) : PutAt (recs f l) (0 + i * w) (f x) (recs f (l.set i x)) := by
  refine ⟨?_, ?_⟩
  · rw [hw, recs_len hw, Nat.zero_add]
    calc i * w + w = (i + 1) * w := by rw [Nat.add_mul, Nat.one_mul]
      _ ≤ l.length * w := Nat.mul_le_mul_right w hi
  · rw [Nat.zero_add]; exact (recs_set hw hi).symm
theorem putAt_recZ {l : List α} {i : Nat} {x : α} (hw : ∀ x, (f x).length = w) (hi : i < l.length) : PutAt (recs f l) (0 + ((i : Int)).toNat * w) (f x) (recs f (l.set i x)) := putAt_rec hw hi
end
/-! Rows of single cells -/
section
variable {α : Type} {f : α → Value}
theorem cell_map [Inhabited α] {l : List α} {i : Nat} (hi : i < l.length) : (l.map f)[0 + i * 1]? = some (f l[i]!) := by
  rw [Nat.zero_add, Nat.mul_one, List.getElem?_map, List.getElem?_eq_getElem hi, getElem!_pos l i hi]; rfl
theorem cell_mapZ [Inhabited α] {l : List α} {i : Nat} (hi : i < l.length) : (l.map f)[0 + ((i : Int)).toNat * 1]? = some (f l[i]!) := cell_map hi
theorem setAt_map {l : List α} {i : Nat} {x : α} (hi : i < l.length) : SetAt (l.map f) (0 + i * 1) (f x) ((l.set i x).map f) := by
  rw [Nat.zero_add, Nat.mul_one, List.map_set]; exact SetAt.any (by simpa using hi)
theorem setAt_mapZ {l : List α} {i : Nat} {x : α} (hi : i < l.length) : SetAt (l.map f) (0 + ((i : Int)).toNat * 1) (f x) ((l.set i x).map f) := setAt_map hi
theorem all_map {l : List α} (h : ∀ x, one (f x) = true) : (l.map f).all one = true := by simp [h]
theorem map_zrow {z : Value} (x : α) (h : one z = true) (hz : z = f x) (n : Nat) : zrow z (n * 1) = (List.replicate n x).map f := by
  rw [zrow_one h, Nat.mul_one, List.map_replicate, hz]
end
theorem map_snocE {α : Type} {f : α → Value} {l : List α} {x : α} {v : Value} (h : v = f x) : l.map f ++ [v] = (l ++ [x]).map f := by rw [h, List.map_append]; rfl
theorem cell_bytes {l : List UInt8} {i : Int} (hi : 0 ≤ i ∧ i < l.length) : (bytesV l)[0 + i.toNat * 1]? = some (.int .u8 (bat l i)) := by
  have h : i.toNat < l.length := by omega
  rw [Nat.zero_add, Nat.mul_one]
  unfold bytesV bat
  rw [List.getElem?_map, List.getElem?_eq_getElem h, List.getD_eq_getElem?_getD, List.getElem?_eq_getElem h]; rfl
theorem bytesV_app {l m : List UInt8} : bytesV (l ++ m) = bytesV l ++ bytesV m := by unfold bytesV; rw [List.map_append]
@[simp] theorem bytesV_nil : bytesV [] = [] := rfl
theorem bytesV_all (l : List UInt8) : (bytesV l).all one = true := by unfold bytesV; simp [one]
theorem recs_all {α : Type} {f : α → List Value} {l : List α} (h : ∀ x, (f x).all one = true) : (recs f l).all one = true := by
  induction l with
  | nil => rfl
  | cons x r ih => simp only [recs, List.all_append, h x, ih, Bool.and_self]
/-- The byte of a number. -/
def b8 (n : Int) : UInt8 := UInt8.ofNat n.toNat
theorem b8_val {n : Int} (h : 0 ≤ n ∧ n < 256) : ((b8 n).toNat : Int) = n := by
  unfold b8; rw [UInt8.toNat_ofNat']; omega
theorem bytesV_one {n : Int} (h : 0 ≤ n ∧ n < 256) : bytesV [b8 n] = [.int .u8 n] := by
  show [Value.int .u8 ((b8 n).toNat : Int)] = _; rw [b8_val h]
theorem bytesV_snoc {l : List UInt8} {n : Int} (h : 0 ≤ n ∧ n < 256) : bytesV l ++ [.int .u8 n] = bytesV (l ++ [b8 n]) := by rw [bytesV_app, bytesV_one h]
theorem setAt_bytes {l : List UInt8} {i n : Int} (hi : 0 ≤ i ∧ i < l.length) (h : 0 ≤ n ∧ n < 256) : SetAt (bytesV l) (0 + i.toNat * 1) (.int .u8 n) (bytesV (l.set i.toNat (b8 n))) := by
  have e : (.int .u8 n : Value) = .int .u8 ((b8 n).toNat : Int) := by rw [b8_val h]
  have hlt : i.toNat < l.length := by omega
  rw [e]
  exact setAt_map (f := fun c : UInt8 => Value.int .u8 (c.toNat : Int)) (x := b8 n) hlt

/-! Ends -/
section
variable {P : Program} {tt : TT} {a : AF} {h h1 : SH} {fn : Func} {R : Value → SH → Prop} {vs : List Value}
theorem res_cell {A n b T : Nat} {cs : List Value} {ro : Bool} {e : TE} {r : List ResultVar} {us : List Value} (ht : tt.Ok P) (hb : get a b = some (gptr A 0 n)) (hT : tt.get T = some e) (hk : e.k.agg = true) (hp : Pick h A ⟨cs, ro⟩ h1) (hn : cs.length = n) (hs : cs.length = e.sz) (hr : ResS P a h r us) :
    ResS P a h (.cell b T :: r) (.agg ⟨cs⟩ :: us) := by
  refine ⟨⟨A, 0, n, ⟨cs, ro⟩, h1, hb, hp, hn, .inl ?_⟩, hr⟩
  obtain ⟨z, hI, _⟩ := te_inf (TT.get_ok ht hT)
  refine ⟨z, _, _, by rw [te_agg (TT.get_ok ht hT), hk], hI, by simp [hs], ?_⟩
  rw [List.drop_zero, ← hs]
  congr 1
  simp
theorem res_cell1 {A n b T : Nat} {v : Value} {ro : Bool} {e : TE} {r : List ResultVar} {us : List Value} (ht : tt.Ok P) (hb : get a b = some (gptr A 0 n)) (hT : tt.get T = some e) (hk : e.k.agg = false) (hp : Pick h A ⟨[v], ro⟩ h1) (hn : 1 = n) (hr : ResS P a h r us) :
    ResS P a h (.cell b T :: r) (v :: us) :=
  ⟨⟨A, 0, n, ⟨[v], ro⟩, h1, hb, hp, hn, .inr ⟨by rw [te_agg (TT.get_ok ht hT), hk], rfl⟩⟩, hr⟩
end
section
variable {P : Program} {sz : Nat} {ops : Array Oper} {Q : SPost} {rest : List Oper} {a : AF} {h : SH} {m : Mode} {t j d : Nat} {op : Op} {ty : TypeId} {pos : String} {aft : Array Edge}
/-- Ways that meet again, ahead of more code. -/
theorem w_meet {S : Type} {c y : Code} {Q' : SPost} (A : S → AF) (G : S → SH) (I : S → Prop)
    (k1 : SWp P sz c (thenS (fun a' h' => ∃ s, I s ∧ Sub (A s) a' ∧ Take h' (G s)) Q') a h) (k2 : ∀ s, I s → SWp P sz y Q (A s) (G s)) : SWp P sz c (thenS (fun a h => SWp P sz y Q a h) Q') a h :=
  w_cut A G I k1 fun s hs _ _ h1 h2 => (k2 s hs).take h1 h2
theorem w_ifN {c : Operand} {x y : Code} {q : Prop} {_ : Decidable ((¬ q))} (hc : ev a c = some (.bool (decide (¬ q)))) (h1 : ¬ q → SWp P sz x Q a h) (h2 : q → SWp P sz y Q a h) : SWp P sz (.cond c x y) Q a h :=
  w_if hc h1 (fun hn => h2 (Classical.not_not.1 hn))
theorem o_guardTN {q : Prop} {_ : Decidable (¬ q)} (hd : (ops[j]?).bind (·.dst) = some d) (hb : get a d = some (.bool (decide (¬ q)))) (hN : Nat.blt t sz = true)
    (h1 : ¬ q → GO m P sz ops Q (⟨some t, op, ty, pos, aft, none⟩ :: rest) ((d, .bool true) :: a) h) (h2 : q → GO m.next P sz ops Q rest ((t, undef) :: (d, .bool false) :: a) h) :
    GO m P sz ops Q (⟨some t, op, ty, pos, aft, some (j, true)⟩ :: rest) a h := o_guardT hd hb hN h1 (fun hn => h2 (Classical.not_not.1 hn))
theorem o_guardFN {q : Prop} {_ : Decidable (¬ q)} (hd : (ops[j]?).bind (·.dst) = some d) (hb : get a d = some (.bool (decide (¬ q)))) (hN : Nat.blt t sz = true)
    (h1 : q → GO m P sz ops Q (⟨some t, op, ty, pos, aft, none⟩ :: rest) ((d, .bool false) :: a) h) (h2 : ¬ q → GO m.next P sz ops Q rest ((t, undef) :: (d, .bool true) :: a) h) :
    GO m P sz ops Q (⟨some t, op, ty, pos, aft, some (j, false)⟩ :: rest) a h := o_guardF hd hb hN (fun hn => h1 (Classical.not_not.1 hn)) h2
theorem o_gT {p : Prop} {_ : Decidable (p)} {want : Bool} (hd : (ops[j]?).bind (·.dst) = some d) (hb : get a d = some (.bool (decide p))) (hw : want = true) (hp : p)
    (k : GO m P sz ops Q (⟨some t, op, ty, pos, aft, none⟩ :: rest) ((d, .bool true) :: a) h) : GO m P sz ops Q (⟨some t, op, ty, pos, aft, some (j, want)⟩ :: rest) a h := by
  subst hw
  rw [decide_eq_true hp] at hb
  exact o_again hb (o_want hd (by unfold get; rw [show Nat.beq d d = true from Nat.beq_refl d]; rfl) k)
theorem o_gF {p : Prop} {_ : Decidable (p)} {want : Bool} (hd : (ops[j]?).bind (·.dst) = some d) (hb : get a d = some (.bool (decide p))) (hw : want = false) (hp : ¬ p)
    (k : GO m P sz ops Q (⟨some t, op, ty, pos, aft, none⟩ :: rest) ((d, .bool false) :: a) h) : GO m P sz ops Q (⟨some t, op, ty, pos, aft, some (j, want)⟩ :: rest) a h := by
  subst hw
  rw [decide_eq_false hp] at hb
  exact o_again hb (o_want hd (by unfold get; rw [show Nat.beq d d = true from Nat.beq_refl d]; rfl) k)
theorem o_sF {p : Prop} {_ : Decidable (p)} {want : Bool} (hd : (ops[j]?).bind (·.dst) = some d) (hb : get a d = some (.bool (decide p))) (hw : want = true) (hp : ¬ p) (hN : Nat.blt t sz = true)
    (k : GO m.next P sz ops Q rest ((t, undef) :: (d, .bool false) :: a) h) : GO m P sz ops Q (⟨some t, op, ty, pos, aft, some (j, want)⟩ :: rest) a h := by
  subst hw
  rw [decide_eq_false hp] at hb
  exact o_again hb (o_skip hd (by unfold get; rw [show Nat.beq d d = true from Nat.beq_refl d]; rfl) rfl hN k)
theorem o_sT {p : Prop} {_ : Decidable (p)} {want : Bool} (hd : (ops[j]?).bind (·.dst) = some d) (hb : get a d = some (.bool (decide p))) (hw : want = false) (hp : p) (hN : Nat.blt t sz = true)
    (k : GO m.next P sz ops Q rest ((t, undef) :: (d, .bool true) :: a) h) : GO m P sz ops Q (⟨some t, op, ty, pos, aft, some (j, want)⟩ :: rest) a h := by
  subst hw
  rw [decide_eq_true hp] at hb
  exact o_again hb (o_skip hd (by unfold get; rw [show Nat.beq d d = true from Nat.beq_refl d]; rfl) rfl hN k)
end
section
variable {P : Program} {f : FuncId} {fn : Func} {c : Code} {h : SH} {R : Value → SH → Prop} {x0 x1 x2 x3 x4 x5 x6 x7 x8 x9 : Value}
theorem w_body0 (hf : P.funcs[f]? = some fn) (hb : fn.body = some c) (hN : Nat.ble 0 fn.ntmps = true) (k : SWp P fn.ntmps c (bodyS P fn R) [] h) : SRun P f [] h R := w_body hf hb hN k
theorem w_body1 (hf : P.funcs[f]? = some fn) (hb : fn.body = some c) (hN : Nat.ble 1 fn.ntmps = true) (k : SWp P fn.ntmps c (bodyS P fn R) [(0, x0)] h) : SRun P f [x0] h R := w_body hf hb hN k
theorem w_body2 (hf : P.funcs[f]? = some fn) (hb : fn.body = some c) (hN : Nat.ble 2 fn.ntmps = true) (k : SWp P fn.ntmps c (bodyS P fn R) [(0, x0), (1, x1)] h) : SRun P f [x0, x1] h R := w_body hf hb hN k
theorem w_body3 (hf : P.funcs[f]? = some fn) (hb : fn.body = some c) (hN : Nat.ble 3 fn.ntmps = true) (k : SWp P fn.ntmps c (bodyS P fn R) [(0, x0), (1, x1), (2, x2)] h) : SRun P f [x0, x1, x2] h R := w_body hf hb hN k
theorem w_body4 (hf : P.funcs[f]? = some fn) (hb : fn.body = some c) (hN : Nat.ble 4 fn.ntmps = true) (k : SWp P fn.ntmps c (bodyS P fn R) [(0, x0), (1, x1), (2, x2), (3, x3)] h) : SRun P f [x0, x1, x2, x3] h R := w_body hf hb hN k
theorem w_body5 (hf : P.funcs[f]? = some fn) (hb : fn.body = some c) (hN : Nat.ble 5 fn.ntmps = true) (k : SWp P fn.ntmps c (bodyS P fn R) [(0, x0), (1, x1), (2, x2), (3, x3), (4, x4)] h) : SRun P f [x0, x1, x2, x3, x4] h R := w_body hf hb hN k
theorem w_body6 (hf : P.funcs[f]? = some fn) (hb : fn.body = some c) (hN : Nat.ble 6 fn.ntmps = true) (k : SWp P fn.ntmps c (bodyS P fn R) [(0, x0), (1, x1), (2, x2), (3, x3), (4, x4), (5, x5)] h) : SRun P f [x0, x1, x2, x3, x4, x5] h R := w_body hf hb hN k
theorem w_body7 (hf : P.funcs[f]? = some fn) (hb : fn.body = some c) (hN : Nat.ble 7 fn.ntmps = true) (k : SWp P fn.ntmps c (bodyS P fn R) [(0, x0), (1, x1), (2, x2), (3, x3), (4, x4), (5, x5), (6, x6)] h) : SRun P f [x0, x1, x2, x3, x4, x5, x6] h R := w_body hf hb hN k
theorem w_body8 (hf : P.funcs[f]? = some fn) (hb : fn.body = some c) (hN : Nat.ble 8 fn.ntmps = true) (k : SWp P fn.ntmps c (bodyS P fn R) [(0, x0), (1, x1), (2, x2), (3, x3), (4, x4), (5, x5), (6, x6), (7, x7)] h) : SRun P f [x0, x1, x2, x3, x4, x5, x6, x7] h R := w_body hf hb hN k
theorem w_body9 (hf : P.funcs[f]? = some fn) (hb : fn.body = some c) (hN : Nat.ble 9 fn.ntmps = true) (k : SWp P fn.ntmps c (bodyS P fn R) [(0, x0), (1, x1), (2, x2), (3, x3), (4, x4), (5, x5), (6, x6), (7, x7), (8, x8)] h) : SRun P f [x0, x1, x2, x3, x4, x5, x6, x7, x8] h R := w_body hf hb hN k
end
theorem Pick.comm {h h1 h2 : SH} {A B : Nat} {a b : Blk} (p : Pick h A a h1) (q : Pick h1 B b h2) : ∃ h3, Pick h B b h3 ∧ Pick h3 A a h2 := by
  induction p generalizing h2 with
  | head => exact ⟨_, .tail q, .head⟩
  | tail p ih =>
    cases q with
    | head => exact ⟨_, .head, p⟩
    | tail q => obtain ⟨h3, g1, g2⟩ := ih q; exact ⟨_, .tail g1, .tail g2⟩
theorem Take.pick {h h1 h1' : SH} {A : Nat} {b : Blk} (t : Take h h1) (p : Pick h1 A b h1') : ∃ h', Pick h A b h' ∧ Take h' h1' := by
  induction t generalizing h1' with
  | nil => exact ⟨_, p, .nil⟩
  | cons pk t ih =>
    cases p with
    | head => exact ⟨_, pk, t⟩
    | tail p => obtain ⟨h2, g1, g2⟩ := ih p; obtain ⟨h3, g3, g4⟩ := pk.comm g1; exact ⟨h3, g3, .cons g4 g2⟩
  | consE pk e t ih =>
    subst e
    cases p with
    | head => exact ⟨_, pk, t⟩
    | tail p => obtain ⟨h2, g1, g2⟩ := ih p; obtain ⟨h3, g3, g4⟩ := pk.comm g1; exact ⟨h3, g3, .cons g4 g2⟩
  | drop t ih => obtain ⟨h2, g1, g2⟩ := ih p; exact ⟨_, .tail g1, .drop g2⟩
theorem Take.part {h h' r : SH} {A : Nat} {b : Blk} (p : Pick h A b h') (t : Take h' r) : Take h r := by
  induction t generalizing h with
  | @nil h' =>
    induction p with
    | head => exact .drop .nil
    | @tail A b x h h1 p ih => obtain ⟨B, c⟩ := x; exact .cons .head ih
  | cons q _ ih => obtain ⟨h3, g1, g2⟩ := p.comm q; exact .cons g1 (ih g2)
  | consE q e _ ih => obtain ⟨h3, g1, g2⟩ := p.comm q; exact .consE g1 e (ih g2)
  | @drop x h1 r t ih =>
    cases p with
    | head => exact .drop (.drop t)
    | tail p => exact .drop (ih p)
theorem Take.trans {h h1 h2 : SH} (t : Take h h1) (u : Take h1 h2) : Take h h2 := by
  induction u generalizing h with
  | nil => exact t
  | cons p _ ih => obtain ⟨h', g1, g2⟩ := t.pick p; exact .cons g1 (ih g2)
  | consE p e _ ih => obtain ⟨h', g1, g2⟩ := t.pick p; exact .consE g1 e (ih g2)
  | @drop x h1 r u ih =>
    obtain ⟨A, b⟩ := x
    obtain ⟨h', g1, g2⟩ := t.pick .head
    exact Take.part g1 (ih g2)
theorem SRun.take {P : Program} {f : FuncId} {as : List Value} {p p' : SH} {R : Value → SH → Prop} (t : Take p p') (k : SRun P f as p' R) : SRun P f as p R := by
  unfold SRun at k ⊢
  intro H i
  exact (k H (i.le t.le).refl).mono fun r H' ⟨q, g1, g2⟩ => ⟨q, g1, (i.le t.le).comp g2⟩
theorem Take.drops {h r : SH} : ∀ {l : SH}, Take h r → Take (l ++ h) r
  | [], k => k
  | _ :: _, k => .drop (Take.drops k)
theorem drop_bang {α : Type} [Inhabited α] {l : List α} {k : Nat} (h : k < l.length) : l.drop k = l[k]! :: l.drop (k + 1) := by
  rw [List.drop_eq_getElem_cons h, getElem!_pos l k h]
/-- A slice that came in: n elements, each of w cells; of a block only if there are any. -/
def Has (h : SH) (c : List Value) (w n : Nat) (v : Value) : Prop := ∃ ad fl, v = .slice ad n fl ∧ (n ≠ 0 → ∃ A ro h1, ad = some ⟨A, 0, some (w * n)⟩ ∧ Pick h A ⟨c, ro⟩ h1)
theorem pick_lock {h h1 : SH} {A : Nat} {b : Blk} (p : Pick h A b h1) : Pick (lockS h) A b.lock (lockS h1) := by
  induction p with
  | head => exact .head
  | tail _ ih => exact .tail ih
theorem take_lock {h h1 : SH} (t : Take h h1) : Take (lockS h) (lockS h1) := by
  induction t with
  | nil => exact .nil
  | cons p _ ih => exact .cons (pick_lock p) ih
  | consE p e _ ih => subst e; exact .cons (pick_lock p) ih
  | drop _ ih => exact .drop ih
theorem Has.lock {h : SH} {c : List Value} {w n : Nat} {v : Value} (k : Has h c w n v) : Has (lockS h) c w n v := by
  obtain ⟨ad, fl, e, k⟩ := k
  refine ⟨ad, fl, e, fun hn => ?_⟩
  obtain ⟨A, ro, h1, e2, p⟩ := k hn
  exact ⟨A, _, _, e2, pick_lock p⟩
theorem Has.re {h h' : SH} {c : List Value} {w n : Nat} {v : Value} (k : Has h c w n v) (t : Take h' h) : Has h' c w n v := by
  obtain ⟨ad, fl, e, k⟩ := k
  refine ⟨ad, fl, e, fun hn => ?_⟩
  obtain ⟨A, ro, h1, e2, p⟩ := k hn
  obtain ⟨h2, g, _⟩ := t.pick p
  exact ⟨A, ro, h2, e2, g⟩
theorem blkE {c c' : List Value} {ro : Bool} (h : c = c') : (⟨c, ro⟩ : Blk) = ⟨c', ro⟩ := by rw [h]
theorem gslE {A A' o o' n n' l l' f f' : Nat} (h1 : A = A') (h2 : o = o') (h3 : n = n') (h4 : l = l') (h5 : f = f') : gsl A o n l f = gsl A' o' n' l' f' := by subst h1 h2 h3 h4 h5; rfl
end Go.Gh
