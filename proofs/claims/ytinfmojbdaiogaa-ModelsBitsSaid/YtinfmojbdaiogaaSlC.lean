/- Separation over the ghost heap: the laws of the operations at their turn. -/
import Derived.Test.YtinfmojbdaiogaaSlB
set_option linter.unusedVariables false
set_option linter.unusedSimpArgs false
set_option maxRecDepth 4000
namespace Go.Gh
open Go.RowKit

/-- The value at a place of a list is set. -/
inductive SetAt : List Value → Nat → Value → List Value → Prop
  | zero {x v l} : SetAt (x :: l) 0 v (v :: l)
  | succ {x v l n l'} : SetAt l n v l' → SetAt (x :: l) (n + 1) v (x :: l')
theorem SetAt.ok {l l' : List Value} {n : Nat} {v : Value} (h : SetAt l n v l') : n < l.length ∧ l' = l.set n v := by
  induction h with
  | zero => simp
  | succ _ ih => obtain ⟨h1, rfl⟩ := ih; simp; omega
theorem SetAt.any {l : List Value} {n : Nat} {v : Value} (h : n < l.length) : SetAt l n v (l.set n v) := by
  induction l generalizing n with
  | nil => simp at h
  | cons x r ih =>
    cases n with
    | zero => exact .zero
    | succ n => exact .succ (ih (by simpa using h))
/-- Cells are written over. -/
def PutAt (l : List Value) (o : Nat) (vs l' : List Value) : Prop := o + vs.length ≤ l.length ∧ l' = lset l o vs
theorem putAt_any {l vs : List Value} {o : Nat} (h : o + vs.length ≤ l.length) : PutAt l o vs (lset l o vs) := ⟨h, rfl⟩
theorem putAt_all {l vs : List Value} (h : l.length = vs.length) : PutAt l 0 vs vs := ⟨by omega, by
  unfold lset; rw [List.drop_of_length_le (by omega)]; simp⟩

theorem setAt_putAt {l l' : List Value} {o : Nat} {v : Value} (h : SetAt l o v l') : PutAt l o [v] l' := by
  obtain ⟨h1, rfl⟩ := h.ok
  refine ⟨by simp; omega, ?_⟩
  simp only [lset, List.length_singleton]
  rw [List.set_eq_take_append_cons_drop, if_pos h1]
  simp

/-- The parts of a struct. -/
inductive BuildR (pl : List (Nat × Nat)) : List Value → List (Nat × Value) → List Value → Prop
  | nil {zs} : BuildR pl zs [] zs
  | one {zs zs' i off v r out} (hp : pl[i]? = some (off, 1)) (ho : Go.Gh.one v = true) (hs : SetAt zs off v zs') (k : BuildR pl zs' r out) : BuildR pl zs ((i, v) :: r) out
  | agg {zs zs' i off s vs r out} (hp : pl[i]? = some (off, s)) (ho : vs.length = s) (hs : PutAt zs off vs zs') (k : BuildR pl zs' r out) : BuildR pl zs ((i, .agg ⟨vs⟩) :: r) out
theorem one_cells {v : Value} (hv : one v = true) : v.cells = #[v] := by cases v <;> first | (simp [one] at hv; done) | rfl
theorem gfill_step {places : Nat → Option (Nat × Nat)} {cells : List Value} {i off size : Nat} {v : Value} {r : List (Nat × Value)} (hp : places i = some (off, size)) (hs : v.cells.size = size) (hl : off + size ≤ cells.length) :
    gfill places cells ((i, v) :: r) = gfill places (lset cells off v.cells.toList) r := by
  simp only [gfill, hp, gfill.constOk1, hs, hl, decide_true, Bool.and_self, cond_true]
theorem BuildR.ok {pl : List (Nat × Nat)} {zs out : List Value} {vs : List (Nat × Value)} (h : BuildR pl zs vs out) : gfill (fun i : Nat => pl[i]?) zs vs = some out := by
  induction h with
  | nil => rfl
  | @one zs zs' i off v r out hp ho hs _ ih =>
    obtain ⟨h1, h2⟩ := setAt_putAt hs
    have e := one_cells ho
    rw [gfill_step hp (by rw [e]; rfl) h1, e]
    rw [← ih, h2]
  | @agg zs zs' i off s vs r out hp ho hs _ ih =>
    obtain ⟨h1, h2⟩ := hs
    rw [gfill_step hp (by simpa [Value.cells] using ho) (by omega)]
    rw [← ih, h2]; rfl

/-- The elements of a slice that is written out. -/
inductive CatR (s : Nat) : Nat → List (Nat × Value) → List Value → Prop
  | nil {k} : CatR s k [] []
  | one {k v r out} (hs : s = 1) (ho : Go.Gh.one v = true) (h : CatR s (k + 1) r out) : CatR s k ((k, v) :: r) (v :: out)
  | agg {k vs r out} (ho : vs.length = s) (h : CatR s (k + 1) r out) : CatR s k ((k, .agg ⟨vs⟩) :: r) (vs ++ out)
  | last {k vs} (ho : vs.length = s) : CatR s k [(k, .agg ⟨vs⟩)] vs
theorem CatR.len {s k : Nat} {vs : List (Nat × Value)} {out : List Value} (h : CatR s k vs out) : out.length = vs.length * s := by
  induction h with
  | nil => simp
  | one hs _ _ ih => subst hs; simp [ih]
  | agg ho _ ih => simp only [List.length_append, List.length_cons, ho, ih, Nat.add_mul, Nat.one_mul]; omega
  | last ho => simp [ho]
theorem CatR.ok {s k : Nat} {vs : List (Nat × Value)} {out : List Value} (h : CatR s k vs out) : ∀ pre zs : List Value, pre.length = k * s → zs.length = vs.length * s → gfill (fun i => some (i * s, s)) (pre ++ zs) vs = some (pre ++ out) := by
  have step : ∀ (pre zs cs : List Value) (k m : Nat), pre.length = k * s → cs.length = s → zs.length = (m + 1) * s → lset (pre ++ zs) (k * s) cs = (pre ++ cs) ++ zs.drop s := by
    intro pre zs cs k m h1 h2 h3
    unfold lset
    rw [← h1, h2, List.take_append_of_le_length (Nat.le_refl _), List.take_length, List.drop_append, List.drop_of_length_le (by omega), show pre.length + s - pre.length = s by omega, List.nil_append]
  have main : ∀ (k : Nat) (v : Value) (cs : List Value) (r : List (Nat × Value)) (out pre zs : List Value), v.cells.toList = cs → cs.length = s → pre.length = k * s → zs.length = (r.length + 1) * s →
      (∀ pre zs : List Value, pre.length = (k + 1) * s → zs.length = r.length * s → gfill (fun i => some (i * s, s)) (pre ++ zs) r = some (pre ++ out)) →
      gfill (fun i => some (i * s, s)) (pre ++ zs) ((k, v) :: r) = some (pre ++ (cs ++ out)) := by
    intro k v cs r out pre zs hv hc hp hz ih
    have hsz : v.cells.size = s := by rw [← Array.length_toList, hv, hc]
    have hle : k * s + s ≤ (pre ++ zs).length := by rw [List.length_append, hp, hz, Nat.add_mul]; omega
    rw [gfill_step rfl hsz hle, hv, step pre zs cs k r.length hp hc hz, ih (pre ++ cs) (zs.drop s) (by simp [hp, hc, Nat.add_mul]) (by rw [List.length_drop, hz, Nat.add_mul]; omega), List.append_assoc]
  induction h with
  | nil => intro pre zs h1 h2; simp at h2; subst h2; rfl
  | @one k v r out hs ho h ih =>
    subst hs
    intro pre zs h1 h2
    exact main k v [v] r out pre zs (by rw [one_cells ho]) rfl h1 h2 ih
  | @agg k vs r out ho h ih =>
    intro pre zs h1 h2
    exact main k (.agg ⟨vs⟩) vs r out pre zs rfl ho h1 h2 ih
  | @last k vs ho =>
    intro pre zs h1 h2
    have := main k (.agg ⟨vs⟩) vs [] [] pre zs rfl ho h1 h2 (fun pre zs _ h2 => by simp at h2; subst h2; rfl)
    rw [List.append_nil] at this
    exact this

/-! Side goals, by name: bounds, lengths, numbers behind a wrap, numbers as they are, cells. -/
structure Sd (p : Prop) : Prop where
  h : p
structure Ln (p : Prop) : Prop where
  h : p
structure Wr (p : Prop) : Prop where
  h : p
structure Ex (p : Prop) : Prop where
  h : p
structure Ce (p : Prop) : Prop where
  h : p
structure Rc (p : Prop) : Prop where
  h : p
structure Su (p : Prop) : Prop where
  h : p
structure Se (p : Prop) : Prop where
  h : p
structure Pu (p : Prop) : Prop where
  h : p

section
variable {P : Program} {tt : TT} {sz : Nat} {ops : Array Oper} {Q : SPost} {rest : List Oper} {a : AF} {h h' h1 : SH} {m : Mode} {t : Nat} {op : Op} {ty : TypeId} {pos : String} {aft : Array Edge} {p : Prop} {v : Value}

/-- An operation that only computes. -/
theorem o_g (ht : tt.Ok P) (hg : gpure tt a op = some (p, v)) (hN : Nat.blt t sz = true) (hp : Sd p) (k : GO m.next P sz ops Q rest ((t, v) :: a) h) : GO m P sz ops Q (⟨some t, op, ty, pos, aft, none⟩ :: rest) a h :=
  o_pure (fun _ _ _ hag => gpure_ok ht ((gpure_congr fun _ hx => hag.ev hx).trans hg) hp.1) hN k
theorem o_ar {kk : IntKind} {e r : Int} (ht : tt.Ok P) (hg : garith tt a op = some (p, kk, e)) (hN : Nat.blt t sz = true) (hp : Sd p) (hr : Wr (kk.wrap e = r)) (k : GO m.next P sz ops Q rest ((t, .int kk r) :: a) h) :
    GO m P sz ops Q (⟨some t, op, ty, pos, aft, none⟩ :: rest) a h := o_pure (fun _ _ _ hag => garith_ok ht ((garith_congr fun _ hx => hag.ev hx).trans hg) hp.1 hr.1) hN k
theorem o_ex {kk : IntKind} {e r : Int} (hg : gexact a op = some (p, kk, e)) (hN : Nat.blt t sz = true) (hp : Sd p) (hr : Ex (e = r)) (k : GO m.next P sz ops Q rest ((t, .int kk r) :: a) h) :
    GO m P sz ops Q (⟨some t, op, ty, pos, aft, none⟩ :: rest) a h := o_pure (fun _ _ _ hag => gexact_ok ((gexact_congr fun _ hx => hag.ev hx).trans hg) hp.1 hr.1) hN k
theorem o_not {T : Nat} {x : Operand} {q : Prop} {_ : Decidable (q)} (hx : ev a x = some (.bool (decide q))) (hN : Nat.blt t sz = true) (k : GO m.next P sz ops Q rest ((t, .bool (decide (¬ q))) :: a) h) :
    GO m P sz ops Q (⟨some t, .unOp .not T x, ty, pos, aft, none⟩ :: rest) a h := by
  refine o_pure (fun _ _ _ hag => ?_) hN k
  rw [show decide (¬ q) = !decide q from by simp]
  exact a_not _ _ rfl ((hag.ev (by simp [Op.operands, Call.operands])).trans hx)
theorem o_notB {T : Nat} {x : Operand} {b : Bool} (hx : ev a x = some (.bool b)) (hN : Nat.blt t sz = true) (k : GO m.next P sz ops Q rest ((t, .bool (!b)) :: a) h) :
    GO m P sz ops Q (⟨some t, .unOp .not T x, ty, pos, aft, none⟩ :: rest) a h := o_pure (fun _ _ _ hag => a_not _ _ rfl ((hag.ev (by simp [Op.operands, Call.operands])).trans hx)) hN k
theorem o_pickT {c x y : Operand} {b : Bool} (hc : ev a c = some (.bool b)) (hx : ev a x = some v) (hb : b = true) (hN : Nat.blt t sz = true) (k : GO m.next P sz ops Q rest ((t, v) :: a) h) :
    GO m P sz ops Q (⟨some t, .pick c x y, ty, pos, aft, none⟩ :: rest) a h := o_pure (fun _ _ _ hag => a_pick_true c x y rfl ((hag.ev (by simp [Op.operands, Call.operands])).trans hc) hb ((hag.ev (by simp [Op.operands, Call.operands])).trans hx)) hN k
theorem o_pickF {c x y : Operand} {b : Bool} (hc : ev a c = some (.bool b)) (hy : ev a y = some v) (hb : b = false) (hN : Nat.blt t sz = true) (k : GO m.next P sz ops Q rest ((t, v) :: a) h) :
    GO m P sz ops Q (⟨some t, .pick c x y, ty, pos, aft, none⟩ :: rest) a h := o_pure (fun _ _ _ hag => a_pick_false c x y rfl ((hag.ev (by simp [Op.operands, Call.operands])).trans hc) hb ((hag.ev (by simp [Op.operands, Call.operands])).trans hy)) hN k
theorem o_min {T U : Nat} {x y : Operand} {kk : IntKind} {i j : Int} (hx : ev a x = some (.int kk i)) (hy : ev a y = some (.int kk j)) (hN : Nat.blt t sz = true) (k : GO m.next P sz ops Q rest ((t, .int kk (min i j)) :: a) h) :
    GO m P sz ops Q (⟨some t, .call { callee := .builtin .min, args := #[x, y], argTypes := #[T, U] }, ty, pos, aft, none⟩ :: rest) a h := o_pure (fun _ _ _ hag => a_min T U x y rfl ((hag.ev (by simp [Op.operands, Call.operands])).trans hx) ((hag.ev (by simp [Op.operands, Call.operands])).trans hy)) hN k
theorem o_max {T U : Nat} {x y : Operand} {kk : IntKind} {i j : Int} (hx : ev a x = some (.int kk i)) (hy : ev a y = some (.int kk j)) (hN : Nat.blt t sz = true) (k : GO m.next P sz ops Q rest ((t, .int kk (max i j)) :: a) h) :
    GO m P sz ops Q (⟨some t, .call { callee := .builtin .max, args := #[x, y], argTypes := #[T, U] }, ty, pos, aft, none⟩ :: rest) a h := o_pure (fun _ _ _ hag => a_max T U x y rfl ((hag.ev (by simp [Op.operands, Call.operands])).trans hx) ((hag.ev (by simp [Op.operands, Call.operands])).trans hy)) hN k
theorem o_makeFunc {fn : Fn} {xs ys : List Operand} {us vs : List Value} (hx : evs a xs = some us) (hy : evs a ys = some vs) (hN : Nat.blt t sz = true) (k : GO m.next P sz ops Q rest ((t, .func fn us.toArray vs.toArray) :: a) h) :
    GO m P sz ops Q (⟨some t, .makeFunc fn xs.toArray ys.toArray, ty, pos, aft, none⟩ :: rest) a h := o_pure (fun _ _ _ hag => a_makeFunc fn xs ys rfl ((evs_congr fun x hx => hag.ev (by simp [Op.operands, hx])).trans hx) ((evs_congr fun x hx => hag.ev (by simp [Op.operands, hx])).trans hy)) hN k
theorem o_iface {T : Nat} {x : Operand} {d : TypeDesc} (hx : ev a x = some v) (hT : P.underlying T = some d) (hd : (match d with | .interface _ => false | _ => true) = true) (hN : Nat.blt t sz = true) (k : GO m.next P sz ops Q rest ((t, .iface T v) :: a) h) :
    GO m P sz ops Q (⟨some t, .makeInterface T x, ty, pos, aft, none⟩ :: rest) a h := o_pure (fun _ _ _ hag => a_makeIface T x rfl ((hag.ev (by simp [Op.operands, Call.operands])).trans hx) hT hd) hN k
theorem o_convs {T U : Nat} {x : Operand} {l : List UInt8} (ht : tt.Ok P) (hx : ev a x = some (S l)) {e1 e2 : TE} (h1 : tt.get T = some e1) (h2 : tt.get U = some e2) (k1 : e1.k = .str) (k2 : e2.k = .str) (hN : Nat.blt t sz = true) (k : GO m.next P sz ops Q rest ((t, S l) :: a) h) :
    GO m P sz ops Q (⟨some t, .convert T U x, ty, pos, aft, none⟩ :: rest) a h := o_pure (fun _ _ _ hag => a_convs T U x rfl ((hag.ev (by simp [Op.operands, Call.operands])).trans hx) (te_str (TT.get_ok ht h1) k1) (te_str (TT.get_ok ht h2) k2)) hN k
/-- x[lo:] of nothing. -/
theorem o_cutend {T : Nat} {x lo : Operand} {A off n len fl : Nat} {j : IntKind} {i : Int} {E s b : Nat} {z : Option Value} {e : TE} (ht : tt.Ok P) (hx : ev a x = some (gsl A off n len fl)) (hlo : ev a lo = some (.int j i)) (hT : tt.get T = some ⟨.slice E, s, b, z⟩) (hE : tt.get E = some e) (hi : i = len)
    (hN : Nat.blt t sz = true) (k : GO m.next P sz ops Q rest ((t, sempty) :: a) h) : GO m P sz ops Q (⟨some t, .slice T x (some lo) none none, ty, pos, aft, none⟩ :: rest) a h :=
  o_pure (fun _ _ _ hag => let ⟨_, hI, _⟩ := te_inf (TT.get_ok ht hE); a_cutend T x lo rfl ((hag.ev (by simp [Op.operands, Call.operands])).trans hx) ((hag.ev (by simp [Op.operands, Call.operands])).trans hlo) (te_slice (TT.get_ok ht hT) rfl) hI hi) hN k
/-- Structs of scalars are compared. -/
theorem o_eqs {T U : Nat} {x y : Operand} {xs ys : List Value} {n : Nat} (hx : ev a x = some (.agg ⟨xs⟩)) (hy : ev a y = some (.agg ⟨ys⟩)) (hn : xs.length = n) (hT : flatB P T n = true) (hm : ys.length = n) (hl : cellsLike xs ys = true) (hk : kindsB P T xs = true) (hN : Nat.blt t sz = true)
    (k : GO m.next P sz ops Q rest ((t, .bool (decide (cellsEqB xs ys = true))) :: a) h) : GO m P sz ops Q (⟨some t, .binOp .eql T x y U, ty, pos, aft, none⟩ :: rest) a h := o_pure (fun _ _ _ hag => a_eqs T U x y rfl ((hag.ev (by simp [Op.operands, Call.operands])).trans hx) ((hag.ev (by simp [Op.operands, Call.operands])).trans hy) hT hn hm hl hk) hN k
theorem o_neqs {T U : Nat} {x y : Operand} {xs ys : List Value} {n : Nat} (hx : ev a x = some (.agg ⟨xs⟩)) (hy : ev a y = some (.agg ⟨ys⟩)) (hn : xs.length = n) (hT : flatB P T n = true) (hm : ys.length = n) (hl : cellsLike xs ys = true) (hk : kindsB P T xs = true) (hN : Nat.blt t sz = true)
    (k : GO m.next P sz ops Q rest ((t, .bool (decide (¬ cellsEqB xs ys = true))) :: a) h) : GO m P sz ops Q (⟨some t, .binOp .neq T x y U, ty, pos, aft, none⟩ :: rest) a h := o_pure (fun _ _ _ hag => a_neqs T U x y rfl ((hag.ev (by simp [Op.operands, Call.operands])).trans hx) ((hag.ev (by simp [Op.operands, Call.operands])).trans hy) hT hn hm hl hk) hN k
/-- A struct that is written out. -/
theorem o_build {T : Nat} {ps : List (Nat × Operand)} {fs : List (Nat × Nat)} {pl : List (Nat × Nat)} {zs out : List Value} {s b : Nat} {vs : List (Nat × Value)} (ht : tt.Ok P) (hT : tt.get T = some ⟨.st fs, s, b, some (.agg ⟨zs⟩)⟩) (hv : evps a ps = some vs) (hp : placesOf P T = some pl)
    (hz : constOk (.agg ⟨zs⟩) = true) (hb : BuildR pl zs vs out) (hN : Nat.blt t sz = true) (k : GO m.next P sz ops Q rest ((t, .agg ⟨out⟩) :: a) h) : GO m P sz ops Q (⟨some t, .build T ps.toArray, ty, pos, aft, none⟩ :: rest) a h :=
  o_pure (fun _ _ _ hag => let ⟨_, hI, hz'⟩ := te_inf (TT.get_ok ht hT); a_build T ps rfl ((evps_congr fun x hx => hag.ev (by simp only [Op.operands]; exact List.mem_toArray.2 (List.mem_map.2 ⟨x, by simpa using hx, rfl⟩))).trans hv) hp (hz' _ rfl ▸ hI) hz hb.ok) hN k

theorem o_buildArr {T n E : Nat} {ps : List (Nat × Operand)} {zs out : List Value} {s b : Nat} {e : TE} {vs : List (Nat × Value)} (ht : tt.Ok P) (hT : tt.get T = some ⟨.arr n E, s, b, some (.agg ⟨zs⟩)⟩) (hE : tt.get E = some e) (hv : evps a ps = some vs)
    (hz : constOk (.agg ⟨zs⟩) = true) (hb : BuildR (arrPl n e.sz) zs vs out) (hN : Nat.blt t sz = true) (k : GO m.next P sz ops Q rest ((t, .agg ⟨out⟩) :: a) h) : GO m P sz ops Q (⟨some t, .build T ps.toArray, ty, pos, aft, none⟩ :: rest) a h :=
  o_pure (fun _ _ _ hag => let ⟨_, hI, hz'⟩ := te_inf (TT.get_ok ht hT); let ⟨_, hI2, _⟩ := te_inf (TT.get_ok ht hE); a_buildArr T ps rfl ((evps_congr fun x hx => hag.ev (by simp only [Op.operands]; exact List.mem_toArray.2 (List.mem_map.2 ⟨x, by simpa using hx, rfl⟩))).trans hv) (te_arr (TT.get_ok ht hT) rfl) hI2 (hz' _ rfl ▸ hI) hz hb.ok) hN k

/-! Reading -/
theorem o_load {T : Nat} {x : Operand} {A off n : Nat} {g : Blk} {e : TE} (ht : tt.Ok P) (hx : ev a x = some (gptr A off n)) (hT : tt.get T = some e) (hk : e.k.agg = false) (hp : Pick h A g h1) (hN : Nat.blt t sz = true) (hn : Ln (g.cells.length = n)) (hc : Ce (g.cells[off]? = some v))
    (hok : m.rdOk ops fun h' => Rc (∃ g h1, Pick h' A g h1 ∧ Ln (g.cells.length = n) ∧ Ce (g.cells[off]? = some v))) (k : GO (m.rd fun h' => Rc (∃ g h1, Pick h' A g h1 ∧ Ln (g.cells.length = n) ∧ Ce (g.cells[off]? = some v))) P sz ops Q rest ((t, v) :: a) h) : GO m P sz ops Q (⟨some t, .load T x, ty, pos, aft, none⟩ :: rest) a h :=
  o_read (fun h' => Rc (∃ g h1, Pick h' A g h1 ∧ Ln (g.cells.length = n) ∧ Ce (g.cells[off]? = some v))) ⟨_, _, hp, hn, hc⟩ (fun _ _ _ _ _ i ⟨_, _, hp, ⟨hn⟩, ⟨hc⟩⟩ hag => a_load T x rfl ((hag.ev (by simp [Op.operands, Call.operands])).trans hx) (by rw [te_agg (TT.get_ok ht hT), hk]) (i.look hp) hn hc) hN hok k
/-- Cells of a block from a place on. -/
def SubAt (l : List Value) (o : Nat) (vs : List Value) : Prop := ∀ (i : Nat) v, vs[i]? = some v → l[o + i]? = some v
theorem subAt_all {l : List Value} : SubAt l 0 l := fun i v h => by rw [Nat.zero_add]; exact h
theorem subAt_get {l : List Value} {o n : Nat} (h : o + n ≤ l.length) : SubAt l o ((l.drop o).take n) := fun i v hi => by
  rw [List.getElem?_take] at hi; split at hi
  · rwa [List.getElem?_drop] at hi
  · cases hi
theorem o_loads {T : Nat} {x : Operand} {A off n : Nat} {g : Blk} {e : TE} {vs : List Value} (ht : tt.Ok P) (hx : ev a x = some (gptr A off n)) (hT : tt.get T = some e) (hk : e.k.agg = true) (hp : Pick h A g h1) (hN : Nat.blt t sz = true) (hn : Ln (g.cells.length = n)) (hc : Su (SubAt g.cells off vs)) (hs : Ln (vs.length = e.sz))
    (hok : m.rdOk ops fun h' => Rc (∃ g h1, Pick h' A g h1 ∧ Ln (g.cells.length = n) ∧ Su (SubAt g.cells off vs))) (k : GO (m.rd fun h' => Rc (∃ g h1, Pick h' A g h1 ∧ Ln (g.cells.length = n) ∧ Su (SubAt g.cells off vs))) P sz ops Q rest ((t, .agg ⟨vs⟩) :: a) h) : GO m P sz ops Q (⟨some t, .load T x, ty, pos, aft, none⟩ :: rest) a h :=
  o_read (fun h' => Rc (∃ g h1, Pick h' A g h1 ∧ Ln (g.cells.length = n) ∧ Su (SubAt g.cells off vs))) ⟨_, _, hp, hn, hc⟩ (fun _ _ _ _ _ i ⟨_, _, hp, ⟨hn⟩, ⟨hc⟩⟩ hag => let ⟨_, hI, _⟩ := te_inf (TT.get_ok ht hT); a_loads T x rfl ((hag.ev (by simp [Op.operands, Call.operands])).trans hx) (by rw [te_agg (TT.get_ok ht hT), hk]) hI (i.look hp) hn hs.1 hc) hN hok k
/-- string(bytes) -/
theorem o_toString {T U : Nat} {x : Operand} {A off n len fl E s b : Nat} {z : Option Value} {e1 e2 : TE} {g : Blk} {l : List UInt8} (ht : tt.Ok P) (hx : ev a x = some (gsl A off n len fl)) (hT : tt.get T = some ⟨.slice E, s, b, z⟩) (hE : tt.get E = some e1) (hU : tt.get U = some e2)
    (k1 : e1.k = .int .u8) (k2 : e2.k = .str) (hp : Pick h A g h1) (hN : Nat.blt t sz = true) (hn : Ln (g.cells.length = n)) (hc : Su (SubAt g.cells off (bytesV l))) (hl : Ln (l.length = len)) (hok : m.rdOk ops fun h' => Rc (∃ g h1, Pick h' A g h1 ∧ Ln (g.cells.length = n) ∧ Su (SubAt g.cells off (bytesV l)))) (k : GO (m.rd fun h' => Rc (∃ g h1, Pick h' A g h1 ∧ Ln (g.cells.length = n) ∧ Su (SubAt g.cells off (bytesV l)))) P sz ops Q rest ((t, S l) :: a) h) :
    GO m P sz ops Q (⟨some t, .convert T U x, ty, pos, aft, none⟩ :: rest) a h :=
  o_read (fun h' => Rc (∃ g h1, Pick h' A g h1 ∧ Ln (g.cells.length = n) ∧ Su (SubAt g.cells off (bytesV l)))) ⟨_, _, hp, hn, hc⟩ (fun _ _ _ _ _ i ⟨_, _, hp, ⟨hn⟩, ⟨hc⟩⟩ hag => a_toString T U x rfl ((hag.ev (by simp [Op.operands, Call.operands])).trans hx) (te_slice (TT.get_ok ht hT) rfl) (te_int (TT.get_ok ht hE) k1) (te_str (TT.get_ok ht hU) k2) (i.look hp) hn hl.1 hc) hN hok k
theorem o_toString_nil {T U : Nat} {x : Operand} {E s b : Nat} {z : Option Value} {e1 e2 : TE} (ht : tt.Ok P) (hx : ev a x = some (.slice none 0 0)) (hT : tt.get T = some ⟨.slice E, s, b, z⟩) (hE : tt.get E = some e1) (hU : tt.get U = some e2)
    (k1 : e1.k = .int .u8) (k2 : e2.k = .str) (hN : Nat.blt t sz = true) (k : GO m.next P sz ops Q rest ((t, S []) :: a) h) :
    GO m P sz ops Q (⟨some t, .convert T U x, ty, pos, aft, none⟩ :: rest) a h :=
  o_pure (fun _ _ _ hag => a_toString_nil T U x rfl ((hag.ev (by simp [Op.operands, Call.operands])).trans hx) (te_slice (TT.get_ok ht hT) rfl) (te_int (TT.get_ok ht hE) k1) (te_str (TT.get_ok ht hU) k2)) hN k
theorem o_append_none {T : Nat} {x y : Operand} {A n len fl E s b : Nat} {z : Option Value} {e : TE} {g : Blk} (ht : tt.Ok P) (hx : ev a x = some (gsl A 0 n len fl)) (hy : ev a y = some (.slice none 0 0)) (hT : tt.get T = some ⟨.slice E, s, b, z⟩) (hE : tt.get E = some e) (hp : Pick h A g h1) (hN : Nat.blt t sz = true) (hn : Ln (g.cells.length = n))
    (hok : m.rdOk ops fun h' => Rc (∃ g h1, Pick h' A g h1 ∧ Ln (g.cells.length = n))) (k : GO (m.rd fun h' => Rc (∃ g h1, Pick h' A g h1 ∧ Ln (g.cells.length = n))) P sz ops Q rest ((t, gsl A 0 n len fl) :: a) h) : GO m P sz ops Q (⟨some t, .call { callee := .builtin .append, args := #[x, y], argTypes := #[T, T] }, ty, pos, aft, none⟩ :: rest) a h :=
  o_read (fun h' => Rc (∃ g h1, Pick h' A g h1 ∧ Ln (g.cells.length = n))) ⟨_, _, hp, hn⟩ (fun _ _ _ _ _ i ⟨_, _, hp, ⟨hn⟩⟩ hag => let ⟨_, hI, _⟩ := te_inf (TT.get_ok ht hE); a_append_none T x y rfl ((hag.ev (by simp [Op.operands, Call.operands])).trans hx) ((hag.ev (by simp [Op.operands, Call.operands])).trans hy) (te_slice (TT.get_ok ht hT) rfl) hI (i.look hp) hn) hN hok k

/-! Making -/
def vcells : Value → List Value
  | .agg ⟨vs⟩ => vs
  | v => [v]
theorem vcells_ok (v : Value) : v.cells.toList = vcells v := by cases v <;> rfl
def vcl (v : Value) : Option (List Value) := match v with
  | .agg ⟨vs⟩ => some vs
  | v => some [v]
theorem vcl_ok {v : Value} {c : List Value} (hv : vcl v = some c) : v.cells.toList = c := by
  cases v <;> (simp only [vcl, Option.some.injEq] at hv; subst hv; rfl)
theorem o_alloc {T s b : Nat} {tk : TK} {z : Value} {c : List Value} (ht : tt.Ok P) (hT : tt.get T = some ⟨tk, s, b, some z⟩) (hc : vcl z = some c) (hz : constOk z = true) (hs : c.length = s) (hN : Nat.blt t sz = true)
    (k : ∀ A, GO (m.nw h) P sz ops Q rest ((t, gptr A 0 s) :: a) ((A, ⟨c, false⟩) :: h)) : GO m P sz ops Q (⟨some t, .alloc T, ty, pos, aft, none⟩ :: rest) a h := by
  have hc' := vcl_ok hc
  have hs' : z.cells.size = s := by rw [← Array.length_toList, hc', hs]
  subst hc' hs'
  obtain ⟨_, hI, hz'⟩ := te_inf (TT.get_ok ht hT)
  exact o_new (v := fun A => gptr A 0 _) hN (fun _ _ _ _ _ hpl _ => e_alloc T rfl (hz' _ rfl ▸ hI) hz hpl) k
theorem o_box {T : Nat} {x : Operand} {s b : Nat} {tk : TK} {z : Option Value} {c : List Value} (_hT : tt.get T = some ⟨tk, s, b, z⟩) (hx : ev a x = some v) (hc : vcl v = some c) (hs : c.length = s) (hN : Nat.blt t sz = true)
    (k : ∀ A, GO (m.nw h) P sz ops Q rest ((t, gptr A 0 s) :: a) ((A, ⟨c, false⟩) :: h)) : GO m P sz ops Q (⟨some t, .box T x, ty, pos, aft, none⟩ :: rest) a h := by
  have hc' := vcl_ok hc
  have hs' : v.cells.size = s := by rw [← Array.length_toList, hc', hs]
  subst hc' hs'
  exact o_new (v := fun A => gptr A 0 _) hN (fun _ _ _ _ _ hpl hag => e_box T x rfl ((hag.ev (by simp [Op.operands, Call.operands])).trans hx) hpl) k
theorem o_buildSlice {T n : Nat} {ps : List (Nat × Operand)} {E s1 b1 s b : Nat} {tk : TK} {z1 : Option Value} {z : Value} {vs : List (Nat × Value)} {out : List Value} (ht : tt.Ok P) (hT : tt.get T = some ⟨.slice E, s1, b1, z1⟩) (hE : tt.get E = some ⟨tk, s, b, some z⟩) (hz : constOk z = true) (hzs : (vcells z).length = s)
    (hv : evps a ps = some vs) (hs : 0 < s) (hn : vs.length = n) (hle : n * s ≤ 16777216) (hc : CatR s 0 vs out) (hN : Nat.blt t sz = true) (k : ∀ A, GO (m.nw h) P sz ops Q rest ((t, gsl A 0 (n * s) n s) :: a) ((A, ⟨out, false⟩) :: h)) :
    GO m P sz ops Q (⟨some t, .buildSlice T n ps.toArray, ty, pos, aft, none⟩ :: rest) a h := by
  obtain ⟨_, hI, hz'⟩ := te_inf (TT.get_ok ht hE)
  have hzs' : z.cells.size = s := by rw [← Array.length_toList, vcells_ok, hzs]
  have h0 := hc.ok [] (zrow z (n * s)) (by simp) (by rw [hn]; simp [zrow])
  exact o_new (v := fun A => gsl A 0 _ _ _) hN (fun _ _ _ _ _ hpl hag => e_buildSlice T n ps rfl ((evps_congr fun x hx => hag.ev (by simp only [Op.operands]; exact List.mem_toArray.2 (List.mem_map.2 ⟨x, by simpa using hx, rfl⟩))).trans hv) (te_slice (TT.get_ok ht hT) rfl) (hz' _ rfl ▸ hI) hz hzs' hs hle h0 hpl) k
theorem o_makeSlice {T : Nat} {x y : Operand} {E s1 b1 s b : Nat} {tk : TK} {z1 : Option Value} {z : Value} {j kk : IntKind} {n c : Int} {cells : List Value} (ht : tt.Ok P) (hx : ev a x = some (.int j n)) (hy : ev a y = some (.int kk c)) (hT : tt.get T = some ⟨.slice E, s1, b1, z1⟩) (hE : tt.get E = some ⟨tk, s, b, some z⟩) (hz : constOk z = true)
    (hzs : (vcells z).length = s) (hs : 0 < s) (hn : 0 ≤ n ∧ n ≤ c ∧ (b : Int) * c ≤ 281474976710656 ∧ c ≤ 9223372036854775807) (hc : zrow z (n.toNat * s) = cells) (hN : Nat.blt t sz = true)
    (k : ∀ A, GO (m.nw h) P sz ops Q rest ((t, gsl A 0 (n.toNat * s) n.toNat s) :: a) ((A, ⟨cells, false⟩) :: h)) : GO m P sz ops Q (⟨some t, .makeSlice T x y, ty, pos, aft, none⟩ :: rest) a h := by
  obtain ⟨_, hI, hz'⟩ := te_inf (TT.get_ok ht hE)
  have hzs' : z.cells.size = s := by rw [← Array.length_toList, vcells_ok, hzs]
  subst hc
  exact o_new (v := fun A => gsl A 0 _ _ _) hN (fun _ _ _ _ _ hpl hag => e_makeSlice T x y rfl ((hag.ev (by simp [Op.operands, Call.operands])).trans hx) ((hag.ev (by simp [Op.operands, Call.operands])).trans hy) (te_slice (TT.get_ok ht hT) rfl) (hz' _ rfl ▸ hI) hz hzs' hs hn hpl) k
theorem o_toBytes {T U : Nat} {x : Operand} {l : List UInt8} {E s b : Nat} {z : Option Value} {e1 e2 : TE} (ht : tt.Ok P) (hx : ev a x = some (S l)) (hT : tt.get T = some e1) (hU : tt.get U = some ⟨.slice E, s, b, z⟩) (hE : tt.get E = some e2) (k1 : e1.k = .str) (k2 : e2.k = .int .u8) (hN : Nat.blt t sz = true) (hl : Sd (l.length ≤ maxLen))
    (k : ∀ A, GO (m.nw h) P sz ops Q rest ((t, gsl A 0 l.length l.length 1) :: a) ((A, ⟨bytesV l, false⟩) :: h)) : GO m P sz ops Q (⟨some t, .convert T U x, ty, pos, aft, none⟩ :: rest) a h :=
  o_new (v := fun A => gsl A 0 _ _ _) hN (fun _ _ _ _ _ hpl hag => e_toBytes T U x rfl ((hag.ev (by simp [Op.operands, Call.operands])).trans hx) (te_str (TT.get_ok ht hT) k1) (te_slice (TT.get_ok ht hU) rfl) (te_int (TT.get_ok ht hE) k2) hl.1 hpl) k

/-! Writing -/
theorem o_store {T : Nat} {x y : Operand} {A off n b : Nat} {tk : TK} {z : Option Value} {cells cells' : List Value} (ht : tt.Ok P) (hx : ev a x = some (gptr A off n)) (hy : ev a y = some v) (h1 : one v = true) (hT : tt.get T = some ⟨tk, 1, b, z⟩) (hu : Upd h A ⟨cells, false⟩ ⟨cells', false⟩ h') (hn : Ln (cells.length = n)) (hs : Se (SetAt cells off v cells'))
    (hok : m.efOk ops h') (k : GO (m.ef h) P sz ops Q rest a h') : GO m P sz ops Q (⟨none, .store T x y, ty, pos, aft, none⟩ :: rest) a h := by
  obtain ⟨h2, rfl⟩ := hs.1.ok
  have hn1 := hn.1
  obtain ⟨_, hI, _⟩ := te_inf (TT.get_ok ht hT)
  exact o_upd rfl hu (fun _ _ _ hA hag => e_store T x y rfl ((hag.ev (by simp [Op.operands, Call.operands])).trans hx) ((hag.ev (by simp [Op.operands, Call.operands])).trans hy) h1 hI hA hn.1 (Nat.ble_eq_true_of_le (by omega))) hok k
theorem o_stores {T : Nat} {x y : Operand} {A off n : Nat} {e : TE} {cells cells' vs : List Value} (ht : tt.Ok P) (hx : ev a x = some (gptr A off n)) (hy : ev a y = some (.agg ⟨vs⟩)) (h1 : vs.all one = true) (hT : tt.get T = some e) (hs : Ln (vs.length = e.sz)) (hu : Upd h A ⟨cells, false⟩ ⟨cells', false⟩ h') (hn : Ln (cells.length = n)) (hc : Pu (PutAt cells off vs cells'))
    (hok : m.efOk ops h') (k : GO (m.ef h) P sz ops Q rest a h') : GO m P sz ops Q (⟨none, .store T x y, ty, pos, aft, none⟩ :: rest) a h := by
  obtain ⟨⟨h2, rfl⟩⟩ := hc
  have hn1 := hn.1
  have hs1 := hs.1
  obtain ⟨_, hI, _⟩ := te_inf (TT.get_ok ht hT)
  exact o_upd rfl hu (fun _ _ _ hA hag => e_stores T x y rfl ((hag.ev (by simp [Op.operands, Call.operands])).trans hx) ((hag.ev (by simp [Op.operands, Call.operands])).trans hy) h1 hI hs.1 hA hn.1 (Nat.ble_eq_true_of_le (by omega))) hok k
/-- append(x, y...): y is another block. -/
theorem o_append {T : Nat} {x y : Operand} {A n len A2 off2 n2 mm fl2 E s1 b1 s b : Nat} {tk : TK} {z1 : Option Value} {z : Value} {cells news : List Value} {g2 : Blk} (ht : tt.Ok P) (hx : ev a x = some (gsl A 0 n len s)) (hy : ev a y = some (gsl A2 off2 n2 mm fl2)) (hT : tt.get T = some ⟨.slice E, s1, b1, z1⟩) (hE : tt.get E = some ⟨tk, s, b, some z⟩)
    (hzs : (vcells z).length = s) (hs : Sd (0 < s)) (hu : Upd h A ⟨cells, false⟩ ⟨cells ++ news, false⟩ h') (hp : Pick h A2 g2 h1) (hn : Ln (cells.length = n)) (hfull : Ln (len * s = n)) (hn2 : Ln (g2.cells.length = n2)) (hc : Su (SubAt g2.cells off2 news)) (hl : Ln (news.length = mm * s)) (ho : news.all one = true) (hN : Nat.blt t sz = true)
    (hb : Sd ((len + mm) * b ≤ 140737488355328 ∧ len + mm ≤ maxLen)) (hok : m.efOk ops h') (k : GO (m.ef h) P sz ops Q rest ((t, gsl A 0 (n + mm * s) (len + mm) s) :: a) h') :
    GO m P sz ops Q (⟨some t, .call { callee := .builtin .append, args := #[x, y], argTypes := #[T, T] }, ty, pos, aft, none⟩ :: rest) a h := by
  obtain ⟨_, hI, hz'⟩ := te_inf (TT.get_ok ht hE)
  have hzs' : z.cells.size = s := by rw [← Array.length_toList, vcells_ok, hzs]
  exact o_upd2 hN hu hp (fun _ _ _ hA hA2 hag => e_append T x y rfl ((hag.ev (by simp [Op.operands, Call.operands])).trans hx) ((hag.ev (by simp [Op.operands, Call.operands])).trans hy) (te_slice (TT.get_ok ht hT) rfl) (hz' _ rfl ▸ hI) hzs' hs.1 hA hn.1 hfull.1 hA2 hn2.1 hl.1 hc.1 ho hb.1.1 hb.1.2) hok k
theorem o_append_nil {T : Nat} {x y : Operand} {A2 off2 n2 mm fl2 E s1 b1 s b : Nat} {tk : TK} {z1 : Option Value} {z : Value} {news : List Value} {g2 : Blk} (ht : tt.Ok P) (hx : ev a x = some (.slice none 0 0)) (hy : ev a y = some (gsl A2 off2 n2 mm fl2)) (hT : tt.get T = some ⟨.slice E, s1, b1, z1⟩) (hE : tt.get E = some ⟨tk, s, b, some z⟩)
    (hzs : (vcells z).length = s) (hs : Sd (0 < s)) (hp : Pick h A2 g2 h1) (hn2 : Ln (g2.cells.length = n2)) (hc : Su (SubAt g2.cells off2 news)) (hl : Ln (news.length = mm * s)) (hN : Nat.blt t sz = true)
    (hb : Sd (0 < mm ∧ mm * b ≤ 281474976710656 ∧ mm ≤ maxLen)) (hok : ∀ A, m.efOk ops ((A, ⟨news, false⟩) :: h)) (k : ∀ A, GO (m.ef h) P sz ops Q rest ((t, gsl A 0 (mm * s) mm s) :: a) ((A, ⟨news, false⟩) :: h)) :
    GO m P sz ops Q (⟨some t, .call { callee := .builtin .append, args := #[x, y], argTypes := #[T, T] }, ty, pos, aft, none⟩ :: rest) a h := by
  obtain ⟨_, hI, hz'⟩ := te_inf (TT.get_ok ht hE)
  have hzs' : z.cells.size = s := by rw [← Array.length_toList, vcells_ok, hzs]
  exact o_newR (v := fun A => gsl A 0 _ _ _) hN hp (fun _ _ _ _ _ hA2 hpl hag => e_append_nil T x y rfl ((hag.ev (by simp [Op.operands, Call.operands])).trans hx) ((hag.ev (by simp [Op.operands, Call.operands])).trans hy) (te_slice (TT.get_ok ht hT) rfl) (hz' _ rfl ▸ hI) hzs' hs.1 hA2 hn2.1 hl.1 hc.1 hb.1.1 hb.1.2.1 hb.1.2.2 hpl) hok k
end
end Go.Gh
