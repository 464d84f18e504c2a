/- Separation over the ghost heap: heaps as lists of named blocks of which each is owned; what is not named is kept or forgotten. -/
import Derived.Test.YtinfmojbdaiogaaGhR
import Derived.Test.YtinfmojbdaiogaaGhW
set_option linter.unusedVariables false
set_option linter.unusedSimpArgs false
set_option maxRecDepth 4000
namespace Go.Gh
open Go.RowKit

/-- A part of the heap: blocks by name. -/
abbrev SH := List (Nat × Blk)
structure Ent where
  H0 : Heap
  p : SH
structure Inv (E : Ent) (h : SH) (H : Heap) : Prop where
  sat : ∀ x ∈ h, H[x.1]? = some x.2
  nd : (h.map (·.1)).Nodup
  own : ∀ x ∈ h, x.1 < E.H0.length → ∃ y ∈ E.p, y.1 = x.1
  len : E.H0.length ≤ H.length
  keep : ∀ A, A < E.H0.length → (∀ y ∈ E.p, y.1 ≠ A) → H[A]? = E.H0[A]?

/-- h1 is a part of h. -/
structure Le (h h1 : SH) : Prop where
  mem : ∀ x ∈ h1, x ∈ h
  nd : (h.map (·.1)).Nodup → (h1.map (·.1)).Nodup

theorem Le.refl (h : SH) : Le h h := ⟨fun _ hx => hx, fun hn => hn⟩
theorem Le.trans {h h1 h2 : SH} (a : Le h h1) (b : Le h1 h2) : Le h h2 := ⟨fun x hx => a.mem x (b.mem x hx), fun hn => b.nd (a.nd hn)⟩
theorem Inv.le {E : Ent} {h h1 : SH} {H : Heap} (i : Inv E h H) (l : Le h h1) : Inv E h1 H :=
  ⟨fun x hx => i.sat x (l.mem x hx), l.nd i.nd, fun x hx => i.own x (l.mem x hx), i.len, i.keep⟩

/-- Block A is b; the rest. -/
class inductive Pick : SH → Nat → outParam Blk → outParam SH → Prop
  | head {A b h} : Pick ((A, b) :: h) A b h
  | tail {A b x h h1} : Pick h A b h1 → Pick (x :: h) A b (x :: h1)
instance Pick.t {A : Nat} {b : Blk} {x : Nat × Blk} {h h1 : SH} [p : Pick h A b h1] : Pick (x :: h) A b (x :: h1) := .tail p
attribute [instance] Pick.head
theorem pk {h h1 : SH} {A : Nat} {b : Blk} [p : Pick h A b h1] : Pick h A b h1 := p
theorem Pick.mem {h h1 : SH} {A : Nat} {b : Blk} (p : Pick h A b h1) : (A, b) ∈ h := by
  induction p with
  | head => exact List.mem_cons_self
  | tail _ ih => exact List.mem_cons_of_mem _ ih
theorem Pick.perm {h h1 : SH} {A : Nat} {b : Blk} (p : Pick h A b h1) : List.Perm h ((A, b) :: h1) := by
  induction p with
  | head => exact .refl _
  | @tail A b x h h1 _ ih => exact (List.Perm.cons x ih).trans (.swap _ _ _)
theorem Pick.le {h h1 : SH} {A : Nat} {b : Blk} (p : Pick h A b h1) : Le h ((A, b) :: h1) :=
  ⟨fun x hx => p.perm.mem_iff.2 hx, fun hn => (p.perm.map (·.1)).nodup_iff.1 hn⟩

/-- h1 is h in another order, or a part of it. -/
inductive Take : SH → SH → Prop
  | nil {h} : Take h h
  | cons {h A b h1 r} : Pick h A b h1 → Take h1 r → Take h ((A, b) :: r)
  | consE {h A b b' h1 r} : Pick h A b h1 → b = b' → Take h1 r → Take h ((A, b') :: r)
  | drop {x h r} : Take h r → Take (x :: h) r
theorem Take.c {h h1 r : SH} {A : Nat} {b : Blk} [p : Pick h A b h1] (t : Take h1 r) : Take h ((A, b) :: r) := .cons p t
theorem Take.cE {h h1 r : SH} {A : Nat} {b b' : Blk} [p : Pick h A b h1] (e : b = b') (t : Take h1 r) : Take h ((A, b') :: r) := .consE p e t
theorem le_cons {h h1 : SH} {A : Nat} {b : Blk} (l : Le h h1) : Le ((A, b) :: h) ((A, b) :: h1) := by
  refine ⟨fun x hx => ?_, fun hn => ?_⟩
  · rcases List.mem_cons.1 hx with rfl | hx
    · exact List.mem_cons_self
    · exact List.mem_cons_of_mem _ (l.mem x hx)
  · simp only [List.map_cons, List.nodup_cons] at hn ⊢
    refine ⟨fun hm => hn.1 ?_, l.nd hn.2⟩
    obtain ⟨x, hx, e⟩ := List.mem_map.1 hm
    exact List.mem_map.2 ⟨x, l.mem x hx, e⟩
theorem Take.le {h h1 : SH} (t : Take h h1) : Le h h1 := by
  induction t with
  | nil => exact .refl _
  | cons p _ ih => exact p.le.trans (le_cons ih)
  | consE p e _ ih => subst e; exact p.le.trans (le_cons ih)
  | drop _ ih => exact ⟨fun x hx => List.mem_cons_of_mem _ (ih.mem x hx), fun hn => ih.nd (List.nodup_cons.1 hn).2⟩

/-- Block A, which was b, is b'. -/
class inductive Upd : SH → Nat → outParam Blk → Blk → outParam SH → Prop
  | head {A b b' h} : Upd ((A, b) :: h) A b b' ((A, b') :: h)
  | tail {A b b' x h h'} : Upd h A b b' h' → Upd (x :: h) A b b' (x :: h')
instance Upd.t {A : Nat} {b b' : Blk} {x : Nat × Blk} {h h' : SH} [p : Upd h A b b' h'] : Upd (x :: h) A b b' (x :: h') := .tail p
attribute [instance] Upd.head
theorem up {h h' : SH} {A : Nat} {b b' : Blk} [p : Upd h A b b' h'] : Upd h A b b' h' := p
theorem Upd.mem {h h' : SH} {A : Nat} {b b' : Blk} (p : Upd h A b b' h') : (A, b) ∈ h := by
  induction p with
  | head => exact List.mem_cons_self
  | tail _ ih => exact List.mem_cons_of_mem _ ih
theorem Upd.keys {h h' : SH} {A : Nat} {b b' : Blk} (p : Upd h A b b' h') : h'.map (·.1) = h.map (·.1) := by
  induction p with
  | head => rfl
  | tail _ ih => simp only [List.map_cons, ih]
theorem Upd.get {h h' : SH} {A : Nat} {b b' : Blk} (p : Upd h A b b' h') (hn : (h.map (·.1)).Nodup) : ∀ x ∈ h', x = (A, b') ∨ (x.1 ≠ A ∧ x ∈ h) := by
  induction p with
  | @head A b b' h =>
    intro x hx
    simp only [List.map_cons, List.nodup_cons] at hn
    rcases List.mem_cons.1 hx with rfl | hx
    · exact .inl rfl
    · exact .inr ⟨fun e => hn.1 (List.mem_map.2 ⟨x, hx, e⟩), List.mem_cons_of_mem _ hx⟩
  | @tail A b b' y h h' p ih =>
    intro x hx
    simp only [List.map_cons, List.nodup_cons] at hn
    rcases List.mem_cons.1 hx with rfl | hx
    · refine .inr ⟨fun e => hn.1 (List.mem_map.2 ⟨_, p.mem, e.symm⟩), List.mem_cons_self⟩
    · rcases ih hn.2 x hx with h1 | ⟨h1, h2⟩
      · exact .inl h1
      · exact .inr ⟨h1, List.mem_cons_of_mem _ h2⟩

theorem Inv.look {E : Ent} {h : SH} {H : Heap} (i : Inv E h H) {A : Nat} {b : Blk} {h1 : SH} (p : Pick h A b h1) : H[A]? = some (some b) := i.sat _ p.mem

theorem Inv.upd {E : Ent} {h h' : SH} {H : Heap} (i : Inv E h H) {A : Nat} {b b' : Blk} (p : Upd h A b b' h') : Inv E h' (H.set A (some b')) := by
  have hA : A < H.length := (List.getElem?_eq_some_iff.1 (i.sat _ p.mem)).1
  refine ⟨fun x hx => ?_, by rw [p.keys]; exact i.nd, fun x hx hlt => ?_, by simp [i.len], fun B hB hne => ?_⟩
  · rcases p.get i.nd x hx with rfl | ⟨hne, hx⟩
    · simp [hA]
    · rw [List.getElem?_set_ne (fun e => hne e.symm)]; exact i.sat x hx
  · rcases p.get i.nd x hx with rfl | ⟨hne, hx⟩
    · exact i.own (A, b) p.mem hlt
    · exact i.own x hx hlt
  · rw [List.getElem?_set_ne (fun e => ?_)]
    · exact i.keep B hB hne
    · subst e
      obtain ⟨y, hy, e⟩ := i.own _ p.mem hB
      exact hne y hy e

theorem Inv.new {E : Ent} {h : SH} {H : Heap} (i : Inv E h H) (b : Blk) : Inv E ((H.length, b) :: h) (H ++ [some b]) := by
  refine ⟨fun x hx => ?_, ?_, fun x hx hlt => ?_, by simp; have := i.len; omega, fun B hB hne => ?_⟩
  · rcases List.mem_cons.1 hx with rfl | hx
    · simp
    · have := i.sat x hx
      rw [List.getElem?_append_left (List.getElem?_eq_some_iff.1 this).1]; exact this
  · simp only [List.map_cons, List.nodup_cons]
    refine ⟨fun hm => ?_, i.nd⟩
    obtain ⟨x, hx, e⟩ := List.mem_map.1 hm
    have := (List.getElem?_eq_some_iff.1 (i.sat x hx)).1
    omega
  · rcases List.mem_cons.1 hx with rfl | hx
    · have := i.len; simp only at hlt; omega
    · exact i.own x hx hlt
  · rw [List.getElem?_append_left (by have := i.len; omega)]
    exact i.keep B hB hne

theorem Inv.comp {E : Ent} {h q : SH} {H H' : Heap} (i : Inv E h H) (j : Inv ⟨H, h⟩ q H') : Inv E q H' := by
  refine ⟨j.sat, j.nd, fun x hx hlt => ?_, Nat.le_trans i.len j.len, fun A hA hne => ?_⟩
  · obtain ⟨y, hy, e⟩ := j.own x hx (by have := i.len; simp only; omega)
    obtain ⟨z, hz, e2⟩ := i.own y hy (by omega)
    exact ⟨z, hz, by omega⟩
  · rw [j.keep A (by have := i.len; simp only; omega) fun y hy e => ?_]
    · exact i.keep A hA hne
    · obtain ⟨z, hz, e2⟩ := i.own y hy (by omega)
      exact hne z hz (by omega)
theorem Inv.start {h : SH} {H : Heap} (hs : ∀ x ∈ h, H[x.1]? = some x.2) (hn : (h.map (·.1)).Nodup) : Inv ⟨H, h⟩ h H :=
  ⟨hs, hn, fun x hx _ => ⟨x, hx, rfl⟩, Nat.le_refl _, fun _ _ _ => rfl⟩
theorem Inv.refl {E : Ent} {h : SH} {H : Heap} (i : Inv E h H) : Inv ⟨H, h⟩ h H := .start i.sat i.nd

theorem Inv.app {E : Ent} {h : SH} {H : Heap} (i : Inv E h H) (X : Heap) : Inv E h (H ++ X) := by
  refine ⟨fun x hx => ?_, i.nd, i.own, by simp; have := i.len; omega, fun A hA hne => ?_⟩
  · have := i.sat x hx
    rw [List.getElem?_append_left (List.getElem?_eq_some_iff.1 this).1]; exact this
  · rw [List.getElem?_append_left (by have := i.len; omega)]
    exact i.keep A hA hne

/-! Contracts -/
abbrev SPost := Exit → AF → SH → Prop
def SQ (E : Ent) (Q : SPost) : Post := fun e a H => ∃ h, Q e a h ∧ Inv E h H

/-- What a call of a function does that owns the blocks p. -/
def SRun (P : Program) (f : FuncId) (as : List Value) (p : SH) (R : Value → SH → Prop) : Prop :=
  ∀ H, Inv ⟨H, p⟩ p H → Run P f as H fun r H' => ∃ q, R r q ∧ Inv ⟨H, p⟩ q H'

def SWp (P : Program) (sz : Nat) (c : Code) (Q : SPost) (a : AF) (h : SH) : Prop :=
  ∀ E H n0, Inv E h H → AWp P ⟨sz, n0⟩ c (SQ E Q) a H

abbrev SCl := List (Nat × (SH → Prop))
/-- How a region goes: in the order of the text, or in a drawn order: the number of the operation, the last effect, what the reads lean on. -/
abbrev SPast := List (Bool × Nat × SH)
inductive Mode | seq | draw (i : Nat) (last : SPast) (cl : SCl)
def Mode.next : Mode → Mode
  | .seq => .seq
  | .draw i l c => .draw (i + 1) l c
def Mode.rd (m : Mode) (c : SH → Prop) : Mode := match m with
  | .seq => .seq
  | .draw i l cl => .draw (i + 1) l ((i, c) :: cl)
def Mode.ef (m : Mode) (h : SH) : Mode := match m with
  | .seq => .seq
  | .draw i l cl => .draw (i + 1) ((true, i, h) :: l) cl
def Mode.nw (m : Mode) (h : SH) : Mode := match m with
  | .seq => .seq
  | .draw i l cl => .draw (i + 1) ((false, i, h) :: l) cl
def rdBack (ops : Array Oper) (i : Nat) (c : SH → Prop) : SPast → Prop
  | [] => True
  | (true, j, h) :: r => wt ops i j = true ∨ (c h ∧ rdBack ops i c r)
  | (false, j, h) :: r => (wt ops i j = true ∨ c h) ∧ rdBack ops i c r
def Mode.rdOk (ops : Array Oper) (c : SH → Prop) : Mode → Prop
  | .seq => True
  | .draw i l _ => rdBack ops i c l
def efLast (ops : Array Oper) (i : Nat) : SPast → Prop
  | [] => True
  | (true, j, _) :: _ => wt ops i j = true
  | (false, j, _) :: r => wt ops i j = true ∧ efLast ops i r
def clOk (ops : Array Oper) (i : Nat) (h' : SH) : SCl → Prop
  | [] => True
  | x :: r => (wt ops i x.1 = true ∨ x.2 h') ∧ clOk ops i h' r
def Mode.efOk (ops : Array Oper) (h' : SH) : Mode → Prop
  | .seq => True
  | .draw i l cl => efLast ops i l ∧ clOk ops i h' cl
theorem clOk.mem {ops : Array Oper} {i : Nat} {h' : SH} : ∀ {cl : SCl}, clOk ops i h' cl → ∀ x ∈ cl, wt ops i x.1 = true ∨ x.2 h'
  | [], _, x, hx => by cases hx
  | y :: r, h, x, hx => by
    rcases List.mem_cons.1 hx with rfl | hx
    · exact h.1
    · exact clOk.mem h.2 x hx
def liftC (E : Ent) (x : Nat × (SH → Prop)) : Nat × (Heap → Prop) := (x.1, fun H' => ∃ h', Inv E h' H' ∧ x.2 h')

/-- The heaps ahead of the effects, as parts. -/
def PastR (E : Ent) : SPast → Past → Prop
  | [], [] => True
  | x :: r, y :: s => (x.1 = y.1 ∧ x.2.1 = y.2.1 ∧ Inv E x.2.2 y.2.2) ∧ PastR E r s
  | _, _ => False
theorem rd_back {E : Ent} {ops : Array Oper} {i : Nat} {c : SH → Prop} : ∀ {l : SPast} {pH : Past}, PastR E l pH → rdBack ops i c l → backOk ops i (fun H' => ∃ h', Inv E h' H' ∧ c h') pH
  | [], [], _, _ => trivial
  | [], _ :: _, h, _ => h.elim
  | _ :: _, [], h, _ => h.elim
  | (b, j, x) :: r, (b', j', y) :: s, h, k => by
    obtain ⟨⟨rfl, rfl, h1⟩, h2⟩ := h
    cases b with
    | true =>
      rcases k with k | k
      · exact .inl k
      · exact .inr ⟨⟨_, h1, k.1⟩, rd_back h2 k.2⟩
    | false => exact ⟨k.1.imp id fun h => ⟨_, h1, h⟩, rd_back h2 k.2⟩
theorem ef_last {E : Ent} {ops : Array Oper} {i : Nat} : ∀ {l : SPast} {pH : Past}, PastR E l pH → efLast ops i l → lastOk ops i pH
  | [], [], _, _ => trivial
  | [], _ :: _, h, _ => h.elim
  | _ :: _, [], h, _ => h.elim
  | (b, j, x) :: r, (b', j', y) :: s, h, k => by
    obtain ⟨⟨rfl, rfl, h1⟩, h2⟩ := h
    cases b with
    | true => exact k
    | false => exact ⟨k.1, ef_last h2 k.2⟩
theorem place_free {H X : Heap} {b : Blk} (h : FreeN 1 X) : Place (H ++ X) H.length ((H ++ [some b]) ++ X.drop 1) b := by
  have h0 := h 0 (by omega)
  cases X with
  | nil => simp at h0
  | cons x X =>
    simp only [List.getElem?_cons_zero, Option.some.injEq] at h0
    subst h0
    have e : (H ++ [some b]) ++ (none :: X).drop 1 = (H ++ none :: X).set H.length (some b) := by
      rw [List.set_append_right _ _ (Nat.le_refl _)]; simp
    rw [e]
    exact Place.hole (by rw [List.getElem?_append_right (Nat.le_refl _)]; simp) b
/-- What is left of a region. -/
def GO (m : Mode) (P : Program) (sz : Nat) (ops : Array Oper) (Q : SPost) (l : List Oper) (a : AF) (h : SH) : Prop :=
  match m with
  | .seq => ∀ E H n0, Inv E h H → AOps P ⟨sz, n0⟩ ops (SQ E Q) l a H
  | .draw i last cl => ∀ E H n0 pH, Inv E h H → PastR E last pH → ∃ tr, GD P ⟨sz, n0⟩ ops (fun a' H' => SQ E Q .normal a' H') l i a H pH (cl.map (liftC E)) tr

theorem SRun.mono {P : Program} {f : FuncId} {as : List Value} {p : SH} {R R' : Value → SH → Prop} (h : SRun P f as p R) (hr : ∀ r q, R r q → R' r q) : SRun P f as p R' :=
  fun H i => (h H i).mono fun _ _ ⟨q, h1, h2⟩ => ⟨q, hr _ _ h1, h2⟩

section
variable {P : Program} {sz : Nat} {ops : Array Oper} {Q : SPost} {l rest : List Oper} {a : AF} {h : SH}

theorem SWp.mono {c : Code} {Q' : SPost} (k : SWp P sz c Q a h) (hq : ∀ e a h, Q e a h → Q' e a h) : SWp P sz c Q' a h :=
  fun E H n0 i => (k E H n0 i).mono fun _ _ _ ⟨h', h1, h2⟩ => ⟨h', hq _ _ _ h1, h2⟩
theorem SWp.take {c : Code} {b : AF} {h1 : SH} (s : Sub b a) (t : Take h h1) (k : SWp P sz c Q b h1) : SWp P sz c Q a h :=
  fun E H n0 i => (k E H n0 (i.le t.le)).sub s

def thenS (K : AF → SH → Prop) (Q : SPost) : SPost
  | .normal, a, h => K a h
  | e, a, h => Q e a h
def blockS (id : Nat) (Q : SPost) : SPost
  | .exit id', a, h => if id' = id then Q .normal a h else Q (.exit id') a h
  | e, a, h => Q e a h
def scopeS (Q : SPost) : SPost
  | .goto _, _, _ => False
  | e, a, h => Q e a h

theorem w_skip (k : Q .normal a h) : SWp P sz .skip Q a h := fun _ _ _ i => awp_skip ⟨h, k, i⟩
theorem w_ret (k : Q .ret a h) : SWp P sz .ret Q a h := fun _ _ _ i => awp_ret ⟨h, k, i⟩
theorem w_exit {id : Nat} (k : Q (.exit id) a h) : SWp P sz (.exit id) Q a h := fun _ _ _ i => awp_exit ⟨h, k, i⟩
theorem w_label {id : Nat} (k : Q .normal a h) : SWp P sz (.label id) Q a h := fun _ _ _ i => awp_label ⟨h, k, i⟩
theorem w_seq {x y : Code} (k : SWp P sz x (thenS (fun a h => SWp P sz y Q a h) Q) a h) : SWp P sz (.seq x y) Q a h :=
  fun E H n0 i => awp_seq ((k E H n0 i).mono fun e a' H' ⟨h', h1, h2⟩ => by
    cases e with
    | normal => exact h1 E H' n0 h2
    | _ => exact ⟨h', h1, h2⟩)
theorem w_block {id : Nat} {c : Code} (k : SWp P sz c (blockS id Q) a h) : SWp P sz (.block id c) Q a h :=
  fun E H n0 i => awp_block ((k E H n0 i).mono fun e a' H' ⟨h', h1, h2⟩ => by
    cases e with
    | exit id' =>
      by_cases hid : id' = id
      · simp only [blockS, blockA, hid, if_true] at h1 ⊢; exact ⟨h', h1, h2⟩
      · simp only [blockS, blockA, hid, if_false] at h1 ⊢; exact ⟨h', h1, h2⟩
    | _ => exact ⟨h', h1, h2⟩)
theorem w_scope {c : Code} (k : SWp P sz c (scopeS Q) a h) : SWp P sz (.scope c) Q a h :=
  fun E H n0 i => awp_scope ((k E H n0 i).mono fun e a' H' ⟨h', h1, h2⟩ => by
    cases e with
    | goto l => exact h1.elim
    | _ => exact ⟨h', h1, h2⟩)
theorem w_true {c : Operand} {x y : Code} (hc : ev a c = some (.bool true)) (k : SWp P sz x Q a h) : SWp P sz (.cond c x y) Q a h :=
  fun E H n0 i => awp_cond_true hc rfl (k E H n0 i)
theorem w_false {c : Operand} {x y : Code} (hc : ev a c = some (.bool false)) (k : SWp P sz y Q a h) : SWp P sz (.cond c x y) Q a h :=
  fun E H n0 i => awp_cond_false hc rfl (k E H n0 i)
theorem w_dT {c : Operand} {x y : Code} {p : Prop} {_ : Decidable (p)} (hc : ev a c = some (.bool (decide p))) (hp : p) (k : SWp P sz x Q a h) : SWp P sz (.cond c x y) Q a h :=
  fun E H n0 i => awp_cond_true hc (decide_eq_true hp) (k E H n0 i)
theorem w_dF {c : Operand} {x y : Code} {p : Prop} {_ : Decidable (p)} (hc : ev a c = some (.bool (decide p))) (hp : ¬ p) (k : SWp P sz y Q a h) : SWp P sz (.cond c x y) Q a h :=
  fun E H n0 i => awp_cond_false hc (decide_eq_false hp) (k E H n0 i)
theorem w_if {c : Operand} {x y : Code} {p : Prop} {_ : Decidable (p)} (hc : ev a c = some (.bool (decide p))) (h1 : p → SWp P sz x Q a h) (h2 : ¬ p → SWp P sz y Q a h) : SWp P sz (.cond c x y) Q a h :=
  fun E H n0 i => awp_if hc (fun hp => h1 hp E H n0 i) (fun hp => h2 hp E H n0 i)
theorem w_ifB {c : Operand} {x y : Code} {t : Bool} (hc : ev a c = some (.bool t)) (h1 : t = true → SWp P sz x Q a h) (h2 : t = false → SWp P sz y Q a h) : SWp P sz (.cond c x y) Q a h :=
  fun E H n0 i => awp_cond hc (fun hp => h1 hp E H n0 i) (fun hp => h2 hp E H n0 i)

theorem thenS_normal {K : AF → SH → Prop} (k : K a h) : thenS K Q .normal a h := k
theorem thenS_ret {K : AF → SH → Prop} (k : Q .ret a h) : thenS K Q .ret a h := k
theorem thenS_exit {K : AF → SH → Prop} {i : Nat} (k : Q (.exit i) a h) : thenS K Q (.exit i) a h := k
theorem blockS_normal {id : Nat} (k : Q .normal a h) : blockS id Q .normal a h := k
theorem blockS_ret {id : Nat} (k : Q .ret a h) : blockS id Q .ret a h := k
theorem blockS_exit {id : Nat} (k : Q .normal a h) : blockS id Q (.exit id) a h := by simp only [blockS, if_true]; exact k
theorem blockS_exit_ne {id id' : Nat} (hne : Nat.beq id' id = false) (k : Q (.exit id') a h) : blockS id Q (.exit id') a h := by
  simp only [blockS]; rw [if_neg (fun e => by rw [e, Nat.beq_refl] at hne; cases hne)]; exact k
theorem scopeS_normal (k : Q .normal a h) : scopeS Q .normal a h := k
theorem scopeS_ret (k : Q .ret a h) : scopeS Q .ret a h := k
theorem scopeS_exit {i : Nat} (k : Q (.exit i) a h) : scopeS Q (.exit i) a h := k

/-- A loop: 'A s' and 'G s' are the frame and the blocks at the head in the state s; μ goes down. -/
theorem w_loop {S : Type} {c : Code} (A : S → AF) (G : S → SH) (I : S → Prop) (μ : S → Nat) (s0 : S) (h0 : I s0) (hs : Sub (A s0) a) (ht : Take h (G s0))
    (round : ∀ s, I s → SWp P sz c (thenS (fun a' h' => ∃ s', I s' ∧ μ s' < μ s ∧ Sub (A s') a' ∧ Take h' (G s')) Q) (A s) (G s)) : SWp P sz (.loop c) Q a h := by
  intro E H n0 i
  refine AWp.sub ?_ hs
  refine awp_loop (S := {x : S × Heap // I x.1 ∧ Inv E (G x.1) x.2}) (fun x => A x.1.1) (fun x => x.1.2) (fun _ => True) (fun x => μ x.1.1) ⟨(s0, H), h0, i.le ht.le⟩ trivial keep_refl ?_
  rintro ⟨⟨s, H1⟩, h1, h2⟩ -
  refine (round s h1 E H1 n0 h2).mono ?_
  rintro e a' H' ⟨h', k1, k2⟩
  cases e with
  | normal =>
    obtain ⟨s', g1, g2, g3, g4⟩ := k1
    exact ⟨⟨(s', H'), g1, k2.le g4.le⟩, trivial, g2, keep_sub g3⟩
  | _ => exact ⟨h', k1, k2⟩

/-- Ways that meet again. -/
theorem w_cut {S : Type} {c : Code} {K : AF → SH → Prop} (A : S → AF) (G : S → SH) (I : S → Prop)
    (k1 : SWp P sz c (thenS (fun a' h' => ∃ s, I s ∧ Sub (A s) a' ∧ Take h' (G s)) Q) a h) (k2 : ∀ s, I s → ∀ a' h', Sub (A s) a' → Take h' (G s) → K a' h') : SWp P sz c (thenS K Q) a h :=
  k1.mono fun e a' h' hq => by
    cases e with
    | normal => obtain ⟨s, g1, g2, g3⟩ := hq; exact k2 s g1 a' h' g2 g3
    | _ => exact hq

theorem w_region {id : Nat} (k : GO .seq P sz ops Q ops.toList a h) : SWp P sz (.region id ops false) Q a h := fun E H n0 i => awp_region (k E H n0 i)
theorem w_draw {id : Nat} (hm : P.follows .mixedOrders = true) (hB : chkB ops = true) (k : GO (.draw 0 [] []) P sz ops Q ops.toList a h) : SWp P sz (.region id ops true) Q a h :=
  fun E H n0 i => let ⟨_, g⟩ := k E H n0 [] i trivial; awp_drawn hm hB g
theorem o_nil {m : Mode} (k : Q .normal a h) : GO m P sz ops Q [] a h := by
  cases m with
  | seq => exact fun E H n0 i => aops_nil ⟨h, k, i⟩
  | draw => exact fun E H n0 _ i _ => ⟨_, .nil ⟨h, k, i⟩⟩

/-! Guards: an operation that is wanted is as one without a guard. -/
theorem aops_unguard {N : Fr} {H : Heap} {Q : Post} {dst : Option Tmp} {op : Op} {ty : TypeId} {pos : String} {aft : Array Edge} {j : Nat} {want : Bool} {d : Nat} {b : Bool}
    (hd : (ops[j]?).bind (·.dst) = some d) (hb : get a d = some (.bool b)) (e : b = want) (k : AOps P N ops Q (⟨dst, op, ty, pos, aft, none⟩ :: rest) a H) : AOps P N ops Q (⟨dst, op, ty, pos, aft, some (j, want)⟩ :: rest) a H := by
  unfold AOps at k ⊢
  intro B0 w0 φs Ls φ w ac hdm he hr hf
  have := k B0 w0 φs Ls φ w ac hdm he hr hf
  unfold wpList at this ⊢
  rw [if_pos (by simp [Region.wanted])] at this
  rw [if_pos (by simp only [Region.wanted]; rw [yielded_of hf hd hb, e]; simp)]
  exact this
theorem gd_unguard {N : Fr} {Q : AF → Heap → Prop} {dst : Option Tmp} {op : Op} {ty : TypeId} {pos : String} {aft : Array Edge} {j : Nat} {want : Bool} {d : Nat} (hd : (ops[j]?).bind (·.dst) = some d) :
    ∀ {l : List Oper} {i : Nat} {a : AF} {H : Heap} {last : Past} {cl : Cl} {tr : List St}, GD P N ops Q l i a H last cl tr → l = ⟨dst, op, ty, pos, aft, none⟩ :: rest → get a d = some (.bool want) →
      ∃ tr', GD P N ops Q (⟨dst, op, ty, pos, aft, some (j, want)⟩ :: rest) i a H last cl tr' := by
  intro l i a H last cl tr g
  induction g with
  | nil => intro h; cases h
  | @again l i a H last cl tr d' u hb k ih =>
    intro h hb2
    obtain ⟨tr', g'⟩ := ih h (by
      have := get_put' (a := a) (dst := some d') (v := u) d
      simp only [put, Option.some.injEq] at this
      rw [this]
      split
      · rename_i e; rw [← e, hb] at hb2; exact hb2
      · exact hb2)
    exact ⟨_, .again hb g'⟩
  | skip hN hw k _ => intro h _; cases h; exact hw.elim
  | ind hN hw hv k _ => intro h hb; cases h; exact ⟨_, .ind hN ⟨d, hd, hb⟩ (fun H' a' hag => ⟨(hv H' a' hag).go⟩) k⟩
  | pure C hN hw hc hm hv hl k _ => intro h hb; cases h; exact ⟨_, .pure C hN ⟨d, hd, hb⟩ hc hm (fun H' a' hC hag => ⟨(hv H' a' hC hag).go⟩) hl k⟩
  | eff kk hN hw hlen hv hl hc k _ => intro h hb; cases h; exact ⟨_, .eff kk hN ⟨d, hd, hb⟩ hlen (fun X a' hag hX => ⟨(hv X a' hag hX).go⟩) hl hc k⟩
  | new hN hw hv k _ => intro h hb; cases h; exact ⟨_, .new hN ⟨d, hd, hb⟩ (fun H1 H1' a' hag hpl => ⟨(hv H1 H1' a' hag hpl).go⟩) k⟩

variable {m : Mode} {t : Nat} {op : Op} {dst : Option Tmp} {ty : TypeId} {pos : String} {aft : Array Edge} {j d : Nat} {want : Bool}
theorem o_want (hd : (ops[j]?).bind (·.dst) = some d) (hb : get a d = some (.bool want)) (k : GO m P sz ops Q (⟨dst, op, ty, pos, aft, none⟩ :: rest) a h) :
    GO m P sz ops Q (⟨dst, op, ty, pos, aft, some (j, want)⟩ :: rest) a h := by
  cases m with
  | seq => exact fun E H n0 i => aops_unguard hd hb rfl (k E H n0 i)
  | draw => exact fun E H n0 pH i ip => let ⟨_, g⟩ := k E H n0 pH i ip; gd_unguard hd g rfl hb
theorem o_skip {b : Bool} (hd : (ops[j]?).bind (·.dst) = some d) (hb : get a d = some (.bool b)) (e : b = !want) (hN : Nat.blt t sz = true) (k : GO m.next P sz ops Q rest ((t, undef) :: a) h) :
    GO m P sz ops Q (⟨some t, op, ty, pos, aft, some (j, want)⟩ :: rest) a h := by
  subst e
  cases m with
  | seq => exact fun E H n0 i => aops_skip rfl hd hb rfl hN (k E H n0 i)
  | draw => exact fun E H n0 pH i ip => let ⟨_, g⟩ := k E H n0 pH i ip; ⟨_, .skip hN ⟨d, hd, .inl hb⟩ g⟩
theorem o_skip_undef (hd : (ops[j]?).bind (·.dst) = some d) (hb : get a d = some undef) (hN : Nat.blt t sz = true) (k : GO m.next P sz ops Q rest ((t, undef) :: a) h) :
    GO m P sz ops Q (⟨some t, op, ty, pos, aft, some (j, want)⟩ :: rest) a h := by
  cases m with
  | seq => exact fun E H n0 i => aops_skip_undef rfl hd hb hN (k E H n0 i)
  | draw => exact fun E H n0 pH i ip => let ⟨_, g⟩ := k E H n0 pH i ip; ⟨_, .skip hN ⟨d, hd, .inr hb⟩ g⟩
theorem aops_sub {b : AF} {N : Fr} {H : Heap} {Q : Post} (k : AOps P N ops Q l b H) (s : Sub b a) : AOps P N ops Q l a H := k.sub s
/-- A slot whose value is known may be written down again. -/
theorem frel_again {φ : Nat → Loc} {L : Lens} {N : Fr} {ac : Act} {u : Value} (hb : get a d = some u) (hf : FRel φ L N a ac) : FRel φ L N ((d, u) :: a) ac :=
  ⟨hf.defers, hf.size, fun t v ht => by
    rcases get_put ht with ⟨rfl, rfl⟩ | ⟨_, ht⟩
    · exact hf.slot _ _ hb
    · exact hf.slot t v ht⟩
theorem o_again {u : Value} (hb : get a d = some u) (k : GO m P sz ops Q l ((d, u) :: a) h) : GO m P sz ops Q l a h := by
  cases m with
  | seq =>
    intro E H n0 i
    have := k E H n0 i
    unfold AOps at this ⊢
    exact fun B0 w0 φs Ls φ w ac hdm he hr hf => this B0 w0 φs Ls φ w ac hdm he hr (frel_again hb hf)
  | draw => exact fun E H n0 pH i ip => let ⟨_, g⟩ := k E H n0 pH i ip; ⟨_, .again hb g⟩
/-- A guard that is a decision: the slot of the guard is written down as what it is. -/
theorem o_guardT {p : Prop} {_ : Decidable (p)} (hd : (ops[j]?).bind (·.dst) = some d) (hb : get a d = some (.bool (decide p))) (hN : Nat.blt t sz = true)
    (h1 : p → GO m P sz ops Q (⟨some t, op, ty, pos, aft, none⟩ :: rest) ((d, .bool true) :: a) h) (h2 : ¬ p → GO m.next P sz ops Q rest ((t, undef) :: (d, .bool false) :: a) h) :
    GO m P sz ops Q (⟨some t, op, ty, pos, aft, some (j, true)⟩ :: rest) a h := by
  have hg : ∀ u, get ((d, u) :: a) d = some u := fun u => by unfold get; rw [show Nat.beq d d = true from Nat.beq_refl d]; rfl
  by_cases hp : p
  · rw [decide_eq_true hp] at hb
    exact o_again hb (o_want hd (hg _) (h1 hp))
  · rw [decide_eq_false hp] at hb
    exact o_again hb (o_skip hd (hg _) rfl hN (h2 hp))
theorem o_guardF {p : Prop} {_ : Decidable (p)} (hd : (ops[j]?).bind (·.dst) = some d) (hb : get a d = some (.bool (decide p))) (hN : Nat.blt t sz = true)
    (h1 : ¬ p → GO m P sz ops Q (⟨some t, op, ty, pos, aft, none⟩ :: rest) ((d, .bool false) :: a) h) (h2 : p → GO m.next P sz ops Q rest ((t, undef) :: (d, .bool true) :: a) h) :
    GO m P sz ops Q (⟨some t, op, ty, pos, aft, some (j, false)⟩ :: rest) a h := by
  have hg : ∀ u, get ((d, u) :: a) d = some u := fun u => by unfold get; rw [show Nat.beq d d = true from Nat.beq_refl d]; rfl
  by_cases hp : p
  · rw [decide_eq_true hp] at hb
    exact o_again hb (o_skip hd (hg _) rfl hN (h2 hp))
  · rw [decide_eq_false hp] at hb
    exact o_again hb (o_want hd (hg _) (h1 hp))
theorem o_guardB {b : Bool} (hd : (ops[j]?).bind (·.dst) = some d) (hb : get a d = some (.bool b)) (hN : Nat.blt t sz = true)
    (h1 : b = want → GO m P sz ops Q (⟨some t, op, ty, pos, aft, none⟩ :: rest) ((d, .bool want) :: a) h) (h2 : b = !want → GO m.next P sz ops Q rest ((t, undef) :: (d, .bool (!want)) :: a) h) :
    GO m P sz ops Q (⟨some t, op, ty, pos, aft, some (j, want)⟩ :: rest) a h := by
  have hg : ∀ u, get ((d, u) :: a) d = some u := fun u => by unfold get; rw [show Nat.beq d d = true from Nat.beq_refl d]; rfl
  by_cases hp : b = want
  · subst hp
    exact o_again hb (o_want hd (hg _) (h1 rfl))
  · have hp2 : b = !want := by cases b <;> cases want <;> simp_all
    subst hp2
    exact o_again hb (o_skip hd (hg _) rfl hN (h2 rfl))

/-! Operations -/
theorem o_pure {v : Value} (hv : ∀ N H a', Ag ⟨some t, op, ty, pos, aft, none⟩ a a' → APure P N ⟨some t, op, ty, pos, aft, none⟩ a' H v) (hN : Nat.blt t sz = true) (k : GO m.next P sz ops Q rest ((t, v) :: a) h) :
    GO m P sz ops Q (⟨some t, op, ty, pos, aft, none⟩ :: rest) a h := by
  cases m with
  | seq => exact fun E H n0 i => aops_plain rfl (aop_of (hv _ H a (.refl _ _)) hN (k E H n0 i))
  | draw => exact fun E H n0 pH i ip => let ⟨_, g⟩ := k E H n0 pH i ip; ⟨_, .ind hN trivial (fun H' a' hag => (hv _ H' a' hag).pcall) g⟩
/-- An operation that reads. -/
theorem o_read {v : Value} (c : SH → Prop) (hc : c h) (hv : ∀ N E H h' a', Inv E h' H → c h' → Ag ⟨some t, op, ty, pos, aft, none⟩ a a' → APure P N ⟨some t, op, ty, pos, aft, none⟩ a' H v) (hN : Nat.blt t sz = true) (hok : m.rdOk ops c)
    (k : GO (m.rd c) P sz ops Q rest ((t, v) :: a) h) : GO m P sz ops Q (⟨some t, op, ty, pos, aft, none⟩ :: rest) a h := by
  cases m with
  | seq => exact fun E H n0 i => aops_plain rfl (aop_of (hv _ E H h a i hc (.refl _ _)) hN (k E H n0 i))
  | draw x l cl =>
    intro E H n0 pH i ip
    obtain ⟨_, g⟩ := k E H n0 pH i ip
    exact ⟨_, .pure (fun H' => ∃ h', Inv E h' H' ∧ c h') hN trivial ⟨h, i, hc⟩ (fun H X ⟨h', i', hc'⟩ => ⟨h', i'.app X, hc'⟩) (fun H' a' ⟨h', i', hc'⟩ hag => (hv _ E H' h' a' i' hc' hag).pcall) (rd_back ip hok) g⟩
theorem efOk_cl {E : Ent} {H' : Heap} {h' : SH} {x : Nat} {l : SPast} {cl : SCl} (i' : Inv E h' H') (hok : Mode.efOk ops h' (.draw x l cl)) : ∀ y ∈ cl.map (liftC E), wt ops x y.1 = true ∨ y.2 H' := by
  intro y hy
  obtain ⟨z, hz, rfl⟩ := List.mem_map.1 hy
  exact (clOk.mem hok.2 z hz).imp id fun h => ⟨h', i', h⟩
theorem efOk_l {E : Ent} {h' : SH} {x : Nat} {l : SPast} {pH : Past} {cl : SCl} (ip : PastR E l pH) (hok : Mode.efOk ops h' (.draw x l cl)) : lastOk ops x pH := ef_last ip hok.1
theorem o_new {b : Blk} {v : Nat → Value} (hN : Nat.blt t sz = true) (hv : ∀ n0 A H H' a', Place H A H' b → Ag ⟨some t, op, ty, pos, aft, none⟩ a a' → AEff P ⟨sz, n0⟩ ⟨some t, op, ty, pos, aft, none⟩ a' H (v A) H')
    (k : ∀ A, GO (m.nw h) P sz ops Q rest ((t, v A) :: a) ((A, b) :: h)) : GO m P sz ops Q (⟨some t, op, ty, pos, aft, none⟩ :: rest) a h := by
  cases m with
  | seq => exact fun E H n0 i => aops_plain rfl (aop_eff (hv n0 H.length H _ a (.app H b) (.refl _ _)) hN (k H.length E _ n0 (i.new b)))
  | draw x l cl =>
    intro E H n0 pH i ip
    obtain ⟨_, g⟩ := k H.length E _ n0 ((false, x, H) :: pH) (i.new b) ⟨⟨rfl, rfl, i⟩, ip⟩
    exact ⟨_, .new hN trivial (fun H1 H1' a' hag hpl => (hv n0 H.length H1 H1' a' hpl hag).ceff) g⟩
theorem o_newR {A2 : Nat} {b g2 : Blk} {h1 : SH} {v : Nat → Value} (hN : Nat.blt t sz = true) (hp : Pick h A2 g2 h1) (hv : ∀ n0 A H H' a', H[A2]? = some (some g2) → Place H A H' b → Ag ⟨some t, op, ty, pos, aft, none⟩ a a' → AEff P ⟨sz, n0⟩ ⟨some t, op, ty, pos, aft, none⟩ a' H (v A) H')
    (hok : ∀ A, m.efOk ops ((A, b) :: h)) (k : ∀ A, GO (m.ef h) P sz ops Q rest ((t, v A) :: a) ((A, b) :: h)) : GO m P sz ops Q (⟨some t, op, ty, pos, aft, none⟩ :: rest) a h := by
  cases m with
  | seq => exact fun E H n0 i => aops_plain rfl (aop_eff (hv n0 H.length H _ a (i.look hp) (.app H b) (.refl _ _)) hN (k H.length E _ n0 (i.new b)))
  | draw x l cl =>
    intro E H n0 pH i ip
    obtain ⟨_, g⟩ := k H.length E _ n0 ((true, x, H) :: pH) (i.new b) ⟨⟨rfl, rfl, i⟩, ip⟩
    exact ⟨_, .eff 1 hN trivial (by simp) (fun X a' hag hX => (hv n0 H.length (H ++ X) _ a' ((i.app X).look hp) (place_free hX) hag).ceff) (efOk_l ip (hok H.length)) (efOk_cl (i.new b) (hok H.length)) g⟩
theorem set_app {H X : Heap} {A : Nat} {b b' : Blk} (h : H[A]? = some (some b)) : (H ++ X).set A (some b') = H.set A (some b') ++ X := List.set_append_left _ _ (List.getElem?_eq_some_iff.1 h).1
theorem o_upd {A : Nat} {b b' : Blk} {h' : SH} {v : Value} (hN : dstLt ⟨dst, op, ty, pos, aft, none⟩ ⟨sz, 0⟩ = true) (hu : Upd h A b b' h') (hv : ∀ n0 H a', H[A]? = some (some b) → Ag ⟨dst, op, ty, pos, aft, none⟩ a a' → AEff P ⟨sz, n0⟩ ⟨dst, op, ty, pos, aft, none⟩ a' H v (H.set A (some b')))
    (hok : m.efOk ops h') (k : GO (m.ef h) P sz ops Q rest (put a dst v) h') : GO m P sz ops Q (⟨dst, op, ty, pos, aft, none⟩ :: rest) a h := by
  cases m with
  | seq => exact fun E H n0 i => aops_plain rfl (aop_eff (hv n0 H a (i.sat _ hu.mem) (.refl _ _)) hN (k E _ n0 (i.upd hu)))
  | draw x l cl =>
    intro E H n0 pH i ip
    obtain ⟨_, g⟩ := k E _ n0 ((true, x, H) :: pH) (i.upd hu) ⟨⟨rfl, rfl, i⟩, ip⟩
    exact ⟨_, .eff 0 hN trivial (by simp) (fun X a' hag _ => by rw [List.drop_zero, ← set_app (i.sat _ hu.mem)]; exact (hv n0 _ a' ((i.app X).sat _ hu.mem) hag).ceff) (efOk_l ip hok) (efOk_cl (i.upd hu) hok) g⟩
theorem o_upd2 {A A2 : Nat} {b b' g2 : Blk} {h' h1 : SH} {v : Value} (hN : dstLt ⟨dst, op, ty, pos, aft, none⟩ ⟨sz, 0⟩ = true) (hu : Upd h A b b' h') (hp : Pick h A2 g2 h1) (hv : ∀ n0 H a', H[A]? = some (some b) → H[A2]? = some (some g2) → Ag ⟨dst, op, ty, pos, aft, none⟩ a a' → AEff P ⟨sz, n0⟩ ⟨dst, op, ty, pos, aft, none⟩ a' H v (H.set A (some b')))
    (hok : m.efOk ops h') (k : GO (m.ef h) P sz ops Q rest (put a dst v) h') : GO m P sz ops Q (⟨dst, op, ty, pos, aft, none⟩ :: rest) a h := by
  cases m with
  | seq => exact fun E H n0 i => aops_plain rfl (aop_eff (hv n0 H a (i.sat _ hu.mem) (i.look hp) (.refl _ _)) hN (k E _ n0 (i.upd hu)))
  | draw x l cl =>
    intro E H n0 pH i ip
    obtain ⟨_, g⟩ := k E _ n0 ((true, x, H) :: pH) (i.upd hu) ⟨⟨rfl, rfl, i⟩, ip⟩
    exact ⟨_, .eff 0 hN trivial (by simp) (fun X a' hag _ => by rw [List.drop_zero, ← set_app (i.sat _ hu.mem)]; exact (hv n0 _ a' ((i.app X).sat _ hu.mem) ((i.app X).look hp) hag).ceff) (efOk_l ip hok) (efOk_cl (i.upd hu) hok) g⟩

def lockS (h : SH) : SH := h.map fun x => (x.1, x.2.lock)
theorem Inv.lock {E : Ent} {h : SH} {H : Heap} (i : Inv E h H) : Inv ⟨_root_.Go.Gh.lock H, lockS h⟩ (lockS h) (_root_.Go.Gh.lock H) := by
  refine .start (fun x hx => ?_) ?_
  · obtain ⟨y, hy, rfl⟩ := List.mem_map.1 hx
    exact get_lock (i.sat y hy)
  · have : (lockS h).map (·.1) = h.map (·.1) := by unfold lockS; rw [List.map_map]; rfl
    rw [this]; exact i.nd

/-- A call. -/
theorem o_call {x : Operand} {xs : List Operand} {ts : Array TypeId} {f : FuncId} {first captured : Array Value} {as : List Value} {R : Value → SH → Prop} (hx : ev a x = some (.func (.func f) first captured)) (hxs : evs a xs = some as)
    (hf : enters P f = true) (hN : Nat.blt t sz = true) (hrt : ∃ h1, SRun P f (first.toList ++ as ++ captured.toList) h1 R ∧ Take h h1) (k : ∀ r q, R r q → GO .seq P sz ops Q rest ((t, r) :: a) q) :
    GO .seq P sz ops Q (⟨some t, .call { callee := .value x, args := xs.toArray, argTypes := ts }, ty, pos, aft, none⟩ :: rest) a h :=
  let ⟨_, hr, ht⟩ := hrt
  fun E H n0 i => aops_plain rfl (a_call x xs ts rfl hx hxs hf hN (hr H (i.le ht.le).refl) fun r H' ⟨q, hq, i'⟩ => k r q hq E H' n0 ((i.le ht.le).comp i'))
theorem o_callN {x : Operand} {xs : List Operand} {ts : Array TypeId} {f : FuncId} {first captured : Array Value} {as : List Value} {R : Value → SH → Prop} (hx : ev a x = some (.func (.func f) first captured)) (hxs : evs a xs = some as)
    (hf : enters P f = true) (hrt : ∃ h1, SRun P f (first.toList ++ as ++ captured.toList) h1 R ∧ Take h h1) (k : ∀ r q, R r q → GO .seq P sz ops Q rest a q) :
    GO .seq P sz ops Q (⟨none, .call { callee := .value x, args := xs.toArray, argTypes := ts }, ty, pos, aft, none⟩ :: rest) a h :=
  let ⟨_, hr, ht⟩ := hrt
  fun E H n0 i => aops_plain rfl (a_call x xs ts rfl hx hxs hf rfl (hr H (i.le ht.le).refl) fun r H' ⟨q, hq, i'⟩ => k r q hq E H' n0 ((i.le ht.le).comp i'))
structure Rd (p : Prop) : Prop where
  h : p
/-- A value without addresses. -/
structure Flat (v : Value) : Prop where
  const : ∀ φ L, Val φ L v v
  det : ∀ φ L v', Val φ L v v' → v' = v
theorem Flat.c {v : Value} (h : constOk v = true) : Flat v := ⟨fun _ _ => Val.const h, fun _ _ _ k => Val.det h k⟩
inductive FlatL : List Value → Prop
  | nil : FlatL []
  | cons {v l} (h : Flat v) (k : FlatL l) : FlatL (v :: l)
theorem FlatL.at {l : List Value} (h : FlatL l) : ∀ {i : Nat} (hi : i < l.length), Flat l[i] := by
  induction h with
  | nil => intro i hi; simp at hi
  | cons h _ ih =>
    intro i hi
    cases i with
    | zero => exact h
    | succ i => exact ih (by simpa using hi)
theorem flat_tuple {l : List Value} (h : FlatL l) : Flat (.tuple ⟨l⟩) :=
  ⟨fun φ L => .tuple _ _ rfl fun i h1 _ => (h.at (by simpa using h1)).const φ L, fun φ L v' k => by
    cases k with
    | tuple _ b h1 h2 =>
      congr 1
      refine Array.ext h1.symm fun i hi hi' => ?_
      exact (h.at (by simpa using hi')).det φ L _ (h2 i hi' hi)⟩
theorem flat_agg {l : List Value} (h : FlatL l) : Flat (.agg ⟨l⟩) :=
  ⟨fun φ L => .agg _ _ rfl fun i h1 _ => (h.at (by simpa using h1)).const φ L, fun φ L v' k => by
    cases k with
    | agg _ b h1 h2 =>
      congr 1
      refine Array.ext h1.symm fun i hi hi' => ?_
      exact (h.at (by simpa using hi')).det φ L _ (h2 i hi' hi)⟩
/-- A call in a region of a drawn order: the callee sees the blocks, and writes none. -/
theorem o_callD {x : Operand} {xs : List Operand} {ts : Array TypeId} {f : FuncId} {first captured : Array Value} {as : List Value} {R : Value → SH → Prop} {v : Value} {i0 : Nat} {last : SPast} {cl : SCl} (hx : ev a x = some (.func (.func f) first captured)) (hxs : evs a xs = some as)
    (hf : enters P f = true) (hN : Nat.blt t sz = true) (hrt : ∃ h1, SRun P f (first.toList ++ as ++ captured.toList) h1 R ∧ Take (lockS h) h1) (hv : ∀ r q, R r q → r = v) (hc : Flat v) (hok : (Mode.draw i0 last cl).rdOk ops fun h' => Rd (∃ h1, SRun P f (first.toList ++ as ++ captured.toList) h1 R ∧ Take (lockS h') h1))
    (k : GO ((Mode.draw i0 last cl).rd fun h' => Rd (∃ h1, SRun P f (first.toList ++ as ++ captured.toList) h1 R ∧ Take (lockS h') h1)) P sz ops Q rest ((t, v) :: a) h) :
    GO (.draw i0 last cl) P sz ops Q (⟨some t, .call { callee := .value x, args := xs.toArray, argTypes := ts }, ty, pos, aft, none⟩ :: rest) a h := by
  intro E H n0 pH i ip
  obtain ⟨_, g⟩ := k E H n0 pH i ip
  refine ⟨_, .pure (fun H' => ∃ h', Inv E h' H' ∧ Rd (∃ h1, SRun P f (first.toList ++ as ++ captured.toList) h1 R ∧ Take (lockS h') h1)) hN trivial ⟨h, i, ⟨hrt⟩⟩ (fun H X ⟨h', i', hc'⟩ => ⟨h', i'.app X, hc'⟩) (fun H' a' ⟨h', i', ⟨h1, hr, ht⟩⟩ hag => ?_) (rd_back ip hok) g⟩
  · have hx' : ev a' x = some (.func (.func f) first captured) := (hag.ev (by simp [Op.operands, Call.operands])).trans hx
    have hxs' : evs a' xs = some as := by
      rw [← hxs]
      have : ∀ ys : List Operand, (∀ y ∈ ys, ev a' y = ev a y) → evs a' ys = evs a ys := by
        intro ys
        induction ys with
        | nil => intro _; rfl
        | cons y ys ih => intro hy; simp only [evs, hy y List.mem_cons_self, ih fun z hz => hy z (List.mem_cons_of_mem _ hz)]
      exact this xs fun y hy => hag.ev (by simp [Op.operands, Call.operands, hy])
    have hrun := (hr (lock H') (i'.lock.le ht.le).refl).mono (R' := fun r _ => r = v) fun r _ ⟨q, hq, _⟩ => hv r q hq
    refine ⟨fun B0 w0 φ w ac hrel hfr => ?_⟩
    have e1 := ev_rel hfr hx'
    have e2 := evs_rel hfr hxs'
    refine ⟨v, hc.const _ _, .inr ?_⟩
    generalize hu : ac.eval x = u at e1
    cases e1 with
    | func _ _ b _ d q1 q2 q3 q4 =>
      have hvr := ((VRel.of_arrays q1 q2).append e2).append (VRel.of_arrays q3 q4)
      refine ⟨f, b ++ (xs.map ac.eval).toArray ++ d, ?_, ?_⟩
      · unfold execOp
        simp only [resolve, List.map_toArray, hu, Deferred.ofValue, Sem.run_bind, Sem.run_pure, Result.andThen_ok, invoke]
        exact run_callFunc_enters hf _ w
      · unfold Run at hrun
        refine (hrun _ _ φ (lens (lock H')) φ w _ (.refl _ _) hrel.locked (by rw [lens_lock]; exact hvr)).mono ?_
        rintro e w' ⟨φ', r, H2, v', g1, g2, rfl, g4, rfl⟩
        exact ⟨by rw [hc.det _ _ _ g4], g2.below⟩

/-! The body of a function -/
def ResS (P : Program) (a : AF) (h : SH) : List ResultVar → List Value → Prop
  | [], [] => True
  | .tmp t :: r, v :: vs => get a t = some v ∧ ResS P a h r vs
  | .cell b T :: r, v :: vs => (∃ A off n g h1, get a b = some (gptr A off n) ∧ Pick h A g h1 ∧ g.cells.length = n ∧
      ((∃ z s by', aggT P T = some true ∧ tinf P T = some (z, s, by') ∧ off + s ≤ g.cells.length ∧ v = .agg ((g.cells.drop off).take s).toArray) ∨
       (aggT P T = some false ∧ g.cells[off]? = some v))) ∧ ResS P a h r vs
  | _, _ => False
theorem ResS.res {E : Ent} {H : Heap} (i : Inv E h H) : ∀ {l : List ResultVar} {vs : List Value}, ResS P a h l vs → ResR P a H l vs := by
  intro l
  induction l with
  | nil => intro vs k; cases vs with | nil => trivial | cons v vs => exact k.elim
  | cons x l ih =>
    intro vs k
    cases vs with
    | nil => cases x <;> exact k.elim
    | cons v vs =>
      cases x with
      | tmp t => exact ⟨k.1, ih k.2⟩
      | cell b T =>
        obtain ⟨⟨A, off, n, g, h1, e1, e2, e3, e4⟩, k2⟩ := k
        exact ⟨⟨A, off, n, g, e1, i.look e2, e3, e4⟩, ih k2⟩
/-- The end of a function. -/
def bodyS (P : Program) (fn : Func) (R : Value → SH → Prop) : SPost
  | .normal, a, h | .ret, a, h => ∃ vs q, ResS P a h fn.results.toList vs ∧ R (resv vs) q ∧ Take h q
  | _, _, _ => False
theorem w_body {f : FuncId} {fn : Func} {c : Code} {as : List Value} {R : Value → SH → Prop} (hf : P.funcs[f]? = some fn) (hb : fn.body = some c)
    (hN : Nat.ble as.length fn.ntmps = true) (k : SWp P fn.ntmps c (bodyS P fn R) (frameFrom 0 as) h) : SRun P f as h R := by
  intro H i
  refine run_body hf hb hN fun _ => (k ⟨H, h⟩ H H.length i).mono ?_
  rintro e a' H' ⟨h', k1, k2⟩
  have fin : bodyS P fn R .ret a' h' → bodyA P ⟨fn.ntmps, H.length⟩ fn (fun r H' => ∃ q, R r q ∧ Inv ⟨H, h⟩ q H') .ret a' H' :=
    fun ⟨vs, q, g1, g2, g3⟩ => ⟨vs, ResS.res k2 g1, vs, H', keep_refl, rfl, q, g2, k2.le g3.le⟩
  cases e with
  | normal => exact fin k1
  | ret => exact fin k1
  | _ => exact k1.elim
end
theorem s_fin {P : Program} {a : AF} {h q : SH} {fn : Func} {R : Value → SH → Prop} {vs : List Value} (hr : ResS P a h fn.results.toList vs) (hR : R (resv vs) q) (ht : Take h q) : bodyS P fn R .ret a h := ⟨vs, q, hr, hR, ht⟩
theorem s_finN {P : Program} {a : AF} {h q : SH} {fn : Func} {R : Value → SH → Prop} {vs : List Value} (hr : ResS P a h fn.results.toList vs) (hR : R (resv vs) q) (ht : Take h q) : bodyS P fn R .normal a h := ⟨vs, q, hr, hR, ht⟩
attribute [irreducible] SWp GO SRun thenS blockS scopeS bodyS
end Go.Gh
