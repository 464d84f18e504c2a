/- The ghost heap: weakest preconditions of code over ghost frames and heaps; control, calls, entries. -/
import Derived.Test.YtinfmojbdaiogaaGhA
import Derived.BigQuiet
import Derived.Deep.QuietTactic
set_option linter.unusedVariables false
set_option linter.unusedSimpArgs false
set_option maxRecDepth 4000
namespace Go.Gh
open Go.RowKit

abbrev Post := Exit → AF → Heap → Prop

/-- The concrete postcondition behind a ghost one. -/
def QC (B0 : Nat) (w0 : World) (N : Fr) (φs : Nat → Loc) (Ls : Lens) (Q : Post) : Exit → Act → World → Prop :=
  fun e ac w => ∃ φ a H, Ext φs Ls φ (lens H) ∧ Rel B0 w0 φ H w ∧ FRel φ (lens H) N a ac ∧ Q e a H

/-- The blocks that the caller knows lie below this number. -/
def Dom (Ls : Lens) (n : Nat) : Prop := ∀ A m, Ls A = some m → A < n

def AWp (P : Program) (N : Fr) (c : Code) (Q : Post) (a : AF) (H : Heap) : Prop :=
  ∀ B0 w0 φs Ls φ w ac, Dom Ls N.n0 → Ext φs Ls φ (lens H) → Rel B0 w0 φ H w → FRel φ (lens H) N a ac → c.wp P (QC B0 w0 N φs Ls Q) ac w

def AOps (P : Program) (N : Fr) (ops : Array Oper) (Q : Post) (l : List Oper) (a : AF) (H : Heap) : Prop :=
  ∀ B0 w0 φs Ls φ w ac, Dom Ls N.n0 → Ext φs Ls φ (lens H) → Rel B0 w0 φ H w → FRel φ (lens H) N a ac → wpList P ops (QC B0 w0 N φs Ls Q) l ac w

def AOp (P : Program) (N : Fr) (o : Oper) (ops : Array Oper) (rest : List Oper) (Q : Post) (a : AF) (H : Heap) : Prop :=
  ∀ B0 w0 φs Ls φ w ac, Dom Ls N.n0 → Ext φs Ls φ (lens H) → Rel B0 w0 φ H w → FRel φ (lens H) N a ac →
    o.wp P ac w (wpList P ops (QC B0 w0 N φs Ls Q) rest) (QC B0 w0 N φs Ls Q)

section
variable {P : Program} {N : Fr} {ops : Array Oper} {Q : Post} {l rest : List Oper} {o : Oper} {a : AF} {H : Heap}

theorem AWp.mono {c : Code} {Q' : Post} (h : AWp P N c Q a H) (hq : ∀ e a H, Q e a H → Q' e a H) : AWp P N c Q' a H :=
  fun B0 w0 φs Ls φ w ac hdm he hr hf => wp_mono (h B0 w0 φs Ls φ w ac hdm he hr hf) fun _ _ _ ⟨φ', a', H', h1, h2, h3, h4⟩ => ⟨φ', a', H', h1, h2, h3, hq _ _ _ h4⟩

theorem AWp.sub {c : Code} {b : AF} (h : AWp P N c Q b H) (s : Sub b a) : AWp P N c Q a H :=
  fun B0 w0 φs Ls φ w ac hdm he hr hf => h B0 w0 φs Ls φ w ac hdm he hr (hf.sub s)

theorem AOps.sub {b : AF} (h : AOps P N ops Q l b H) (s : Sub b a) : AOps P N ops Q l a H :=
  fun B0 w0 φs Ls φ w ac hdm he hr hf => h B0 w0 φs Ls φ w ac hdm he hr (hf.sub s)

def thenA (K : AF → Heap → Prop) (Q : Post) : Post
  | .normal, a, H => K a H
  | e, a, H => Q e a H

def blockA (id : Nat) (Q : Post) : Post
  | .exit id', a, H => if id' = id then Q .normal a H else Q (.exit id') a H
  | e, a, H => Q e a H

def scopeA (Q : Post) : Post
  | .goto _, _, _ => False
  | e, a, H => Q e a H

theorem awp_skip (h : Q .normal a H) : AWp P N .skip Q a H :=
  fun _ _ _ _ φ _ _ _ he hr hf => wp_skip ⟨φ, a, H, he, hr, hf, h⟩

theorem awp_ret (h : Q .ret a H) : AWp P N .ret Q a H :=
  fun _ _ _ _ φ _ _ _ he hr hf => wp_ret ⟨φ, a, H, he, hr, hf, h⟩

theorem awp_exit {id : Nat} (h : Q (.exit id) a H) : AWp P N (.exit id) Q a H :=
  fun _ _ _ _ φ _ _ _ he hr hf => wp_exit ⟨φ, a, H, he, hr, hf, h⟩

theorem awp_label {id : Nat} (h : Q .normal a H) : AWp P N (.label id) Q a H :=
  fun _ _ _ _ φ _ _ _ he hr hf => wp_label ⟨φ, a, H, he, hr, hf, h⟩

theorem awp_seq {x y : Code} (h : AWp P N x (thenA (fun a H => AWp P N y Q a H) Q) a H) : AWp P N (.seq x y) Q a H := by
  intro B0 w0 φs Ls φ w ac hdm he hr hf
  refine wp_seq (wp_mono (h B0 w0 φs Ls φ w ac hdm he hr hf) ?_)
  rintro e ac' w' ⟨φ', a', H', h1, h2, h3, h4⟩
  cases e with
  | normal => exact h4 B0 w0 φs Ls φ' w' ac' hdm h1 h2 h3
  | _ => exact ⟨φ', a', H', h1, h2, h3, h4⟩

theorem awp_cond {c : Operand} {x y : Code} {t : Bool} (hc : ev a c = some (.bool t)) (h1 : t = true → AWp P N x Q a H) (h2 : t = false → AWp P N y Q a H) :
    AWp P N (.cond c x y) Q a H := by
  intro B0 w0 φs Ls φ w ac hdm he hr hf
  have hb := (ev_rel hf hc).scalar rfl
  cases t with
  | true => exact wp_cond_true hb (h1 rfl B0 w0 φs Ls φ w ac hdm he hr hf)
  | false => exact wp_cond_false hb (h2 rfl B0 w0 φs Ls φ w ac hdm he hr hf)

theorem awp_cond_true {c : Operand} {x y : Code} {t : Bool} (hc : ev a c = some (.bool t)) (ht : t = true) (h1 : AWp P N x Q a H) : AWp P N (.cond c x y) Q a H :=
  awp_cond hc (fun _ => h1) (fun h => by rw [ht] at h; cases h)
theorem awp_cond_false {c : Operand} {x y : Code} {t : Bool} (hc : ev a c = some (.bool t)) (ht : t = false) (h1 : AWp P N y Q a H) : AWp P N (.cond c x y) Q a H :=
  awp_cond hc (fun h => by rw [ht] at h; cases h) (fun _ => h1)
/-- A test that is a decision: both ways with the proposition. -/
theorem awp_if {c : Operand} {x y : Code} {p : Prop} [Decidable p] (hc : ev a c = some (.bool (decide p))) (h1 : p → AWp P N x Q a H) (h2 : ¬ p → AWp P N y Q a H) :
    AWp P N (.cond c x y) Q a H :=
  awp_cond hc (fun h => h1 (of_decide_eq_true h)) (fun h => h2 (of_decide_eq_false h))

theorem awp_block {id : Nat} {c : Code} (h : AWp P N c (blockA id Q) a H) : AWp P N (.block id c) Q a H := by
  intro B0 w0 φs Ls φ w ac hdm he hr hf
  refine wp_block (wp_mono (h B0 w0 φs Ls φ w ac hdm he hr hf) ?_)
  rintro e ac' w' ⟨φ', a', H', h1, h2, h3, h4⟩
  cases e with
  | exit id' =>
    by_cases hid : id' = id
    · subst hid
      simp only [blockA, if_true] at h4
      simp only [Exit.inBlock, if_true]
      exact ⟨φ', a', H', h1, h2, h3, h4⟩
    · simp only [blockA, hid, if_false] at h4
      simp only [Exit.inBlock, hid, if_false]
      exact ⟨φ', a', H', h1, h2, h3, h4⟩
  | _ => exact ⟨φ', a', H', h1, h2, h3, h4⟩

theorem awp_scope {c : Code} (h : AWp P N c (scopeA Q) a H) : AWp P N (.scope c) Q a H := by
  intro B0 w0 φs Ls φ w ac hdm he hr hf
  refine wp_scope_straight (wp_mono (h B0 w0 φs Ls φ w ac hdm he hr hf) ?_)
  rintro e ac' w' ⟨φ', a', H', h1, h2, h3, h4⟩
  cases e with
  | goto l => exact h4.elim
  | _ => exact ⟨φ', a', H', h1, h2, h3, h4⟩

/-- The ghost state (a, H) may be seen as (a2, H2): blocks from n0 on may have other numbers, or be forgotten. -/
structure Keep (N : Fr) (a : AF) (H : Heap) (a2 : AF) (H2 : Heap) : Prop where
  go : ∀ B0 w0 φ w ac, Rel B0 w0 φ H w → FRel φ (lens H) N a ac →
    ∃ φ2, Rel B0 w0 φ2 H2 w ∧ FRel φ2 (lens H2) N a2 ac ∧ ∀ A, A < N.n0 → φ2 A = φ A ∧ lens H2 A = lens H A

theorem keep_sub {a2 : AF} (s : Sub a2 a) : Keep N a H a2 H :=
  ⟨fun _ _ φ _ _ hr hf => ⟨φ, hr, hf.sub s, fun _ _ => ⟨rfl, rfl⟩⟩⟩
theorem keep_refl : Keep N a H a H := ⟨fun _ _ φ _ _ hr hf => ⟨φ, hr, hf, fun _ _ => ⟨rfl, rfl⟩⟩⟩

theorem ext_keep {φs φ φ2 : Nat → Loc} {Ls : Lens} {H2 : Heap} {n : Nat} (hdm : Dom Ls n) (he : Ext φs Ls φ (lens H)) (h : ∀ A, A < n → φ2 A = φ A ∧ lens H2 A = lens H A) : Ext φs Ls φ2 (lens H2) := by
  intro A m hA
  obtain ⟨m', h1, h2⟩ := he A m hA
  obtain ⟨e1, e2⟩ := h A (hdm A m hA)
  exact ⟨m', e2.trans h1, h2.imp (fun ⟨x, y⟩ => ⟨x, e1.trans y⟩) (fun ⟨x, y⟩ => ⟨x, fun hm => e1.trans (y hm)⟩)⟩

theorem awp_keep {c : Code} {a2 : AF} {H2 : Heap} (k : Keep N a H a2 H2) (h : AWp P N c Q a2 H2) : AWp P N c Q a H := by
  intro B0 w0 φs Ls φ w ac hdm he hr hf
  obtain ⟨φ2, h1, h2, h3⟩ := k.go B0 w0 φ w ac hr hf
  exact h B0 w0 φs Ls φ2 w ac hdm (ext_keep hdm he h3) h1 h2

/-- A loop: 'A s' and 'G s' are the frame and the heap at the head in the state s; μ goes down. -/
theorem awp_loop {S : Type} {c : Code} (A : S → AF) (G : S → Heap) (I : S → Prop) (μ : S → Nat) (s0 : S) (h0 : I s0) (hk : Keep N a H (A s0) (G s0))
    (round : ∀ s, I s → AWp P N c (thenA (fun a' H' => ∃ s', I s' ∧ μ s' < μ s ∧ Keep N a' H' (A s') (G s')) Q) (A s) (G s)) : AWp P N (.loop c) Q a H := by
  refine awp_keep hk ?_
  intro B0 w0 φs Ls φ w ac hdm he hr hf b k cs
  have key : ∀ n s φ ac w, μ s = n → I s → Ext φs Ls φ (lens (G s)) → Rel B0 w0 φ (G s) w → FRel φ (lens (G s)) N (A s) ac →
      ∃ e a' w', QC B0 w0 N φs Ls Q e a' w' ∧ Arrives P (lone (b.at ac (.code c :: .inLoop c :: k)) cs w) b k cs e a' w' := by
    intro n
    induction n using Nat.strongRecOn with
    | _ n ih =>
      intro s φ ac w hn hI he hr hf
      obtain ⟨e, a₁, w₁, ⟨φ', a', H', h1, h2, h3, h4⟩, harr⟩ := round s hI B0 w0 φs Ls φ w ac hdm he hr hf b (.inLoop c :: k) cs
      cases e with
      | normal =>
        obtain ⟨s', hI', hlt, hkeep⟩ := h4
        obtain ⟨φ2, k1, k2, k3⟩ := hkeep.go B0 w0 φ' w₁ a₁ h2 h3
        obtain ⟨e₂, a₂, w₂, hq₂, harr₂⟩ := ih (μ s') (hn ▸ hlt) s' φ2 a₁ w₁ rfl hI' (ext_keep hdm h1 k3) k1 k2
        exact ⟨e₂, a₂, w₂, hq₂, .of_steps (Steps.trans harr (.one step_inLoop)) harr₂⟩
      | exit id => exact ⟨_, a₁, w₁, ⟨φ', a', H', h1, h2, h3, h4⟩, .pass (x := .inLoop c) rfl (fun _ _ => .inl (by simp)) harr⟩
      | goto l => exact ⟨_, a₁, w₁, ⟨φ', a', H', h1, h2, h3, h4⟩, .pass (x := .inLoop c) rfl (fun _ _ => .inl (by simp)) harr⟩
      | ret => exact ⟨_, a₁, w₁, ⟨φ', a', H', h1, h2, h3, h4⟩, .pass (x := .inLoop c) rfl (fun _ _ => .inl (by simp)) harr⟩
      | panic ch => exact ⟨_, a₁, w₁, ⟨φ', a', H', h1, h2, h3, h4⟩, .pass (x := .inLoop c) rfl (fun _ _ => .inl (by simp)) harr⟩
      | outgrown => exact ⟨_, a₁, w₁, ⟨φ', a', H', h1, h2, h3, h4⟩, .pass (x := .inLoop c) rfl (fun _ _ => .inl (by simp)) harr⟩
  obtain ⟨e, a', w', hq, harr⟩ := key _ s0 φ ac w rfl h0 he hr hf
  exact ⟨e, a', w', hq, .of_steps (.one step_loop) harr⟩

theorem awp_region {id : Nat} (h : AOps P N ops Q ops.toList a H) : AWp P N (.region id ops false) Q a H :=
  fun B0 w0 φs Ls φ w ac hdm he hr hf => wp_region_list (h B0 w0 φs Ls φ w ac hdm he hr hf)

theorem aops_nil (h : Q .normal a H) : AOps P N ops Q [] a H :=
  fun _ _ _ _ φ _ _ _ he hr hf => wpList_nil ⟨φ, a, H, he, hr, hf, h⟩

theorem aops_plain (hg : o.guard = none) (h : AOp P N o ops rest Q a H) : AOps P N ops Q (o :: rest) a H := by
  intro B0 w0 φs Ls φ w ac hdm he hr hf
  unfold wpList
  rw [if_pos (by simp [Region.wanted, hg])]
  exact .inl (h B0 w0 φs Ls φ w ac hdm he hr hf)

theorem yielded_of {φ : Nat → Loc} {L : Lens} {ac : Act} (hf : FRel φ L N a ac) {j d : Nat} (hd : (ops[j]?).bind (·.dst) = some d) {b : Bool} (hb : get a d = some (.bool b)) :
    yielded ops ac.tmps j = some b := by
  obtain ⟨v', h1, h2⟩ := hf.slot d _ hb
  have := h2.scalar rfl
  subst this
  simp [yielded, hd, h1]

/-- The guard says yes. -/
theorem aops_want {j : Nat} {want : Bool} {d : Nat} {b : Bool} (hg : o.guard = some (j, want)) (hd : (ops[j]?).bind (·.dst) = some d) (hb : get a d = some (.bool b)) (e : b = want)
    (h : AOp P N o ops rest Q a H) : AOps P N ops Q (o :: rest) a H := by
  intro B0 w0 φs Ls φ w ac hdm he hr hf
  unfold wpList
  rw [if_pos (by simp only [Region.wanted, hg]; rw [yielded_of hf hd hb, e]; simp)]
  exact .inl (h B0 w0 φs Ls φ w ac hdm he hr hf)

theorem undef_rel {φ : Nat → Loc} {L : Lens} : Val φ L undef undef := Val.const rfl

def dstLt (o : Oper) (N : Fr) : Bool := match o.dst with
  | some d => Nat.blt d N.sz
  | none => true
theorem dstLt_lt {o : Oper} {N : Fr} (h : dstLt o N = true) : ∀ d, o.dst = some d → d < N.sz := by
  intro d hd
  unfold dstLt at h
  rw [hd] at h
  exact Nat.lt_of_lt_of_le (Nat.lt_succ_self d) (Nat.le_of_ble_eq_true h)

/-- The guard says no. -/
theorem aops_skip {j : Nat} {want : Bool} {d : Nat} {b : Bool} (hg : o.guard = some (j, want)) (hd : (ops[j]?).bind (·.dst) = some d) (hb : get a d = some (.bool b)) (e : b = !want)
    (hN : dstLt o N = true) (h : AOps P N ops Q rest (put a o.dst undef) H) : AOps P N ops Q (o :: rest) a H := by
  intro B0 w0 φs Ls φ w ac hdm he hr hf
  unfold wpList
  rw [if_neg (by simp only [Region.wanted, hg]; rw [yielded_of hf hd hb, e]; cases want <;> simp)]
  exact h B0 w0 φs Ls φ w _ hdm he hr (hf.put (dstLt_lt hN) undef_rel)

/-- A guard that is a decision. -/
theorem aops_guardT {j : Nat} {d : Nat} {p : Prop} [Decidable p] (hg : o.guard = some (j, true)) (hd : (ops[j]?).bind (·.dst) = some d) (hb : get a d = some (.bool (decide p)))
    (hN : dstLt o N = true) (h1 : p → AOp P N o ops rest Q a H) (h2 : ¬ p → AOps P N ops Q rest (put a o.dst undef) H) : AOps P N ops Q (o :: rest) a H := by
  by_cases hp : p
  · exact aops_want hg hd hb (decide_eq_true hp) (h1 hp)
  · exact aops_skip hg hd hb (decide_eq_false hp) hN (h2 hp)
theorem aops_guardF {j : Nat} {d : Nat} {p : Prop} [Decidable p] (hg : o.guard = some (j, false)) (hd : (ops[j]?).bind (·.dst) = some d) (hb : get a d = some (.bool (decide p)))
    (hN : dstLt o N = true) (h1 : ¬ p → AOp P N o ops rest Q a H) (h2 : p → AOps P N ops Q rest (put a o.dst undef) H) : AOps P N ops Q (o :: rest) a H := by
  by_cases hp : p
  · exact aops_skip hg hd hb (decide_eq_true hp) hN (h2 hp)
  · exact aops_want hg hd hb (decide_eq_false hp) (h1 hp)

/-- The guarding operation was passed over itself. -/
theorem aops_skip_undef {j : Nat} {want : Bool} {d : Nat} (hg : o.guard = some (j, want)) (hd : (ops[j]?).bind (·.dst) = some d) (hb : get a d = some undef)
    (hN : dstLt o N = true) (h : AOps P N ops Q rest (put a o.dst undef) H) : AOps P N ops Q (o :: rest) a H := by
  intro B0 w0 φs Ls φ w ac hdm he hr hf
  unfold wpList
  obtain ⟨v', h1, h2⟩ := hf.slot d _ hb
  have := Val.det rfl h2
  subst this
  rw [if_neg (by simp [Region.wanted, hg, yielded, hd, h1, undef])]
  exact h B0 w0 φs Ls φ w _ hdm he hr (hf.put (dstLt_lt hN) undef_rel)

/-- An operation that yields a value. -/
theorem aop_value {H' : Heap} {v : Value} (hN : dstLt o N = true)
    (hop : ∀ B0 w0 φ w ac, Rel B0 w0 φ H w → FRel φ (lens H) N a ac →
      ∃ φ' v' w', Ext φ (lens H) φ' (lens H') ∧ Rel B0 w0 φ' H' w' ∧ Val φ' (lens H') v v' ∧ (execOp ac.eval o).run P w = .ok (.value v') w')
    (k : AOps P N ops Q rest (put a o.dst v) H') : AOp P N o ops rest Q a H := by
  intro B0 w0 φs Ls φ w ac hdm he hr hf
  obtain ⟨φ', v', w', h1, h2, h3, h4⟩ := hop B0 w0 φ w ac hr hf
  unfold Oper.wp
  rw [h4]
  exact k B0 w0 φs Ls φ' w' _ hdm (he.trans h1) h2 ((hf.mono h1).put (dstLt_lt hN) h3)

/-- An operation that only computes or reads: one value, in every world that is as this one below its blocks. -/
structure APure (P : Program) (N : Fr) (o : Oper) (a : AF) (H : Heap) (v : Value) : Prop where
  go : ∀ B0 w0 φ w ac, Rel B0 w0 φ H w → FRel φ (lens H) N a ac →
    ∃ v', Val φ (lens H) v v' ∧ ∀ w1, Below w.heap.size w w1 → (execOp ac.eval o).run P w1 = .ok (.value v') w1

theorem aop_of {v : Value} (h : APure P N o a H v) (hN : dstLt o N = true) (k : AOps P N ops Q rest (put a o.dst v) H) : AOp P N o ops rest Q a H :=
  aop_value hN (fun B0 w0 φ w ac hr hf => let ⟨v', h1, h2⟩ := h.go B0 w0 φ w ac hr hf; ⟨φ, v', w, .refl _ _, hr, h1, h2 w (Below.refl _ _)⟩) k

/-- An operation without a value (a store). -/
theorem aop_unit {H' : Heap} (hN : dstLt o N = true)
    (hop : ∀ B0 w0 φ w ac, Rel B0 w0 φ H w → FRel φ (lens H) N a ac →
      ∃ φ' w', Ext φ (lens H) φ' (lens H') ∧ Rel B0 w0 φ' H' w' ∧ (execOp ac.eval o).run P w = .ok .skip w')
    (k : AOps P N ops Q rest (put a o.dst undef) H') : AOp P N o ops rest Q a H := by
  intro B0 w0 φs Ls φ w ac hdm he hr hf
  obtain ⟨φ', w', h1, h2, h4⟩ := hop B0 w0 φ w ac hr hf
  unfold Oper.wp
  rw [h4]
  exact k B0 w0 φs Ls φ' w' _ hdm (he.trans h1) h2 ((hf.mono h1).put (dstLt_lt hN) undef_rel)

/-- An operation that turns the heap. -/
structure AEff (P : Program) (N : Fr) (o : Oper) (a : AF) (H : Heap) (v : Value) (H' : Heap) : Prop where
  go : ∀ B0 w0 φ w ac, Rel B0 w0 φ H w → FRel φ (lens H) N a ac →
    ∃ φ' v' w', Ext φ (lens H) φ' (lens H') ∧ Rel B0 w0 φ' H' w' ∧ Val φ' (lens H') v v' ∧ ((execOp ac.eval o).run P w = .ok (.value v') w' ∨ (v' = undef ∧ (execOp ac.eval o).run P w = .ok .skip w'))
theorem eff_value {H' : Heap} {v : Value}
    (hop : ∀ B0 w0 φ w ac, Rel B0 w0 φ H w → FRel φ (lens H) N a ac →
      ∃ φ' v' w', Ext φ (lens H) φ' (lens H') ∧ Rel B0 w0 φ' H' w' ∧ Val φ' (lens H') v v' ∧ (execOp ac.eval o).run P w = .ok (.value v') w') : AEff P N o a H v H' :=
  ⟨fun B0 w0 φ w ac hr hf => let ⟨φ', v', w', h1, h2, h3, h4⟩ := hop B0 w0 φ w ac hr hf; ⟨φ', v', w', h1, h2, h3, .inl h4⟩⟩
theorem eff_unit {H' : Heap}
    (hop : ∀ B0 w0 φ w ac, Rel B0 w0 φ H w → FRel φ (lens H) N a ac →
      ∃ φ' w', Ext φ (lens H) φ' (lens H') ∧ Rel B0 w0 φ' H' w' ∧ (execOp ac.eval o).run P w = .ok .skip w') : AEff P N o a H undef H' :=
  ⟨fun B0 w0 φ w ac hr hf => let ⟨φ', w', h1, h2, h4⟩ := hop B0 w0 φ w ac hr hf; ⟨φ', undef, w', h1, h2, undef_rel, .inr ⟨rfl, h4⟩⟩⟩
theorem aop_eff {H' : Heap} {v : Value} (h : AEff P N o a H v H') (hN : dstLt o N = true) (k : AOps P N ops Q rest (put a o.dst v) H') : AOp P N o ops rest Q a H := by
  intro B0 w0 φs Ls φ w ac hdm he hr hf
  obtain ⟨φ', v', w', h1, h2, h3, h4⟩ := h.go B0 w0 φ w ac hr hf
  unfold Oper.wp
  rcases h4 with h4 | ⟨rfl, h4⟩
  · rw [h4]
    exact k B0 w0 φs Ls φ' w' _ hdm (he.trans h1) h2 ((hf.mono h1).put (dstLt_lt hN) h3)
  · rw [h4]
    exact k B0 w0 φs Ls φ' w' _ hdm (he.trans h1) h2 ((hf.mono h1).put (dstLt_lt hN) h3)

theorem a_move (x : Operand) {v : Value} (ho : o.op = .move x) (hx : ev a x = some v) : APure P N o a H v :=
  ⟨fun _ _ _ _ _ _ hf => ⟨_, ev_rel hf hx, fun w _ => BigFrame.run_move x ho w⟩⟩

theorem a_assign (x : Operand) {v : Value} (ho : o.op = .assign x) (hx : ev a x = some v) : APure P N o a H v :=
  ⟨fun _ _ _ _ _ _ hf => ⟨_, ev_rel hf hx, fun w _ => BigFrame.run_assign x ho w⟩⟩

end

/-! Calls -/
section
variable {P : Program}

def RC (B0 : Nat) (w0 : World) (φs : Nat → Loc) (Ls : Lens) (R : Value → Heap → Prop) : Ending → World → Prop :=
  fun e w => ∃ φ r H v, Ext φs Ls φ (lens H) ∧ Rel B0 w0 φ H w ∧ e = .returned v ∧ Val φ (lens H) r v ∧ R r H

def Run (P : Program) (f : FuncId) (as : List Value) (H : Heap) (R : Value → Heap → Prop) : Prop :=
  ∀ B0 w0 φs Ls φ w vs, Ext φs Ls φ (lens H) → Rel B0 w0 φ H w → VRel φ (lens H) as vs → Calls P f vs w (RC B0 w0 φs Ls R)

theorem Run.mono {f : FuncId} {as : List Value} {H : Heap} {R R' : Value → Heap → Prop} (h : Run P f as H R) (hr : ∀ r H, R r H → R' r H) : Run P f as H R' :=
  fun B0 w0 φs Ls φ w vs he hrel hv => (h B0 w0 φs Ls φ w vs he hrel hv).mono fun _ _ ⟨φ', r, H', v, h1, h2, h3, h4, h5⟩ => ⟨φ', r, H', v, h1, h2, h3, h4, hr _ _ h5⟩

/-- A function with a body, that is entered. -/
def enters (P : Program) (f : FuncId) : Bool :=
  match P.funcs[f]? with
  | some fn => fn.body.isSome && fn.name != "runtime.NumGoroutine"
  | none => false

theorem run_callFunc_enters {f : FuncId} (h : enters P f = true) (args : Array Value) (w : World) : (callFunc f args).run P w = .ok (.enter f args) w := by
  unfold enters at h
  cases hf : P.funcs[f]? with
  | none => rw [hf] at h; cases h
  | some fn =>
    rw [hf] at h
    simp only [Bool.and_eq_true, bne_iff_ne, ne_eq] at h
    have h1 : fn.body.isNone = false := by cases hb : fn.body <;> simp_all
    have h2 : (fn.name == "runtime.NumGoroutine") = false := by simpa using h.2
    simp only [callFunc, program, Sem.run_bind, Sem.run, Result.andThen_ok, hf, h2, h1, Bool.false_eq_true, if_false]
    rfl

def evs (a : AF) : List Operand → Option (List Value)
  | [] => some []
  | x :: r => match ev a x, evs a r with
    | some v, some vs => some (v :: vs)
    | _, _ => none

theorem evs_rel {φ : Nat → Loc} {L : Lens} {N : Fr} {a : AF} {ac : Act} (h : FRel φ L N a ac) : ∀ {xs : List Operand} {vs : List Value}, evs a xs = some vs →
    VRel φ L vs (xs.map ac.eval).toArray := by
  intro xs
  induction xs with
  | nil => intro vs hv; simp only [evs, Option.some.injEq] at hv; subst hv; exact ⟨rfl, fun i v hi => by simp at hi⟩
  | cons x r ih =>
    intro vs hv
    simp only [evs] at hv
    cases hx : ev a x with
    | none => rw [hx] at hv; simp at hv
    | some u =>
      cases hr : evs a r with
      | none => rw [hx, hr] at hv; simp at hv
      | some us =>
        rw [hx, hr] at hv
        simp only [Option.some.injEq] at hv
        subst hv
        have := ih hr
        refine ⟨by have := this.size; simp at this ⊢; exact this, fun i v hi => ?_⟩
        cases i with
        | zero => simp only [List.getElem?_cons_zero, Option.some.injEq] at hi; subst hi; exact ⟨_, by simp, ev_rel h hx⟩
        | succ i =>
          simp only [List.getElem?_cons_succ] at hi
          obtain ⟨v', h1, h2⟩ := this.get i v hi
          exact ⟨v', by simpa using h1, h2⟩

theorem VRel.of_arrays {φ : Nat → Loc} {L : Lens} {a b : Array Value} (h1 : a.size = b.size) (h2 : ∀ i (h : i < a.size) (h' : i < b.size), Val φ L a[i] b[i]) : VRel φ L a.toList b := by
  refine ⟨by simp [h1], fun i v hi => ?_⟩
  have hi' : i < a.size := by
    have := (List.getElem?_eq_some_iff.1 hi).1
    simpa using this
  refine ⟨b[i]'(by omega), by rw [Array.getElem?_eq_getElem (by omega)], ?_⟩
  have : v = a[i] := by
    have := (List.getElem?_eq_some_iff.1 hi).2
    simpa using this.symm
  rw [this]
  exact h2 i hi' (by omega)

theorem VRel.append {φ : Nat → Loc} {L : Lens} {as bs : List Value} {vs us : Array Value} (h : VRel φ L as vs) (k : VRel φ L bs us) : VRel φ L (as ++ bs) (vs ++ us) := by
  refine ⟨by simp [h.size, k.size], fun i v hi => ?_⟩
  rw [List.getElem?_append] at hi
  rw [Array.getElem?_append, h.size]
  split at hi
  · rename_i hlt; rw [if_pos hlt]; exact h.get i v hi
  · rename_i hlt; rw [if_neg hlt]; exact k.get _ v hi

variable {N : Fr} {ops : Array Oper} {Q : Post} {rest : List Oper} {o : Oper} {a : AF} {H : Heap}

theorem aop_enter {f : FuncId} {as : List Value} {R : Value → Heap → Prop} (hN : dstLt o N = true)
    (hop : ∀ φ ac, FRel φ (lens H) N a ac → ∃ vs, VRel φ (lens H) as vs ∧ ∀ w, (execOp ac.eval o).run P w = .ok (.enter f vs) w)
    (hr : Run P f as H R) (k : ∀ r H', R r H' → AOps P N ops Q rest (put a o.dst r) H') : AOp P N o ops rest Q a H := by
  intro B0 w0 φs Ls φ w ac hdm he hrel hf
  obtain ⟨vs, h1, h2⟩ := hop φ ac hf
  unfold Oper.wp
  rw [h2 w]
  refine (hr B0 w0 φ (lens H) φ w vs (.refl _ _) hrel h1).mono ?_
  rintro e w' ⟨φ', r, H', v, g1, g2, rfl, g4, g5⟩
  exact k r H' g5 B0 w0 φs Ls φ' w' _ hdm (he.trans g1) g2 ((hf.mono g1).put (dstLt_lt hN) g4)

/-- A call of a function, of a closure. -/
theorem a_call (x : Operand) (xs : List Operand) (ts : Array TypeId) {f : FuncId} {first captured : Array Value} {as : List Value} {R : Value → Heap → Prop}
    (ho : o.op = .call { callee := .value x, args := xs.toArray, argTypes := ts }) (hx : ev a x = some (.func (.func f) first captured)) (hxs : evs a xs = some as)
    (hf : enters P f = true) (hN : dstLt o N = true) (hr : Run P f (first.toList ++ as ++ captured.toList) H R)
    (k : ∀ r H', R r H' → AOps P N ops Q rest (put a o.dst r) H') : AOp P N o ops rest Q a H := by
  refine aop_enter hN ?_ hr k
  intro φ ac hfr
  have h1 := ev_rel hfr hx
  have h2 := evs_rel hfr hxs
  generalize hu : ac.eval x = u at h1
  cases h1 with
  | func _ _ b _ d e1 e2 e3 e4 =>
    refine ⟨_, ((VRel.of_arrays e1 e2).append h2).append (VRel.of_arrays e3 e4), fun w => ?_⟩
    unfold execOp
    simp only [ho, resolve, List.map_toArray, hu, Deferred.ofValue, Sem.run_bind, Sem.run_pure, Result.andThen_ok, invoke]
    exact run_callFunc_enters hf _ w

/-- Whether a value's blocks all have numbers below n. -/
def CloV (n : Nat) (v : Value) : Prop :=
  ∀ φ L φ2 L2 u, (∀ A, A < n → L2 A = L A ∧ φ2 A = φ A) → Val φ L v u → Val φ2 L2 v u
def CloH (H : Heap) : Prop := ∀ (A : Nat) (g : Blk) (v : Value), H[A]? = some (some g) → v ∈ g.cells → CloV H.length v

theorem cloV_of {φ0 : Nat → Loc} {L0 : Lens} {v u0 : Value} (h : Val φ0 L0 v u0) {n : Nat} (hn : ∀ A m, L0 A = some m → A < n) : CloV n v := by
  induction h with
  | ptr A o q m c hL hv h0 =>
    intro φ L φ2 L2 u e hu
    cases hu with
    | ptr _ _ _ m' c' hL' hv' h' =>
      obtain ⟨e1, e2⟩ := e A (hn A m hL)
      exact .ptr A o q m' c' (e1.trans hL') hv' (fun x => by rw [e2]; exact h' x)
  | slc A o q m len fl cap c hL hv hc hm h0 =>
    intro φ L φ2 L2 u e hu
    cases hu with
    | slc _ _ _ m' _ _ cap' c' hL' hv' hc' hm' h' =>
      obtain ⟨e1, e2⟩ := e A (hn A m hL)
      exact .slc A o q m' len fl cap' c' (e1.trans hL') hv' hc' hm' (fun x => by rw [e2]; exact h' x)
  | full A o q m len c hL hv hm h0 =>
    intro φ L φ2 L2 u e hu
    cases hu with
    | full _ _ _ m' _ c' hL' hv' hm' h' =>
      obtain ⟨e1, e2⟩ := e A (hn A m hL)
      exact .full A o q m' len c' (e1.trans hL') hv' hm' (fun x => by rw [e2]; exact h' x)
  | map A m r hL h0 =>
    intro φ L φ2 L2 u e hu
    cases hu with
    | map _ m' r' hL' h' =>
      obtain ⟨e1, e2⟩ := e A (hn A m hL)
      exact .map A m' r' (e1.trans hL') (by rw [e2]; exact h')
  | func f a b c d h1 _ h3 _ ih1 ih2 =>
    intro φ L φ2 L2 u e hu
    cases hu with
    | func _ _ b' _ d' k1 k2 k3 k4 =>
      exact .func f a b' c d' k1 (fun i p q => ih1 i p (by omega) φ L φ2 L2 _ e (k2 i p q)) k3 (fun i p q => ih2 i p (by omega) φ L φ2 L2 _ e (k4 i p q))
  | iface t v v' _ ih =>
    intro φ L φ2 L2 u e hu
    cases hu with
    | iface _ _ w h => exact .iface t v w (ih φ L φ2 L2 w e h)
  | agg a b h1 _ ih =>
    intro φ L φ2 L2 u e hu
    cases hu with
    | agg _ b' k1 k2 => exact .agg a b' k1 (fun i p q => ih i p (by omega) φ L φ2 L2 _ e (k2 i p q))
  | tuple a b h1 _ ih =>
    intro φ L φ2 L2 u e hu
    cases hu with
    | tuple _ b' k1 k2 => exact .tuple a b' k1 (fun i p q => ih i p (by omega) φ L φ2 L2 _ e (k2 i p q))
  | _ =>
    intro φ L φ2 L2 u e hu
    cases hu <;> constructor <;> assumption

theorem Rel.clo {B0 : Nat} {w0 : World} {φ : Nat → Loc} {w : World} (r : Rel B0 w0 φ H w) : CloH H := by
  intro A g v hA hv
  obtain ⟨o, c, h1, h2, h3, h5⟩ := (r.blk A g hA).any
  obtain ⟨i, hi, rfl⟩ := List.getElem_of_mem hv
  obtain ⟨v', _, g2⟩ := h5 i g.cells[i] (by simp [hi])
  exact cloV_of g2 (fun A m h => lens_some h)

end
attribute [irreducible] AWp AOps AOp Run
end Go.Gh
