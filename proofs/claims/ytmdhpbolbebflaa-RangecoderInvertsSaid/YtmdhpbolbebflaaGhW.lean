/- The ghost heap: regions whose order is drawn, with effects: every order that the edges allow leads where the order of the text leads. -/
import Derived.Test.YtmdhpbolbebflaaGhG
import Derived.StillTail
set_option linter.unusedVariables false
set_option linter.unusedSimpArgs false
namespace Go.Gh
open Go.RowKit

def bindsA (e : Edge) : Bool := match e.ground with
  | .textOnly _ | .gcOnly _ => false
  | _ => true
theorem binds_any (e : Edge) : Region.binds .any e = bindsA e := by
  unfold Region.binds bindsA; cases e.ground <;> rfl
/-- Operation i waits for operation j. -/
def waits (ops : Array Oper) (i j : Nat) : Bool := match ops.toList[i]? with
  | some o => o.after.toList.any fun e => bindsA e && Nat.beq e.on j
  | none => false
theorem waits_of {ops : Array Oper} {i j : Nat} (h : waits ops i j = true) : ∃ o, ops[i]? = some o ∧ ∃ e ∈ o.after, Region.binds .any e = true ∧ e.on = j := by
  unfold waits at h
  split at h
  · rename_i o ho
    obtain ⟨e, he, hb⟩ := List.any_eq_true.1 h
    simp only [Bool.and_eq_true] at hb
    exact ⟨o, by simpa using ho, e, by simpa using he, by rw [binds_any]; exact hb.1, Nat.eq_of_beq_eq_true hb.2⟩
  · cases h

def oTm : Operand → List Nat
  | .tmp t => [t]
  | _ => []
def opTmps (o : Oper) : List Nat := o.op.operands.toList.flatMap oTm
def isDst (o : Oper) (t : Nat) : Bool := match o.dst with
  | some d => Nat.beq d t
  | none => false
theorem isDst_iff {o : Oper} {t : Nat} : isDst o t = true ↔ o.dst = some t := by
  unfold isDst; cases o.dst with
  | none => simp
  | some d => simp only [Option.some.injEq]; exact ⟨Nat.eq_of_beq_eq_true, fun h => by rw [h]; exact Nat.beq_refl t⟩
/-- The edges of a region: each operand, each guard is waited for; edges lead back; each slot is written once. -/
def chkOp (ops : Array Oper) (i : Nat) (o : Oper) : Bool :=
  (match o.op with | .select .. => false | _ => true) &&
  (o.after.toList.all fun e => !bindsA e || Nat.blt e.on i) &&
  ((opTmps o).all fun t => (List.range ops.size).all fun j => match ops.toList[j]? with
    | some p => !isDst p t || (Nat.blt j i && waits ops i j)
    | none => true) &&
  (match o.guard with | none => true | some (j, _) => Nat.blt j i && waits ops i j) &&
  ((List.range ops.size).all fun j => match ops.toList[j]?, o.dst with
    | some p, some t => !isDst p t || Nat.beq j i
    | _, _ => true)
def chkB (ops : Array Oper) : Bool := (List.range ops.size).all fun i => match ops.toList[i]? with
  | some o => chkOp ops i o
  | none => true

def Ag (o : Oper) (a a' : AF) : Prop := ∀ t ∈ opTmps o, get a' t = get a t
theorem Ag.ev {o : Oper} {a a' : AF} (h : Ag o a a') {x : Operand} (hx : x ∈ o.op.operands) : ev a' x = ev a x := by
  cases x with
  | tmp t => exact h t (List.mem_flatMap.2 ⟨.tmp t, by simpa using hx, by simp [oTm]⟩)
  | _ => rfl
theorem Ag.refl (o : Oper) (a : AF) : Ag o a a := fun _ _ => rfl

/-- A value that is computed, read, or handed back by a call that turns nothing. -/
structure PCall (P : Program) (N : Fr) (o : Oper) (a : AF) (H : Heap) (v : Value) : Prop where
  go : ∀ B0 w0 φ w ac, Rel B0 w0 φ H w → FRel φ (lens H) N a ac →
    ∃ v', Val φ (lens H) v v' ∧ ((execOp ac.eval o).run P w = .ok (.value v') w ∨ ∃ f args, (execOp ac.eval o).run P w = .ok (.enter f args) w ∧ Calls P f args w fun e w2 => e = .returned v' ∧ Below w.heap.size w w2)
theorem APure.pcall {P : Program} {N : Fr} {o : Oper} {a : AF} {H : Heap} {v : Value} (h : APure P N o a H v) : PCall P N o a H v :=
  ⟨fun B0 w0 φ w ac hr hf => let ⟨v', h1, h2⟩ := h.go B0 w0 φ w ac hr hf; ⟨v', h1, .inl (h2 w (Below.refl _ _))⟩⟩

/-- What turns the ghost heap in one known way: an operation, or a call. -/
structure CEff (P : Program) (N : Fr) (o : Oper) (a : AF) (H : Heap) (v : Value) (H' : Heap) : Prop where
  go : ∀ B0 w0 φ w ac, Rel B0 w0 φ H w → FRel φ (lens H) N a ac →
    (∃ φ' v' w', Ext φ (lens H) φ' (lens H') ∧ Rel B0 w0 φ' H' w' ∧ Val φ' (lens H') v v' ∧ ((execOp ac.eval o).run P w = .ok (.value v') w' ∨ (v' = undef ∧ (execOp ac.eval o).run P w = .ok .skip w'))) ∨
    ∃ f args, (execOp ac.eval o).run P w = .ok (.enter f args) w ∧ Calls P f args w fun e w' => ∃ φ' v', Ext φ (lens H) φ' (lens H') ∧ Rel B0 w0 φ' H' w' ∧ e = .returned v' ∧ Val φ' (lens H') v v'
theorem AEff.ceff {P : Program} {N : Fr} {o : Oper} {a : AF} {H : Heap} {v : Value} {H' : Heap} (h : AEff P N o a H v H') : CEff P N o a H v H' :=
  ⟨fun B0 w0 φ w ac hr hf => .inl (h.go B0 w0 φ w ac hr hf)⟩

def Wants (ops : Array Oper) (o : Oper) (a : AF) : Prop := match o.guard with
  | none => True
  | some (j, want) => ∃ d, (ops[j]?).bind (·.dst) = some d ∧ get a d = some (.bool want)
def Skips (ops : Array Oper) (o : Oper) (a : AF) : Prop := match o.guard with
  | none => False
  | some (j, want) => ∃ d, (ops[j]?).bind (·.dst) = some d ∧ (get a d = some (.bool (!want)) ∨ get a d = some undef)

inductive Kd | fin | skip | pure (C : Heap → Prop) | ind | eff
structure St where
  a : AF
  H : Heap
  v : Value
  k : Kd
abbrev Cl := List (Nat × (Heap → Prop))

abbrev Past := List (Nat × Heap)
/-- What a read leans on held ahead of every effect that it does not wait for. -/
def backOk (ops : Array Oper) (i : Nat) (C : Heap → Prop) : Past → Prop
  | [] => True
  | x :: r => waits ops i x.1 = true ∨ (C x.2 ∧ backOk ops i C r)
def lastOk (ops : Array Oper) (i : Nat) : Past → Prop
  | [] => True
  | x :: _ => waits ops i x.1 = true
/-- The order of the text, and what makes every other order as good. -/
inductive GD (P : Program) (N : Fr) (ops : Array Oper) (Q : AF → Heap → Prop) : List Oper → Nat → AF → Heap → Past → Cl → List St → Prop
  | nil {i a H last cl} (h : Q a H) : GD P N ops Q [] i a H last cl [⟨a, H, undef, .fin⟩]
  | again {l i a H last cl tr d u} (hb : get a d = some u) (k : GD P N ops Q l i ((d, u) :: a) H last cl tr) : GD P N ops Q l i a H last cl tr
  | skip {o rest i a H last cl tr} (hN : dstLt o N = true) (hw : Skips ops o a) (k : GD P N ops Q rest (i + 1) (put a o.dst undef) H last cl tr) : GD P N ops Q (o :: rest) i a H last cl (⟨a, H, undef, .skip⟩ :: tr)
  | ind {o rest i a H last cl tr v} (hN : dstLt o N = true) (hw : Wants ops o a) (hv : ∀ H' a', Ag o a a' → PCall P N o a' H' v)
      (k : GD P N ops Q rest (i + 1) (put a o.dst v) H last cl tr) : GD P N ops Q (o :: rest) i a H last cl (⟨a, H, v, .ind⟩ :: tr)
  | pure {o rest i a H last cl tr v} (C : Heap → Prop) (hN : dstLt o N = true) (hw : Wants ops o a) (hc : C H) (hv : ∀ H' a', C H' → Ag o a a' → PCall P N o a' H' v) (hl : backOk ops i C last)
      (k : GD P N ops Q rest (i + 1) (put a o.dst v) H last ((i, C) :: cl) tr) : GD P N ops Q (o :: rest) i a H last cl (⟨a, H, v, .pure C⟩ :: tr)
  | eff {o rest i a H H' last cl tr v} (hN : dstLt o N = true) (hw : Wants ops o a) (hv : ∀ a', Ag o a a' → CEff P N o a' H v H') (hl : lastOk ops i last)
      (hc : ∀ x ∈ cl, waits ops i x.1 = true ∨ x.2 H') (k : GD P N ops Q rest (i + 1) (put a o.dst v) H' ((i, H) :: last) cl tr) : GD P N ops Q (o :: rest) i a H last cl (⟨a, H, v, .eff⟩ :: tr)

section
variable {P : Program} {N : Fr} {ops : Array Oper} {Q : AF → Heap → Prop}

theorem get_put' {a : AF} {dst : Option Tmp} {v : Value} (t : Nat) : get (put a dst v) t = if dst = some t then some v else get a t := by
  cases dst with
  | none => simp [put]
  | some d =>
    simp only [put, Option.some.injEq]
    by_cases h : d = t
    · subst h; rw [if_pos rfl]; unfold get; rw [show Nat.beq d d = true from Nat.beq_refl d]; rfl
    · rw [if_neg h]
      show get ((d, v) :: a) t = _
      conv => lhs; unfold get
      rw [show Nat.beq d t = false from by
        cases hb : Nat.beq d t with
        | true => exact absurd (Nat.eq_of_beq_eq_true hb) h
        | false => rfl]
      rfl

theorem GD.len {l : List Oper} {i : Nat} {a : AF} {H : Heap} {last : Past} {cl : Cl} {tr : List St} (g : GD P N ops Q l i a H last cl tr) : tr.length = l.length + 1 := by
  induction g with
  | nil => rfl
  | again _ _ ih => exact ih
  | skip _ _ _ ih => simp [ih]
  | ind _ _ _ _ ih => simp [ih]
  | pure _ _ _ _ _ _ _ ih => simp [ih]
  | eff _ _ _ _ _ _ ih => simp [ih]

def Kd.isE : Kd → Bool
  | .eff => true
  | _ => false
def Kd.isM : Kd → Bool
  | .eff | .pure _ => true
  | _ => false
/-- What holds of each place of the trace. -/
structure Ok (P : Program) (N : Fr) (ops : Array Oper) (o : Oper) (i : Nat) (s s' : St) : Prop where
  dst : dstLt o N = true
  next : ∀ t, get s'.a t = if o.dst = some t then some s.v else get s.a t
  same : s.k.isE = false → s'.H = s.H
  kind : match s.k with
    | .fin => False
    | .skip => Skips ops o s.a ∧ s.v = undef
    | .ind => Wants ops o s.a ∧ ∀ H' a', Ag o s.a a' → PCall P N o a' H' s.v
    | .pure C => Wants ops o s.a ∧ C s.H ∧ ∀ H' a', C H' → Ag o s.a a' → PCall P N o a' H' s.v
    | .eff => Wants ops o s.a ∧ ∀ a', Ag o s.a a' → CEff P N o a' s.H s.v s'.H

theorem wants_congr {o : Oper} {a a' : AF} (h : ∀ t, get a' t = get a t) : Wants ops o a → Wants ops o a' := by
  unfold Wants; split
  · exact id
  · rintro ⟨d, h1, h2⟩; exact ⟨d, h1, (h d).trans h2⟩
theorem skips_congr {o : Oper} {a a' : AF} (h : ∀ t, get a' t = get a t) : Skips ops o a → Skips ops o a' := by
  unfold Skips; split
  · exact id
  · rintro ⟨d, h1, h2⟩; exact ⟨d, h1, h2.imp (h d).trans (h d).trans⟩

/-- A walk, read off as a trace. -/
structure Tr (P : Program) (N : Fr) (ops : Array Oper) (Q : AF → Heap → Prop) (l : List Oper) (i : Nat) (a : AF) (H : Heap) (last : Past) (cl : Cl) (tr : List St) : Prop where
  len : tr.length = l.length + 1
  ha : ∀ s, tr[0]? = some s → (∀ t, get s.a t = get a t) ∧ s.H = H
  hfin : ∀ s, tr[l.length]? = some s → Q s.a s.H
  ok : ∀ (k : Nat) o s s', l[k]? = some o → tr[k]? = some s → tr[k + 1]? = some s' → Ok P N ops o (i + k) s s'
  chain : ∀ (k : Nat) s, tr[k]? = some s → s.k.isE = true → ((∀ (j : Nat) s2, j < k → tr[j]? = some s2 → s2.k.isE = false) → lastOk ops (i + k) last) ∧
    ∀ (j : Nat) s2, j < k → tr[j]? = some s2 → s2.k.isE = true → (∀ (m : Nat) s3, j < m → m < k → tr[m]? = some s3 → s3.k.isE = false) → waits ops (i + k) (i + j) = true
  back : ∀ (k : Nat) s C, tr[k]? = some s → s.k = .pure C → (∀ (j : Nat) s2, j < k → tr[j]? = some s2 → s2.k.isE = true → (∃ (x : Nat) (s3 : St), j ≤ x ∧ x < k ∧ tr[x]? = some s3 ∧ s3.k.isE = true ∧ waits ops (i + k) (i + x) = true) ∨ C s2.H) ∧
    ((∃ (x : Nat) (s3 : St), x < k ∧ tr[x]? = some s3 ∧ s3.k.isE = true ∧ waits ops (i + k) (i + x) = true) ∨ backOk ops (i + k) C last)
  keep : ∀ (k : Nat) s s', tr[k]? = some s → s.k.isE = true → tr[k + 1]? = some s' →
    (∀ x ∈ cl, waits ops (i + k) x.1 = true ∨ x.2 s'.H) ∧ ∀ (j : Nat) s2 C, j < k → tr[j]? = some s2 → s2.k = .pure C → waits ops (i + k) (i + j) = true ∨ C s'.H

theorem Tr.cons {o : Oper} {rest : List Oper} {i : Nat} {a a1 : AF} {H H1 : Heap} {last last1 : Past} {cl cl1 : Cl} {tr : List St} {s : St} (t : Tr P N ops Q rest (i + 1) a1 H1 last1 cl1 tr)
    (hs : s.a = a ∧ s.H = H) (h1 : ∀ s', (∀ t, get s'.a t = get a1 t) → s'.H = H1 → Ok P N ops o i s s') (hm : s.k.isE = true → lastOk ops i last) (hb : ∀ C, s.k = .pure C → backOk ops i C last)
    (hl : last1 = if s.k.isE = true then (i, H) :: last else last) (hcl : ∀ x ∈ cl, x ∈ cl1) (hcp : ∀ C, s.k = .pure C → (i, C) ∈ cl1) (hce : s.k.isE = true → ∀ x ∈ cl, waits ops i x.1 = true ∨ x.2 H1) :
    Tr P N ops Q (o :: rest) i a H last cl (s :: tr) := by
  refine ⟨by simp [t.len], fun s1 h => ?_, fun s1 h => t.hfin s1 (by simpa using h), fun k o1 s1 s2 ho e1 e2 => ?_, fun k s1 e1 hk => ?_, fun k s1 C e1 hk => ?_, fun k s1 s2 e1 hk e2 => ?_⟩
  · simp only [List.getElem?_cons_zero, Option.some.injEq] at h
    subst h; exact ⟨fun t => by rw [hs.1], hs.2⟩
  · cases k with
    | zero =>
      simp only [List.getElem?_cons_zero, Option.some.injEq] at ho e1
      subst ho e1
      obtain ⟨g1, g2⟩ := t.ha s2 (by simpa using e2)
      exact h1 s2 g1 g2
    | succ k =>
      have := t.ok k o1 s1 s2 (by simpa using ho) (by simpa using e1) (by simpa using e2)
      rwa [show i + 1 + k = i + (k + 1) by omega] at this
  · cases k with
    | zero =>
      simp only [List.getElem?_cons_zero, Option.some.injEq] at e1
      subst e1
      exact ⟨fun _ => hm hk, fun j s2 hj => by omega⟩
    | succ k =>
      obtain ⟨g1, g2⟩ := t.chain k s1 (by simpa using e1) hk
      rw [show i + 1 + k = i + (k + 1) by omega] at g1 g2
      refine ⟨fun hn => ?_, fun j s2 hj hj2 hj3 hn => ?_⟩
      · have h0 := hn 0 s (by omega) rfl
        have := g1 fun j s2 hj hj2 => hn (j + 1) s2 (by omega) (by simpa using hj2)
        rw [hl, h0] at this
        exact this
      · cases j with
        | zero =>
          simp only [List.getElem?_cons_zero, Option.some.injEq] at hj2
          subst hj2
          have := g1 fun j s2 hj hj2 => hn (j + 1) s2 (by omega) (by omega) (by simpa using hj2)
          rw [hl, if_pos hj3] at this
          exact this
        | succ j =>
          have := g2 j s2 (by omega) (by simpa using hj2) hj3 fun m s3 h3 h4 h5 => hn (m + 1) s3 (by omega) (by omega) (by simpa using h5)
          rwa [show i + 1 + j = i + (j + 1) by omega] at this
  · cases k with
    | zero =>
      simp only [List.getElem?_cons_zero, Option.some.injEq] at e1
      subst e1
      exact ⟨fun j s2 hj => by omega, .inr (hb C hk)⟩
    | succ k =>
      obtain ⟨g1, g2⟩ := t.back k s1 C (by simpa using e1) hk
      rw [show i + 1 + k = i + (k + 1) by omega] at g1 g2
      have sh : (∃ (x : Nat) (s3 : St), x < k ∧ tr[x]? = some s3 ∧ s3.k.isE = true ∧ waits ops (i + (k + 1)) (i + 1 + x) = true) → ∃ (x : Nat) (s3 : St), 1 ≤ x ∧ x < k + 1 ∧ (s :: tr)[x]? = some s3 ∧ s3.k.isE = true ∧ waits ops (i + (k + 1)) (i + x) = true := by
        rintro ⟨x, s3, q1, q2, q3, q4⟩
        exact ⟨x + 1, s3, by omega, by omega, by simpa using q2, q3, by rwa [show i + 1 + x = i + (x + 1) by omega] at q4⟩
      refine ⟨fun j s2 hj hj2 hj3 => ?_, ?_⟩
      · cases j with
        | zero =>
          simp only [List.getElem?_cons_zero, Option.some.injEq] at hj2
          subst hj2
          rcases g2 with g2 | g2
          · obtain ⟨x, s3, q1, q2, q3, q4, q5⟩ := sh g2
            exact .inl ⟨x, s3, by omega, q2, q3, q4, q5⟩
          · rw [hl, if_pos hj3] at g2
            rcases g2 with g2 | g2
            · exact .inl ⟨0, s, Nat.le_refl _, by omega, rfl, hj3, g2⟩
            · exact .inr (hs.2 ▸ g2.1)
        | succ j =>
          rcases g1 j s2 (by omega) (by simpa using hj2) hj3 with ⟨x, s3, q1, q2, q3, q4, q5⟩ | h
          · exact .inl ⟨x + 1, s3, by omega, by omega, by simpa using q3, q4, by rwa [show i + 1 + x = i + (x + 1) by omega] at q5⟩
          · exact .inr h
      · rcases g2 with g2 | g2
        · obtain ⟨x, s3, q1, q2, q3, q4, q5⟩ := sh g2
          exact .inl ⟨x, s3, q2, q3, q4, q5⟩
        · cases he : s.k.isE with
          | false => rw [hl, he] at g2; exact .inr g2
          | true =>
            rw [hl, if_pos he] at g2
            rcases g2 with g2 | g2
            · exact .inl ⟨0, s, by omega, rfl, he, g2⟩
            · exact .inr g2.2
  · cases k with
    | zero =>
      simp only [List.getElem?_cons_zero, Option.some.injEq] at e1
      subst e1
      have := (t.ha s2 (by simpa using e2)).2
      exact ⟨fun x hx => by rw [this]; exact hce hk x hx, fun j s3 C hj => by omega⟩
    | succ k =>
      obtain ⟨g1, g2⟩ := t.keep k s1 s2 (by simpa using e1) hk (by simpa using e2)
      rw [show i + 1 + k = i + (k + 1) by omega] at g1 g2
      refine ⟨fun x hx => g1 x (hcl x hx), fun j s3 C hj hj2 hj3 => ?_⟩
      cases j with
      | zero =>
        simp only [List.getElem?_cons_zero, Option.some.injEq] at hj2
        subst hj2
        exact g1 _ (hcp C hj3)
      | succ j =>
        have := g2 j s3 C (by omega) (by simpa using hj2) hj3
        rwa [show i + 1 + j = i + (j + 1) by omega] at this

theorem GD.tr {l : List Oper} {i : Nat} {a : AF} {H : Heap} {last : Past} {cl : Cl} {tr : List St} (g : GD P N ops Q l i a H last cl tr) : Tr P N ops Q l i a H last cl tr := by
  induction g with
  | @nil i a H last cl h =>
    refine ⟨rfl, fun s h1 => ?_, fun s h1 => ?_, fun k o s s' h1 => by simp at h1, fun k s h1 h2 => ?_, fun k s C h1 h2 => ?_, fun k s s' h1 h2 => ?_⟩
    · simp only [List.getElem?_cons_zero, Option.some.injEq] at h1; subst h1; exact ⟨fun _ => rfl, rfl⟩
    · simp only [List.length_nil, List.getElem?_cons_zero, Option.some.injEq] at h1; subst h1; exact h
    · cases k with
      | zero => simp only [List.getElem?_cons_zero, Option.some.injEq] at h1; subst h1; cases h2
      | succ k => simp at h1
    · cases k with
      | zero => simp only [List.getElem?_cons_zero, Option.some.injEq] at h1; subst h1; cases h2
      | succ k => simp at h1
    · cases k with
      | zero => simp only [List.getElem?_cons_zero, Option.some.injEq] at h1; subst h1; cases h2
      | succ k => simp at h1
  | @again l i a H last cl tr d u hb _ ih =>
    refine ⟨ih.len, fun s h1 => ?_, ih.hfin, ih.ok, ih.chain, ih.back, ih.keep⟩
    obtain ⟨g1, g2⟩ := ih.ha s h1
    refine ⟨fun t => (g1 t).trans ?_, g2⟩
    have := get_put' (a := a) (dst := some d) (v := u) t
    simp only [put, Option.some.injEq] at this
    rw [this]
    split
    · rename_i e; rw [← e, hb]
    · rfl
  | skip hN hw _ ih =>
    exact ih.cons ⟨rfl, rfl⟩ (fun s' h1 h2 => ⟨hN, fun t => (h1 t).trans (get_put' t), fun _ => h2, ⟨hw, rfl⟩⟩) (fun h => by cases h) (fun C h => by cases h) rfl (fun _ h => h) (fun C h => by cases h) (fun h => by cases h)
  | ind hN hw hv _ ih =>
    exact ih.cons ⟨rfl, rfl⟩ (fun s' h1 h2 => ⟨hN, fun t => (h1 t).trans (get_put' t), fun _ => h2, ⟨hw, hv⟩⟩) (fun h => by cases h) (fun C h => by cases h) rfl (fun _ h => h) (fun C h => by cases h) (fun h => by cases h)
  | pure C hN hw hc hv hl _ ih =>
    exact ih.cons ⟨rfl, rfl⟩ (fun s' h1 h2 => ⟨hN, fun t => (h1 t).trans (get_put' t), fun _ => h2, ⟨hw, hc, hv⟩⟩) (fun h => by cases h) (fun C' h => by cases h; exact hl) rfl (fun _ h => List.mem_cons_of_mem _ h) (fun C' h => by cases h; exact List.mem_cons_self) (fun h => by cases h)
  | eff hN hw hv hl hc _ ih =>
    exact ih.cons ⟨rfl, rfl⟩ (fun s' h1 h2 => ⟨hN, fun t => (h1 t).trans (get_put' t), fun h => (by cases h), ⟨hw, fun a' hag => by rw [h2]; exact hv a' hag⟩⟩) (fun _ => hl) (fun C h => by cases h) rfl (fun _ h => h) (fun C h => by cases h) (fun _ => hc)

/-- What the trace says of a slot before a place. -/
theorem Tr.slot {l : List Oper} {a : AF} {H : Heap} {tr : List St} (t : Tr P N ops Q l 0 a H [] [] tr) : ∀ (k : Nat) s, k ≤ l.length → tr[k]? = some s → ∀ u,
    ((∀ (j : Nat) o, j < k → l[j]? = some o → o.dst ≠ some u) → get s.a u = get a u) ∧
    ∀ (j : Nat) o s2, j < k → l[j]? = some o → o.dst = some u → tr[j]? = some s2 → (∀ (m : Nat) p, m < k → l[m]? = some p → p.dst = some u → m = j) → get s.a u = some s2.v := by
  intro k
  induction k with
  | zero => intro s _ hs u; exact ⟨fun _ => (t.ha s hs).1 u, fun j o s2 h => by omega⟩
  | succ k ih =>
    intro s hk hs u
    have hlt : k < tr.length := by rw [t.len]; omega
    obtain ⟨s0, hs0⟩ : ∃ s0, tr[k]? = some s0 := ⟨tr[k], List.getElem?_eq_getElem hlt⟩
    obtain ⟨o0, ho0⟩ : ∃ o0, l[k]? = some o0 := ⟨l[k], List.getElem?_eq_getElem (by omega)⟩
    have hn := (t.ok k o0 s0 s ho0 hs0 hs).next u
    obtain ⟨g1, g2⟩ := ih s0 (by omega) hs0 u
    refine ⟨fun h => ?_, fun j o s2 hj hl hd hj2 huq => ?_⟩
    · rw [hn, if_neg (h k o0 (by omega) ho0)]
      exact g1 fun j o hj hl => h j o (by omega) hl
    · by_cases e : j = k
      · subst e
        rw [ho0] at hl; cases hl
        rw [hs0] at hj2; cases hj2
        rw [hn, if_pos hd]
      · rw [hn, if_neg (fun h => e (huq k o0 (by omega) ho0 h).symm)]
        exact g2 j o s2 (by omega) hl hd hj2 fun m p hm => huq m p (by omega)
theorem Tr.heap {l : List Oper} {a : AF} {H : Heap} {tr : List St} (t : Tr P N ops Q l 0 a H [] [] tr) (k : Nat) (s : St) (hs : tr[k]? = some s) : ∀ (d : Nat) s', tr[k + d]? = some s' →
    (∀ (e : Nat) s2, k ≤ e → e < k + d → tr[e]? = some s2 → s2.k.isE = false) → s'.H = s.H := by
  intro d
  induction d with
  | zero => intro s' h _; rw [Nat.add_zero, hs] at h; cases h; rfl
  | succ d ih =>
    intro s' h hn
    have hlt : k + (d + 1) < tr.length := (List.getElem?_eq_some_iff.1 h).1
    have hll := t.len
    obtain ⟨s0, hs0⟩ : ∃ s0, tr[k + d]? = some s0 := ⟨tr[k + d], List.getElem?_eq_getElem (by omega)⟩
    obtain ⟨o0, ho0⟩ : ∃ o0, l[k + d]? = some o0 := ⟨l[k + d], List.getElem?_eq_getElem (by omega)⟩
    rw [(t.ok (k + d) o0 s0 s' ho0 hs0 h).same (hn (k + d) s0 (by omega) (by omega) hs0)]
    exact ih s0 hs0 fun e s2 h1 h2 => hn e s2 h1 (by omega)
/-- A claim of a read stays where no later effect waits for it. -/
theorem Tr.claim {l : List Oper} {a : AF} {H : Heap} {tr : List St} (t : Tr P N ops Q l 0 a H [] [] tr) (k : Nat) (s : St) (hs : tr[k]? = some s) (C : Heap → Prop) (hC : s.k = .pure C) (hk : k < l.length) : ∀ (d : Nat) s', tr[k + d]? = some s' →
    (∀ (e : Nat) s2, k < e → e < k + d → tr[e]? = some s2 → s2.k.isE = true → waits ops e k = false) → C s'.H := by
  intro d
  have hc0 : C s.H := by
    have hlt : k + 1 < tr.length := by rw [t.len]; omega
    have := (t.ok k l[k] s tr[k + 1] (List.getElem?_eq_getElem hk) hs (List.getElem?_eq_getElem hlt)).kind
    rw [hC] at this
    exact this.2.1
  induction d with
  | zero => intro s' h _; rw [Nat.add_zero, hs] at h; cases h; exact hc0
  | succ d ih =>
    intro s' h hn
    have hlt : k + (d + 1) < tr.length := (List.getElem?_eq_some_iff.1 h).1
    have hll := t.len
    obtain ⟨s0, hs0⟩ : ∃ s0, tr[k + d]? = some s0 := ⟨tr[k + d], List.getElem?_eq_getElem (by omega)⟩
    obtain ⟨o0, ho0⟩ : ∃ o0, l[k + d]? = some o0 := ⟨l[k + d], List.getElem?_eq_getElem (by omega)⟩
    have ih := ih s0 hs0 fun e s2 h1 h2 => hn e s2 h1 (by omega)
    cases he : s0.k.isE with
    | false => rw [(t.ok (k + d) o0 s0 s' ho0 hs0 h).same he]; exact ih
    | true =>
      have hd : 0 < d := by
        cases d with
        | zero =>
          rw [Nat.add_zero, hs] at hs0; cases hs0
          rw [hC] at he; cases he
        | succ d => omega
      have hw := hn (k + d) s0 (by omega) (by omega) hs0 he
      have := ((t.keep (k + d) s0 s' hs0 he h).2 k s C (by omega) hs hC)
      simp only [Nat.zero_add] at this
      rcases this with h1 | h1
      · rw [hw] at h1; cases h1
      · exact h1

/-- Where a run in some order stands: which operations are done, how many effects. -/
structure J (N : Fr) (ops : Array Oper) (tr : List St) (a : AF) (B0 : Nat) (w0 : World) (φs : Nat → Loc) (Ls : Lens) (listed : Array Bool) (m : Nat) (s : St) (φ : Nat → Loc) (ac : Act) (w : World) : Prop where
  lsize : listed.size = ops.size
  closed : ∀ j k, listed.getD j false = true → waits ops j k = true → listed.getD k false = true
  pre : ∀ (e : Nat) s2, tr[e]? = some s2 → s2.k.isE = true → (listed.getD e false = true ↔ e < m)
  hm : m ≤ ops.size
  at' : tr[m]? = some s
  ext : Ext φs Ls φ (lens s.H)
  rel : Rel B0 w0 φ s.H w
  defers : ac.defers = []
  size : ac.tmps.size = N.sz
  s1 : ∀ t v, get a t = some v → (∀ (j : Nat) o, ops.toList[j]? = some o → o.dst = some t → listed.getD j false = false) → ∃ v', ac.tmps[t]? = some v' ∧ Val φ (lens s.H) v v'
  s2 : ∀ (j : Nat) o s3 t, listed.getD j false = true → ops.toList[j]? = some o → o.dst = some t → tr[j]? = some s3 → ∃ v', ac.tmps[t]? = some v' ∧ Val φ (lens s.H) s3.v v'

theorem getD_set {listed : Array Bool} {i j : Nat} (hi : i < listed.size) : (listed.setIfInBounds i true).getD j false = true ↔ (j = i ∨ listed.getD j false = true) := by
  by_cases h : i = j
  · subst h; simp [hi]
  · rw [getD_set_ne false h]; constructor
    · exact .inr
    · rintro (e | e)
      · exact absurd e.symm h
      · exact e

theorem J.next {l : List Oper} {H0 : Heap} {tr : List St} {a : AF} {B0 : Nat} {w0 : World} {φs : Nat → Loc} {Ls : Lens} {listed : Array Bool} {m : Nat} {s : St} {φ : Nat → Loc} {ac : Act} {w : World} (j : J N ops tr a B0 w0 φs Ls listed m s φ ac w)
    {i : Nat} {o : Oper} {si s' : St} {m' : Nat} {φ' : Nat → Loc} {v' : Value} {w' : World} (ho : ops.toList[i]? = some o) (hi : i < listed.size) (hready : ∀ k, waits ops i k = true → listed.getD k false = true)
    (huq : ∀ (k : Nat) p t, o.dst = some t → ops.toList[k]? = some p → p.dst = some t → k = i) (hsi : tr[i]? = some si) (hN : dstLt o N = true)
    (hpre : ∀ (e : Nat) s2, tr[e]? = some s2 → s2.k.isE = true → ((e = i ∨ listed.getD e false = true) ↔ e < m')) (hm' : m' ≤ ops.size) (hs' : tr[m']? = some s')
    (he : Ext φ (lens s.H) φ' (lens s'.H)) (hr : Rel B0 w0 φ' s'.H w') (hv : Val φ' (lens s'.H) si.v v') :
    J N ops tr a B0 w0 φs Ls (listed.setIfInBounds i true) m' s' φ' (ac.put o.dst v') w' := by
  have hput : ∀ t, o.dst ≠ some t → (ac.put o.dst v').tmps[t]? = ac.tmps[t]? := by
    intro t ht
    cases hd : o.dst with
    | none => rfl
    | some d => simp only [Act.put]; rw [Array.getElem?_setIfInBounds_ne (fun e => ht (by rw [hd, e]))]
  have hself : ∀ t, o.dst = some t → (ac.put o.dst v').tmps[t]? = some v' := by
    intro t ht
    have := dstLt_lt hN t ht
    simp [Act.put, ht, j.size, this]
  refine ⟨by simp [j.lsize], fun x k hx hw => ?_, fun e s2 h1 h2 => ?_, hm', hs', j.ext.trans he, hr, by cases hd : o.dst <;> simp [Act.put, j.defers], by cases hd : o.dst <;> simp [Act.put, j.size], fun t v ht hn => ?_, fun x p s3 t hx hp hd h3 => ?_⟩
  · rw [getD_set hi] at hx ⊢
    rcases hx with rfl | hx
    · exact .inr (hready k hw)
    · exact .inr (j.closed x k hx hw)
  · rw [getD_set hi]; exact hpre e s2 h1 h2
  · have hne : o.dst ≠ some t := fun e => by
      have := hn i o ho e
      rw [(getD_set hi).2 (.inl rfl)] at this; cases this
    rw [hput t hne]
    obtain ⟨v1, g1, g2⟩ := j.s1 t v ht fun k p hp hpd => by
      have := hn k p hp hpd
      cases hb : listed.getD k false with
      | false => rfl
      | true => rw [(getD_set hi).2 (.inr hb)] at this; cases this
    exact ⟨v1, g1, g2.mono he⟩
  · by_cases e : x = i
    · subst e
      rw [ho] at hp; cases hp
      rw [hsi] at h3; cases h3
      exact ⟨v', hself t hd, hv⟩
    · have hx' : listed.getD x false = true := ((getD_set hi).1 hx).resolve_left e
      rw [hput t (fun e2 => e (huq x p t e2 hp hd))]
      obtain ⟨v1, g1, g2⟩ := j.s2 x p s3 t hx' hp hd h3
      exact ⟨v1, g1, g2.mono he⟩

theorem chk_at {i : Nat} {o : Oper} (h : chkB ops = true) (ho : ops.toList[i]? = some o) : chkOp ops i o = true := by
  have hi : i < ops.size := by have := (List.getElem?_eq_some_iff.1 ho).1; simpa using this
  have := (List.all_eq_true.1 h) i (List.mem_range.2 hi)
  rw [ho] at this
  exact this
theorem chk_back {i : Nat} {o : Oper} (h : chkOp ops i o = true) {e : Edge} (he : e ∈ o.after) (hb : bindsA e = true) : e.on < i := by
  simp only [chkOp, Bool.and_eq_true] at h
  have := (List.all_eq_true.1 h.1.1.1.2) e (by simpa using he)
  rw [hb] at this
  exact Nat.le_of_ble_eq_true this
theorem chk_op {i : Nat} {o : Oper} (h : chkOp ops i o = true) {t : Nat} (ht : t ∈ opTmps o) {j : Nat} {p : Oper} (hp : ops.toList[j]? = some p) (hd : p.dst = some t) : j < i ∧ waits ops i j = true := by
  simp only [chkOp, Bool.and_eq_true] at h
  have hj : j < ops.size := by have := (List.getElem?_eq_some_iff.1 hp).1; simpa using this
  have := (List.all_eq_true.1 ((List.all_eq_true.1 h.1.1.2) t ht)) j (List.mem_range.2 hj)
  rw [hp] at this
  simp only [isDst_iff.2 hd, Bool.not_true, Bool.false_or, Bool.and_eq_true] at this
  exact ⟨Nat.le_of_ble_eq_true this.1, this.2⟩
theorem chk_guard {i : Nat} {o : Oper} (h : chkOp ops i o = true) {j : Nat} {want : Bool} (hg : o.guard = some (j, want)) : j < i ∧ waits ops i j = true := by
  simp only [chkOp, Bool.and_eq_true, hg] at h
  exact ⟨Nat.le_of_ble_eq_true h.1.2.1, h.1.2.2⟩
theorem chk_uq {i : Nat} {o : Oper} (h : chkOp ops i o = true) {t : Nat} (ht : o.dst = some t) {j : Nat} {p : Oper} (hp : ops.toList[j]? = some p) (hd : p.dst = some t) : j = i := by
  simp only [chkOp, Bool.and_eq_true] at h
  have hj : j < ops.size := by have := (List.getElem?_eq_some_iff.1 hp).1; simpa using this
  have := (List.all_eq_true.1 h.2) j (List.mem_range.2 hj)
  rw [hp, ht] at this
  simp only [isDst_iff.2 hd, Bool.not_true, Bool.false_or] at this
  exact Nat.eq_of_beq_eq_true this

/-- The frame of an operation's operands. -/
def small (o : Oper) (a : AF) : AF := (opTmps o).filterMap fun t => (get a t).map fun v => (t, v)
theorem small_get {a : AF} {v : Value} {t : Nat} : ∀ {l : List Nat}, get (l.filterMap fun t => (get a t).map fun v => (t, v)) t = some v → t ∈ l ∧ get a t = some v
  | [], h => by cases h
  | u :: l, h => by
    rw [List.filterMap_cons] at h
    cases hu : get a u with
    | none => rw [hu] at h; obtain ⟨h1, h2⟩ := small_get h; exact ⟨List.mem_cons_of_mem _ h1, h2⟩
    | some x =>
      rw [hu] at h
      rcases get_put h with ⟨rfl, rfl⟩ | ⟨_, h⟩
      · exact ⟨List.mem_cons_self, hu⟩
      · obtain ⟨h1, h2⟩ := small_get h; exact ⟨List.mem_cons_of_mem _ h1, h2⟩
theorem small_ag (o : Oper) (a : AF) : Ag o a (small o a) := by
  unfold small Ag
  generalize opTmps o = l
  induction l with
  | nil => intro t h; cases h
  | cons u l ih =>
    intro t ht
    rw [List.filterMap_cons]
    cases hu : get a u with
    | none =>
      simp only [Option.map_none]
      by_cases e : t = u
      · subst e
        cases hg : get (l.filterMap fun t => (get a t).map fun v => (t, v)) t with
        | none => exact hu.symm
        | some x => rw [(small_get hg).2]
      · exact ih t (by simpa [e] using ht)
    | some x =>
      simp only [Option.map_some]
      have := get_put' (a := l.filterMap fun t => (get a t).map fun v => (t, v)) (dst := some u) (v := x) t
      simp only [put, Option.some.injEq] at this
      rw [this]
      split
      · rename_i e; rw [← e, hu]
      · rename_i e; exact ih t (by simpa [Ne.symm e] using ht)

theorem J.slot {H0 : Heap} {tr : List St} {a : AF} {B0 : Nat} {w0 : World} {φs : Nat → Loc} {Ls : Lens} {listed : Array Bool} {m : Nat} {s : St} {φ : Nat → Loc} {ac : Act} {w : World} (j : J N ops tr a B0 w0 φs Ls listed m s φ ac w)
    (hchk : chkB ops = true) (t : Tr P N ops Q ops.toList 0 a H0 [] [] tr) {i : Nat} {si : St} (hi : i ≤ ops.toList.length) (hsi : tr[i]? = some si) {u : Nat} {v : Value}
    (hw : ∀ (k : Nat) p, ops.toList[k]? = some p → p.dst = some u → k < i ∧ listed.getD k false = true) (hv : get si.a u = some v) : ∃ v', ac.tmps[u]? = some v' ∧ Val φ (lens s.H) v v' := by
  obtain ⟨g1, g2⟩ := t.slot i si hi hsi u
  by_cases h : ∃ (k : Nat) (p : Oper), ops.toList[k]? = some p ∧ p.dst = some u
  · obtain ⟨k, p, hp, hd⟩ := h
    obtain ⟨h1, h2⟩ := hw k p hp hd
    have hlt : k < tr.length := by rw [t.len]; omega
    have := g2 k p tr[k] h1 hp hd (List.getElem?_eq_getElem hlt) fun x q _ hq hqd => chk_uq (chk_at hchk hp) hd hq hqd
    rw [hv] at this
    simp only [Option.some.injEq] at this
    subst this
    exact j.s2 k p tr[k] u h2 hp hd (List.getElem?_eq_getElem hlt)
  · rw [g1 fun k p _ hp hd => h ⟨k, p, hp, hd⟩] at hv
    exact j.s1 u v hv fun k p hp hd => absurd ⟨k, p, hp, hd⟩ h

def cnt (n : Nat) (listed : Array Bool) : Nat := (List.range n).countP fun i => !listed.getD i false
theorem countP_lt {p q : Nat → Bool} : ∀ {l : List Nat} {x : Nat}, (∀ y, q y = true → p y = true) → x ∈ l → p x = true → q x = false → l.countP q < l.countP p := by
  have le : ∀ {l : List Nat}, (∀ y, q y = true → p y = true) → l.countP q ≤ l.countP p := by
    intro l h
    induction l with
    | nil => exact Nat.le_refl _
    | cons y l ih =>
      rw [List.countP_cons, List.countP_cons]
      have := h y
      cases hq : q y <;> cases hp : p y <;> simp_all <;> omega
  intro l x h hx hp hq
  induction l with
  | nil => cases hx
  | cons y l ih =>
    rw [List.countP_cons, List.countP_cons]
    rcases List.mem_cons.1 hx with rfl | hx
    · rw [hp, hq]
      have := le (l := l) h
      simp; omega
    · have h1 := ih hx
      have h2 := h y
      cases hq : q y <;> cases hp : p y <;> simp_all <;> omega
theorem cnt_set {n i : Nat} {listed : Array Bool} (hi : i < n) (hs : i < listed.size) (hu : listed.getD i false = false) : cnt n (listed.setIfInBounds i true) < cnt n listed := by
  refine countP_lt (x := i) (fun y hy => ?_) (List.mem_range.2 hi) (by simp only [hu]; rfl) (by rw [(getD_set hs).2 (.inl rfl)]; rfl)
  cases hl : listed.getD y false with
  | false => rfl
  | true => rw [(getD_set hs).2 (.inr hl)] at hy; cases hy

theorem J.all {tr : List St} {a : AF} {B0 : Nat} {w0 : World} {φs : Nat → Loc} {Ls : Lens} {listed : Array Bool} {m : Nat} {s : St} {φ : Nat → Loc} {ac : Act} {w : World} (j : J N ops tr a B0 w0 φs Ls listed m s φ ac w)
    (hchk : chkB ops = true) (hr : Region.ready .any ops listed = []) : ∀ i, i < ops.size → listed.getD i false = true := by
  intro i
  induction i using Nat.strongRecOn with
  | _ i ih =>
    intro hi
    cases hl : listed.getD i false with
    | true => rfl
    | false =>
      have ho : ops[i]? = some ops[i] := Array.getElem?_eq_getElem hi
      have : i ∈ Region.ready .any ops listed := by
        rw [mem_ready]
        refine ⟨?_, ops[i], ho, fun e he hb => ?_⟩
        · have hs : i < listed.size := by rw [j.lsize]; exact hi
          simp [hs] at hl ⊢; exact hl
        · have := chk_back (chk_at hchk (show ops.toList[i]? = some ops[i] by rw [Array.getElem?_toList]; exact ho)) he (by rw [← binds_any]; exact hb)
          exact ih e.on this (by omega)
      rw [hr] at this; cases this

theorem J.fin {H0 : Heap} {tr : List St} {a : AF} {B0 : Nat} {w0 : World} {φs : Nat → Loc} {Ls : Lens} {listed : Array Bool} {m : Nat} {s : St} {φ : Nat → Loc} {ac : Act} {w : World} {Qp : Post} (j : J N ops tr a B0 w0 φs Ls listed m s φ ac w)
    (hchk : chkB ops = true) (t : Tr P N ops Q ops.toList 0 a H0 [] [] tr) (hQ : ∀ a H, Q a H → Qp .normal a H) (hall : ∀ i, i < ops.size → listed.getD i false = true) : QC B0 w0 N φs Ls Qp .normal ac w := by
  have hlen : ops.toList.length = ops.size := by simp
  have hlt : ops.toList.length < tr.length := by rw [t.len]; omega
  have hn : tr[ops.toList.length]? = some tr[ops.toList.length] := List.getElem?_eq_getElem hlt
  have hH : tr[ops.toList.length].H = s.H := by
    have hm := j.hm
    refine t.heap m s j.at' (ops.toList.length - m) _ (by rw [show m + (ops.toList.length - m) = ops.toList.length by omega]; exact hn) fun e s2 h1 h2 h3 => ?_
    cases hb : s2.k.isE with
    | false => rfl
    | true => have := (j.pre e s2 h3 hb).1 (hall e (by omega)); omega
  refine ⟨φ, tr[ops.toList.length].a, tr[ops.toList.length].H, by rw [hH]; exact j.ext, by rw [hH]; exact j.rel, ⟨j.defers, j.size, fun u v hv => ?_⟩, hQ _ _ (t.hfin _ hn)⟩
  rw [hH]
  exact j.slot hchk t (Nat.le_refl _) hn (fun k p hp _ => by
    have hk := (List.getElem?_eq_some_iff.1 hp).1
    exact ⟨hk, hall k (by omega)⟩) hv

theorem J.run {H0 : Heap} {tr : List St} {a : AF} {B0 : Nat} {w0 : World} {φs : Nat → Loc} {Ls : Lens} {Qp : Post} (hchk : chkB ops = true) (t : Tr P N ops Q ops.toList 0 a H0 [] [] tr) (hQ : ∀ a H, Q a H → Qp .normal a H) :
    ∀ (fuel : Nat) (listed : Array Bool) (m : Nat) (s : St) (φ : Nat → Loc) (ac : Act) (w : World), J N ops tr a B0 w0 φs Ls listed m s φ ac w → cnt ops.size listed ≤ fuel → wpAny P .any ops (QC B0 w0 N φs Ls Qp) fuel listed ac w := by
  have hlen : ops.toList.length = ops.size := by simp
  intro fuel
  induction fuel with
  | zero =>
    intro listed m s φ ac w j hc
    have hall : ∀ i, i < ops.size → listed.getD i false = true := by
      intro i hi
      cases hl : listed.getD i false with
      | true => rfl
      | false => have := cnt_set hi (by rw [j.lsize]; exact hi) hl; omega
    refine ⟨?_, j.fin hchk t hQ hall⟩
    rw [List.eq_nil_iff_forall_not_mem]
    intro i hi
    obtain ⟨h0, o, ho, _⟩ := mem_ready.1 hi
    have hi' := (Array.getElem?_eq_some_iff.1 ho).1
    have := hall i hi'
    rw [getD_both h0] at this; cases this
  | succ fuel ih =>
    intro listed m s φ ac w j hc
    refine ⟨fun hr => j.fin hchk t hQ (j.all hchk hr), fun i hi => ?_⟩
    obtain ⟨h0, o, ho, hedge⟩ := mem_ready.1 hi
    have hio := (Array.getElem?_eq_some_iff.1 ho).1
    have hil : i < listed.size := by rw [j.lsize]; exact hio
    have hun : listed.getD i false = false := getD_both h0
    have hol : ops.toList[i]? = some o := by simpa using ho
    have hco := chk_at hchk hol
    have hready : ∀ k, waits ops i k = true → listed.getD k false = true := fun k hk => by
      obtain ⟨o', ho', e, he, hb, rfl⟩ := waits_of hk
      rw [ho] at ho'; cases ho'
      exact hedge e he hb
    have hsi : tr[i]? = some (tr[i]'(by rw [t.len]; omega)) := List.getElem?_eq_getElem _
    generalize tr[i]'(by rw [t.len]; omega) = si at hsi
    have hsn : tr[i + 1]? = some (tr[i + 1]'(by rw [t.len]; omega)) := List.getElem?_eq_getElem _
    generalize tr[i + 1]'(by rw [t.len]; omega) = sn at hsn
    have hok := t.ok i o si sn hol hsi hsn
    rw [Nat.zero_add] at hok
    have hcnt : cnt ops.size (listed.setIfInBounds i true) ≤ fuel := by have := cnt_set hio hil hun; omega
    have hsm : ∀ u v, (∀ (k : Nat) p, ops.toList[k]? = some p → p.dst = some u → k < i ∧ listed.getD k false = true) → get si.a u = some v → ∃ v', ac.tmps[u]? = some v' ∧ Val φ (lens s.H) v v' :=
      fun u v hw hv => j.slot hchk t (by omega) hsi hw hv
    have hfr : FRel φ (lens s.H) N (small o si.a) ac := ⟨j.defers, j.size, fun u v hv => by
      obtain ⟨h1, h2⟩ := small_get hv
      exact hsm u v (fun k p hp hd => let ⟨g1, g2⟩ := chk_op hco h1 hp hd; ⟨g1, hready k g2⟩) h2⟩
    -- an operation that turns no ghost heap
    have step : si.k.isE = false → ∀ v' w', Rel B0 w0 φ s.H w' → Val φ (lens s.H) si.v v' → wpAny P .any ops (QC B0 w0 N φs Ls Qp) fuel (listed.setIfInBounds i true) (ac.put o.dst v') w' := by
      intro he v' w' hr hv
      refine ih _ m s φ _ w' (j.next (tr := tr) (l := []) (H0 := []) hol hil hready (fun k p u h1 h2 h3 => chk_uq hco h1 h2 h3) hsi hok.dst (fun e s2 h1 h2 => ?_) j.hm j.at' (.refl _ _) hr hv) hcnt
      rw [← j.pre e s2 h1 h2]
      constructor
      · rintro (rfl | h)
        · rw [hsi] at h1; cases h1; rw [he] at h2; cases h2
        · exact h
      · exact .inr
    have guard : Wants ops o si.a → Region.wanted o (yielded ops ac.tmps) = true := by
      intro hw
      unfold Wants at hw
      cases hg : o.guard with
      | none => simp [Region.wanted, hg]
      | some g =>
        obtain ⟨k, want⟩ := g
        rw [hg] at hw
        obtain ⟨d, h1, h2⟩ := hw
        obtain ⟨g1, g2⟩ := chk_guard hco hg
        obtain ⟨v', h3, h4⟩ := hsm d _ (fun x p hp hd => by
          cases hk : ops[k]? with
          | none => rw [hk] at h1; cases h1
          | some q =>
            rw [hk] at h1
            have : x = k := chk_uq (chk_at hchk (by simpa using hk)) h1 hp hd
            subst this
            exact ⟨g1, hready _ g2⟩) h2
        have := h4.scalar rfl
        subst this
        simp [Region.wanted, hg, yielded, h1, h3]
    have pcall : si.k.isE = false → Wants ops o si.a → PCall P N o (small o si.a) s.H si.v → wpOp P ops (QC B0 w0 N φs Ls Qp) i (wpAny P .any ops (QC B0 w0 N φs Ls Qp) fuel (listed.setIfInBounds i true)) ac w := by
      intro he hw hp
      unfold wpOp
      rw [ho]
      simp only
      rw [if_pos (guard hw)]
      refine .inl ?_
      obtain ⟨v', h1, h2⟩ := hp.go B0 w0 φ w ac j.rel hfr
      unfold Oper.wp
      rcases h2 with h2 | ⟨f, args, h2, h3⟩
      · rw [h2]; exact step he v' w j.rel h1
      · rw [h2]
        refine h3.mono ?_
        rintro e w2 ⟨rfl, hb⟩
        exact step he v' w2 (j.rel.later hb) h1
    have early : si.k.isE = true → ∀ (d e : Nat) s2, e + d = i → 0 < d → tr[e]? = some s2 → s2.k.isE = true → e < m := by
      intro hM d
      induction d using Nat.strongRecOn with
      | _ d ihd =>
        intro e s2 hed hd h1 h2
        by_cases hx : ∃ (e' : Nat) (s3 : St), e < e' ∧ e' < i ∧ tr[e']? = some s3 ∧ s3.k.isE = true
        · obtain ⟨e', s3, q1, q2, q3, q4⟩ := hx
          have := ihd (i - e') (by omega) e' s3 (by omega) (by omega) q3 q4
          omega
        · have := (t.chain i si hsi hM).2 e s2 (by omega) h1 h2 fun x s3 q1 q2 q3 => by
            cases hb : s3.k.isE with
            | false => rfl
            | true => exact absurd ⟨x, s3, q1, q2, q3, hb⟩ hx
          rw [Nat.zero_add, Nat.zero_add] at this
          exact (j.pre e s2 h1 h2).1 (hready e this)
    have hbefore : si.k.isE = true → m ≤ i → si.H = s.H := fun hM hmi => by
      refine t.heap m s j.at' (i - m) si (by rw [show m + (i - m) = i by omega]; exact hsi) fun e s2 h1 h2 h3 => ?_
      cases hb : s2.k.isE with
      | false => rfl
      | true => have := early hM (i - e) e s2 (by omega) (by omega) h3 hb; omega
    have hkd := hok.kind
    cases hk : si.k with
    | fin => rw [hk] at hkd; exact hkd.elim
    | skip =>
      rw [hk] at hkd
      obtain ⟨hw, hv⟩ := hkd
      unfold wpOp
      rw [ho]
      simp only
      have hnw : Region.wanted o (yielded ops ac.tmps) = false := by
        unfold Skips at hw
        cases hg : o.guard with
        | none => rw [hg] at hw; exact hw.elim
        | some g =>
          obtain ⟨k, want⟩ := g
          rw [hg] at hw
          obtain ⟨d, h1, h2⟩ := hw
          obtain ⟨g1, g2⟩ := chk_guard hco hg
          have hwr : ∀ (x : Nat) p, ops.toList[x]? = some p → p.dst = some d → x < i ∧ listed.getD x false = true := fun x p hp hd => by
            cases hk : ops[k]? with
            | none => rw [hk] at h1; cases h1
            | some q =>
              rw [hk] at h1
              have : x = k := chk_uq (chk_at hchk (by simpa using hk)) h1 hp hd
              subst this
              exact ⟨g1, hready _ g2⟩
          rcases h2 with h2 | h2
          · obtain ⟨v', h3, h4⟩ := hsm d _ hwr h2
            have := h4.scalar rfl
            subst this
            simp [Region.wanted, hg, yielded, h1, h3]
          · obtain ⟨v', h3, h4⟩ := hsm d _ hwr h2
            have := Val.det rfl h4
            subst this
            simp [Region.wanted, hg, yielded, h1, h3, undef]
      rw [hnw]
      exact step (by rw [hk]; rfl) undef w j.rel (by rw [hv]; exact undef_rel)
    | ind =>
      rw [hk] at hkd
      exact pcall (by rw [hk]; rfl) hkd.1 (hkd.2 s.H _ (small_ag o si.a))
    | pure C =>
      rw [hk] at hkd
      obtain ⟨hw, hC, hv⟩ := hkd
      refine pcall (by rw [hk]; rfl) hw (hv s.H _ ?_ (small_ag o si.a))
      rcases Nat.lt_or_ge i m with h | h
      · refine t.claim i si hsi C hk (by omega) (m - i) s (by rw [show i + (m - i) = m by omega]; exact j.at') fun e s2 h1 h2 h3 h4 => ?_
        cases hb : waits ops e i with
        | false => rfl
        | true =>
          have := j.closed e i ((j.pre e s2 h3 h4).2 (by omega)) hb
          rw [hun] at this; cases this
      · by_cases hex : ∃ (d : Nat) (s2 : St), m + d < i ∧ tr[m + d]? = some s2 ∧ s2.k.isE = true
        · -- the first effect that is not done
          obtain ⟨d, s2, q1, q2, q3, q4⟩ : ∃ (d : Nat) (s2 : St), m + d < i ∧ tr[m + d]? = some s2 ∧ s2.k.isE = true ∧ ∀ (e : Nat) (s3 : St), m ≤ e → e < m + d → tr[e]? = some s3 → s3.k.isE = false := by
            have key : ∀ (n d : Nat) (s2 : St), d ≤ n → m + d < i → tr[m + d]? = some s2 → s2.k.isE = true → ∃ (d : Nat) (s2 : St), m + d < i ∧ tr[m + d]? = some s2 ∧ s2.k.isE = true ∧ ∀ (e : Nat) (s3 : St), m ≤ e → e < m + d → tr[e]? = some s3 → s3.k.isE = false := by
              intro n
              induction n with
              | zero =>
                intro d s2 hd h1 h2 h3
                obtain rfl : d = 0 := by omega
                exact ⟨0, s2, h1, h2, h3, fun e s3 g1 g2 => by omega⟩
              | succ n ihn =>
                intro d s2 hd h1 h2 h3
                by_cases hy : ∃ (e : Nat) (s3 : St), m ≤ e ∧ e < m + d ∧ tr[e]? = some s3 ∧ s3.k.isE = true
                · obtain ⟨e, s3, y1, y2, y3, y4⟩ := hy
                  exact ihn (e - m) s3 (by omega) (by omega) (by rw [show m + (e - m) = e by omega]; exact y3) y4
                · refine ⟨d, s2, h1, h2, h3, fun e s3 g1 g2 g3 => ?_⟩
                  cases hb : s3.k.isE with
                  | false => rfl
                  | true => exact absurd ⟨e, s3, g1, g2, g3, hb⟩ hy
            obtain ⟨d, s2, h1, h2, h3⟩ := hex
            exact key d d s2 (Nat.le_refl _) h1 h2 h3
          rcases (t.back i si C hsi hk).1 (m + d) s2 q1 q2 q3 with ⟨x, s3, y1, y2, y3, y4, y5⟩ | hC2
          · rw [Nat.zero_add, Nat.zero_add] at y5
            have := (j.pre x s3 y3 y4).1 (hready x y5)
            omega
          · rw [t.heap m s j.at' d s2 q2 q4] at hC2
            exact hC2
        · rw [← t.heap m s j.at' (i - m) si (by rw [show m + (i - m) = i by omega]; exact hsi) fun e s2 h1 h2 h3 => ?_]
          · exact hC
          · cases hb : s2.k.isE with
            | false => rfl
            | true => exact absurd ⟨e - m, s2, by omega, by rw [show m + (e - m) = e by omega]; exact h3, hb⟩ hex
    | eff =>
      rw [hk] at hkd
      obtain ⟨hw, hv⟩ := hkd
      have hE : si.k.isE = true := by rw [hk]; rfl
      have hmi : m ≤ i := by
        rcases Nat.lt_or_ge i m with h | h
        · have := (j.pre i si hsi hE).2 h
          rw [hun] at this; cases this
        · exact h
      have hHs := hbefore (by rw [hk]; rfl) hmi
      unfold wpOp
      rw [ho]
      simp only
      rw [if_pos (guard hw)]
      refine .inl ?_
      have hgo := (hv _ (small_ag o si.a)).go B0 w0 φ w ac (by rw [hHs]; exact j.rel) (by rw [hHs]; exact hfr)
      have fin : ∀ φ' v' w', Ext φ (lens si.H) φ' (lens sn.H) → Rel B0 w0 φ' sn.H w' → Val φ' (lens sn.H) si.v v' → wpAny P .any ops (QC B0 w0 N φs Ls Qp) fuel (listed.setIfInBounds i true) (ac.put o.dst v') w' := by
        intro φ' v' w' q1 q2 q3
        refine ih _ (i + 1) sn φ' _ w' (j.next (tr := tr) (l := []) (H0 := []) hol hil hready (fun k p u h1 h2 h3 => chk_uq hco h1 h2 h3) hsi hok.dst (fun e s2 h1 h2 => ?_) (by omega) hsn (by rw [← hHs]; exact q1) q2 q3) hcnt
        constructor
        · rintro (rfl | h)
          · omega
          · have := (j.pre e s2 h1 h2).1 h; omega
        · intro h
          by_cases he : e = i
          · exact .inl he
          · exact .inr ((j.pre e s2 h1 h2).2 (early (by rw [hk]; rfl) (i - e) e s2 (by omega) (by omega) h1 h2))
      unfold Oper.wp
      rcases hgo with ⟨φ', v', w', q1, q2, q3, q4⟩ | ⟨f, args, q4, q5⟩
      · rcases q4 with q4 | ⟨rfl, q4⟩
        · rw [q4]; exact fin φ' _ w' q1 q2 q3
        · rw [q4]; exact fin φ' _ w' q1 q2 q3
      · rw [q4]
        refine q5.mono ?_
        rintro e w2 ⟨φ', v', q1, q2, rfl, q3⟩
        exact fin φ' v' w2 q1 q2 q3

/-- A region of a drawn order by the order of the text. -/
theorem awp_drawn {id : Nat} {Qp : Post} {a : AF} {H : Heap} {tr : List St} (hm : P.follows .mixedOrders = true) (hchk : chkB ops = true) (g : GD P N ops (fun a' H' => Qp .normal a' H') ops.toList 0 a H [] [] tr) : AWp P N (.region id ops true) Qp a H := by
  unfold AWp
  intro B0 w0 φs Ls φ w ac hdm he hr hf
  have t := g.tr
  have hlt : 0 < tr.length := by rw [t.len]; omega
  have h0 : tr[0]? = some tr[0] := List.getElem?_eq_getElem hlt
  obtain ⟨g1, g2⟩ := t.ha _ h0
  refine wp_region_any hm ?_
  have hrep : ∀ j, (Array.replicate ops.size false).getD j false = false := fun j => by
    rcases Nat.lt_or_ge j ops.size with h | h <;> simp [h]
  refine J.run hchk t (fun _ _ h => h) ops.size _ 0 tr[0] φ ac _ ⟨by simp, fun j k h => ?_, fun e s2 _ _ => ?_, Nat.zero_le _, h0, by rw [g2]; exact he, by rw [g2]; exact hr.later (Below.refl _ _).drew, hf.defers, hf.size, fun u v hv _ => ?_, fun j o s3 u h => ?_⟩ ?_
  · rw [hrep] at h; cases h
  · rw [hrep]; simp
  · rw [g2]; exact hf.slot u v hv
  · rw [hrep] at h; cases h
  · unfold cnt
    exact Nat.le_trans List.countP_le_length (by simp)
end
end Go.Gh
