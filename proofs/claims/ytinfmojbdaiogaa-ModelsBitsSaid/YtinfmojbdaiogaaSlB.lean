/- Separation over the ghost heap: the table of types; what operations without memory yield, as a function; the laws of the operations on memory. -/
import Derived.Test.YtinfmojbdaiogaaSlA
set_option linter.unusedVariables false
set_option linter.unusedSimpArgs false
set_option maxRecDepth 4000
namespace Go.Gh
open Go.RowKit

/-! The table of types -/
inductive TK | bool | int (k : IntKind) | str | slice (E : Nat) | ptr (E : Nat) | arr (n E : Nat) | st (fs : List (Nat × Nat)) | other
structure TE where
  k : TK
  sz : Nat
  by' : Nat
  z : Option Value
inductive TT | leaf | node (l : TT) (t : Nat) (e : TE) (r : TT)
def TT.get : TT → Nat → Option TE
  | .leaf, _ => none
  | .node l t e r, n => bif Nat.blt n t then l.get n else bif Nat.beq n t then some e else r.get n
def tkOf : TypeDesc → TK
  | .bool => .bool
  | .int k => .int k
  | .string => .str
  | .slice E => .slice E
  | .pointer E => .ptr E
  | .array n E => .arr n E
  | .struct fs => .st (fs.toList.map fun f => (f.type, f.offset))
  | _ => .other
def teOf (P : Program) (t : Nat) : Option TE := match P.underlying t, P.info? t with
  | some d, some i => some ⟨tkOf d, i.size, i.bytes, bif Nat.ble i.size 300 then i.zero else none⟩
  | _, _ => none
def TT.Ok (P : Program) : TT → Prop
  | .leaf => True
  | .node l t e r => l.Ok P ∧ teOf P t = some e ∧ r.Ok P
theorem TT.get_ok {P : Program} : ∀ {tt : TT} {t : Nat} {e : TE}, tt.Ok P → tt.get t = some e → teOf P t = some e
  | .leaf, _, _, _, h => by cases h
  | .node l s e' r, t, e, k, h => by
    unfold TT.get at h
    cases hb : Nat.blt t s with
    | true => rw [hb] at h; exact TT.get_ok k.1 h
    | false =>
      rw [hb] at h
      cases hc : Nat.beq t s with
      | true =>
        rw [hc] at h
        simp only [cond_false, cond_true, Option.some.injEq] at h
        rw [Nat.eq_of_beq_eq_true hc, ← h]; exact k.2.1
      | false => rw [hc] at h; exact TT.get_ok k.2.2 h
section
variable {P : Program} {t : Nat} {e : TE}
theorem te_desc (h : teOf P t = some e) : ∃ d, P.underlying t = some d ∧ tkOf d = e.k := by
  unfold teOf at h
  split at h
  · rename_i d i h1 h2; simp only [Option.some.injEq] at h; subst h; exact ⟨d, h1, rfl⟩
  · cases h
theorem te_inf (h : teOf P t = some e) : ∃ z, tinf P t = some (z, e.sz, e.by') ∧ (∀ v, e.z = some v → z = some v) := by
  unfold teOf at h
  split at h
  · rename_i d i h1 h2
    simp only [Option.some.injEq] at h; subst h
    refine ⟨i.zero, by simp [tinf, h2], fun v hv => ?_⟩
    simp only at hv
    cases hb : Nat.ble i.size 300 with
    | true => rw [hb] at hv; exact hv
    | false => rw [hb] at hv; cases hv
  · cases h
theorem te_bool (h : teOf P t = some e) (hk : e.k = .bool) : P.underlying t = some .bool := by
  obtain ⟨d, h1, h2⟩ := te_desc h; rw [hk] at h2; cases d <;> first | (cases h2; done) | exact h1
theorem te_int {k : IntKind} (h : teOf P t = some e) (hk : e.k = .int k) : P.underlying t = some (.int k) := by
  obtain ⟨d, h1, h2⟩ := te_desc h; rw [hk] at h2; cases d <;> first | (cases h2; done) | (cases h2; exact h1)
theorem te_str (h : teOf P t = some e) (hk : e.k = .str) : P.underlying t = some .string := by
  obtain ⟨d, h1, h2⟩ := te_desc h; rw [hk] at h2; cases d <;> first | (cases h2; done) | exact h1
theorem te_slice {E : Nat} (h : teOf P t = some e) (hk : e.k = .slice E) : P.underlying t = some (.slice E) := by
  obtain ⟨d, h1, h2⟩ := te_desc h; rw [hk] at h2; cases d <;> first | (cases h2; done) | (cases h2; exact h1)
theorem te_ptr {E : Nat} (h : teOf P t = some e) (hk : e.k = .ptr E) : P.underlying t = some (.pointer E) := by
  obtain ⟨d, h1, h2⟩ := te_desc h; rw [hk] at h2; cases d <;> first | (cases h2; done) | (cases h2; exact h1)
theorem te_arr {n E : Nat} (h : teOf P t = some e) (hk : e.k = .arr n E) : P.underlying t = some (.array n E) := by
  obtain ⟨d, h1, h2⟩ := te_desc h; rw [hk] at h2; cases d <;> first | (cases h2; done) | (cases h2; exact h1)
theorem te_st {fs : List (Nat × Nat)} (h : teOf P t = some e) (hk : e.k = .st fs) : ∃ fl : Array Field, P.underlying t = some (.struct fl) ∧ fl.toList.map (fun f => (f.type, f.offset)) = fs := by
  obtain ⟨d, h1, h2⟩ := te_desc h; rw [hk] at h2; cases d <;> first | (cases h2; done) | (rename_i fl; refine ⟨fl, h1, ?_⟩; simp only [tkOf] at h2; exact TK.st.inj h2)
theorem te_field {fs : List (Nat × Nat)} {f F fo : Nat} (h : teOf P t = some e) (hk : e.k = .st fs) (hf : fs[f]? = some (F, fo)) : fieldOf P t f = some (F, fo) := by
  obtain ⟨fl, h1, h2⟩ := te_st h hk
  unfold fieldOf
  rw [h1]
  simp only
  rw [← h2, List.getElem?_map, Array.getElem?_toList] at hf
  exact hf
def TK.agg : TK → Bool
  | .st _ | .arr _ _ => true
  | _ => false
theorem te_agg (h : teOf P t = some e) : aggT P t = some e.k.agg := by
  obtain ⟨d, h1, h2⟩ := te_desc h
  unfold aggT
  rw [h1, ← h2]
  cases d <;> rfl
end

def ikn : IntKind → Nat
  | .i8 => 0 | .i16 => 1 | .i32 => 2 | .i64 => 3 | .u8 => 4 | .u16 => 5 | .u32 => 6 | .u64 => 7
def ikb (k k' : IntKind) : Bool := Nat.beq (ikn k) (ikn k')
theorem ikb_eq {k k' : IntKind} (h : ikb k k' = true) : k = k' := by
  cases k <;> cases k' <;> first | rfl | (cases h)

/-- What is asked, and the value. -/
abbrev PV := Option (Prop × Value)
def pv (v : Value) : PV := some (True, v)
def gbin (tt : TT) (T : Nat) (op : BinOp) : Value → Value → PV
  | .int k m, .int k' n => bif ikb k k' then (match op with
    | .lss => pv (.bool (decide (m < n))) | .leq => pv (.bool (decide (m ≤ n))) | .gtr => pv (.bool (decide (n < m))) | .geq => pv (.bool (decide (n ≤ m)))
    | .eql => pv (.bool (decide (m = n))) | .neq => pv (.bool (decide (m ≠ n))) | _ => none) else none
  | .string ⟨⟨l⟩⟩, .string ⟨⟨m⟩⟩ => match op with
    | .add => some (l.length + m.length ≤ 9223372036854775807, S (l ++ m)) | .eql => pv (.bool (decide (l = m))) | .neq => pv (.bool (decide (l ≠ m)))
    | .lss => pv (.bool (Op.bytesLess l m)) | .gtr => pv (.bool (!(Op.bytesLess l m || (l == m)))) | _ => none
  | .bool m, .bool n => match tt.get T with
    | some ⟨.bool, _, _, _⟩ => (match op with | .eql => pv (.bool (decide (m = n))) | .neq => pv (.bool (decide (m ≠ n))) | _ => none)
    | _ => none
  | .pointer ad, .pointer none => match tt.get T with
    | some ⟨.ptr _, _, _, _⟩ => (match op with | .eql => pv (.bool ad.isNone) | .neq => pv (.bool ad.isSome) | _ => none)
    | _ => none
  | _, _ => none
def glen (tt : TT) (T : Nat) : Value → PV
  | .string ⟨⟨l⟩⟩ => (match tt.get T with | some ⟨.str, _, _, _⟩ => pv (I l.length) | _ => none)
  | .slice _ n _ => (match tt.get T with | some ⟨.slice _, _, _, _⟩ => pv (I n) | _ => none)
  | _ => none
def gslc (tt : TT) (T : Nat) : Value → Option Value → Option Value → PV
  | .string ⟨⟨l⟩⟩, some (.int _ i), some (.int _ n) => (match tt.get T with | some ⟨.str, _, _, _⟩ => some (0 ≤ i ∧ i ≤ n ∧ n ≤ l.length, S ((l.take n.toNat).drop i.toNat)) | _ => none)
  | .string ⟨⟨l⟩⟩, some (.int _ i), none => (match tt.get T with | some ⟨.str, _, _, _⟩ => some (0 ≤ i ∧ i ≤ l.length, S (l.drop i.toNat)) | _ => none)
  | .string ⟨⟨l⟩⟩, none, some (.int _ n) => (match tt.get T with | some ⟨.str, _, _, _⟩ => some (0 ≤ n ∧ n ≤ l.length, S (l.take n.toNat)) | _ => none)
  | .slice (some ⟨A, off, some n⟩) len _, some (.int _ i), some (.int _ h) => (match tt.get T with
    | some ⟨.slice E, _, _, _⟩ => (match tt.get E with | some ⟨_, s, _, _⟩ => some ((0 ≤ i ∧ i ≤ h ∧ h ≤ len) ∧ (i < h ∨ i = 0), gsl A (off + i.toNat * s) n (h - i).toNat 0) | none => none) | _ => none)
  | .slice (some ⟨A, off, some n⟩) len _, some (.int _ i), none => (match tt.get T with
    | some ⟨.slice E, _, _, _⟩ => (match tt.get E with | some ⟨_, s, _, _⟩ => some ((0 ≤ i ∧ i ≤ len) ∧ (i < len ∨ i = 0), gsl A (off + i.toNat * s) n (len - i.toNat) 0) | none => none) | _ => none)
  | .slice (some ⟨A, off, some n⟩) len _, none, some (.int _ h) => (match tt.get T with
    | some ⟨.slice E, _, _, _⟩ => (match tt.get E with | some _ => some (0 ≤ h ∧ h ≤ len, gsl A off n h.toNat 0) | none => none) | _ => none)
  | .pointer (some ⟨A, off, some n⟩), none, none => (match tt.get T with
    | some ⟨.arr len E, _, _, _⟩ => (match tt.get E with | some _ => some (len ≤ maxLen, gsl A off n len 0) | none => none) | _ => none)
  | .pointer (some ⟨A, off, some n⟩), none, some (.int _ h) => (match tt.get T with
    | some ⟨.arr len E, _, _, _⟩ => (match tt.get E with | some _ => some ((0 ≤ h ∧ h ≤ len) ∧ len ≤ maxLen, gsl A off n h.toNat 0) | none => none) | _ => none)
  | _, _, _ => none
def gidx (tt : TT) (T : Nat) : Value → Value → PV
  | .string ⟨⟨l⟩⟩, .int _ i => (match tt.get T with | some ⟨.str, _, _, _⟩ => some (0 ≤ i ∧ i < l.length, .int .u8 (bat l i)) | _ => none)
  | .agg ⟨vs⟩, .int _ i => (match tt.get T with
    | some ⟨.arr len E, _, _, _⟩ => (match tt.get E with
      | some ⟨k, 1, _, _⟩ => (match k.agg, Nat.ble len vs.length with | false, true => some (0 ≤ i ∧ i < len, vs.getD i.toNat (.bool false)) | _, _ => none)
      | _ => none)
    | _ => none)
  | _, _ => none
def gidxA (tt : TT) (T : Nat) : Value → Value → PV
  | .slice (some ⟨A, off, some n⟩) len _, .int _ i => (match tt.get T with
    | some ⟨.slice E, _, _, _⟩ => (match tt.get E with | some ⟨_, s, _, _⟩ => some (0 ≤ i ∧ i < len, gptr A (off + i.toNat * s) n) | none => none) | _ => none)
  | .pointer (some ⟨A, off, some n⟩), .int _ i => (match tt.get T with
    | some ⟨.arr len E, _, _, _⟩ => (match tt.get E with | some ⟨_, s, _, _⟩ => some (0 ≤ i ∧ i < len, gptr A (off + i.toNat * s) n) | none => none) | _ => none)
  | _, _ => none
def gfldA (tt : TT) (T f : Nat) : Value → PV
  | .pointer (some ⟨A, off, some n⟩) => (match tt.get T with
    | some ⟨.st fs, _, _, _⟩ => (match fs[f]? with
      | some (F, fo) => (match tt.get F with | some ⟨_, s + 1, _, _⟩ => pv (gptr A (off + fo) n) | _ => none)
      | none => none)
    | _ => none)
  | _ => none
def gfld (tt : TT) (T f : Nat) : Value → PV
  | .agg ⟨vs⟩ => (match tt.get T with
    | some ⟨.st fs, _, _, _⟩ => (match fs[f]? with
      | some (F, fo) => (match tt.get F with
        | some e => (match e.k.agg with | false => (match vs[fo]? with | some v => pv v | none => none) | true => none)
        | none => none)
      | none => none)
    | _ => none)
  | _ => none
def gext (i : Nat) : Value → PV
  | .tuple ⟨vs⟩ => (match vs[i]? with | some v => pv v | none => none)
  | _ => none
def gnil : Value → PV
  | .pointer (some ad) => pv (.pointer (some ad))
  | .func (.func f) us vs => pv (.func (.func f) us vs)
  | _ => none
def ob {α β : Type} : Option α → (α → Option β) → Option β
  | some v, f => f v
  | none, _ => none
theorem ob_some {α β : Type} {x : Option α} {f : α → Option β} {y : β} (h : ob x f = some y) : ∃ v, x = some v ∧ f v = some y := by
  cases x with
  | none => cases h
  | some v => exact ⟨v, rfl, h⟩
def oo (a : AF) : Option Operand → Option (Option Value)
  | none => some none
  | some x => match ev a x with | some v => some (some v) | none => none

def gpure (tt : TT) (a : AF) : Op → PV
  | .move x | .assign x => (match ev a x with | some v => pv v | none => none)
  | .pick c x y => (match ev a c with
    | some (.bool b) => (match b with
      | true => (match ev a x with | some v => pv v | none => none)
      | false => (match ev a y with | some v => pv v | none => none))
    | _ => none)
  | .binOp op T x y _ => ob (ev a x) fun u => ob (ev a y) fun v => gbin tt T op u v
  | .index T x y => ob (ev a x) fun u => ob (ev a y) fun v => gidx tt T u v
  | .indexAddr T x y => ob (ev a x) fun u => ob (ev a y) fun v => gidxA tt T u v
  | .fieldAddr T x f => ob (ev a x) fun u => gfldA tt T f u
  | .field T x f => ob (ev a x) fun u => gfld tt T f u
  | .extract x i => ob (ev a x) fun u => gext i u
  | .nilCheck x => ob (ev a x) fun u => gnil u
  | .slice T x lo hi none => ob (ev a x) fun u => ob (oo a lo) fun l => ob (oo a hi) fun h => gslc tt T u l h
  | .call ⟨.builtin .len, ⟨[x]⟩, ⟨[T]⟩⟩ => ob (ev a x) fun u => glen tt T u
  | _ => none
/-- Arithmetic: what is asked, the kind, the number before it is wrapped. -/
def gar2 (op : BinOp) : Value → Value → Option (Prop × IntKind × Int)
  | .int k m, .int k' n => (match op with
      | .add => bif ikb k k' then some (True, k, m + n) else none
      | .sub => bif ikb k k' then some (True, k, m - n) else none
      | .mul => bif ikb k k' then some (True, k, m * n) else none
      | .quo => bif ikb k k' then some (n ≠ 0, k, m.tdiv n) else none
      | .and => bif ikb k k' then some (True, k, ((BitVec.ofInt k.bits m &&& BitVec.ofInt k.bits n).toNat : Int)) else none
      | .or => bif ikb k k' then some (True, k, ((BitVec.ofInt k.bits m ||| BitVec.ofInt k.bits n).toNat : Int)) else none
      | .xor => bif ikb k k' then some (True, k, ((BitVec.ofInt k.bits m ^^^ BitVec.ofInt k.bits n).toNat : Int)) else none
      | .shl => some (0 ≤ n, k, m * 2 ^ (min n.toNat k.bits))
      | _ => none)
  | _, _ => none
def gcon (tt : TT) (T U : Nat) : Value → Option (Prop × IntKind × Int)
  | .int _ n => (match tt.get T, tt.get U with | some _, some ⟨.int k, _, _, _⟩ => some (True, k, n) | _, _ => none)
  | _ => none
def gneg : Value → Option (Prop × IntKind × Int)
  | .int k n => some (True, k, 0 - n)
  | _ => none
def garith (tt : TT) (a : AF) : Op → Option (Prop × IntKind × Int)
  | .binOp op _ x y _ => ob (ev a x) fun u => ob (ev a y) fun v => gar2 op u v
  | .unOp .neg _ x => ob (ev a x) fun u => gneg u
  | .convert T U x => ob (ev a x) fun u => gcon tt T U u
  | _ => none
/-- The same, never wrapped. -/
def gex2 (op : BinOp) : Value → Value → Option (Prop × IntKind × Int)
  | .int k m, .int k' n => (match op with
      | .rem => bif ikb k k' then some (n ≠ 0, k, m.tmod n) else none
      | .shr => some (0 ≤ n, k, m / 2 ^ (min n.toNat k.bits))
      | _ => none)
  | _, _ => none
def gexact (a : AF) : Op → Option (Prop × IntKind × Int)
  | .binOp op _ x y _ => ob (ev a x) fun u => ob (ev a y) fun v => gex2 op u v
  | _ => none

section
variable {P : Program} {tt : TT} {N : Fr} {a : AF} {H : Heap} {t : Nat} {op : Op} {ty : TypeId} {pos : String} {aft : Array Edge} {p : Prop} {v : Value}

theorem pv_some {u v : Value} {p : Prop} (h : pv u = some (p, v)) : v = u := by simp only [pv, Option.some.injEq, Prod.mk.injEq] at h; exact h.2.symm

theorem gbin_ok (ht : tt.Ok P) {o : BinOp} {T U : Nat} {x y : Operand} {u w : Value} (hx : ev a x = some u) (hy : ev a y = some w) (h : gbin tt T o u w = some (p, v)) (hp : p) :
    APure P N ⟨some t, .binOp o T x y U, ty, pos, aft, none⟩ a H v := by
  unfold gbin at h
  split at h
  · rename_i k m k' n
    cases hk : ikb k k' with
    | false => rw [hk] at h; cases h
    | true =>
      rw [hk] at h
      obtain rfl := ikb_eq hk
      simp only [cond_true] at h
      cases o <;> simp only [reduceCtorEq] at h <;> obtain rfl := pv_some h
      · exact a_eql T U x y rfl hx hy
      · exact a_neq T U x y rfl hx hy
      · exact a_lss T U x y rfl hx hy
      · exact a_leq T U x y rfl hx hy
      · exact a_gtr T U x y rfl hx hy
      · exact a_geq T U x y rfl hx hy
  · cases o <;> simp only [reduceCtorEq] at h
    · simp only [Option.some.injEq, Prod.mk.injEq] at h
      obtain ⟨rfl, rfl⟩ := h
      exact a_sadd T U x y rfl hx hy hp
    · obtain rfl := pv_some h; exact a_seql T U x y rfl hx hy
    · obtain rfl := pv_some h; exact a_sneq T U x y rfl hx hy
    · obtain rfl := pv_some h; exact a_slss T U x y rfl hx hy
    · obtain rfl := pv_some h; exact a_sgtr T U x y rfl hx hy
  · split at h
    · rename_i h1
      have hb := te_bool (TT.get_ok ht h1) rfl
      cases o <;> simp only [reduceCtorEq] at h <;> obtain rfl := pv_some h
      · exact a_beql T U x y rfl hx hy hb
      · exact a_bneq T U x y rfl hx hy hb
    · cases h
  · split at h
    · rename_i h1
      have hb := te_ptr (TT.get_ok ht h1) rfl
      cases o <;> simp only [reduceCtorEq] at h <;> obtain rfl := pv_some h
      · exact a_pnil T U x y rfl hx hy hb
      · exact a_pnotnil T U x y rfl hx hy hb
    · cases h
  · cases h

theorem oo_none {a : AF} {lo : Option Operand} (h : oo a lo = some none) : lo = none := by
  cases lo with
  | none => rfl
  | some x => simp only [oo] at h; split at h <;> cases h
theorem oo_some {a : AF} {lo : Option Operand} {v : Value} (h : oo a lo = some (some v)) : ∃ x, lo = some x ∧ ev a x = some v := by
  cases lo with
  | none => cases h
  | some x =>
    simp only [oo] at h
    split at h
    · rename_i u hu; simp only [Option.some.injEq] at h; exact ⟨x, rfl, by rw [hu, h]⟩
    · cases h

theorem gslc_ok (ht : tt.Ok P) {T : Nat} {x : Operand} {lo hi : Option Operand} {u : Value} {ol oh : Option Value} (hx : ev a x = some u) (hl : oo a lo = some ol) (hh : oo a hi = some oh) (h : gslc tt T u ol oh = some (p, v)) (hp : p) :
    APure P N ⟨some t, .slice T x lo hi none, ty, pos, aft, none⟩ a H v := by
  unfold gslc at h
  split at h
  · obtain ⟨xl, rfl, e1⟩ := oo_some hl
    obtain ⟨xh, rfl, e2⟩ := oo_some hh
    split at h
    · rename_i h1
      simp only [Option.some.injEq, Prod.mk.injEq] at h; obtain ⟨rfl, rfl⟩ := h
      exact a_sslice T x xl xh rfl hx e1 e2 (te_str (TT.get_ok ht h1) rfl) hp
    · cases h
  · obtain ⟨xl, rfl, e1⟩ := oo_some hl
    obtain rfl := oo_none hh
    split at h
    · rename_i h1
      simp only [Option.some.injEq, Prod.mk.injEq] at h; obtain ⟨rfl, rfl⟩ := h
      exact a_sfrom T x xl rfl hx e1 (te_str (TT.get_ok ht h1) rfl) hp
    · cases h
  · obtain rfl := oo_none hl
    obtain ⟨xh, rfl, e2⟩ := oo_some hh
    split at h
    · rename_i h1
      simp only [Option.some.injEq, Prod.mk.injEq] at h; obtain ⟨rfl, rfl⟩ := h
      exact a_sto T x xh rfl hx e2 (te_str (TT.get_ok ht h1) rfl) hp
    · cases h
  · obtain ⟨xl, rfl, e1⟩ := oo_some hl
    obtain ⟨xh, rfl, e2⟩ := oo_some hh
    split at h
    · rename_i h1
      split at h
      · rename_i h2
        simp only [Option.some.injEq, Prod.mk.injEq] at h; obtain ⟨rfl, rfl⟩ := h
        obtain ⟨z, hI, _⟩ := te_inf (TT.get_ok ht h2)
        exact a_cut T x xl xh rfl hx e1 e2 (te_slice (TT.get_ok ht h1) rfl) hI hp.1 hp.2
      · cases h
    · cases h
  · obtain ⟨xl, rfl, e1⟩ := oo_some hl
    obtain rfl := oo_none hh
    split at h
    · rename_i h1
      split at h
      · rename_i h2
        simp only [Option.some.injEq, Prod.mk.injEq] at h; obtain ⟨rfl, rfl⟩ := h
        obtain ⟨z, hI, _⟩ := te_inf (TT.get_ok ht h2)
        exact a_cutfrom T x xl rfl hx e1 (te_slice (TT.get_ok ht h1) rfl) hI hp.1 hp.2
      · cases h
    · cases h
  · obtain rfl := oo_none hl
    obtain ⟨xh, rfl, e2⟩ := oo_some hh
    split at h
    · rename_i h1
      split at h
      · rename_i h2
        simp only [Option.some.injEq, Prod.mk.injEq] at h; obtain ⟨rfl, rfl⟩ := h
        obtain ⟨z, hI, _⟩ := te_inf (TT.get_ok ht h2)
        exact a_cutto T x xh rfl hx e2 (te_slice (TT.get_ok ht h1) rfl) hI hp
      · cases h
    · cases h
  · obtain rfl := oo_none hl
    obtain rfl := oo_none hh
    split at h
    · rename_i h1
      split at h
      · rename_i h2
        simp only [Option.some.injEq, Prod.mk.injEq] at h; obtain ⟨rfl, rfl⟩ := h
        obtain ⟨z, hI, _⟩ := te_inf (TT.get_ok ht h2)
        exact a_arrall T x rfl hx (te_arr (TT.get_ok ht h1) rfl) hI hp
      · cases h
    · cases h
  · obtain rfl := oo_none hl
    obtain ⟨xh, rfl, e2⟩ := oo_some hh
    split at h
    · rename_i h1
      split at h
      · rename_i h2
        simp only [Option.some.injEq, Prod.mk.injEq] at h; obtain ⟨rfl, rfl⟩ := h
        obtain ⟨z, hI, _⟩ := te_inf (TT.get_ok ht h2)
        exact a_arrto T x xh rfl hx e2 (te_arr (TT.get_ok ht h1) rfl) hI hp.1 hp.2
      · cases h
    · cases h
  · cases h

theorem gpure_ok (ht : tt.Ok P) (h : gpure tt a op = some (p, v)) (hp : p) : APure P N ⟨some t, op, ty, pos, aft, none⟩ a H v := by
  unfold gpure at h
  split at h
  · split at h
    · rename_i hx; obtain rfl := pv_some h; exact a_move _ rfl hx
    · cases h
  · split at h
    · rename_i hx; obtain rfl := pv_some h; exact a_assign _ rfl hx
    · cases h
  · rename_i c x y
    split at h
    · rename_i hc
      split at h
      · split at h
        · rename_i hx; obtain rfl := pv_some h; exact a_pick_true c x y rfl hc rfl hx
        · cases h
      · split at h
        · rename_i hx; obtain rfl := pv_some h; exact a_pick_false c x y rfl hc rfl hx
        · cases h
    · cases h
  · obtain ⟨u, hx, h⟩ := ob_some h
    obtain ⟨w, hy, h⟩ := ob_some h
    exact gbin_ok ht hx hy h hp
  · obtain ⟨u, hx, h⟩ := ob_some h
    obtain ⟨w, hy, h⟩ := ob_some h
    unfold gidx at h
    split at h
    · split at h
      · rename_i h1
        simp only [Option.some.injEq, Prod.mk.injEq] at h; obtain ⟨rfl, rfl⟩ := h
        exact a_sidx _ _ _ rfl hx hy (te_str (TT.get_ok ht h1) rfl) hp
      · cases h
    · split at h
      · rename_i h1
        split at h
        · rename_i h2
          split at h
          · rename_i h3 h4
            simp only [Option.some.injEq, Prod.mk.injEq] at h; obtain ⟨rfl, rfl⟩ := h
            obtain ⟨z, hI, _⟩ := te_inf (TT.get_ok ht h2)
            have hlen := Nat.le_of_ble_eq_true h4
            refine a_aindex _ _ _ rfl hx hy (te_arr (TT.get_ok ht h1) rfl) (by rw [te_agg (TT.get_ok ht h2)]; exact congrArg some h3) hI hp ?_
            rw [List.getD_eq_getElem?_getD, List.getElem?_eq_getElem (by omega)]; rfl
          · cases h
        · cases h
      · cases h
    · cases h
  · obtain ⟨u, hx, h⟩ := ob_some h
    obtain ⟨w, hy, h⟩ := ob_some h
    unfold gidxA at h
    split at h
    · split at h
      · rename_i h1
        split at h
        · rename_i h2
          simp only [Option.some.injEq, Prod.mk.injEq] at h; obtain ⟨rfl, rfl⟩ := h
          obtain ⟨z, hI, _⟩ := te_inf (TT.get_ok ht h2)
          exact a_idxAddr _ _ _ rfl hx hy (te_slice (TT.get_ok ht h1) rfl) hI hp
        · cases h
      · cases h
    · split at h
      · rename_i h1
        split at h
        · rename_i h2
          simp only [Option.some.injEq, Prod.mk.injEq] at h; obtain ⟨rfl, rfl⟩ := h
          obtain ⟨z, hI, _⟩ := te_inf (TT.get_ok ht h2)
          exact a_aidxAddr _ _ _ rfl hx hy (te_arr (TT.get_ok ht h1) rfl) hI hp
        · cases h
      · cases h
    · cases h
  · obtain ⟨u, hx, h⟩ := ob_some h
    unfold gfldA at h
    split at h
    · split at h
      · rename_i h1
        split at h
        · rename_i h2
          split at h
          · rename_i h3
            obtain rfl := pv_some h
            obtain ⟨z, hI, _⟩ := te_inf (TT.get_ok ht h3)
            exact a_fieldAddr _ _ _ rfl hx (te_field (TT.get_ok ht h1) rfl h2) hI (by simp)
          · cases h
        · cases h
      · cases h
    · cases h
  · obtain ⟨u, hx, h⟩ := ob_some h
    unfold gfld at h
    split at h
    · split at h
      · rename_i h1
        split at h
        · rename_i h2
          split at h
          · rename_i h3
            split at h
            · rename_i h4
              split at h
              · rename_i h5
                obtain rfl := pv_some h
                exact a_field _ _ _ rfl hx (te_field (TT.get_ok ht h1) rfl h2) (by rw [te_agg (TT.get_ok ht h3), h4]) h5
              · cases h
            · cases h
          · cases h
        · cases h
      · cases h
    · cases h
  · obtain ⟨u, hx, h⟩ := ob_some h
    unfold gext at h
    split at h
    · split at h
      · rename_i h1
        obtain rfl := pv_some h
        exact a_extract _ _ rfl hx (by simpa using h1)
      · cases h
    · cases h
  · obtain ⟨u, hx, h⟩ := ob_some h
    unfold gnil at h
    split at h
    · obtain rfl := pv_some h; exact a_nilCheck _ rfl hx
    · obtain rfl := pv_some h; exact a_nilCheckF _ rfl hx
    · cases h
  · obtain ⟨u, hx, h⟩ := ob_some h
    obtain ⟨l, hl, h⟩ := ob_some h
    obtain ⟨w, hw, h⟩ := ob_some h
    exact gslc_ok ht hx hl hw h hp
  · obtain ⟨u, hx, h⟩ := ob_some h
    unfold glen at h
    split at h
    · split at h
      · rename_i h1
        obtain rfl := pv_some h; exact a_slen _ _ rfl hx (te_str (TT.get_ok ht h1) rfl)
      · cases h
    · split at h
      · rename_i h1
        obtain rfl := pv_some h; exact a_len _ _ rfl hx (te_slice (TT.get_ok ht h1) rfl)
      · cases h
    · cases h
  · cases h

variable {k : IntKind} {e r : Int}
theorem ikb_some {k1 k2 : IntKind} {q : Prop} {x : Int} (hq : (bif ikb k1 k2 then some (q, k1, x) else none) = some (p, k, e)) : k1 = k2 ∧ q = p ∧ k1 = k ∧ x = e := by
  cases hb : ikb k1 k2 with
  | false => rw [hb] at hq; cases hq
  | true => rw [hb] at hq; simp only [cond_true, Option.some.injEq, Prod.mk.injEq] at hq; exact ⟨ikb_eq hb, hq.1, hq.2.1, hq.2.2⟩
theorem gar2_ok {o : BinOp} {T U : Nat} {x y : Operand} {u w : Value} (hx : ev a x = some u) (hy : ev a y = some w) (h : gar2 o u w = some (p, k, e)) (hp : p) (hr : k.wrap e = r) :
    APure P N ⟨some t, .binOp o T x y U, ty, pos, aft, none⟩ a H (.int k r) := by
  unfold gar2 at h
  split at h
  · cases o <;> simp only [reduceCtorEq] at h
    · obtain ⟨rfl, rfl, rfl, rfl⟩ := ikb_some h; exact a_add _ _ _ _ rfl hx hy hr
    · obtain ⟨rfl, rfl, rfl, rfl⟩ := ikb_some h; exact a_sub _ _ _ _ rfl hx hy hr
    · obtain ⟨rfl, rfl, rfl, rfl⟩ := ikb_some h; exact a_mul _ _ _ _ rfl hx hy hr
    · obtain ⟨rfl, rfl, rfl, rfl⟩ := ikb_some h; exact a_quo _ _ _ _ rfl hx hy hp hr
    · obtain ⟨rfl, rfl, rfl, rfl⟩ := ikb_some h; exact a_and _ _ _ _ rfl hx hy hr
    · obtain ⟨rfl, rfl, rfl, rfl⟩ := ikb_some h; exact a_or _ _ _ _ rfl hx hy hr
    · obtain ⟨rfl, rfl, rfl, rfl⟩ := ikb_some h; exact a_xor _ _ _ _ rfl hx hy hr
    · simp only [Option.some.injEq, Prod.mk.injEq] at h
      obtain ⟨rfl, rfl, rfl⟩ := h
      exact a_shl _ _ _ _ rfl hx hy hp hr
  · cases h
theorem garith_ok (ht : tt.Ok P) (h : garith tt a op = some (p, k, e)) (hp : p) (hr : k.wrap e = r) : APure P N ⟨some t, op, ty, pos, aft, none⟩ a H (.int k r) := by
  unfold garith at h
  split at h
  · obtain ⟨u, hx, h⟩ := ob_some h
    obtain ⟨w, hy, h⟩ := ob_some h
    exact gar2_ok hx hy h hp hr
  · obtain ⟨u, hx, h⟩ := ob_some h
    unfold gneg at h
    split at h
    · simp only [Option.some.injEq, Prod.mk.injEq] at h
      obtain ⟨rfl, rfl, rfl⟩ := h
      exact a_neg _ _ rfl hx hr
    · cases h
  · obtain ⟨u, hx, h⟩ := ob_some h
    unfold gcon at h
    split at h
    · split at h
      · rename_i h1 h2
        simp only [Option.some.injEq, Prod.mk.injEq] at h
        obtain ⟨rfl, rfl, rfl⟩ := h
        obtain ⟨d, hd, _⟩ := te_desc (TT.get_ok ht h1)
        exact a_conv _ _ _ rfl hx hd (te_int (TT.get_ok ht h2) rfl) hr
      · cases h
    · cases h
  · cases h
theorem gexact_ok (h : gexact a op = some (p, k, e)) (hp : p) (hr : e = r) : APure P N ⟨some t, op, ty, pos, aft, none⟩ a H (.int k r) := by
  unfold gexact at h
  split at h
  · obtain ⟨u, hx, h⟩ := ob_some h
    obtain ⟨w, hy, h⟩ := ob_some h
    unfold gex2 at h
    split at h
    · rename_i o _ _ _ _ _ _ _ _ _ _ _ _
      cases o <;> simp only [reduceCtorEq] at h
      · obtain ⟨rfl, rfl, rfl, rfl⟩ := ikb_some h; exact a_rem _ _ _ _ rfl hx hy hp hr
      · simp only [Option.some.injEq, Prod.mk.injEq] at h
        obtain ⟨rfl, rfl, rfl⟩ := h
        refine a_shr _ _ _ _ rfl hx hy hp ?_
        rw [← hr]
        exact Int.fdiv_eq_ediv_of_nonneg _ (Int.pow_nonneg (by decide))
    · cases h
  · cases h
end
section
variable {tt : TT} {a a' : AF} {op : Op}
theorem oo_congr {lo : Option Operand} (h : ∀ x ∈ lo.toArray, ev a' x = ev a x) : oo a' lo = oo a lo := by
  cases lo with
  | none => rfl
  | some x => simp only [oo, h x (by simp)]
theorem gpure_congr (h : ∀ x ∈ op.operands, ev a' x = ev a x) : gpure tt a' op = gpure tt a op := by
  unfold gpure
  split
  · rw [h _ (by simp [Op.operands])]
  · rw [h _ (by simp [Op.operands])]
  · rename_i c x y
    rw [h c (by simp [Op.operands]), h x (by simp [Op.operands]), h y (by simp [Op.operands])]
  · rename_i o T x y U
    rw [h x (by simp [Op.operands]), h y (by simp [Op.operands])]
  · rename_i T x y
    rw [h x (by simp [Op.operands]), h y (by simp [Op.operands])]
  · rename_i T x y
    rw [h x (by simp [Op.operands]), h y (by simp [Op.operands])]
  · rw [h _ (by simp [Op.operands])]
  · rw [h _ (by simp [Op.operands])]
  · rw [h _ (by simp [Op.operands])]
  · rw [h _ (by simp [Op.operands])]
  · rename_i T x lo hi
    rw [h x (by simp [Op.operands]), oo_congr (lo := lo) (fun y hy => h y (by simp only [Op.operands, Array.mem_append]; simp_all)), oo_congr (lo := hi) (fun y hy => h y (by simp only [Op.operands, Array.mem_append]; simp_all))]
  · rename_i x T
    rw [h x (by simp [Op.operands, Call.operands])]
  · rfl
theorem garith_congr (h : ∀ x ∈ op.operands, ev a' x = ev a x) : garith tt a' op = garith tt a op := by
  unfold garith
  split
  · rename_i o T x y U
    rw [h x (by simp [Op.operands]), h y (by simp [Op.operands])]
  · rw [h _ (by simp [Op.operands])]
  · rw [h _ (by simp [Op.operands])]
  · rfl
theorem gexact_congr (h : ∀ x ∈ op.operands, ev a' x = ev a x) : gexact a' op = gexact a op := by
  unfold gexact
  split
  · rename_i o T x y U
    rw [h x (by simp [Op.operands]), h y (by simp [Op.operands])]
  · rfl
theorem evs_congr : ∀ {xs : List Operand}, (∀ x ∈ xs, ev a' x = ev a x) → evs a' xs = evs a xs
  | [], _ => rfl
  | y :: ys, hy => by simp only [evs, hy y List.mem_cons_self, evs_congr fun z hz => hy z (List.mem_cons_of_mem _ hz)]
theorem evps_congr : ∀ {ps : List (Nat × Operand)}, (∀ x ∈ ps, ev a' x.2 = ev a x.2) → evps a' ps = evps a ps
  | [], _ => rfl
  | (n, y) :: ys, hy => by
    have e : ev a' y = ev a y := hy (n, y) List.mem_cons_self
    simp only [evps, e, evps_congr fun z hz => hy z (List.mem_cons_of_mem _ hz)]
end
end Go.Gh
