/- Part 3 of the proof of the law BitvectorForms: texts merged. No condition. -/
import Derived.Test.YtoachkpkbgpmjaaZBitvectorFormsB
import Derived.MapKept
import Derived.Test.YtoachkpkbgpmjaaProg
import Derived.KernelRfl
section
set_option linter.unusedVariables false
set_option linter.unusedSimpArgs false
set_option maxRecDepth 4000
namespace Go.Gh
open Go.RowKit

inductive TK | bool | int (k : IntKind) | str | slice (E : Nat) | ptr (E : Nat) | arr (n E : Nat) | st (fs : List (Nat × Nat)) | other
structure TE where
  k : TK
  sz : Nat
  by' : Nat
  z : Option Value
inductive TT | leaf | node (l : TT) (t : Nat) (e : TE) (r : TT)
def TT.get : TT → Nat → Option TE
  | .leaf, _ => none
  | .node l t e r, n => bif Nat.blt n t then l.get n else bif Nat.beq n t then some e else r.get n
def tkOf : TypeDesc → TK
  | .bool => .bool
  | .int k => .int k
  | .string => .str
  | .slice E => .slice E
  | .pointer E => .ptr E
  | .array n E => .arr n E
  | .struct fs => .st (fs.toList.map fun f => (f.type, f.offset))
  | _ => .other
def teOf (P : Program) (t : Nat) : Option TE := match P.underlying t, P.info? t with
  | some d, some i => some ⟨tkOf d, i.size, i.bytes, bif Nat.ble i.size 300 then i.zero else none⟩
  | _, _ => none
def TT.Ok (P : Program) : TT → Prop
  | .leaf => True
  | .node l t e r => l.Ok P ∧ teOf P t = some e ∧ r.Ok P
theorem TT.get_ok {P : Program} : ∀ {tt : TT} {t : Nat} {e : TE}, tt.Ok P → tt.get t = some e → teOf P t = some e
  | .leaf, _, _, _, h => by cases h
  | .node l s e' r, t, e, k, h => by
    unfold TT.get at h
    cases hb : Nat.blt t s with
    | true => rw [hb] at h; exact TT.get_ok k.1 h
    | false =>
      rw [hb] at h
      cases hc : Nat.beq t s with
      | true =>
        rw [hc] at h
        simp only [cond_false, cond_true, Option.some.injEq] at h
        rw [Nat.eq_of_beq_eq_true hc, ← h]; exact k.2.1
      | false => rw [hc] at h; exact TT.get_ok k.2.2 h
section
variable {P : Program} {t : Nat} {e : TE}
theorem te_desc (h : teOf P t = some e) : ∃ d, P.underlying t = some d ∧ tkOf d = e.k := by
  unfold teOf at h
  split at h
  · rename_i d i h1 h2; simp only [Option.some.injEq] at h; subst h; exact ⟨d, h1, rfl⟩
  · cases h
theorem te_inf (h : teOf P t = some e) : ∃ z, tinf P t = some (z, e.sz, e.by') ∧ (∀ v, e.z = some v → z = some v) := by
  unfold teOf at h
  split at h
  · rename_i d i h1 h2
    simp only [Option.some.injEq] at h; subst h
    refine ⟨i.zero, by simp [tinf, h2], fun v hv => ?_⟩
    simp only at hv
    cases hb : Nat.ble i.size 300 with
    | true => rw [hb] at hv; exact hv
    | false => rw [hb] at hv; cases hv
  · cases h
theorem te_bool (h : teOf P t = some e) (hk : e.k = .bool) : P.underlying t = some .bool := by
  obtain ⟨d, h1, h2⟩ := te_desc h; rw [hk] at h2; cases d <;> first | (cases h2; done) | exact h1
theorem te_int {k : IntKind} (h : teOf P t = some e) (hk : e.k = .int k) : P.underlying t = some (.int k) := by
  obtain ⟨d, h1, h2⟩ := te_desc h; rw [hk] at h2; cases d <;> first | (cases h2; done) | (cases h2; exact h1)
theorem te_str (h : teOf P t = some e) (hk : e.k = .str) : P.underlying t = some .string := by
  obtain ⟨d, h1, h2⟩ := te_desc h; rw [hk] at h2; cases d <;> first | (cases h2; done) | exact h1
theorem te_slice {E : Nat} (h : teOf P t = some e) (hk : e.k = .slice E) : P.underlying t = some (.slice E) := by
  obtain ⟨d, h1, h2⟩ := te_desc h; rw [hk] at h2; cases d <;> first | (cases h2; done) | (cases h2; exact h1)
theorem te_ptr {E : Nat} (h : teOf P t = some e) (hk : e.k = .ptr E) : P.underlying t = some (.pointer E) := by
  obtain ⟨d, h1, h2⟩ := te_desc h; rw [hk] at h2; cases d <;> first | (cases h2; done) | (cases h2; exact h1)
theorem te_arr {n E : Nat} (h : teOf P t = some e) (hk : e.k = .arr n E) : P.underlying t = some (.array n E) := by
  obtain ⟨d, h1, h2⟩ := te_desc h; rw [hk] at h2; cases d <;> first | (cases h2; done) | (cases h2; exact h1)
theorem te_st {fs : List (Nat × Nat)} (h : teOf P t = some e) (hk : e.k = .st fs) : ∃ fl : Array Field, P.underlying t = some (.struct fl) ∧ fl.toList.map (fun f => (f.type, f.offset)) = fs := by
  obtain ⟨d, h1, h2⟩ := te_desc h; rw [hk] at h2; cases d <;> first | (cases h2; done) | (rename_i fl; refine ⟨fl, h1, ?_⟩; simp only [tkOf] at h2; exact TK.st.inj h2)
theorem te_field {fs : List (Nat × Nat)} {f F fo : Nat} (h : teOf P t = some e) (hk : e.k = .st fs) (hf : fs[f]? = some (F, fo)) : fieldOf P t f = some (F, fo) := by
  obtain ⟨fl, h1, h2⟩ := te_st h hk
  unfold fieldOf
  rw [h1]
  simp only
  rw [← h2, List.getElem?_map, Array.getElem?_toList] at hf
  exact hf
def TK.agg : TK → Bool
  | .st _ | .arr _ _ => true
  | _ => false
theorem te_agg (h : teOf P t = some e) : aggT P t = some e.k.agg := by
  obtain ⟨d, h1, h2⟩ := te_desc h
  unfold aggT
  rw [h1, ← h2]
  cases d <;> rfl
end

def ikn : IntKind → Nat
  | .i8 => 0 | .i16 => 1 | .i32 => 2 | .i64 => 3 | .u8 => 4 | .u16 => 5 | .u32 => 6 | .u64 => 7
def ikb (k k' : IntKind) : Bool := Nat.beq (ikn k) (ikn k')
theorem ikb_eq {k k' : IntKind} (h : ikb k k' = true) : k = k' := by
  cases k <;> cases k' <;> first | rfl | (cases h)

/-- What is asked, and the value. -/
abbrev PV := Option (Prop × Value)
def pv (v : Value) : PV := some (True, v)
def gbin (tt : TT) (T : Nat) (op : BinOp) : Value → Value → PV
  | .int k m, .int k' n => bif ikb k k' then (match op with
    | .lss => pv (.bool (decide (m < n))) | .leq => pv (.bool (decide (m ≤ n))) | .gtr => pv (.bool (decide (n < m))) | .geq => pv (.bool (decide (n ≤ m)))
    | .eql => pv (.bool (decide (m = n))) | .neq => pv (.bool (decide (m ≠ n))) | _ => none) else none
  | .string ⟨⟨l⟩⟩, .string ⟨⟨m⟩⟩ => match op with
    | .add => some (l.length + m.length ≤ 9223372036854775807, S (l ++ m)) | .eql => pv (.bool (decide (l = m))) | .neq => pv (.bool (decide (l ≠ m)))
    | .lss => pv (.bool (Op.bytesLess l m)) | .gtr => pv (.bool (!(Op.bytesLess l m || (l == m)))) | _ => none
  | .bool m, .bool n => match tt.get T with
    | some ⟨.bool, _, _, _⟩ => (match op with | .eql => pv (.bool (decide (m = n))) | .neq => pv (.bool (decide (m ≠ n))) | _ => none)
    | _ => none
  | .pointer ad, .pointer none => match tt.get T with
    | some ⟨.ptr _, _, _, _⟩ => (match op with | .eql => pv (.bool ad.isNone) | .neq => pv (.bool ad.isSome) | _ => none)
    | _ => none
  | _, _ => none
def glen (tt : TT) (T : Nat) : Value → PV
  | .string ⟨⟨l⟩⟩ => (match tt.get T with | some ⟨.str, _, _, _⟩ => pv (I l.length) | _ => none)
  | .slice _ n _ => (match tt.get T with | some ⟨.slice _, _, _, _⟩ => pv (I n) | _ => none)
  | _ => none
def gslc (tt : TT) (T : Nat) : Value → Option Value → Option Value → PV
  | .string ⟨⟨l⟩⟩, some (.int _ i), some (.int _ n) => (match tt.get T with | some ⟨.str, _, _, _⟩ => some (0 ≤ i ∧ i ≤ n ∧ n ≤ l.length, S ((l.take n.toNat).drop i.toNat)) | _ => none)
  | .string ⟨⟨l⟩⟩, some (.int _ i), none => (match tt.get T with | some ⟨.str, _, _, _⟩ => some (0 ≤ i ∧ i ≤ l.length, S (l.drop i.toNat)) | _ => none)
  | .string ⟨⟨l⟩⟩, none, some (.int _ n) => (match tt.get T with | some ⟨.str, _, _, _⟩ => some (0 ≤ n ∧ n ≤ l.length, S (l.take n.toNat)) | _ => none)
  | .slice (some ⟨A, off, some n⟩) len _, some (.int _ i), some (.int _ h) => (match tt.get T with
    | some ⟨.slice E, _, _, _⟩ => (match tt.get E with | some ⟨_, s, _, _⟩ => some ((0 ≤ i ∧ i ≤ h ∧ h ≤ len) ∧ (i < h ∨ i = 0), gsl A (off + i.toNat * s) n (h - i).toNat 0) | none => none) | _ => none)
  | .slice (some ⟨A, off, some n⟩) len _, some (.int _ i), none => (match tt.get T with
    | some ⟨.slice E, _, _, _⟩ => (match tt.get E with | some ⟨_, s, _, _⟩ => some ((0 ≤ i ∧ i ≤ len) ∧ (i < len ∨ i = 0), gsl A (off + i.toNat * s) n (len - i.toNat) 0) | none => none) | _ => none)
  | .slice (some ⟨A, off, some n⟩) len _, none, some (.int _ h) => (match tt.get T with
    | some ⟨.slice E, _, _, _⟩ => (match tt.get E with | some _ => some (0 ≤ h ∧ h ≤ len, gsl A off n h.toNat 0) | none => none) | _ => none)
  | .pointer (some ⟨A, off, some n⟩), none, none => (match tt.get T with
    | some ⟨.arr len E, _, _, _⟩ => (match tt.get E with | some _ => some (len ≤ maxLen, gsl A off n len 0) | none => none) | _ => none)
  | .pointer (some ⟨A, off, some n⟩), none, some (.int _ h) => (match tt.get T with
    | some ⟨.arr len E, _, _, _⟩ => (match tt.get E with | some _ => some ((0 ≤ h ∧ h ≤ len) ∧ len ≤ maxLen, gsl A off n h.toNat 0) | none => none) | _ => none)
  | _, _, _ => none
def gidx (tt : TT) (T : Nat) : Value → Value → PV
  | .string ⟨⟨l⟩⟩, .int _ i => (match tt.get T with | some ⟨.str, _, _, _⟩ => some (0 ≤ i ∧ i < l.length, .int .u8 (bat l i)) | _ => none)
  | .agg ⟨vs⟩, .int _ i => (match tt.get T with
    | some ⟨.arr len E, _, _, _⟩ => (match tt.get E with
      | some ⟨k, 1, _, _⟩ => (match k.agg, Nat.ble len vs.length with | false, true => some (0 ≤ i ∧ i < len, vs.getD i.toNat (.bool false)) | _, _ => none)
      | _ => none)
    | _ => none)
  | _, _ => none
def gidxA (tt : TT) (T : Nat) : Value → Value → PV
  | .slice (some ⟨A, off, some n⟩) len _, .int _ i => (match tt.get T with
    | some ⟨.slice E, _, _, _⟩ => (match tt.get E with | some ⟨_, s, _, _⟩ => some (0 ≤ i ∧ i < len, gptr A (off + i.toNat * s) n) | none => none) | _ => none)
  | .pointer (some ⟨A, off, some n⟩), .int _ i => (match tt.get T with
    | some ⟨.arr len E, _, _, _⟩ => (match tt.get E with | some ⟨_, s, _, _⟩ => some (0 ≤ i ∧ i < len, gptr A (off + i.toNat * s) n) | none => none) | _ => none)
  | _, _ => none
def gfldA (tt : TT) (T f : Nat) : Value → PV
  | .pointer (some ⟨A, off, some n⟩) => (match tt.get T with
    | some ⟨.st fs, _, _, _⟩ => (match fs[f]? with
      | some (F, fo) => (match tt.get F with | some ⟨_, s + 1, _, _⟩ => pv (gptr A (off + fo) n) | _ => none)
      | none => none)
    | _ => none)
  | _ => none
def gfld (tt : TT) (T f : Nat) : Value → PV
  | .agg ⟨vs⟩ => (match tt.get T with
    | some ⟨.st fs, _, _, _⟩ => (match fs[f]? with
      | some (F, fo) => (match tt.get F with
        | some e => (match e.k.agg with | false => (match vs[fo]? with | some v => pv v | none => none) | true => none)
        | none => none)
      | none => none)
    | _ => none)
  | _ => none
def gext (i : Nat) : Value → PV
  | .tuple ⟨vs⟩ => (match vs[i]? with | some v => pv v | none => none)
  | _ => none
def gnil : Value → PV
  | .pointer (some ad) => pv (.pointer (some ad))
  | .func (.func f) us vs => pv (.func (.func f) us vs)
  | _ => none
def ob {α β : Type} : Option α → (α → Option β) → Option β
  | some v, f => f v
  | none, _ => none
theorem ob_some {α β : Type} {x : Option α} {f : α → Option β} {y : β} (h : ob x f = some y) : ∃ v, x = some v ∧ f v = some y := by
  cases x with
  | none => cases h
  | some v => exact ⟨v, rfl, h⟩
def oo (a : AF) : Option Operand → Option (Option Value)
  | none => some none
  | some x => match ev a x with | some v => some (some v) | none => none

def gpure (tt : TT) (a : AF) : Op → PV
  | .move x | .assign x => (match ev a x with | some v => pv v | none => none)
  | .pick c x y => (match ev a c with
    | some (.bool b) => (match b with
      | true => (match ev a x with | some v => pv v | none => none)
      | false => (match ev a y with | some v => pv v | none => none))
    | _ => none)
  | .binOp op T x y _ => ob (ev a x) fun u => ob (ev a y) fun v => gbin tt T op u v
  | .index T x y => ob (ev a x) fun u => ob (ev a y) fun v => gidx tt T u v
  | .indexAddr T x y => ob (ev a x) fun u => ob (ev a y) fun v => gidxA tt T u v
  | .fieldAddr T x f => ob (ev a x) fun u => gfldA tt T f u
  | .field T x f => ob (ev a x) fun u => gfld tt T f u
  | .extract x i => ob (ev a x) fun u => gext i u
  | .nilCheck x => ob (ev a x) fun u => gnil u
  | .slice T x lo hi none => ob (ev a x) fun u => ob (oo a lo) fun l => ob (oo a hi) fun h => gslc tt T u l h
  | .call ⟨.builtin .len, ⟨[x]⟩, ⟨[T]⟩⟩ => ob (ev a x) fun u => glen tt T u
  | _ => none
/-- Arithmetic: what is asked, the kind, the number before it is wrapped. -/
def gar2 (op : BinOp) : Value → Value → Option (Prop × IntKind × Int)
  | .int k m, .int k' n => (match op with
      | .add => bif ikb k k' then some (True, k, m + n) else none
      | .sub => bif ikb k k' then some (True, k, m - n) else none
      | .mul => bif ikb k k' then some (True, k, m * n) else none
      | .quo => bif ikb k k' then some (n ≠ 0, k, m.tdiv n) else none
      | .and => bif ikb k k' then some (True, k, ((BitVec.ofInt k.bits m &&& BitVec.ofInt k.bits n).toNat : Int)) else none
      | .or => bif ikb k k' then some (True, k, ((BitVec.ofInt k.bits m ||| BitVec.ofInt k.bits n).toNat : Int)) else none
      | .xor => bif ikb k k' then some (True, k, ((BitVec.ofInt k.bits m ^^^ BitVec.ofInt k.bits n).toNat : Int)) else none
      | .shl => some (0 ≤ n, k, m * 2 ^ (min n.toNat k.bits))
      | _ => none)
  | _, _ => none
def gcon (tt : TT) (T U : Nat) : Value → Option (Prop × IntKind × Int)
  | .int _ n => (match tt.get T, tt.get U with | some _, some ⟨.int k, _, _, _⟩ => some (True, k, n) | _, _ => none)
  | _ => none
def gneg : Value → Option (Prop × IntKind × Int)
  | .int k n => some (True, k, 0 - n)
  | _ => none
def garith (tt : TT) (a : AF) : Op → Option (Prop × IntKind × Int)
  | .binOp op _ x y _ => ob (ev a x) fun u => ob (ev a y) fun v => gar2 op u v
  | .unOp .neg _ x => ob (ev a x) fun u => gneg u
  | .convert T U x => ob (ev a x) fun u => gcon tt T U u
  | _ => none
/-- The same, never wrapped. -/
def gex2 (op : BinOp) : Value → Value → Option (Prop × IntKind × Int)
  | .int k m, .int k' n => (match op with
      | .rem => bif ikb k k' then some (n ≠ 0, k, m.tmod n) else none
      | .shr => some (0 ≤ n, k, m / 2 ^ (min n.toNat k.bits))
      | _ => none)
  | _, _ => none
def gexact (a : AF) : Op → Option (Prop × IntKind × Int)
  | .binOp op _ x y _ => ob (ev a x) fun u => ob (ev a y) fun v => gex2 op u v
  | _ => none

section
variable {P : Program} {tt : TT} {N : Fr} {a : AF} {H : Heap} {t : Nat} {op : Op} {ty : TypeId} {pos : String} {aft : Array Edge} {p : Prop} {v : Value}

theorem pv_some {u v : Value} {p : Prop} (h : pv u = some (p, v)) : v = u := by simp only [pv, Option.some.injEq, Prod.mk.injEq] at h; exact h.2.symm

theorem gbin_ok (ht : tt.Ok P) {o : BinOp} {T U : Nat} {x y : Operand} {u w : Value} (hx : ev a x = some u) (hy : ev a y = some w) (h : gbin tt T o u w = some (p, v)) (hp : p) :
    APure P N ⟨some t, .binOp o T x y U, ty, pos, aft, none⟩ a H v := by
  unfold gbin at h
  split at h
  · rename_i k m k' n
    cases hk : ikb k k' with
    | false => rw [hk] at h; cases h
    | true =>
      rw [hk] at h
      obtain rfl := ikb_eq hk
      simp only [cond_true] at h
      cases o <;> simp only [reduceCtorEq] at h <;> obtain rfl := pv_some h
      · exact a_eql T U x y rfl hx hy
      · exact a_neq T U x y rfl hx hy
      · exact a_lss T U x y rfl hx hy
      · exact a_leq T U x y rfl hx hy
      · exact a_gtr T U x y rfl hx hy
      · exact a_geq T U x y rfl hx hy
  · cases o <;> simp only [reduceCtorEq] at h
    · simp only [Option.some.injEq, Prod.mk.injEq] at h
      obtain ⟨rfl, rfl⟩ := h
      exact a_sadd T U x y rfl hx hy hp
    · obtain rfl := pv_some h; exact a_seql T U x y rfl hx hy
    · obtain rfl := pv_some h; exact a_sneq T U x y rfl hx hy
    · obtain rfl := pv_some h; exact a_slss T U x y rfl hx hy
    · obtain rfl := pv_some h; exact a_sgtr T U x y rfl hx hy
  · split at h
    · rename_i h1
      have hb := te_bool (TT.get_ok ht h1) rfl
      cases o <;> simp only [reduceCtorEq] at h <;> obtain rfl := pv_some h
      · exact a_beql T U x y rfl hx hy hb
      · exact a_bneq T U x y rfl hx hy hb
    · cases h
  · split at h
    · rename_i h1
      have hb := te_ptr (TT.get_ok ht h1) rfl
      cases o <;> simp only [reduceCtorEq] at h <;> obtain rfl := pv_some h
      · exact a_pnil T U x y rfl hx hy hb
      · exact a_pnotnil T U x y rfl hx hy hb
    · cases h
  · cases h

theorem oo_none {a : AF} {lo : Option Operand} (h : oo a lo = some none) : lo = none := by
  cases lo with
  | none => rfl
  | some x => simp only [oo] at h; split at h <;> cases h
theorem oo_some {a : AF} {lo : Option Operand} {v : Value} (h : oo a lo = some (some v)) : ∃ x, lo = some x ∧ ev a x = some v := by
  cases lo with
  | none => cases h
  | some x =>
    simp only [oo] at h
    split at h
    · rename_i u hu; simp only [Option.some.injEq] at h; exact ⟨x, rfl, by rw [hu, h]⟩
    · cases h

theorem gslc_ok (ht : tt.Ok P) {T : Nat} {x : Operand} {lo hi : Option Operand} {u : Value} {ol oh : Option Value} (hx : ev a x = some u) (hl : oo a lo = some ol) (hh : oo a hi = some oh) (h : gslc tt T u ol oh = some (p, v)) (hp : p) :
    APure P N ⟨some t, .slice T x lo hi none, ty, pos, aft, none⟩ a H v := by
  unfold gslc at h
  split at h
  · obtain ⟨xl, rfl, e1⟩ := oo_some hl
    obtain ⟨xh, rfl, e2⟩ := oo_some hh
    split at h
    · rename_i h1
      simp only [Option.some.injEq, Prod.mk.injEq] at h; obtain ⟨rfl, rfl⟩ := h
      exact a_sslice T x xl xh rfl hx e1 e2 (te_str (TT.get_ok ht h1) rfl) hp
    · cases h
  · obtain ⟨xl, rfl, e1⟩ := oo_some hl
    obtain rfl := oo_none hh
    split at h
    · rename_i h1
      simp only [Option.some.injEq, Prod.mk.injEq] at h; obtain ⟨rfl, rfl⟩ := h
      exact a_sfrom T x xl rfl hx e1 (te_str (TT.get_ok ht h1) rfl) hp
    · cases h
  · obtain rfl := oo_none hl
    obtain ⟨xh, rfl, e2⟩ := oo_some hh
    split at h
    · rename_i h1
      simp only [Option.some.injEq, Prod.mk.injEq] at h; obtain ⟨rfl, rfl⟩ := h
      exact a_sto T x xh rfl hx e2 (te_str (TT.get_ok ht h1) rfl) hp
    · cases h
  · obtain ⟨xl, rfl, e1⟩ := oo_some hl
    obtain ⟨xh, rfl, e2⟩ := oo_some hh
    split at h
    · rename_i h1
      split at h
      · rename_i h2
        simp only [Option.some.injEq, Prod.mk.injEq] at h; obtain ⟨rfl, rfl⟩ := h
        obtain ⟨z, hI, _⟩ := te_inf (TT.get_ok ht h2)
        exact a_cut T x xl xh rfl hx e1 e2 (te_slice (TT.get_ok ht h1) rfl) hI hp.1 hp.2
      · cases h
    · cases h
  · obtain ⟨xl, rfl, e1⟩ := oo_some hl
    obtain rfl := oo_none hh
    split at h
    · rename_i h1
      split at h
      · rename_i h2
        simp only [Option.some.injEq, Prod.mk.injEq] at h; obtain ⟨rfl, rfl⟩ := h
        obtain ⟨z, hI, _⟩ := te_inf (TT.get_ok ht h2)
        exact a_cutfrom T x xl rfl hx e1 (te_slice (TT.get_ok ht h1) rfl) hI hp.1 hp.2
      · cases h
    · cases h
  · obtain rfl := oo_none hl
    obtain ⟨xh, rfl, e2⟩ := oo_some hh
    split at h
    · rename_i h1
      split at h
      · rename_i h2
        simp only [Option.some.injEq, Prod.mk.injEq] at h; obtain ⟨rfl, rfl⟩ := h
        obtain ⟨z, hI, _⟩ := te_inf (TT.get_ok ht h2)
        exact a_cutto T x xh rfl hx e2 (te_slice (TT.get_ok ht h1) rfl) hI hp
      · cases h
    · cases h
  · obtain rfl := oo_none hl
    obtain rfl := oo_none hh
    split at h
    · rename_i h1
      split at h
      · rename_i h2
        simp only [Option.some.injEq, Prod.mk.injEq] at h; obtain ⟨rfl, rfl⟩ := h
        obtain ⟨z, hI, _⟩ := te_inf (TT.get_ok ht h2)
        exact a_arrall T x rfl hx (te_arr (TT.get_ok ht h1) rfl) hI hp
      · cases h
    · cases h
  · obtain rfl := oo_none hl
    obtain ⟨xh, rfl, e2⟩ := oo_some hh
    split at h
    · rename_i h1
      split at h
      · rename_i h2
        simp only [Option.some.injEq, Prod.mk.injEq] at h; obtain ⟨rfl, rfl⟩ := h
        obtain ⟨z, hI, _⟩ := te_inf (TT.get_ok ht h2)
        exact a_arrto T x xh rfl hx e2 (te_arr (TT.get_ok ht h1) rfl) hI hp.1 hp.2
      · cases h
    · cases h
  · cases h

theorem gpure_ok (ht : tt.Ok P) (h : gpure tt a op = some (p, v)) (hp : p) : APure P N ⟨some t, op, ty, pos, aft, none⟩ a H v := by
  unfold gpure at h
  split at h
  · split at h
    · rename_i hx; obtain rfl := pv_some h; exact a_move _ rfl hx
    · cases h
  · split at h
    · rename_i hx; obtain rfl := pv_some h; exact a_assign _ rfl hx
    · cases h
  · rename_i c x y
    split at h
    · rename_i hc
      split at h
      · split at h
        · rename_i hx; obtain rfl := pv_some h; exact a_pick_true c x y rfl hc rfl hx
        · cases h
      · split at h
        · rename_i hx; obtain rfl := pv_some h; exact a_pick_false c x y rfl hc rfl hx
        · cases h
    · cases h
  · obtain ⟨u, hx, h⟩ := ob_some h
    obtain ⟨w, hy, h⟩ := ob_some h
    exact gbin_ok ht hx hy h hp
  · obtain ⟨u, hx, h⟩ := ob_some h
    obtain ⟨w, hy, h⟩ := ob_some h
    unfold gidx at h
    split at h
    · split at h
      · rename_i h1
        simp only [Option.some.injEq, Prod.mk.injEq] at h; obtain ⟨rfl, rfl⟩ := h
        exact a_sidx _ _ _ rfl hx hy (te_str (TT.get_ok ht h1) rfl) hp
      · cases h
    · split at h
      · rename_i h1
        split at h
        · rename_i h2
          split at h
          · rename_i h3 h4
            simp only [Option.some.injEq, Prod.mk.injEq] at h; obtain ⟨rfl, rfl⟩ := h
            obtain ⟨z, hI, _⟩ := te_inf (TT.get_ok ht h2)
            have hlen := Nat.le_of_ble_eq_true h4
            refine a_aindex _ _ _ rfl hx hy (te_arr (TT.get_ok ht h1) rfl) (by rw [te_agg (TT.get_ok ht h2)]; exact congrArg some h3) hI hp ?_
            rw [List.getD_eq_getElem?_getD, List.getElem?_eq_getElem (by omega)]; rfl
          · cases h
        · cases h
      · cases h
    · cases h
  · obtain ⟨u, hx, h⟩ := ob_some h
    obtain ⟨w, hy, h⟩ := ob_some h
    unfold gidxA at h
    split at h
    · split at h
      · rename_i h1
        split at h
        · rename_i h2
          simp only [Option.some.injEq, Prod.mk.injEq] at h; obtain ⟨rfl, rfl⟩ := h
          obtain ⟨z, hI, _⟩ := te_inf (TT.get_ok ht h2)
          exact a_idxAddr _ _ _ rfl hx hy (te_slice (TT.get_ok ht h1) rfl) hI hp
        · cases h
      · cases h
    · split at h
      · rename_i h1
        split at h
        · rename_i h2
          simp only [Option.some.injEq, Prod.mk.injEq] at h; obtain ⟨rfl, rfl⟩ := h
          obtain ⟨z, hI, _⟩ := te_inf (TT.get_ok ht h2)
          exact a_aidxAddr _ _ _ rfl hx hy (te_arr (TT.get_ok ht h1) rfl) hI hp
        · cases h
      · cases h
    · cases h
  · obtain ⟨u, hx, h⟩ := ob_some h
    unfold gfldA at h
    split at h
    · split at h
      · rename_i h1
        split at h
        · rename_i h2
          split at h
          · rename_i h3
            obtain rfl := pv_some h
            obtain ⟨z, hI, _⟩ := te_inf (TT.get_ok ht h3)
            exact a_fieldAddr _ _ _ rfl hx (te_field (TT.get_ok ht h1) rfl h2) hI (by simp)
          · cases h
        · cases h
      · cases h
    · cases h
  · obtain ⟨u, hx, h⟩ := ob_some h
    unfold gfld at h
    split at h
    · split at h
      · rename_i h1
        split at h
        · rename_i h2
          split at h
          · rename_i h3
            split at h
            · rename_i h4
              split at h
              · rename_i h5
                obtain rfl := pv_some h
                exact a_field _ _ _ rfl hx (te_field (TT.get_ok ht h1) rfl h2) (by rw [te_agg (TT.get_ok ht h3), h4]) h5
              · cases h
            · cases h
          · cases h
        · cases h
      · cases h
    · cases h
  · obtain ⟨u, hx, h⟩ := ob_some h
    unfold gext at h
    split at h
    · split at h
      · rename_i h1
        obtain rfl := pv_some h
        exact a_extract _ _ rfl hx (by simpa using h1)
      · cases h
    · cases h
  · obtain ⟨u, hx, h⟩ := ob_some h
    unfold gnil at h
    split at h
    · obtain rfl := pv_some h; exact a_nilCheck _ rfl hx
    · obtain rfl := pv_some h; exact a_nilCheckF _ rfl hx
    · cases h
  · obtain ⟨u, hx, h⟩ := ob_some h
    obtain ⟨l, hl, h⟩ := ob_some h
    obtain ⟨w, hw, h⟩ := ob_some h
    exact gslc_ok ht hx hl hw h hp
  · obtain ⟨u, hx, h⟩ := ob_some h
    unfold glen at h
    split at h
    · split at h
      · rename_i h1
        obtain rfl := pv_some h; exact a_slen _ _ rfl hx (te_str (TT.get_ok ht h1) rfl)
      · cases h
    · split at h
      · rename_i h1
        obtain rfl := pv_some h; exact a_len _ _ rfl hx (te_slice (TT.get_ok ht h1) rfl)
      · cases h
    · cases h
  · cases h

variable {k : IntKind} {e r : Int}
theorem ikb_some {k1 k2 : IntKind} {q : Prop} {x : Int} (hq : (bif ikb k1 k2 then some (q, k1, x) else none) = some (p, k, e)) : k1 = k2 ∧ q = p ∧ k1 = k ∧ x = e := by
  cases hb : ikb k1 k2 with
  | false => rw [hb] at hq; cases hq
  | true => rw [hb] at hq; simp only [cond_true, Option.some.injEq, Prod.mk.injEq] at hq; exact ⟨ikb_eq hb, hq.1, hq.2.1, hq.2.2⟩
theorem gar2_ok {o : BinOp} {T U : Nat} {x y : Operand} {u w : Value} (hx : ev a x = some u) (hy : ev a y = some w) (h : gar2 o u w = some (p, k, e)) (hp : p) (hr : k.wrap e = r) :
    APure P N ⟨some t, .binOp o T x y U, ty, pos, aft, none⟩ a H (.int k r) := by
  unfold gar2 at h
  split at h
  · cases o <;> simp only [reduceCtorEq] at h
    · obtain ⟨rfl, rfl, rfl, rfl⟩ := ikb_some h; exact a_add _ _ _ _ rfl hx hy hr
    · obtain ⟨rfl, rfl, rfl, rfl⟩ := ikb_some h; exact a_sub _ _ _ _ rfl hx hy hr
    · obtain ⟨rfl, rfl, rfl, rfl⟩ := ikb_some h; exact a_mul _ _ _ _ rfl hx hy hr
    · obtain ⟨rfl, rfl, rfl, rfl⟩ := ikb_some h; exact a_quo _ _ _ _ rfl hx hy hp hr
    · obtain ⟨rfl, rfl, rfl, rfl⟩ := ikb_some h; exact a_and _ _ _ _ rfl hx hy hr
    · obtain ⟨rfl, rfl, rfl, rfl⟩ := ikb_some h; exact a_or _ _ _ _ rfl hx hy hr
    · obtain ⟨rfl, rfl, rfl, rfl⟩ := ikb_some h; exact a_xor _ _ _ _ rfl hx hy hr
    · simp only [Option.some.injEq, Prod.mk.injEq] at h
      obtain ⟨rfl, rfl, rfl⟩ := h
      exact a_shl _ _ _ _ rfl hx hy hp hr
  · cases h
theorem garith_ok (ht : tt.Ok P) (h : garith tt a op = some (p, k, e)) (hp : p) (hr : k.wrap e = r) : APure P N ⟨some t, op, ty, pos, aft, none⟩ a H (.int k r) := by
  unfold garith at h
  split at h
  · obtain ⟨u, hx, h⟩ := ob_some h
    obtain ⟨w, hy, h⟩ := ob_some h
    exact gar2_ok hx hy h hp hr
  · obtain ⟨u, hx, h⟩ := ob_some h
    unfold gneg at h
    split at h
    · simp only [Option.some.injEq, Prod.mk.injEq] at h
      obtain ⟨rfl, rfl, rfl⟩ := h
      exact a_neg _ _ rfl hx hr
    · cases h
  · obtain ⟨u, hx, h⟩ := ob_some h
    unfold gcon at h
    split at h
    · split at h
      · rename_i h1 h2
        simp only [Option.some.injEq, Prod.mk.injEq] at h
        obtain ⟨rfl, rfl, rfl⟩ := h
        obtain ⟨d, hd, _⟩ := te_desc (TT.get_ok ht h1)
        exact a_conv _ _ _ rfl hx hd (te_int (TT.get_ok ht h2) rfl) hr
      · cases h
    · cases h
  · cases h
theorem gexact_ok (h : gexact a op = some (p, k, e)) (hp : p) (hr : e = r) : APure P N ⟨some t, op, ty, pos, aft, none⟩ a H (.int k r) := by
  unfold gexact at h
  split at h
  · obtain ⟨u, hx, h⟩ := ob_some h
    obtain ⟨w, hy, h⟩ := ob_some h
    unfold gex2 at h
    split at h
    · rename_i o _ _ _ _ _ _ _ _ _ _ _ _
      cases o <;> simp only [reduceCtorEq] at h
      · obtain ⟨rfl, rfl, rfl, rfl⟩ := ikb_some h; exact a_rem _ _ _ _ rfl hx hy hp hr
      · simp only [Option.some.injEq, Prod.mk.injEq] at h
        obtain ⟨rfl, rfl, rfl⟩ := h
        refine a_shr _ _ _ _ rfl hx hy hp ?_
        rw [← hr]
        exact Int.fdiv_eq_ediv_of_nonneg _ (Int.pow_nonneg (by decide))
    · cases h
  · cases h
end
section
variable {tt : TT} {a a' : AF} {op : Op}
theorem oo_congr {lo : Option Operand} (h : ∀ x ∈ lo.toArray, ev a' x = ev a x) : oo a' lo = oo a lo := by
  cases lo with
  | none => rfl
  | some x => simp only [oo, h x (by simp)]
theorem gpure_congr (h : ∀ x ∈ op.operands, ev a' x = ev a x) : gpure tt a' op = gpure tt a op := by
  unfold gpure
  split
  · rw [h _ (by simp [Op.operands])]
  · rw [h _ (by simp [Op.operands])]
  · rename_i c x y
    rw [h c (by simp [Op.operands]), h x (by simp [Op.operands]), h y (by simp [Op.operands])]
  · rename_i o T x y U
    rw [h x (by simp [Op.operands]), h y (by simp [Op.operands])]
  · rename_i T x y
    rw [h x (by simp [Op.operands]), h y (by simp [Op.operands])]
  · rename_i T x y
    rw [h x (by simp [Op.operands]), h y (by simp [Op.operands])]
  · rw [h _ (by simp [Op.operands])]
  · rw [h _ (by simp [Op.operands])]
  · rw [h _ (by simp [Op.operands])]
  · rw [h _ (by simp [Op.operands])]
  · rename_i T x lo hi
    rw [h x (by simp [Op.operands]), oo_congr (lo := lo) (fun y hy => h y (by simp only [Op.operands, Array.mem_append]; simp_all)), oo_congr (lo := hi) (fun y hy => h y (by simp only [Op.operands, Array.mem_append]; simp_all))]
  · rename_i x T
    rw [h x (by simp [Op.operands, Call.operands])]
  · rfl
theorem garith_congr (h : ∀ x ∈ op.operands, ev a' x = ev a x) : garith tt a' op = garith tt a op := by
  unfold garith
  split
  · rename_i o T x y U
    rw [h x (by simp [Op.operands]), h y (by simp [Op.operands])]
  · rw [h _ (by simp [Op.operands])]
  · rw [h _ (by simp [Op.operands])]
  · rfl
theorem gexact_congr (h : ∀ x ∈ op.operands, ev a' x = ev a x) : gexact a' op = gexact a op := by
  unfold gexact
  split
  · rename_i o T x y U
    rw [h x (by simp [Op.operands]), h y (by simp [Op.operands])]
  · rfl
theorem evs_congr : ∀ {xs : List Operand}, (∀ x ∈ xs, ev a' x = ev a x) → evs a' xs = evs a xs
  | [], _ => rfl
  | y :: ys, hy => by simp only [evs, hy y List.mem_cons_self, evs_congr fun z hz => hy z (List.mem_cons_of_mem _ hz)]
theorem evps_congr : ∀ {ps : List (Nat × Operand)}, (∀ x ∈ ps, ev a' x.2 = ev a x.2) → evps a' ps = evps a ps
  | [], _ => rfl
  | (n, y) :: ys, hy => by
    have e : ev a' y = ev a y := hy (n, y) List.mem_cons_self
    simp only [evps, e, evps_congr fun z hz => hy z (List.mem_cons_of_mem _ hz)]
end
end Go.Gh
end
section
set_option linter.unusedVariables false
set_option linter.unusedSimpArgs false
set_option maxRecDepth 4000
namespace Go.Gh
open Go.RowKit

/-- The value at a place of a list is set. -/
inductive SetAt : List Value → Nat → Value → List Value → Prop
  | zero {x v l} : SetAt (x :: l) 0 v (v :: l)
  | succ {x v l n l'} : SetAt l n v l' → SetAt (x :: l) (n + 1) v (x :: l')
theorem SetAt.ok {l l' : List Value} {n : Nat} {v : Value} (h : SetAt l n v l') : n < l.length ∧ l' = l.set n v := by
  induction h with
  | zero => simp
  | succ _ ih => obtain ⟨h1, rfl⟩ := ih; simp; omega
theorem SetAt.any {l : List Value} {n : Nat} {v : Value} (h : n < l.length) : SetAt l n v (l.set n v) := by
  induction l generalizing n with
  | nil => simp at h
  | cons x r ih =>
    cases n with
    | zero => exact .zero
    | succ n => exact .succ (ih (by simpa using h))
/-- Cells are written over. -/
def PutAt (l : List Value) (o : Nat) (vs l' : List Value) : Prop := o + vs.length ≤ l.length ∧ l' = lset l o vs
theorem putAt_all {l vs : List Value} (h : l.length = vs.length) : PutAt l 0 vs vs := ⟨by omega, by
  unfold lset; rw [List.drop_of_length_le (by omega)]; simp⟩

theorem setAt_putAt {l l' : List Value} {o : Nat} {v : Value} (h : SetAt l o v l') : PutAt l o [v] l' := by
  obtain ⟨h1, rfl⟩ := h.ok
  refine ⟨by simp; omega, ?_⟩
  simp only [lset, List.length_singleton]
  rw [List.set_eq_take_append_cons_drop, if_pos h1]
  simp

/-- The parts of a struct. -/
inductive BuildR (pl : List (Nat × Nat)) : List Value → List (Nat × Value) → List Value → Prop
  | nil {zs} : BuildR pl zs [] zs
  | one {zs zs' i off v r out} (hp : pl[i]? = some (off, 1)) (ho : Go.Gh.one v = true) (hs : SetAt zs off v zs') (k : BuildR pl zs' r out) : BuildR pl zs ((i, v) :: r) out
  | agg {zs zs' i off s vs r out} (hp : pl[i]? = some (off, s)) (ho : vs.length = s) (hs : PutAt zs off vs zs') (k : BuildR pl zs' r out) : BuildR pl zs ((i, .agg ⟨vs⟩) :: r) out
theorem one_cells {v : Value} (hv : one v = true) : v.cells = #[v] := by cases v <;> first | (simp [one] at hv; done) | rfl
theorem gfill_step {places : Nat → Option (Nat × Nat)} {cells : List Value} {i off size : Nat} {v : Value} {r : List (Nat × Value)} (hp : places i = some (off, size)) (hs : v.cells.size = size) (hl : off + size ≤ cells.length) :
    gfill places cells ((i, v) :: r) = gfill places (lset cells off v.cells.toList) r := by
  simp only [gfill, hp, gfill.constOk1, hs, hl, decide_true, Bool.and_self, cond_true]
theorem BuildR.ok {pl : List (Nat × Nat)} {zs out : List Value} {vs : List (Nat × Value)} (h : BuildR pl zs vs out) : gfill (fun i : Nat => pl[i]?) zs vs = some out := by
  induction h with
  | nil => rfl
  | @one zs zs' i off v r out hp ho hs _ ih =>
    obtain ⟨h1, h2⟩ := setAt_putAt hs
    have e := one_cells ho
    rw [gfill_step hp (by rw [e]; rfl) h1, e]
    rw [← ih, h2]
  | @agg zs zs' i off s vs r out hp ho hs _ ih =>
    obtain ⟨h1, h2⟩ := hs
    rw [gfill_step hp (by simpa [Value.cells] using ho) (by omega)]
    rw [← ih, h2]; rfl

/-- The elements of a slice that is written out. -/
inductive CatR (s : Nat) : Nat → List (Nat × Value) → List Value → Prop
  | nil {k} : CatR s k [] []
  | one {k v r out} (hs : s = 1) (ho : Go.Gh.one v = true) (h : CatR s (k + 1) r out) : CatR s k ((k, v) :: r) (v :: out)
  | agg {k vs r out} (ho : vs.length = s) (h : CatR s (k + 1) r out) : CatR s k ((k, .agg ⟨vs⟩) :: r) (vs ++ out)
  | last {k vs} (ho : vs.length = s) : CatR s k [(k, .agg ⟨vs⟩)] vs
theorem CatR.len {s k : Nat} {vs : List (Nat × Value)} {out : List Value} (h : CatR s k vs out) : out.length = vs.length * s := by
  induction h with
  | nil => simp
  | one hs _ _ ih => subst hs; simp [ih]
  | agg ho _ ih => simp only [List.length_append, List.length_cons, ho, ih, Nat.add_mul, Nat.one_mul]; omega
  | last ho => simp [ho]
theorem CatR.ok {s k : Nat} {vs : List (Nat × Value)} {out : List Value} (h : CatR s k vs out) : ∀ pre zs : List Value, pre.length = k * s → zs.length = vs.length * s → gfill (fun i => some (i * s, s)) (pre ++ zs) vs = some (pre ++ out) := by
  have step : ∀ (pre zs cs : List Value) (k m : Nat), pre.length = k * s → cs.length = s → zs.length = (m + 1) * s → lset (pre ++ zs) (k * s) cs = (pre ++ cs) ++ zs.drop s := by
    intro pre zs cs k m h1 h2 h3
    unfold lset
    rw [← h1, h2, List.take_append_of_le_length (Nat.le_refl _), List.take_length, List.drop_append, List.drop_of_length_le (by omega), show pre.length + s - pre.length = s by omega, List.nil_append]
  have main : ∀ (k : Nat) (v : Value) (cs : List Value) (r : List (Nat × Value)) (out pre zs : List Value), v.cells.toList = cs → cs.length = s → pre.length = k * s → zs.length = (r.length + 1) * s →
      (∀ pre zs : List Value, pre.length = (k + 1) * s → zs.length = r.length * s → gfill (fun i => some (i * s, s)) (pre ++ zs) r = some (pre ++ out)) →
      gfill (fun i => some (i * s, s)) (pre ++ zs) ((k, v) :: r) = some (pre ++ (cs ++ out)) := by
    intro k v cs r out pre zs hv hc hp hz ih
    have hsz : v.cells.size = s := by rw [← Array.length_toList, hv, hc]
    have hle : k * s + s ≤ (pre ++ zs).length := by rw [List.length_append, hp, hz, Nat.add_mul]; omega
    rw [gfill_step rfl hsz hle, hv, step pre zs cs k r.length hp hc hz, ih (pre ++ cs) (zs.drop s) (by simp [hp, hc, Nat.add_mul]) (by rw [List.length_drop, hz, Nat.add_mul]; omega), List.append_assoc]
  induction h with
  | nil => intro pre zs h1 h2; simp at h2; subst h2; rfl
  | @one k v r out hs ho h ih =>
    subst hs
    intro pre zs h1 h2
    exact main k v [v] r out pre zs (by rw [one_cells ho]) rfl h1 h2 ih
  | @agg k vs r out ho h ih =>
    intro pre zs h1 h2
    exact main k (.agg ⟨vs⟩) vs r out pre zs rfl ho h1 h2 ih
  | @last k vs ho =>
    intro pre zs h1 h2
    have := main k (.agg ⟨vs⟩) vs [] [] pre zs rfl ho h1 h2 (fun pre zs _ h2 => by simp at h2; subst h2; rfl)
    rw [List.append_nil] at this
    exact this

structure Sd (p : Prop) : Prop where
  h : p
structure Ln (p : Prop) : Prop where
  h : p
structure Wr (p : Prop) : Prop where
  h : p
structure Ex (p : Prop) : Prop where
  h : p
structure Ce (p : Prop) : Prop where
  h : p
structure Rc (p : Prop) : Prop where
  h : p
structure Su (p : Prop) : Prop where
  h : p
structure Se (p : Prop) : Prop where
  h : p
structure Pu (p : Prop) : Prop where
  h : p

section
variable {P : Program} {tt : TT} {sz : Nat} {ops : Array Oper} {Q : SPost} {rest : List Oper} {a : AF} {h h' h1 : SH} {m : Mode} {t : Nat} {op : Op} {ty : TypeId} {pos : String} {aft : Array Edge} {p : Prop} {v : Value}

/-- An operation that only computes. -/
theorem o_g (ht : tt.Ok P) (hg : gpure tt a op = some (p, v)) (hN : Nat.blt t sz = true) (hp : Sd p) (k : GO m.next P sz ops Q rest ((t, v) :: a) h) : GO m P sz ops Q (⟨some t, op, ty, pos, aft, none⟩ :: rest) a h :=
  o_pure (fun _ _ _ hag => gpure_ok ht ((gpure_congr fun _ hx => hag.ev hx).trans hg) hp.1) hN k
theorem o_ar {kk : IntKind} {e r : Int} (ht : tt.Ok P) (hg : garith tt a op = some (p, kk, e)) (hN : Nat.blt t sz = true) (hp : Sd p) (hr : Wr (kk.wrap e = r)) (k : GO m.next P sz ops Q rest ((t, .int kk r) :: a) h) :
    GO m P sz ops Q (⟨some t, op, ty, pos, aft, none⟩ :: rest) a h := o_pure (fun _ _ _ hag => garith_ok ht ((garith_congr fun _ hx => hag.ev hx).trans hg) hp.1 hr.1) hN k
theorem o_ex {kk : IntKind} {e r : Int} (hg : gexact a op = some (p, kk, e)) (hN : Nat.blt t sz = true) (hp : Sd p) (hr : Ex (e = r)) (k : GO m.next P sz ops Q rest ((t, .int kk r) :: a) h) :
    GO m P sz ops Q (⟨some t, op, ty, pos, aft, none⟩ :: rest) a h := o_pure (fun _ _ _ hag => gexact_ok ((gexact_congr fun _ hx => hag.ev hx).trans hg) hp.1 hr.1) hN k
theorem o_not {T : Nat} {x : Operand} {q : Prop} {_ : Decidable (q)} (hx : ev a x = some (.bool (decide q))) (hN : Nat.blt t sz = true) (k : GO m.next P sz ops Q rest ((t, .bool (decide (¬ q))) :: a) h) :
    GO m P sz ops Q (⟨some t, .unOp .not T x, ty, pos, aft, none⟩ :: rest) a h := by
  refine o_pure (fun _ _ _ hag => ?_) hN k
  rw [show decide (¬ q) = !decide q from by simp]
  exact a_not _ _ rfl ((hag.ev (by simp [Op.operands, Call.operands])).trans hx)
theorem o_notB {T : Nat} {x : Operand} {b : Bool} (hx : ev a x = some (.bool b)) (hN : Nat.blt t sz = true) (k : GO m.next P sz ops Q rest ((t, .bool (!b)) :: a) h) :
    GO m P sz ops Q (⟨some t, .unOp .not T x, ty, pos, aft, none⟩ :: rest) a h := o_pure (fun _ _ _ hag => a_not _ _ rfl ((hag.ev (by simp [Op.operands, Call.operands])).trans hx)) hN k
theorem o_makeFunc {fn : Fn} {xs ys : List Operand} {us vs : List Value} (hx : evs a xs = some us) (hy : evs a ys = some vs) (hN : Nat.blt t sz = true) (k : GO m.next P sz ops Q rest ((t, .func fn us.toArray vs.toArray) :: a) h) :
    GO m P sz ops Q (⟨some t, .makeFunc fn xs.toArray ys.toArray, ty, pos, aft, none⟩ :: rest) a h := o_pure (fun _ _ _ hag => a_makeFunc fn xs ys rfl ((evs_congr fun x hx => hag.ev (by simp [Op.operands, hx])).trans hx) ((evs_congr fun x hx => hag.ev (by simp [Op.operands, hx])).trans hy)) hN k
theorem o_convs {T U : Nat} {x : Operand} {l : List UInt8} (ht : tt.Ok P) (hx : ev a x = some (S l)) {e1 e2 : TE} (h1 : tt.get T = some e1) (h2 : tt.get U = some e2) (k1 : e1.k = .str) (k2 : e2.k = .str) (hN : Nat.blt t sz = true) (k : GO m.next P sz ops Q rest ((t, S l) :: a) h) :
    GO m P sz ops Q (⟨some t, .convert T U x, ty, pos, aft, none⟩ :: rest) a h := o_pure (fun _ _ _ hag => a_convs T U x rfl ((hag.ev (by simp [Op.operands, Call.operands])).trans hx) (te_str (TT.get_ok ht h1) k1) (te_str (TT.get_ok ht h2) k2)) hN k
/-- x[lo:] of nothing. -/
theorem o_cutend {T : Nat} {x lo : Operand} {A off n len fl : Nat} {j : IntKind} {i : Int} {E s b : Nat} {z : Option Value} {e : TE} (ht : tt.Ok P) (hx : ev a x = some (gsl A off n len fl)) (hlo : ev a lo = some (.int j i)) (hT : tt.get T = some ⟨.slice E, s, b, z⟩) (hE : tt.get E = some e) (hi : i = len)
    (hN : Nat.blt t sz = true) (k : GO m.next P sz ops Q rest ((t, sempty) :: a) h) : GO m P sz ops Q (⟨some t, .slice T x (some lo) none none, ty, pos, aft, none⟩ :: rest) a h :=
  o_pure (fun _ _ _ hag => let ⟨_, hI, _⟩ := te_inf (TT.get_ok ht hE); a_cutend T x lo rfl ((hag.ev (by simp [Op.operands, Call.operands])).trans hx) ((hag.ev (by simp [Op.operands, Call.operands])).trans hlo) (te_slice (TT.get_ok ht hT) rfl) hI hi) hN k
/-- Structs of scalars are compared. -/
theorem o_eqs {T U : Nat} {x y : Operand} {xs ys : List Value} {n : Nat} (hx : ev a x = some (.agg ⟨xs⟩)) (hy : ev a y = some (.agg ⟨ys⟩)) (hn : xs.length = n) (hT : flatB P T n = true) (hm : ys.length = n) (hl : cellsLike xs ys = true) (hk : kindsB P T xs = true) (hN : Nat.blt t sz = true)
    (k : GO m.next P sz ops Q rest ((t, .bool (decide (cellsEqB xs ys = true))) :: a) h) : GO m P sz ops Q (⟨some t, .binOp .eql T x y U, ty, pos, aft, none⟩ :: rest) a h := o_pure (fun _ _ _ hag => a_eqs T U x y rfl ((hag.ev (by simp [Op.operands, Call.operands])).trans hx) ((hag.ev (by simp [Op.operands, Call.operands])).trans hy) hT hn hm hl hk) hN k
theorem o_neqs {T U : Nat} {x y : Operand} {xs ys : List Value} {n : Nat} (hx : ev a x = some (.agg ⟨xs⟩)) (hy : ev a y = some (.agg ⟨ys⟩)) (hn : xs.length = n) (hT : flatB P T n = true) (hm : ys.length = n) (hl : cellsLike xs ys = true) (hk : kindsB P T xs = true) (hN : Nat.blt t sz = true)
    (k : GO m.next P sz ops Q rest ((t, .bool (decide (¬ cellsEqB xs ys = true))) :: a) h) : GO m P sz ops Q (⟨some t, .binOp .neq T x y U, ty, pos, aft, none⟩ :: rest) a h := o_pure (fun _ _ _ hag => a_neqs T U x y rfl ((hag.ev (by simp [Op.operands, Call.operands])).trans hx) ((hag.ev (by simp [Op.operands, Call.operands])).trans hy) hT hn hm hl hk) hN k
theorem o_buildArr {T n E : Nat} {ps : List (Nat × Operand)} {zs out : List Value} {s b : Nat} {e : TE} {vs : List (Nat × Value)} (ht : tt.Ok P) (hT : tt.get T = some ⟨.arr n E, s, b, some (.agg ⟨zs⟩)⟩) (hE : tt.get E = some e) (hv : evps a ps = some vs)
    (hz : constOk (.agg ⟨zs⟩) = true) (hb : BuildR (arrPl n e.sz) zs vs out) (hN : Nat.blt t sz = true) (k : GO m.next P sz ops Q rest ((t, .agg ⟨out⟩) :: a) h) : GO m P sz ops Q (⟨some t, .build T ps.toArray, ty, pos, aft, none⟩ :: rest) a h :=
  o_pure (fun _ _ _ hag => let ⟨_, hI, hz'⟩ := te_inf (TT.get_ok ht hT); let ⟨_, hI2, _⟩ := te_inf (TT.get_ok ht hE); a_buildArr T ps rfl ((evps_congr fun x hx => hag.ev (by simp only [Op.operands]; exact List.mem_toArray.2 (List.mem_map.2 ⟨x, by simpa using hx, rfl⟩))).trans hv) (te_arr (TT.get_ok ht hT) rfl) hI2 (hz' _ rfl ▸ hI) hz hb.ok) hN k

theorem o_load {T : Nat} {x : Operand} {A off n : Nat} {g : Blk} {e : TE} (ht : tt.Ok P) (hx : ev a x = some (gptr A off n)) (hT : tt.get T = some e) (hk : e.k.agg = false) (hp : Pick h A g h1) (hN : Nat.blt t sz = true) (hn : Ln (g.cells.length = n)) (hc : Ce (g.cells[off]? = some v))
    (hok : m.rdOk ops fun h' => Rc (∃ g h1, Pick h' A g h1 ∧ Ln (g.cells.length = n) ∧ Ce (g.cells[off]? = some v))) (k : GO (m.rd fun h' => Rc (∃ g h1, Pick h' A g h1 ∧ Ln (g.cells.length = n) ∧ Ce (g.cells[off]? = some v))) P sz ops Q rest ((t, v) :: a) h) : GO m P sz ops Q (⟨some t, .load T x, ty, pos, aft, none⟩ :: rest) a h :=
  o_read (fun h' => Rc (∃ g h1, Pick h' A g h1 ∧ Ln (g.cells.length = n) ∧ Ce (g.cells[off]? = some v))) ⟨_, _, hp, hn, hc⟩ (fun _ _ _ _ _ i ⟨_, _, hp, ⟨hn⟩, ⟨hc⟩⟩ hag => a_load T x rfl ((hag.ev (by simp [Op.operands, Call.operands])).trans hx) (by rw [te_agg (TT.get_ok ht hT), hk]) (i.look hp) hn hc) hN hok k
/-- Cells of a block from a place on. -/
def SubAt (l : List Value) (o : Nat) (vs : List Value) : Prop := ∀ (i : Nat) v, vs[i]? = some v → l[o + i]? = some v
theorem subAt_all {l : List Value} : SubAt l 0 l := fun i v h => by rw [Nat.zero_add]; exact h
theorem o_loads {T : Nat} {x : Operand} {A off n : Nat} {g : Blk} {e : TE} {vs : List Value} (ht : tt.Ok P) (hx : ev a x = some (gptr A off n)) (hT : tt.get T = some e) (hk : e.k.agg = true) (hp : Pick h A g h1) (hN : Nat.blt t sz = true) (hn : Ln (g.cells.length = n)) (hc : Su (SubAt g.cells off vs)) (hs : Ln (vs.length = e.sz))
    (hok : m.rdOk ops fun h' => Rc (∃ g h1, Pick h' A g h1 ∧ Ln (g.cells.length = n) ∧ Su (SubAt g.cells off vs))) (k : GO (m.rd fun h' => Rc (∃ g h1, Pick h' A g h1 ∧ Ln (g.cells.length = n) ∧ Su (SubAt g.cells off vs))) P sz ops Q rest ((t, .agg ⟨vs⟩) :: a) h) : GO m P sz ops Q (⟨some t, .load T x, ty, pos, aft, none⟩ :: rest) a h :=
  o_read (fun h' => Rc (∃ g h1, Pick h' A g h1 ∧ Ln (g.cells.length = n) ∧ Su (SubAt g.cells off vs))) ⟨_, _, hp, hn, hc⟩ (fun _ _ _ _ _ i ⟨_, _, hp, ⟨hn⟩, ⟨hc⟩⟩ hag => let ⟨_, hI, _⟩ := te_inf (TT.get_ok ht hT); a_loads T x rfl ((hag.ev (by simp [Op.operands, Call.operands])).trans hx) (by rw [te_agg (TT.get_ok ht hT), hk]) hI (i.look hp) hn hs.1 hc) hN hok k
/-- string(bytes) -/
theorem o_toString {T U : Nat} {x : Operand} {A off n len fl E s b : Nat} {z : Option Value} {e1 e2 : TE} {g : Blk} {l : List UInt8} (ht : tt.Ok P) (hx : ev a x = some (gsl A off n len fl)) (hT : tt.get T = some ⟨.slice E, s, b, z⟩) (hE : tt.get E = some e1) (hU : tt.get U = some e2)
    (k1 : e1.k = .int .u8) (k2 : e2.k = .str) (hp : Pick h A g h1) (hN : Nat.blt t sz = true) (hn : Ln (g.cells.length = n)) (hc : Su (SubAt g.cells off (bytesV l))) (hl : Ln (l.length = len)) (hok : m.rdOk ops fun h' => Rc (∃ g h1, Pick h' A g h1 ∧ Ln (g.cells.length = n) ∧ Su (SubAt g.cells off (bytesV l)))) (k : GO (m.rd fun h' => Rc (∃ g h1, Pick h' A g h1 ∧ Ln (g.cells.length = n) ∧ Su (SubAt g.cells off (bytesV l)))) P sz ops Q rest ((t, S l) :: a) h) :
    GO m P sz ops Q (⟨some t, .convert T U x, ty, pos, aft, none⟩ :: rest) a h :=
  o_read (fun h' => Rc (∃ g h1, Pick h' A g h1 ∧ Ln (g.cells.length = n) ∧ Su (SubAt g.cells off (bytesV l)))) ⟨_, _, hp, hn, hc⟩ (fun _ _ _ _ _ i ⟨_, _, hp, ⟨hn⟩, ⟨hc⟩⟩ hag => a_toString T U x rfl ((hag.ev (by simp [Op.operands, Call.operands])).trans hx) (te_slice (TT.get_ok ht hT) rfl) (te_int (TT.get_ok ht hE) k1) (te_str (TT.get_ok ht hU) k2) (i.look hp) hn hl.1 hc) hN hok k
theorem o_toString_nil {T U : Nat} {x : Operand} {E s b : Nat} {z : Option Value} {e1 e2 : TE} (ht : tt.Ok P) (hx : ev a x = some (.slice none 0 0)) (hT : tt.get T = some ⟨.slice E, s, b, z⟩) (hE : tt.get E = some e1) (hU : tt.get U = some e2)
    (k1 : e1.k = .int .u8) (k2 : e2.k = .str) (hN : Nat.blt t sz = true) (k : GO m.next P sz ops Q rest ((t, S []) :: a) h) :
    GO m P sz ops Q (⟨some t, .convert T U x, ty, pos, aft, none⟩ :: rest) a h :=
  o_pure (fun _ _ _ hag => a_toString_nil T U x rfl ((hag.ev (by simp [Op.operands, Call.operands])).trans hx) (te_slice (TT.get_ok ht hT) rfl) (te_int (TT.get_ok ht hE) k1) (te_str (TT.get_ok ht hU) k2)) hN k
def vcells : Value → List Value
  | .agg ⟨vs⟩ => vs
  | v => [v]
theorem vcells_ok (v : Value) : v.cells.toList = vcells v := by cases v <;> rfl
def vcl (v : Value) : Option (List Value) := match v with
  | .agg ⟨vs⟩ => some vs
  | v => some [v]
theorem vcl_ok {v : Value} {c : List Value} (hv : vcl v = some c) : v.cells.toList = c := by
  cases v <;> (simp only [vcl, Option.some.injEq] at hv; subst hv; rfl)
theorem o_alloc {T s b : Nat} {tk : TK} {z : Value} {c : List Value} (ht : tt.Ok P) (hT : tt.get T = some ⟨tk, s, b, some z⟩) (hc : vcl z = some c) (hz : constOk z = true) (hs : c.length = s) (hN : Nat.blt t sz = true)
    (k : ∀ A, GO (m.nw h (A, ⟨c, false⟩)) P sz ops Q rest ((t, gptr A 0 s) :: a) ((A, ⟨c, false⟩) :: h)) : GO m P sz ops Q (⟨some t, .alloc T, ty, pos, aft, none⟩ :: rest) a h := by
  have hc' := vcl_ok hc
  have hs' : z.cells.size = s := by rw [← Array.length_toList, hc', hs]
  subst hc' hs'
  obtain ⟨_, hI, hz'⟩ := te_inf (TT.get_ok ht hT)
  exact o_new (v := fun A => gptr A 0 _) hN (fun _ _ _ _ _ hpl _ => e_alloc T rfl (hz' _ rfl ▸ hI) hz hpl) k
theorem o_box {T : Nat} {x : Operand} {s b : Nat} {tk : TK} {z : Option Value} {c : List Value} (_hT : tt.get T = some ⟨tk, s, b, z⟩) (hx : ev a x = some v) (hc : vcl v = some c) (hs : c.length = s) (hN : Nat.blt t sz = true)
    (k : ∀ A, GO (m.nw h (A, ⟨c, false⟩)) P sz ops Q rest ((t, gptr A 0 s) :: a) ((A, ⟨c, false⟩) :: h)) : GO m P sz ops Q (⟨some t, .box T x, ty, pos, aft, none⟩ :: rest) a h := by
  have hc' := vcl_ok hc
  have hs' : v.cells.size = s := by rw [← Array.length_toList, hc', hs]
  subst hc' hs'
  exact o_new (v := fun A => gptr A 0 _) hN (fun _ _ _ _ _ hpl hag => e_box T x rfl ((hag.ev (by simp [Op.operands, Call.operands])).trans hx) hpl) k
theorem o_buildSlice {T n : Nat} {ps : List (Nat × Operand)} {E s1 b1 s b : Nat} {tk : TK} {z1 : Option Value} {z : Value} {vs : List (Nat × Value)} {out : List Value} (ht : tt.Ok P) (hT : tt.get T = some ⟨.slice E, s1, b1, z1⟩) (hE : tt.get E = some ⟨tk, s, b, some z⟩) (hz : constOk z = true) (hzs : (vcells z).length = s)
    (hv : evps a ps = some vs) (hs : 0 < s) (hn : vs.length = n) (hle : n * s ≤ 16777216) (hc : CatR s 0 vs out) (hN : Nat.blt t sz = true) (k : ∀ A, GO (m.nw h (A, ⟨out, false⟩)) P sz ops Q rest ((t, gsl A 0 (n * s) n s) :: a) ((A, ⟨out, false⟩) :: h)) :
    GO m P sz ops Q (⟨some t, .buildSlice T n ps.toArray, ty, pos, aft, none⟩ :: rest) a h := by
  obtain ⟨_, hI, hz'⟩ := te_inf (TT.get_ok ht hE)
  have hzs' : z.cells.size = s := by rw [← Array.length_toList, vcells_ok, hzs]
  have h0 := hc.ok [] (zrow z (n * s)) (by simp) (by rw [hn]; simp [zrow])
  exact o_new (v := fun A => gsl A 0 _ _ _) hN (fun _ _ _ _ _ hpl hag => e_buildSlice T n ps rfl ((evps_congr fun x hx => hag.ev (by simp only [Op.operands]; exact List.mem_toArray.2 (List.mem_map.2 ⟨x, by simpa using hx, rfl⟩))).trans hv) (te_slice (TT.get_ok ht hT) rfl) (hz' _ rfl ▸ hI) hz hzs' hs hle h0 hpl) k
theorem o_makeSlice {T : Nat} {x y : Operand} {E s1 b1 s b : Nat} {tk : TK} {z1 : Option Value} {z : Value} {j kk : IntKind} {n c : Int} {cells : List Value} (ht : tt.Ok P) (hx : ev a x = some (.int j n)) (hy : ev a y = some (.int kk c)) (hT : tt.get T = some ⟨.slice E, s1, b1, z1⟩) (hE : tt.get E = some ⟨tk, s, b, some z⟩) (hz : constOk z = true)
    (hzs : (vcells z).length = s) (hs : 0 < s) (hn : 0 ≤ n ∧ n ≤ c ∧ (b : Int) * c ≤ 281474976710656 ∧ c ≤ 9223372036854775807) (hc : zrow z (n.toNat * s) = cells) (hN : Nat.blt t sz = true)
    (k : ∀ A, GO (m.nw h (A, ⟨cells, false⟩)) P sz ops Q rest ((t, gsl A 0 (n.toNat * s) n.toNat s) :: a) ((A, ⟨cells, false⟩) :: h)) : GO m P sz ops Q (⟨some t, .makeSlice T x y, ty, pos, aft, none⟩ :: rest) a h := by
  obtain ⟨_, hI, hz'⟩ := te_inf (TT.get_ok ht hE)
  have hzs' : z.cells.size = s := by rw [← Array.length_toList, vcells_ok, hzs]
  subst hc
  exact o_new (v := fun A => gsl A 0 _ _ _) hN (fun _ _ _ _ _ hpl hag => e_makeSlice T x y rfl ((hag.ev (by simp [Op.operands, Call.operands])).trans hx) ((hag.ev (by simp [Op.operands, Call.operands])).trans hy) (te_slice (TT.get_ok ht hT) rfl) (hz' _ rfl ▸ hI) hz hzs' hs hn hpl) k
theorem o_toBytes {T U : Nat} {x : Operand} {l : List UInt8} {E s b : Nat} {z : Option Value} {e1 e2 : TE} (ht : tt.Ok P) (hx : ev a x = some (S l)) (hT : tt.get T = some e1) (hU : tt.get U = some ⟨.slice E, s, b, z⟩) (hE : tt.get E = some e2) (k1 : e1.k = .str) (k2 : e2.k = .int .u8) (hN : Nat.blt t sz = true) (hl : Sd (l.length ≤ maxLen))
    (k : ∀ A, GO (m.nw h (A, ⟨bytesV l, false⟩)) P sz ops Q rest ((t, gsl A 0 l.length l.length 1) :: a) ((A, ⟨bytesV l, false⟩) :: h)) : GO m P sz ops Q (⟨some t, .convert T U x, ty, pos, aft, none⟩ :: rest) a h :=
  o_new (v := fun A => gsl A 0 _ _ _) hN (fun _ _ _ _ _ hpl hag => e_toBytes T U x rfl ((hag.ev (by simp [Op.operands, Call.operands])).trans hx) (te_str (TT.get_ok ht hT) k1) (te_slice (TT.get_ok ht hU) rfl) (te_int (TT.get_ok ht hE) k2) hl.1 hpl) k

theorem o_store {T : Nat} {x y : Operand} {A off n b : Nat} {tk : TK} {z : Option Value} {cells cells' : List Value} (ht : tt.Ok P) (hx : ev a x = some (gptr A off n)) (hy : ev a y = some v) (h1 : one v = true) (hT : tt.get T = some ⟨tk, 1, b, z⟩) (hu : Upd h A ⟨cells, false⟩ ⟨cells', false⟩ h') (hn : Ln (cells.length = n)) (hs : Se (SetAt cells off v cells'))
    (hok : m.efOk ops h') (k : GO (m.ef h) P sz ops Q rest a h') : GO m P sz ops Q (⟨none, .store T x y, ty, pos, aft, none⟩ :: rest) a h := by
  obtain ⟨h2, rfl⟩ := hs.1.ok
  have hn1 := hn.1
  obtain ⟨_, hI, _⟩ := te_inf (TT.get_ok ht hT)
  exact o_upd rfl hu (fun _ _ _ hA hag => e_store T x y rfl ((hag.ev (by simp [Op.operands, Call.operands])).trans hx) ((hag.ev (by simp [Op.operands, Call.operands])).trans hy) h1 hI hA hn.1 (Nat.ble_eq_true_of_le (by omega))) hok k
theorem o_stores {T : Nat} {x y : Operand} {A off n : Nat} {e : TE} {cells cells' vs : List Value} (ht : tt.Ok P) (hx : ev a x = some (gptr A off n)) (hy : ev a y = some (.agg ⟨vs⟩)) (h1 : vs.all one = true) (hT : tt.get T = some e) (hs : Ln (vs.length = e.sz)) (hu : Upd h A ⟨cells, false⟩ ⟨cells', false⟩ h') (hn : Ln (cells.length = n)) (hc : Pu (PutAt cells off vs cells'))
    (hok : m.efOk ops h') (k : GO (m.ef h) P sz ops Q rest a h') : GO m P sz ops Q (⟨none, .store T x y, ty, pos, aft, none⟩ :: rest) a h := by
  obtain ⟨⟨h2, rfl⟩⟩ := hc
  have hn1 := hn.1
  have hs1 := hs.1
  obtain ⟨_, hI, _⟩ := te_inf (TT.get_ok ht hT)
  exact o_upd rfl hu (fun _ _ _ hA hag => e_stores T x y rfl ((hag.ev (by simp [Op.operands, Call.operands])).trans hx) ((hag.ev (by simp [Op.operands, Call.operands])).trans hy) h1 hI hs.1 hA hn.1 (Nat.ble_eq_true_of_le (by omega))) hok k
end
end Go.Gh
end
section
set_option linter.unusedVariables false
set_option linter.unusedSimpArgs false
set_option maxRecDepth 4000
namespace Go.Gh
open Go.RowKit

section
variable {α : Type} {f : α → List Value} {w : Nat}
def recs (f : α → List Value) : List α → List Value
  | [] => []
  | x :: r => f x ++ recs f r
@[simp] theorem recs_nil : recs f [] = [] := rfl
theorem recs_app : ∀ {l m : List α}, recs f (l ++ m) = recs f l ++ recs f m
  | [], _ => rfl
  | x :: r, m => by simp only [List.cons_append, recs, recs_app (l := r), List.append_assoc]
theorem recs_one {x : α} : recs f [x] = f x := List.append_nil _
theorem recs_snoc {l : List α} {x : α} : recs f (l ++ [x]) = recs f l ++ f x := by rw [recs_app, recs_one]
theorem recs_snocE {l : List α} {x : α} {c : List Value} (h : c = f x) : recs f l ++ c = recs f (l ++ [x]) := by rw [h, recs_snoc]
theorem recs_len (hw : ∀ x, (f x).length = w) : ∀ l : List α, (recs f l).length = l.length * w
  | [] => by simp [recs]
  | x :: r => by simp only [recs, List.length_append, List.length_cons, hw, recs_len hw r, Nat.add_mul, Nat.one_mul]; omega
theorem recs_get [Inhabited α] (hw : ∀ x, (f x).length = w) : ∀ {l : List α} {i j : Nat}, i < l.length → j < w → (recs f l)[i * w + j]? = (f l[i]!)[j]?
  | [], i, j, h, _ => by simp at h
  | x :: r, 0, j, _, hj => by
    simp only [recs, Nat.zero_mul, Nat.zero_add]
    rw [List.getElem?_append_left (by rw [hw]; exact hj)]
    rfl
  | x :: r, i + 1, j, h, hj => by
    simp only [recs]
    rw [List.getElem?_append_right (by rw [hw, Nat.add_mul]; omega), hw, show (i + 1) * w + j - w = i * w + j by rw [Nat.add_mul]; omega,
      recs_get hw (by simpa using h) hj]
    simp
theorem recs_set (hw : ∀ x, (f x).length = w) : ∀ {l : List α} {i : Nat} {x : α}, i < l.length → lset (recs f l) (i * w) (f x) = recs f (l.set i x)
  | [], i, x, h => by simp at h
  | y :: r, 0, x, _ => by
    simp only [recs, lset, List.set_cons_zero, Nat.zero_mul, List.take_zero, List.nil_append, Nat.zero_add, hw]
    rw [List.drop_append_of_le_length (by rw [hw]; exact Nat.le_refl _), List.drop_of_length_le (by rw [hw]; exact Nat.le_refl _), List.nil_append]
  | y :: r, i + 1, x, h => by
    have ih := recs_set hw (l := r) (i := i) (x := x) (by simpa using h)
    simp only [lset, hw] at ih
    simp only [recs, lset, List.set_cons_succ, hw]
    rw [← ih, show (i + 1) * w = (f y).length + i * w by rw [hw, Nat.add_mul]; omega, show (f y).length + i * w + w = (f y).length + (i * w + w) from by omega, List.take_append, List.drop_append, List.take_of_length_le (by omega), List.drop_of_length_le (l := f y) (by omega)]
    simp [List.append_assoc]
/-- A record, a cell of a record. -/
theorem subAt_rec [Inhabited α] {l : List α} {i : Nat} (hw : ∀ x, (f x).length = w) (hi : i < l.length) : SubAt (recs f l) (0 + i * w) (f l[i]!) := fun j v hj => by
  have hj2 := (List.getElem?_eq_some_iff.1 hj).1
  rw [hw] at hj2
  rw [Nat.zero_add, recs_get hw hi hj2]; exact hj
theorem subAt_recZ [Inhabited α] {l : List α} {i : Nat} (hw : ∀ x, (f x).length = w) (hi : i < l.length) : SubAt (recs f l) (0 + ((i : Int)).toNat * w) (f l[i]!) := subAt_rec hw hi
theorem cell_rec [Inhabited α] {l : List α} {i fo : Nat} {v : Value} (hw : ∀ x, (f x).length = w) (hi : i < l.length) (hf : fo < w) (hv : (f l[i]!)[fo]? = some v) : (recs f l)[0 + i * w + fo]? = some v := by
  rw [Nat.zero_add, recs_get hw hi hf]; exact hv
theorem cell_recZ [Inhabited α] {l : List α} {i fo : Nat} {v : Value} (hw : ∀ x, (f x).length = w) (hi : i < l.length) (hf : fo < w) (hv : (f l[i]!)[fo]? = some v) : (recs f l)[0 + ((i : Int)).toNat * w + fo]? = some v := cell_rec hw hi hf hv
theorem putAt_rec {l : List α} {i : Nat} {x : α} (hw : ∀ x, (f x).length = w) (hi : i < l.length) : PutAt (recs f l) (0 + i * w) (f x) (recs f (l.set i x)) := by
  refine ⟨?_, ?_⟩
  · rw [hw, recs_len hw, Nat.zero_add]
    calc i * w + w = (i + 1) * w := by rw [Nat.add_mul, Nat.one_mul]
      _ ≤ l.length * w := Nat.mul_le_mul_right w hi
  · rw [Nat.zero_add]; exact (recs_set hw hi).symm
theorem putAt_recZ {l : List α} {i : Nat} {x : α} (hw : ∀ x, (f x).length = w) (hi : i < l.length) : PutAt (recs f l) (0 + ((i : Int)).toNat * w) (f x) (recs f (l.set i x)) := putAt_rec hw hi
end
section
variable {α : Type} {f : α → Value}
theorem cell_map [Inhabited α] {l : List α} {i : Nat} (hi : i < l.length) : (l.map f)[0 + i * 1]? = some (f l[i]!) := by
  rw [Nat.zero_add, Nat.mul_one, List.getElem?_map, List.getElem?_eq_getElem hi, getElem!_pos l i hi]; rfl
theorem cell_mapZ [Inhabited α] {l : List α} {i : Nat} (hi : i < l.length) : (l.map f)[0 + ((i : Int)).toNat * 1]? = some (f l[i]!) := cell_map hi
theorem setAt_map {l : List α} {i : Nat} {x : α} (hi : i < l.length) : SetAt (l.map f) (0 + i * 1) (f x) ((l.set i x).map f) := by
  rw [Nat.zero_add, Nat.mul_one, List.map_set]; exact SetAt.any (by simpa using hi)
theorem setAt_mapZ {l : List α} {i : Nat} {x : α} (hi : i < l.length) : SetAt (l.map f) (0 + ((i : Int)).toNat * 1) (f x) ((l.set i x).map f) := setAt_map hi
theorem map_zrow {z : Value} (x : α) (h : one z = true) (hz : z = f x) (n : Nat) : zrow z (n * 1) = (List.replicate n x).map f := by
  rw [zrow_one h, Nat.mul_one, List.map_replicate, hz]
end
theorem map_snocE {α : Type} {f : α → Value} {l : List α} {x : α} {v : Value} (h : v = f x) : l.map f ++ [v] = (l ++ [x]).map f := by rw [h, List.map_append]; rfl
theorem cell_bytes {l : List UInt8} {i : Int} (hi : 0 ≤ i ∧ i < l.length) : (bytesV l)[0 + i.toNat * 1]? = some (.int .u8 (bat l i)) := by
  have h : i.toNat < l.length := by omega
  rw [Nat.zero_add, Nat.mul_one]
  unfold bytesV bat
  rw [List.getElem?_map, List.getElem?_eq_getElem h, List.getD_eq_getElem?_getD, List.getElem?_eq_getElem h]; rfl
@[simp] theorem bytesV_nil : bytesV [] = [] := rfl
/-- The byte of a number. -/
def b8 (n : Int) : UInt8 := UInt8.ofNat n.toNat
theorem b8_val {n : Int} (h : 0 ≤ n ∧ n < 256) : ((b8 n).toNat : Int) = n := by
  unfold b8; rw [UInt8.toNat_ofNat']; omega
theorem bytesV_one {n : Int} (h : 0 ≤ n ∧ n < 256) : bytesV [b8 n] = [.int .u8 n] := by
  show [Value.int .u8 ((b8 n).toNat : Int)] = _; rw [b8_val h]
theorem setAt_bytes {l : List UInt8} {i n : Int} (hi : 0 ≤ i ∧ i < l.length) (h : 0 ≤ n ∧ n < 256) : SetAt (bytesV l) (0 + i.toNat * 1) (.int .u8 n) (bytesV (l.set i.toNat (b8 n))) := by
  have e : (.int .u8 n : Value) = .int .u8 ((b8 n).toNat : Int) := by rw [b8_val h]
  have hlt : i.toNat < l.length := by omega
  rw [e]
  exact setAt_map (f := fun c : UInt8 => Value.int .u8 (c.toNat : Int)) (x := b8 n) hlt

section
variable {P : Program} {tt : TT} {a : AF} {h h1 : SH} {fn : Func} {R : Value → SH → Prop} {vs : List Value}
theorem res_cell {A n b T : Nat} {cs : List Value} {ro : Bool} {e : TE} {r : List ResultVar} {us : List Value} (ht : tt.Ok P) (hb : get a b = some (gptr A 0 n)) (hT : tt.get T = some e) (hk : e.k.agg = true) (hp : Pick h A ⟨cs, ro⟩ h1) (hn : cs.length = n) (hs : cs.length = e.sz) (hr : ResS P a h r us) :
    ResS P a h (.cell b T :: r) (.agg ⟨cs⟩ :: us) := by
  refine ⟨⟨A, 0, n, ⟨cs, ro⟩, h1, hb, hp, hn, .inl ?_⟩, hr⟩
  obtain ⟨z, hI, _⟩ := te_inf (TT.get_ok ht hT)
  refine ⟨z, _, _, by rw [te_agg (TT.get_ok ht hT), hk], hI, by simp [hs], ?_⟩
  rw [List.drop_zero, ← hs]
  congr 1
  simp
end
section
variable {P : Program} {sz : Nat} {ops : Array Oper} {Q : SPost} {rest : List Oper} {a : AF} {h : SH} {m : Mode} {t j d : Nat} {op : Op} {ty : TypeId} {pos : String} {aft : Array Edge}
theorem w_ifN {c : Operand} {x y : Code} {q : Prop} {_ : Decidable ((¬ q))} (hc : ev a c = some (.bool (decide (¬ q)))) (h1 : ¬ q → SWp P sz x Q a h) (h2 : q → SWp P sz y Q a h) : SWp P sz (.cond c x y) Q a h :=
  w_if hc h1 (fun hn => h2 (Classical.not_not.1 hn))
theorem o_guardTN {q : Prop} {_ : Decidable (¬ q)} (hd : (ops[j]?).bind (·.dst) = some d) (hb : get a d = some (.bool (decide (¬ q)))) (hN : Nat.blt t sz = true)
    (h1 : ¬ q → GO m P sz ops Q (⟨some t, op, ty, pos, aft, none⟩ :: rest) ((d, .bool true) :: a) h) (h2 : q → GO m.next P sz ops Q rest ((t, undef) :: (d, .bool false) :: a) h) :
    GO m P sz ops Q (⟨some t, op, ty, pos, aft, some (j, true)⟩ :: rest) a h := o_guardT hd hb hN h1 (fun hn => h2 (Classical.not_not.1 hn))
theorem o_guardFN {q : Prop} {_ : Decidable (¬ q)} (hd : (ops[j]?).bind (·.dst) = some d) (hb : get a d = some (.bool (decide (¬ q)))) (hN : Nat.blt t sz = true)
    (h1 : q → GO m P sz ops Q (⟨some t, op, ty, pos, aft, none⟩ :: rest) ((d, .bool false) :: a) h) (h2 : ¬ q → GO m.next P sz ops Q rest ((t, undef) :: (d, .bool true) :: a) h) :
    GO m P sz ops Q (⟨some t, op, ty, pos, aft, some (j, false)⟩ :: rest) a h := o_guardF hd hb hN (fun hn => h1 (Classical.not_not.1 hn)) h2
theorem o_gT {p : Prop} {_ : Decidable (p)} {want : Bool} (hd : (ops[j]?).bind (·.dst) = some d) (hb : get a d = some (.bool (decide p))) (hw : want = true) (hp : p)
    (k : GO m P sz ops Q (⟨some t, op, ty, pos, aft, none⟩ :: rest) ((d, .bool true) :: a) h) : GO m P sz ops Q (⟨some t, op, ty, pos, aft, some (j, want)⟩ :: rest) a h := by
  subst hw
  rw [decide_eq_true hp] at hb
  exact o_again hb (o_want hd (by unfold get; rw [show Nat.beq d d = true from Nat.beq_refl d]; rfl) k)
theorem o_gF {p : Prop} {_ : Decidable (p)} {want : Bool} (hd : (ops[j]?).bind (·.dst) = some d) (hb : get a d = some (.bool (decide p))) (hw : want = false) (hp : ¬ p)
    (k : GO m P sz ops Q (⟨some t, op, ty, pos, aft, none⟩ :: rest) ((d, .bool false) :: a) h) : GO m P sz ops Q (⟨some t, op, ty, pos, aft, some (j, want)⟩ :: rest) a h := by
  subst hw
  rw [decide_eq_false hp] at hb
  exact o_again hb (o_want hd (by unfold get; rw [show Nat.beq d d = true from Nat.beq_refl d]; rfl) k)
theorem o_sF {p : Prop} {_ : Decidable (p)} {want : Bool} (hd : (ops[j]?).bind (·.dst) = some d) (hb : get a d = some (.bool (decide p))) (hw : want = true) (hp : ¬ p) (hN : Nat.blt t sz = true)
    (k : GO m.next P sz ops Q rest ((t, undef) :: (d, .bool false) :: a) h) : GO m P sz ops Q (⟨some t, op, ty, pos, aft, some (j, want)⟩ :: rest) a h := by
  subst hw
  rw [decide_eq_false hp] at hb
  exact o_again hb (o_skip hd (by unfold get; rw [show Nat.beq d d = true from Nat.beq_refl d]; rfl) rfl hN k)
theorem o_sT {p : Prop} {_ : Decidable (p)} {want : Bool} (hd : (ops[j]?).bind (·.dst) = some d) (hb : get a d = some (.bool (decide p))) (hw : want = false) (hp : p) (hN : Nat.blt t sz = true)
    (k : GO m.next P sz ops Q rest ((t, undef) :: (d, .bool true) :: a) h) : GO m P sz ops Q (⟨some t, op, ty, pos, aft, some (j, want)⟩ :: rest) a h := by
  subst hw
  rw [decide_eq_true hp] at hb
  exact o_again hb (o_skip hd (by unfold get; rw [show Nat.beq d d = true from Nat.beq_refl d]; rfl) rfl hN k)
end
section
variable {P : Program} {f : FuncId} {fn : Func} {c : Code} {h : SH} {R : Value → SH → Prop} {x0 x1 x2 x3 x4 x5 x6 x7 x8 x9 : Value}
theorem w_body0 (hf : P.funcs[f]? = some fn) (hb : fn.body = some c) (hN : Nat.ble 0 fn.ntmps = true) (k : SWp P fn.ntmps c (bodyS P fn R) [] h) : SRun P f [] h R := w_body hf hb hN k
theorem w_body1 (hf : P.funcs[f]? = some fn) (hb : fn.body = some c) (hN : Nat.ble 1 fn.ntmps = true) (k : SWp P fn.ntmps c (bodyS P fn R) [(0, x0)] h) : SRun P f [x0] h R := w_body hf hb hN k
theorem w_body2 (hf : P.funcs[f]? = some fn) (hb : fn.body = some c) (hN : Nat.ble 2 fn.ntmps = true) (k : SWp P fn.ntmps c (bodyS P fn R) [(0, x0), (1, x1)] h) : SRun P f [x0, x1] h R := w_body hf hb hN k
theorem w_body3 (hf : P.funcs[f]? = some fn) (hb : fn.body = some c) (hN : Nat.ble 3 fn.ntmps = true) (k : SWp P fn.ntmps c (bodyS P fn R) [(0, x0), (1, x1), (2, x2)] h) : SRun P f [x0, x1, x2] h R := w_body hf hb hN k
end
theorem Pick.comm {h h1 h2 : SH} {A B : Nat} {a b : Blk} (p : Pick h A a h1) (q : Pick h1 B b h2) : ∃ h3, Pick h B b h3 ∧ Pick h3 A a h2 := by
  induction p generalizing h2 with
  | head => exact ⟨_, .tail q, .head⟩
  | tail p ih =>
    cases q with
    | head => exact ⟨_, .head, p⟩
    | tail q => obtain ⟨h3, g1, g2⟩ := ih q; exact ⟨_, .tail g1, .tail g2⟩
theorem Take.pick {h h1 h1' : SH} {A : Nat} {b : Blk} (t : Take h h1) (p : Pick h1 A b h1') : ∃ h', Pick h A b h' ∧ Take h' h1' := by
  induction t generalizing h1' with
  | nil => exact ⟨_, p, .nil⟩
  | cons pk t ih =>
    cases p with
    | head => exact ⟨_, pk, t⟩
    | tail p => obtain ⟨h2, g1, g2⟩ := ih p; obtain ⟨h3, g3, g4⟩ := pk.comm g1; exact ⟨h3, g3, .cons g4 g2⟩
  | consE pk e t ih =>
    subst e
    cases p with
    | head => exact ⟨_, pk, t⟩
    | tail p => obtain ⟨h2, g1, g2⟩ := ih p; obtain ⟨h3, g3, g4⟩ := pk.comm g1; exact ⟨h3, g3, .cons g4 g2⟩
  | drop t ih => obtain ⟨h2, g1, g2⟩ := ih p; exact ⟨_, .tail g1, .drop g2⟩
theorem Take.part {h h' r : SH} {A : Nat} {b : Blk} (p : Pick h A b h') (t : Take h' r) : Take h r := by
  induction t generalizing h with
  | @nil h' =>
    induction p with
    | head => exact .drop .nil
    | @tail A b x h h1 p ih => obtain ⟨B, c⟩ := x; exact .cons .head ih
  | cons q _ ih => obtain ⟨h3, g1, g2⟩ := p.comm q; exact .cons g1 (ih g2)
  | consE q e _ ih => obtain ⟨h3, g1, g2⟩ := p.comm q; exact .consE g1 e (ih g2)
  | @drop x h1 r t ih =>
    cases p with
    | head => exact .drop (.drop t)
    | tail p => exact .drop (ih p)
theorem Take.trans {h h1 h2 : SH} (t : Take h h1) (u : Take h1 h2) : Take h h2 := by
  induction u generalizing h with
  | nil => exact t
  | cons p _ ih => obtain ⟨h', g1, g2⟩ := t.pick p; exact .cons g1 (ih g2)
  | consE p e _ ih => obtain ⟨h', g1, g2⟩ := t.pick p; exact .consE g1 e (ih g2)
  | @drop x h1 r u ih =>
    obtain ⟨A, b⟩ := x
    obtain ⟨h', g1, g2⟩ := t.pick .head
    exact Take.part g1 (ih g2)
theorem SRun.take {P : Program} {f : FuncId} {as0 : List Value} {p p' : SH} {R : Value → SH → Prop} (t : Take p p') (k : SRun P f as0 p' R) : SRun P f as0 p R := by
  unfold SRun at k ⊢
  intro H i
  exact (k H (i.le t.le).refl).mono fun r H' ⟨q, g1, g2⟩ => ⟨q, g1, (i.le t.le).comp g2⟩
/-- A slice that came in: n elements, each of w cells; of a block only if there are any. -/
def Has (h : SH) (c : List Value) (w n : Nat) (v : Value) : Prop := ∃ ad fl, v = .slice ad n fl ∧ (n ≠ 0 → ∃ A ro h1, ad = some ⟨A, 0, some (w * n)⟩ ∧ Pick h A ⟨c, ro⟩ h1)
theorem pick_lock {h h1 : SH} {A : Nat} {b : Blk} (p : Pick h A b h1) : Pick (lockS h) A b.lock (lockS h1) := by
  induction p with
  | head => exact .head
  | tail _ ih => exact .tail ih
theorem take_lock {h h1 : SH} (t : Take h h1) : Take (lockS h) (lockS h1) := by
  induction t with
  | nil => exact .nil
  | cons p _ ih => exact .cons (pick_lock p) ih
  | consE p e _ ih => subst e; exact .cons (pick_lock p) ih
  | drop _ ih => exact .drop ih
theorem Has.lock {h : SH} {c : List Value} {w n : Nat} {v : Value} (k : Has h c w n v) : Has (lockS h) c w n v := by
  obtain ⟨ad, fl, e, k⟩ := k
  refine ⟨ad, fl, e, fun hn => ?_⟩
  obtain ⟨A, ro, h1, e2, p⟩ := k hn
  exact ⟨A, _, _, e2, pick_lock p⟩
theorem blkE {c c' : List Value} {ro : Bool} (h : c = c') : (⟨c, ro⟩ : Blk) = ⟨c', ro⟩ := by rw [h]
theorem gslE {A A' o o' n n' l l' f f' : Nat} (h1 : A = A') (h2 : o = o') (h3 : n = n') (h4 : l = l') (h5 : f = f') : gsl A o n l f = gsl A' o' n' l' f' := by subst h1 h2 h3 h4 h5; rfl
end Go.Gh
end
section
set_option linter.unusedVariables false
set_option linter.unusedSimpArgs false
set_option maxRecDepth 4000
namespace Go.Gh
open Go.RowKit

/-- A value under other names: u is v, where A is named ρ A. -/
inductive VR (ρ : Nat → Nat) (D : Nat → Prop) : Value → Value → Prop
  | const {v} (h : constOk v = true) : VR ρ D v v
  | ptr {A o n} (h : D A) : VR ρ D (.pointer (some ⟨A, o, some n⟩)) (.pointer (some ⟨ρ A, o, some n⟩))
  | slc {A o n len fl} (h : D A) : VR ρ D (.slice (some ⟨A, o, some n⟩) len fl) (.slice (some ⟨ρ A, o, some n⟩) len fl)
  | sdead : VR ρ D (.slice (some ⟨0, 0, none⟩) 0 0) (.slice (some ⟨0, 0, none⟩) 0 0)
  | agg {a b : Array Value} (h1 : a.size = b.size) (h2 : ∀ i (h : i < a.size) (h' : i < b.size), VR ρ D a[i] b[i]) : VR ρ D (.agg a) (.agg b)
  | tuple {a b : Array Value} (h1 : a.size = b.size) (h2 : ∀ i (h : i < a.size) (h' : i < b.size), VR ρ D a[i] b[i]) : VR ρ D (.tuple a) (.tuple b)
  | func {f : Fn} {a b c d : Array Value} (h1 : a.size = b.size) (h2 : ∀ i (h : i < a.size) (h' : i < b.size), VR ρ D a[i] b[i])
      (h3 : c.size = d.size) (h4 : ∀ i (h : i < c.size) (h' : i < d.size), VR ρ D c[i] d[i]) : VR ρ D (.func f a c) (.func f b d)
inductive VRs (ρ : Nat → Nat) (D : Nat → Prop) : List Value → List Value → Prop
  | nil : VRs ρ D [] []
  | cons {u v l m} (h : VR ρ D u v) (k : VRs ρ D l m) : VRs ρ D (u :: l) (v :: m)
theorem VRs.len {ρ : Nat → Nat} {D : Nat → Prop} {l m : List Value} (h : VRs ρ D l m) : l.length = m.length := by
  induction h with
  | nil => rfl
  | cons _ _ ih => simp [ih]
theorem VRs.get {ρ : Nat → Nat} {D : Nat → Prop} {l m : List Value} (h : VRs ρ D l m) : ∀ {i : Nat} {u : Value}, l[i]? = some u → ∃ v, m[i]? = some v ∧ VR ρ D u v := by
  induction h with
  | nil => intro i u h; simp at h
  | @cons u v l m h _ ih =>
    intro i w hw
    cases i with
    | zero => simp only [List.getElem?_cons_zero, Option.some.injEq] at hw; subst hw; exact ⟨v, rfl, h⟩
    | succ i => exact ih (by simpa using hw)
theorem VRs.at {ρ : Nat → Nat} {D : Nat → Prop} {l m : List Value} (h : VRs ρ D l m) (i : Nat) (h1 : i < (Array.mk l).size) (h2 : i < (Array.mk m).size) : VR ρ D (Array.mk l)[i] (Array.mk m)[i] := by
  obtain ⟨v, g1, g2⟩ := h.get (i := i) (u := l[i]'(by simpa using h1)) (List.getElem?_eq_getElem _)
  have : (Array.mk m)[i] = v := by
    have h2' : i < m.length := by simpa using h2
    rw [List.getElem?_eq_getElem h2'] at g1
    simpa using g1
  rw [this]; exact g2
theorem VRs.agg {ρ : Nat → Nat} {D : Nat → Prop} {l m : List Value} (h : VRs ρ D l m) : VR ρ D (.agg ⟨l⟩) (.agg ⟨m⟩) := .agg (by simpa using h.len) h.at
theorem VRs.tuple {ρ : Nat → Nat} {D : Nat → Prop} {l m : List Value} (h : VRs ρ D l m) : VR ρ D (.tuple ⟨l⟩) (.tuple ⟨m⟩) := .tuple (by simpa using h.len) h.at
theorem VRs.const {ρ : Nat → Nat} {D : Nat → Prop} : ∀ {l : List Value}, (∀ v ∈ l, constOk v = true) → VRs ρ D l l
  | [], _ => .nil
  | _ :: _, h => .cons (.const (h _ List.mem_cons_self)) (VRs.const fun v hv => h v (List.mem_cons_of_mem _ hv))
theorem VRs.app {ρ : Nat → Nat} {D : Nat → Prop} {l m l' m' : List Value} (h : VRs ρ D l m) (k : VRs ρ D l' m') : VRs ρ D (l ++ l') (m ++ m') := by
  induction h with
  | nil => exact k
  | cons h _ ih => exact .cons h ih
theorem VR.val {ρ : Nat → Nat} {D : Nat → Prop} {φ : Nat → Loc} {L L' : Lens} {u v : Value} (h : VR ρ D u v) (hD : ∀ A, D A → L' A = L (ρ A)) : ∀ {v' : Value}, Val φ L v v' → Val (fun A => φ (ρ A)) L' u v' := by
  induction h with
  | const hc => intro v' hv; rw [Val.det hc hv]; exact Val.const hc
  | @ptr A o n h =>
    intro v' hv
    generalize hq : Value.pointer (some ⟨ρ A, o, some n⟩) = q at hv
    cases hv with
    | ptr A' o' v' n' c hL hv h' => cases hq; exact .ptr _ _ _ _ _ (by rw [hD _ h]; exact hL) hv h'
    | _ => cases hq
  | @slc A o n len fl h =>
    intro v' hv
    generalize hq : Value.slice (some ⟨ρ A, o, some n⟩) len fl = q at hv
    cases hv with
    | slc A' o' v' n' len' fl' cap c hL hv hc hm h' => cases hq; exact .slc _ _ _ _ _ _ _ _ (by rw [hD _ h]; exact hL) hv hc hm h'
    | sdead => simp at hq
    | _ => cases hq
  | sdead => intro v' hv; cases hv with | sdead c cap hm => exact .sdead c cap hm
  | agg h1 _ ih => intro v' hv; cases hv with | agg a b g1 g2 => exact .agg _ _ (h1.trans g1) fun i hi hi' => ih i hi (by omega) (g2 i (by omega) hi')
  | tuple h1 _ ih => intro v' hv; cases hv with | tuple a b g1 g2 => exact .tuple _ _ (h1.trans g1) fun i hi hi' => ih i hi (by omega) (g2 i (by omega) hi')
  | func h1 _ h3 _ ih1 ih2 =>
    intro v' hv
    cases hv with
    | func f a b c d g1 g2 g3 g4 => exact .func _ _ _ _ _ (h1.trans g1) (fun i hi hi' => ih1 i hi (by omega) (g2 i (by omega) hi')) (h3.trans g3) fun i hi hi' => ih2 i hi (by omega) (g4 i (by omega) hi')
/-- Blocks under other names; of p those that did not turn. -/
inductive SHR (ρ : Nat → Nat) (D : Nat → Prop) (p : SH) : SH → SH → Prop
  | nil : SHR ρ D p [] []
  | same {h} (k : ∀ x ∈ h, x ∈ p) : SHR ρ D p h h
  | cons {A A' c c' ro h h'} (e : ρ A = A') (h1 : VRs ρ D c c') (k : SHR ρ D p h h') : SHR ρ D p ((A, ⟨c, ro⟩) :: h) ((A', ⟨c', ro⟩) :: h')
  | keep {x h h'} (e : x ∈ p) (k : SHR ρ D p h h') : SHR ρ D p (x :: h) (x :: h')
theorem SHR.get {ρ : Nat → Nat} {D : Nat → Prop} {p h h' : SH} (k : SHR ρ D p h h') (hp : ∀ y ∈ p, ρ y.1 = y.1) : ∀ x ∈ h, (x ∈ p ∧ x ∈ h') ∨ ∃ c', (ρ x.1, ⟨c', x.2.ro⟩) ∈ h' ∧ VRs ρ D x.2.cells c' := by
  induction k with
  | nil => intro x hx; cases hx
  | same k => intro x hx; exact .inl ⟨k x hx, hx⟩
  | cons e h1 _ ih =>
    intro x hx
    rcases List.mem_cons.1 hx with rfl | hx
    · exact .inr ⟨_, by rw [e]; exact List.mem_cons_self, h1⟩
    · rcases ih x hx with ⟨g1, g2⟩ | ⟨c', g1, g2⟩
      · exact .inl ⟨g1, List.mem_cons_of_mem _ g2⟩
      · exact .inr ⟨c', List.mem_cons_of_mem _ g1, g2⟩
  | keep e _ ih =>
    intro x hx
    rcases List.mem_cons.1 hx with rfl | hx
    · exact .inl ⟨e, List.mem_cons_self⟩
    · rcases ih x hx with ⟨g1, g2⟩ | ⟨c', g1, g2⟩
      · exact .inl ⟨g1, List.mem_cons_of_mem _ g2⟩
      · exact .inr ⟨c', List.mem_cons_of_mem _ g1, g2⟩

def look (g : SH) (A : Nat) : Option Blk := (g.find? fun x => Nat.beq x.1 A).map (·.2)
end Go.Gh
end
section
set_option linter.unusedVariables false
set_option linter.unusedSimpArgs false
set_option maxRecDepth 4000
namespace Go.Gh
open Go.RowKit Go.MapKept

section
variable {α : Type}
def mget [DecidableEq α] : List (α × Value) → α → Option Value
  | [], _ => none
  | e :: r, a => if e.1 = a then some e.2 else mget r a
def mput [DecidableEq α] : List (α × Value) → α → Value → List (α × Value)
  | [], a, x => [(a, x)]
  | e :: r, a, x => if e.1 = a then (a, x) :: r else e :: mput r a x
structure KeyF (d : TypeDesc) (kf : α → Value) : Prop where
  is : ∀ a, IsKey d (kf a)
  inj : ∀ a b, kf a = kf b → a = b
  sc : ∀ a, scalar (kf a) = true
/-- Entries of a map and what they are. -/
inductive EntR (φ : Nat → Loc) (L : Lens) (kf : α → Value) : List (α × Value) → List MapEntry → Prop
  | nil : EntR φ L kf [] []
  | cons {a : α} {v : Value} {e : MapEntry} {l es} (hk : e.key = kf a) (hv : Val φ L v e.val) (r : EntR φ L kf l es) : EntR φ L kf ((a, v) :: l) (e :: es)
theorem EntR.len {φ : Nat → Loc} {L : Lens} {kf : α → Value} {l : List (α × Value)} {es : List MapEntry} (h : EntR φ L kf l es) : es.length = l.length := by
  induction h with
  | nil => rfl
  | cons _ _ _ ih => simp [ih]
theorem EntR.keys {φ : Nat → Loc} {L : Lens} {kf : α → Value} {d : TypeDesc} (K : KeyF d kf) {l : List (α × Value)} {es : List MapEntry} (h : EntR φ L kf l es) : ∀ x ∈ es, IsKey d x.key := by
  induction h with
  | nil => intro x hx; cases hx
  | cons hk _ _ ih =>
    intro x hx
    rcases List.mem_cons.1 hx with rfl | hx
    · rw [hk]; exact K.is _
    · exact ih x hx
theorem EntR.mono {φ φ' : Nat → Loc} {L L' : Lens} (e : Ext φ L φ' L') {kf : α → Value} {l : List (α × Value)} {es : List MapEntry} (h : EntR φ L kf l es) : EntR φ' L' kf l es := by
  induction h with
  | nil => exact .nil
  | cons hk hv _ ih => exact .cons hk (hv.mono e) ih
theorem EntR.push [DecidableEq α] {φ : Nat → Loc} {L : Lens} {kf : α → Value} (a : α) {x x' : Value} (hx : Val φ L x x') (cl : Nat) {l : List (α × Value)} {es : List MapEntry} (h : EntR φ L kf l es) (hn : mget l a = none) : EntR φ L kf (mput l a x) (es ++ [⟨kf a, x', cl⟩]) := by
  induction h with
  | nil => exact .cons rfl hx .nil
  | @cons b v e l es hk hv _ ih =>
    unfold mget at hn
    split at hn
    · cases hn
    · rename_i hne
      unfold mput
      rw [if_neg hne]
      exact .cons hk hv (ih hn)
end
end Go.Gh
end
section
namespace Go.Proofs.Ytoachkpkbgpmjaa
open Go.Gh
@[reducible] def te0 : TE := ⟨.other, 1, 0, some (.tuple ⟨[]⟩)⟩
theorem ty0 : teOf Try.prog 0 = some te0 := by kernel_rfl
@[reducible] def te1 : TE := ⟨.other, 1, 8, some (.nilFunc)⟩
theorem ty1 : teOf Try.prog 1 = some te1 := by kernel_rfl
@[reducible] def te2 : TE := ⟨.int .i64, 1, 8, some (.int .i64 0)⟩
theorem ty2 : teOf Try.prog 2 = some te2 := by kernel_rfl
@[reducible] def te3 : TE := ⟨.int .i64, 1, 8, some (.int .i64 0)⟩
theorem ty3 : teOf Try.prog 3 = some te3 := by kernel_rfl
@[reducible] def te4 : TE := ⟨.bool, 1, 1, some (.bool false)⟩
theorem ty4 : teOf Try.prog 4 = some te4 := by kernel_rfl
@[reducible] def te5 : TE := ⟨.int .u8, 1, 1, some (.int .u8 0)⟩
theorem ty5 : teOf Try.prog 5 = some te5 := by kernel_rfl
@[reducible] def te6 : TE := ⟨.int .u8, 1, 1, some (.int .u8 0)⟩
theorem ty6 : teOf Try.prog 6 = some te6 := by kernel_rfl
@[reducible] def te7 : TE := ⟨.st [(2, 0), (3, 1), (4, 2), (6, 3)], 4, 24, some (.agg ⟨[.int .i64 0, .int .i64 0, .bool false, .int .u8 0]⟩)⟩
theorem ty7 : teOf Try.prog 7 = some te7 := by kernel_rfl
@[reducible] def te8 : TE := ⟨.st [(2, 0), (3, 1), (4, 2), (6, 3)], 4, 24, some (.agg ⟨[.int .i64 0, .int .i64 0, .bool false, .int .u8 0]⟩)⟩
theorem ty8 : teOf Try.prog 8 = some te8 := by kernel_rfl
@[reducible] def te9 : TE := ⟨.str, 1, 16, some (.string ⟨⟨[]⟩⟩)⟩
theorem ty9 : teOf Try.prog 9 = some te9 := by kernel_rfl
@[reducible] def te10 : TE := ⟨.str, 1, 16, some (.string ⟨⟨[]⟩⟩)⟩
theorem ty10 : teOf Try.prog 10 = some te10 := by kernel_rfl
@[reducible] def te11 : TE := ⟨.str, 1, 16, some (.string ⟨⟨[]⟩⟩)⟩
theorem ty11 : teOf Try.prog 11 = some te11 := by kernel_rfl
@[reducible] def te12 : TE := ⟨.int .u64, 1, 8, some (.int .u64 0)⟩
theorem ty12 : teOf Try.prog 12 = some te12 := by kernel_rfl
@[reducible] def te13 : TE := ⟨.st [(9, 0), (12, 1)], 2, 24, some (.agg ⟨[.string ⟨⟨[]⟩⟩, .int .u64 0]⟩)⟩
theorem ty13 : teOf Try.prog 13 = some te13 := by kernel_rfl
@[reducible] def te14 : TE := ⟨.st [(9, 0), (12, 1)], 2, 24, some (.agg ⟨[.string ⟨⟨[]⟩⟩, .int .u64 0]⟩)⟩
theorem ty14 : teOf Try.prog 14 = some te14 := by kernel_rfl
@[reducible] def te15 : TE := ⟨.ptr 97, 1, 8, some (.pointer none)⟩
theorem ty15 : teOf Try.prog 15 = some te15 := by kernel_rfl
@[reducible] def te16 : TE := ⟨.ptr 100, 1, 8, some (.pointer none)⟩
theorem ty16 : teOf Try.prog 16 = some te16 := by kernel_rfl
@[reducible] def te17 : TE := ⟨.ptr 107, 1, 8, some (.pointer none)⟩
theorem ty17 : teOf Try.prog 17 = some te17 := by kernel_rfl
@[reducible] def te18 : TE := ⟨.st [(17, 0)], 1, 8, some (.agg ⟨[.pointer none]⟩)⟩
theorem ty18 : teOf Try.prog 18 = some te18 := by kernel_rfl
@[reducible] def te19 : TE := ⟨.st [(17, 0)], 1, 8, some (.agg ⟨[.pointer none]⟩)⟩
theorem ty19 : teOf Try.prog 19 = some te19 := by kernel_rfl
@[reducible] def te20 : TE := ⟨.other, 1, 16, some (.nilIface)⟩
theorem ty20 : teOf Try.prog 20 = some te20 := by kernel_rfl
@[reducible] def te21 : TE := ⟨.int .i32, 1, 4, some (.int .i32 0)⟩
theorem ty21 : teOf Try.prog 21 = some te21 := by kernel_rfl
@[reducible] def te22 : TE := ⟨.other, 1, 8, some (.nilFunc)⟩
theorem ty22 : teOf Try.prog 22 = some te22 := by kernel_rfl
@[reducible] def te23 : TE := ⟨.other, 1, 8, some (.nilFunc)⟩
theorem ty23 : teOf Try.prog 23 = some te23 := by kernel_rfl
@[reducible] def te24 : TE := ⟨.other, 1, 8, some (.nilFunc)⟩
theorem ty24 : teOf Try.prog 24 = some te24 := by kernel_rfl
@[reducible] def te25 : TE := ⟨.int .i64, 1, 8, some (.int .i64 0)⟩
theorem ty25 : teOf Try.prog 25 = some te25 := by kernel_rfl
@[reducible] def te26 : TE := ⟨.other, 1, 0, some (.tuple ⟨[.string ⟨⟨[]⟩⟩, .int .i64 0]⟩)⟩
theorem ty26 : teOf Try.prog 26 = some te26 := by kernel_rfl
@[reducible] def te27 : TE := ⟨.other, 1, 8, some (.nilFunc)⟩
theorem ty27 : teOf Try.prog 27 = some te27 := by kernel_rfl
@[reducible] def te28 : TE := ⟨.other, 1, 8, some (.nilFunc)⟩
theorem ty28 : teOf Try.prog 28 = some te28 := by kernel_rfl
@[reducible] def te29 : TE := ⟨.arr 4 3, 4, 32, some (.agg ⟨[.int .i64 0, .int .i64 0, .int .i64 0, .int .i64 0]⟩)⟩
theorem ty29 : teOf Try.prog 29 = some te29 := by kernel_rfl
@[reducible] def te30 : TE := ⟨.other, 1, 8, some (.nilFunc)⟩
theorem ty30 : teOf Try.prog 30 = some te30 := by kernel_rfl
@[reducible] def te31 : TE := ⟨.other, 1, 8, some (.map none)⟩
theorem ty31 : teOf Try.prog 31 = some te31 := by kernel_rfl
@[reducible] def te32 : TE := ⟨.other, 1, 8, some (.nilFunc)⟩
theorem ty32 : teOf Try.prog 32 = some te32 := by kernel_rfl
@[reducible] def te33 : TE := ⟨.other, 1, 0, some (.tuple ⟨[.int .i64 0, .bool false]⟩)⟩
theorem ty33 : teOf Try.prog 33 = some te33 := by kernel_rfl
@[reducible] def te34 : TE := ⟨.other, 1, 8, some (.nilFunc)⟩
theorem ty34 : teOf Try.prog 34 = some te34 := by kernel_rfl
@[reducible] def te35 : TE := ⟨.other, 1, 8, some (.nilFunc)⟩
theorem ty35 : teOf Try.prog 35 = some te35 := by kernel_rfl
@[reducible] def te36 : TE := ⟨.other, 1, 8, some (.nilFunc)⟩
theorem ty36 : teOf Try.prog 36 = some te36 := by kernel_rfl
@[reducible] def te37 : TE := ⟨.other, 1, 8, some (.nilFunc)⟩
theorem ty37 : teOf Try.prog 37 = some te37 := by kernel_rfl
@[reducible] def te38 : TE := ⟨.other, 1, 8, some (.nilFunc)⟩
theorem ty38 : teOf Try.prog 38 = some te38 := by kernel_rfl
@[reducible] def te39 : TE := ⟨.other, 1, 0, some (.tuple ⟨[.string ⟨⟨[]⟩⟩, .bool false]⟩)⟩
theorem ty39 : teOf Try.prog 39 = some te39 := by kernel_rfl
@[reducible] def te40 : TE := ⟨.other, 1, 8, some (.nilFunc)⟩
theorem ty40 : teOf Try.prog 40 = some te40 := by kernel_rfl
@[reducible] def te41 : TE := ⟨.other, 1, 8, some (.nilFunc)⟩
theorem ty41 : teOf Try.prog 41 = some te41 := by kernel_rfl
@[reducible] def te42 : TE := ⟨.other, 1, 8, some (.nilFunc)⟩
theorem ty42 : teOf Try.prog 42 = some te42 := by kernel_rfl
@[reducible] def te43 : TE := ⟨.other, 1, 8, some (.nilFunc)⟩
theorem ty43 : teOf Try.prog 43 = some te43 := by kernel_rfl
@[reducible] def te44 : TE := ⟨.other, 1, 8, some (.nilFunc)⟩
theorem ty44 : teOf Try.prog 44 = some te44 := by kernel_rfl
@[reducible] def te45 : TE := ⟨.other, 1, 8, some (.nilFunc)⟩
theorem ty45 : teOf Try.prog 45 = some te45 := by kernel_rfl
@[reducible] def te46 : TE := ⟨.other, 1, 0, some (.tuple ⟨[.string ⟨⟨[]⟩⟩, .string ⟨⟨[]⟩⟩]⟩)⟩
theorem ty46 : teOf Try.prog 46 = some te46 := by kernel_rfl
@[reducible] def te47 : TE := ⟨.other, 1, 8, some (.nilFunc)⟩
theorem ty47 : teOf Try.prog 47 = some te47 := by kernel_rfl
@[reducible] def te48 : TE := ⟨.other, 1, 8, some (.nilFunc)⟩
theorem ty48 : teOf Try.prog 48 = some te48 := by kernel_rfl
@[reducible] def te49 : TE := ⟨.slice 9, 1, 24, some (.slice none 0 0)⟩
theorem ty49 : teOf Try.prog 49 = some te49 := by kernel_rfl
@[reducible] def te50 : TE := ⟨.other, 1, 8, some (.nilFunc)⟩
theorem ty50 : teOf Try.prog 50 = some te50 := by kernel_rfl
@[reducible] def te51 : TE := ⟨.other, 1, 0, some (.tuple ⟨[.int .u8 0, .bool false]⟩)⟩
theorem ty51 : teOf Try.prog 51 = some te51 := by kernel_rfl
@[reducible] def te52 : TE := ⟨.other, 1, 8, some (.nilFunc)⟩
theorem ty52 : teOf Try.prog 52 = some te52 := by kernel_rfl
@[reducible] def te53 : TE := ⟨.other, 1, 8, some (.nilFunc)⟩
theorem ty53 : teOf Try.prog 53 = some te53 := by kernel_rfl
@[reducible] def te54 : TE := ⟨.other, 1, 8, some (.nilFunc)⟩
theorem ty54 : teOf Try.prog 54 = some te54 := by kernel_rfl
@[reducible] def te55 : TE := ⟨.other, 1, 8, some (.nilFunc)⟩
theorem ty55 : teOf Try.prog 55 = some te55 := by kernel_rfl
@[reducible] def te56 : TE := ⟨.other, 1, 8, some (.nilFunc)⟩
theorem ty56 : teOf Try.prog 56 = some te56 := by kernel_rfl
@[reducible] def te57 : TE := ⟨.other, 1, 8, some (.nilFunc)⟩
theorem ty57 : teOf Try.prog 57 = some te57 := by kernel_rfl
@[reducible] def te58 : TE := ⟨.other, 1, 8, some (.nilFunc)⟩
theorem ty58 : teOf Try.prog 58 = some te58 := by kernel_rfl
@[reducible] def te59 : TE := ⟨.other, 1, 8, some (.nilFunc)⟩
theorem ty59 : teOf Try.prog 59 = some te59 := by kernel_rfl
@[reducible] def te60 : TE := ⟨.slice 5, 1, 24, some (.slice none 0 0)⟩
theorem ty60 : teOf Try.prog 60 = some te60 := by kernel_rfl
@[reducible] def te61 : TE := ⟨.other, 1, 8, some (.nilFunc)⟩
theorem ty61 : teOf Try.prog 61 = some te61 := by kernel_rfl
@[reducible] def te62 : TE := ⟨.other, 1, 8, some (.nilFunc)⟩
theorem ty62 : teOf Try.prog 62 = some te62 := by kernel_rfl
@[reducible] def te63 : TE := ⟨.int .u64, 1, 8, some (.int .u64 0)⟩
theorem ty63 : teOf Try.prog 63 = some te63 := by kernel_rfl
@[reducible] def te64 : TE := ⟨.other, 1, 8, some (.nilFunc)⟩
theorem ty64 : teOf Try.prog 64 = some te64 := by kernel_rfl
@[reducible] def te65 : TE := ⟨.other, 1, 8, some (.nilFunc)⟩
theorem ty65 : teOf Try.prog 65 = some te65 := by kernel_rfl
@[reducible] def te66 : TE := ⟨.other, 1, 8, some (.nilFunc)⟩
theorem ty66 : teOf Try.prog 66 = some te66 := by kernel_rfl
@[reducible] def te67 : TE := ⟨.other, 1, 8, some (.nilFunc)⟩
theorem ty67 : teOf Try.prog 67 = some te67 := by kernel_rfl
@[reducible] def te68 : TE := ⟨.other, 1, 8, some (.nilFunc)⟩
theorem ty68 : teOf Try.prog 68 = some te68 := by kernel_rfl
@[reducible] def te69 : TE := ⟨.other, 1, 8, some (.nilFunc)⟩
theorem ty69 : teOf Try.prog 69 = some te69 := by kernel_rfl
@[reducible] def te70 : TE := ⟨.other, 1, 8, some (.nilFunc)⟩
theorem ty70 : teOf Try.prog 70 = some te70 := by kernel_rfl
@[reducible] def te71 : TE := ⟨.other, 1, 8, some (.nilFunc)⟩
theorem ty71 : teOf Try.prog 71 = some te71 := by kernel_rfl
@[reducible] def te72 : TE := ⟨.other, 1, 0, some (.tuple ⟨[.int .u64 0, .int .u64 0]⟩)⟩
theorem ty72 : teOf Try.prog 72 = some te72 := by kernel_rfl
@[reducible] def te73 : TE := ⟨.other, 1, 8, some (.nilFunc)⟩
theorem ty73 : teOf Try.prog 73 = some te73 := by kernel_rfl
@[reducible] def te74 : TE := ⟨.ptr 76, 1, 8, some (.pointer none)⟩
theorem ty74 : teOf Try.prog 74 = some te74 := by kernel_rfl
@[reducible] def te75 : TE := ⟨.st [(74, 0), (60, 1)], 2, 32, some (.agg ⟨[.pointer none, .slice none 0 0]⟩)⟩
theorem ty75 : teOf Try.prog 75 = some te75 := by kernel_rfl
@[reducible] def te76 : TE := ⟨.st [(74, 0), (60, 1)], 2, 32, some (.agg ⟨[.pointer none, .slice none 0 0]⟩)⟩
theorem ty76 : teOf Try.prog 76 = some te76 := by kernel_rfl
@[reducible] def te77 : TE := ⟨.other, 1, 8, some (.nilFunc)⟩
theorem ty77 : teOf Try.prog 77 = some te77 := by kernel_rfl
@[reducible] def te78 : TE := ⟨.other, 1, 16, some (.nilIface)⟩
theorem ty78 : teOf Try.prog 78 = some te78 := by kernel_rfl
@[reducible] def te79 : TE := ⟨.other, 1, 16, some (.nilIface)⟩
theorem ty79 : teOf Try.prog 79 = some te79 := by kernel_rfl
@[reducible] def te80 : TE := ⟨.other, 1, 0, some (.tuple ⟨[.int .i64 0, .nilIface]⟩)⟩
theorem ty80 : teOf Try.prog 80 = some te80 := by kernel_rfl
@[reducible] def te81 : TE := ⟨.other, 1, 8, some (.nilFunc)⟩
theorem ty81 : teOf Try.prog 81 = some te81 := by kernel_rfl
@[reducible] def te82 : TE := ⟨.other, 1, 8, some (.nilFunc)⟩
theorem ty82 : teOf Try.prog 82 = some te82 := by kernel_rfl
@[reducible] def te83 : TE := ⟨.other, 1, 8, some (.nilFunc)⟩
theorem ty83 : teOf Try.prog 83 = some te83 := by kernel_rfl
@[reducible] def te84 : TE := ⟨.arr 128 5, 128, 128, some (.agg ⟨[.int .u8 0, .int .u8 0, .int .u8 0, .int .u8 0, .int .u8 0, .int .u8 0, .int .u8 0, .int .u8 0, .int .u8 0, .int .u8 0, .int .u8 0, .int .u8 0, .int .u8 0, .int .u8 0, .int .u8 0, .int .u8 0, .int .u8 0, .int .u8 0, .int .u8 0, .int .u8 0, .int .u8 0, .int .u8 0, .int .u8 0, .int .u8 0, .int .u8 0, .int .u8 0, .int .u8 0, .int .u8 0, .int .u8 0, .int .u8 0, .int .u8 0, .int .u8 0, .int .u8 0, .int .u8 0, .int .u8 0, .int .u8 0, .int .u8 0, .int .u8 0, .int .u8 0, .int .u8 0, .int .u8 0, .int .u8 0, .int .u8 0, .int .u8 0, .int .u8 0, .int .u8 0, .int .u8 0, .int .u8 0, .int .u8 0, .int .u8 0, .int .u8 0, .int .u8 0, .int .u8 0, .int .u8 0, .int .u8 0, .int .u8 0, .int .u8 0, .int .u8 0, .int .u8 0, .int .u8 0, .int .u8 0, .int .u8 0, .int .u8 0, .int .u8 0, .int .u8 0, .int .u8 0, .int .u8 0, .int .u8 0, .int .u8 0, .int .u8 0, .int .u8 0, .int .u8 0, .int .u8 0, .int .u8 0, .int .u8 0, .int .u8 0, .int .u8 0, .int .u8 0, .int .u8 0, .int .u8 0, .int .u8 0, .int .u8 0, .int .u8 0, .int .u8 0, .int .u8 0, .int .u8 0, .int .u8 0, .int .u8 0, .int .u8 0, .int .u8 0, .int .u8 0, .int .u8 0, .int .u8 0, .int .u8 0, .int .u8 0, .int .u8 0, .int .u8 0, .int .u8 0, .int .u8 0, .int .u8 0, .int .u8 0, .int .u8 0, .int .u8 0, .int .u8 0, .int .u8 0, .int .u8 0, .int .u8 0, .int .u8 0, .int .u8 0, .int .u8 0, .int .u8 0, .int .u8 0, .int .u8 0, .int .u8 0, .int .u8 0, .int .u8 0, .int .u8 0, .int .u8 0, .int .u8 0, .int .u8 0, .int .u8 0, .int .u8 0, .int .u8 0, .int .u8 0, .int .u8 0, .int .u8 0, .int .u8 0, .int .u8 0]⟩)⟩
theorem ty84 : teOf Try.prog 84 = some te84 := by kernel_rfl
@[reducible] def te85 : TE := ⟨.arr 4 5, 4, 4, some (.agg ⟨[.int .u8 0, .int .u8 0, .int .u8 0, .int .u8 0]⟩)⟩
theorem ty85 : teOf Try.prog 85 = some te85 := by kernel_rfl
@[reducible] def te86 : TE := ⟨.int .u32, 1, 4, some (.int .u32 0)⟩
theorem ty86 : teOf Try.prog 86 = some te86 := by kernel_rfl
@[reducible] def te87 : TE := ⟨.other, 1, 0, some (.tuple ⟨[.int .u32 0, .int .u32 0]⟩)⟩
theorem ty87 : teOf Try.prog 87 = some te87 := by kernel_rfl
@[reducible] def te88 : TE := ⟨.other, 1, 8, some (.nilFunc)⟩
theorem ty88 : teOf Try.prog 88 = some te88 := by kernel_rfl
@[reducible] def te89 : TE := ⟨.int .u64, 1, 8, some (.int .u64 0)⟩
theorem ty89 : teOf Try.prog 89 = some te89 := by kernel_rfl
@[reducible] def te90 : TE := ⟨.other, 1, 0, some (.tuple ⟨[.int .u64 0, .int .u64 0]⟩)⟩
theorem ty90 : teOf Try.prog 90 = some te90 := by kernel_rfl
@[reducible] def te91 : TE := ⟨.other, 1, 8, some (.nilFunc)⟩
theorem ty91 : teOf Try.prog 91 = some te91 := by kernel_rfl
@[reducible] def te92 : TE := ⟨.ptr 5, 1, 8, some (.pointer none)⟩
theorem ty92 : teOf Try.prog 92 = some te92 := by kernel_rfl
@[reducible] def te93 : TE := ⟨.other, 1, 8, some (.pointer none)⟩
theorem ty93 : teOf Try.prog 93 = some te93 := by kernel_rfl
@[reducible] def te94 : TE := ⟨.other, 1, 8, some (.nilFunc)⟩
theorem ty94 : teOf Try.prog 94 = some te94 := by kernel_rfl
@[reducible] def te95 : TE := ⟨.other, 1, 8, some (.nilFunc)⟩
theorem ty95 : teOf Try.prog 95 = some te95 := by kernel_rfl
@[reducible] def te96 : TE := ⟨.st [(17, 0), (17, 1), (17, 2), (9, 3)], 4, 40, some (.agg ⟨[.pointer none, .pointer none, .pointer none, .string ⟨⟨[]⟩⟩]⟩)⟩
theorem ty96 : teOf Try.prog 96 = some te96 := by kernel_rfl
@[reducible] def te97 : TE := ⟨.st [(17, 0), (17, 1), (17, 2), (9, 3)], 4, 40, some (.agg ⟨[.pointer none, .pointer none, .pointer none, .string ⟨⟨[]⟩⟩]⟩)⟩
theorem ty97 : teOf Try.prog 97 = some te97 := by kernel_rfl
@[reducible] def te98 : TE := ⟨.arr 0 16, 0, 0, some (.agg ⟨[]⟩)⟩
theorem ty98 : teOf Try.prog 98 = some te98 := by kernel_rfl
@[reducible] def te99 : TE := ⟨.st [(98, 0)], 0, 0, some (.agg ⟨[]⟩)⟩
theorem ty99 : teOf Try.prog 99 = some te99 := by kernel_rfl
@[reducible] def te100 : TE := ⟨.st [(98, 0)], 0, 0, some (.agg ⟨[]⟩)⟩
theorem ty100 : teOf Try.prog 100 = some te100 := by kernel_rfl
@[reducible] def te101 : TE := ⟨.int .u8, 1, 1, some (.int .u8 0)⟩
theorem ty101 : teOf Try.prog 101 = some te101 := by kernel_rfl
@[reducible] def te102 : TE := ⟨.int .u8, 1, 1, some (.int .u8 0)⟩
theorem ty102 : teOf Try.prog 102 = some te102 := by kernel_rfl
@[reducible] def te103 : TE := ⟨.other, 1, 8, some (.nilFunc)⟩
theorem ty103 : teOf Try.prog 103 = some te103 := by kernel_rfl
@[reducible] def te104 : TE := ⟨.int .i32, 1, 4, some (.int .i32 0)⟩
theorem ty104 : teOf Try.prog 104 = some te104 := by kernel_rfl
@[reducible] def te105 : TE := ⟨.int .i32, 1, 4, some (.int .i32 0)⟩
theorem ty105 : teOf Try.prog 105 = some te105 := by kernel_rfl
@[reducible] def te106 : TE := ⟨.st [(12, 0), (12, 1), (86, 2), (101, 3), (5, 4), (5, 5), (102, 6), (103, 7), (92, 8), (104, 9), (105, 10)], 11, 48, some (.agg ⟨[.int .u64 0, .int .u64 0, .int .u32 0, .int .u8 0, .int .u8 0, .int .u8 0, .int .u8 0, .nilFunc, .pointer none, .int .i32 0, .int .i32 0]⟩)⟩
theorem ty106 : teOf Try.prog 106 = some te106 := by kernel_rfl
@[reducible] def te107 : TE := ⟨.st [(12, 0), (12, 1), (86, 2), (101, 3), (5, 4), (5, 5), (102, 6), (103, 7), (92, 8), (104, 9), (105, 10)], 11, 48, some (.agg ⟨[.int .u64 0, .int .u64 0, .int .u32 0, .int .u8 0, .int .u8 0, .int .u8 0, .int .u8 0, .nilFunc, .pointer none, .int .i32 0, .int .i32 0]⟩)⟩
theorem ty107 : teOf Try.prog 107 = some te107 := by kernel_rfl
def tyT : TT := (.node (.node (.node (.node (.node (.node (.node .leaf 0 te0 .leaf) 1 te1 (.node .leaf 2 te2 .leaf)) 3 te3 (.node (.node .leaf 4 te4 .leaf) 5 te5 .leaf)) 6 te6 (.node (.node (.node .leaf 7 te7 .leaf) 8 te8 (.node .leaf 9 te9 .leaf)) 10 te10 (.node (.node .leaf 11 te11 .leaf) 12 te12 .leaf))) 13 te13 (.node (.node (.node (.node .leaf 14 te14 .leaf) 15 te15 (.node .leaf 16 te16 .leaf)) 17 te17 (.node (.node .leaf 18 te18 .leaf) 19 te19 .leaf)) 20 te20 (.node (.node (.node .leaf 21 te21 .leaf) 22 te22 (.node .leaf 23 te23 .leaf)) 24 te24 (.node (.node .leaf 25 te25 .leaf) 26 te26 .leaf)))) 27 te27 (.node (.node (.node (.node (.node .leaf 28 te28 .leaf) 29 te29 (.node .leaf 30 te30 .leaf)) 31 te31 (.node (.node .leaf 32 te32 .leaf) 33 te33 .leaf)) 34 te34 (.node (.node (.node .leaf 35 te35 .leaf) 36 te36 (.node .leaf 37 te37 .leaf)) 38 te38 (.node (.node .leaf 39 te39 .leaf) 40 te40 .leaf))) 41 te41 (.node (.node (.node (.node .leaf 42 te42 .leaf) 43 te43 (.node .leaf 44 te44 .leaf)) 45 te45 (.node (.node .leaf 46 te46 .leaf) 47 te47 .leaf)) 48 te48 (.node (.node (.node .leaf 49 te49 .leaf) 50 te50 .leaf) 51 te51 (.node (.node .leaf 52 te52 .leaf) 53 te53 .leaf))))) 54 te54 (.node (.node (.node (.node (.node (.node .leaf 55 te55 .leaf) 56 te56 (.node .leaf 57 te57 .leaf)) 58 te58 (.node (.node .leaf 59 te59 .leaf) 60 te60 .leaf)) 61 te61 (.node (.node (.node .leaf 62 te62 .leaf) 63 te63 (.node .leaf 64 te64 .leaf)) 65 te65 (.node (.node .leaf 66 te66 .leaf) 67 te67 .leaf))) 68 te68 (.node (.node (.node (.node .leaf 69 te69 .leaf) 70 te70 (.node .leaf 71 te71 .leaf)) 72 te72 (.node (.node .leaf 73 te73 .leaf) 74 te74 .leaf)) 75 te75 (.node (.node (.node .leaf 76 te76 .leaf) 77 te77 .leaf) 78 te78 (.node (.node .leaf 79 te79 .leaf) 80 te80 .leaf)))) 81 te81 (.node (.node (.node (.node (.node .leaf 82 te82 .leaf) 83 te83 (.node .leaf 84 te84 .leaf)) 85 te85 (.node (.node .leaf 86 te86 .leaf) 87 te87 .leaf)) 88 te88 (.node (.node (.node .leaf 89 te89 .leaf) 90 te90 (.node .leaf 91 te91 .leaf)) 92 te92 (.node (.node .leaf 93 te93 .leaf) 94 te94 .leaf))) 95 te95 (.node (.node (.node (.node .leaf 96 te96 .leaf) 97 te97 (.node .leaf 98 te98 .leaf)) 99 te99 (.node (.node .leaf 100 te100 .leaf) 101 te101 .leaf)) 102 te102 (.node (.node (.node .leaf 103 te103 .leaf) 104 te104 .leaf) 105 te105 (.node (.node .leaf 106 te106 .leaf) 107 te107 .leaf))))))
theorem tyOk : tyT.Ok Try.prog := ⟨⟨⟨⟨⟨⟨⟨trivial, ty0, trivial⟩, ty1, ⟨trivial, ty2, trivial⟩⟩, ty3, ⟨⟨trivial, ty4, trivial⟩, ty5, trivial⟩⟩, ty6, ⟨⟨⟨trivial, ty7, trivial⟩, ty8, ⟨trivial, ty9, trivial⟩⟩, ty10, ⟨⟨trivial, ty11, trivial⟩, ty12, trivial⟩⟩⟩, ty13, ⟨⟨⟨⟨trivial, ty14, trivial⟩, ty15, ⟨trivial, ty16, trivial⟩⟩, ty17, ⟨⟨trivial, ty18, trivial⟩, ty19, trivial⟩⟩, ty20, ⟨⟨⟨trivial, ty21, trivial⟩, ty22, ⟨trivial, ty23, trivial⟩⟩, ty24, ⟨⟨trivial, ty25, trivial⟩, ty26, trivial⟩⟩⟩⟩, ty27, ⟨⟨⟨⟨⟨trivial, ty28, trivial⟩, ty29, ⟨trivial, ty30, trivial⟩⟩, ty31, ⟨⟨trivial, ty32, trivial⟩, ty33, trivial⟩⟩, ty34, ⟨⟨⟨trivial, ty35, trivial⟩, ty36, ⟨trivial, ty37, trivial⟩⟩, ty38, ⟨⟨trivial, ty39, trivial⟩, ty40, trivial⟩⟩⟩, ty41, ⟨⟨⟨⟨trivial, ty42, trivial⟩, ty43, ⟨trivial, ty44, trivial⟩⟩, ty45, ⟨⟨trivial, ty46, trivial⟩, ty47, trivial⟩⟩, ty48, ⟨⟨⟨trivial, ty49, trivial⟩, ty50, trivial⟩, ty51, ⟨⟨trivial, ty52, trivial⟩, ty53, trivial⟩⟩⟩⟩⟩, ty54, ⟨⟨⟨⟨⟨⟨trivial, ty55, trivial⟩, ty56, ⟨trivial, ty57, trivial⟩⟩, ty58, ⟨⟨trivial, ty59, trivial⟩, ty60, trivial⟩⟩, ty61, ⟨⟨⟨trivial, ty62, trivial⟩, ty63, ⟨trivial, ty64, trivial⟩⟩, ty65, ⟨⟨trivial, ty66, trivial⟩, ty67, trivial⟩⟩⟩, ty68, ⟨⟨⟨⟨trivial, ty69, trivial⟩, ty70, ⟨trivial, ty71, trivial⟩⟩, ty72, ⟨⟨trivial, ty73, trivial⟩, ty74, trivial⟩⟩, ty75, ⟨⟨⟨trivial, ty76, trivial⟩, ty77, trivial⟩, ty78, ⟨⟨trivial, ty79, trivial⟩, ty80, trivial⟩⟩⟩⟩, ty81, ⟨⟨⟨⟨⟨trivial, ty82, trivial⟩, ty83, ⟨trivial, ty84, trivial⟩⟩, ty85, ⟨⟨trivial, ty86, trivial⟩, ty87, trivial⟩⟩, ty88, ⟨⟨⟨trivial, ty89, trivial⟩, ty90, ⟨trivial, ty91, trivial⟩⟩, ty92, ⟨⟨trivial, ty93, trivial⟩, ty94, trivial⟩⟩⟩, ty95, ⟨⟨⟨⟨trivial, ty96, trivial⟩, ty97, ⟨trivial, ty98, trivial⟩⟩, ty99, ⟨⟨trivial, ty100, trivial⟩, ty101, trivial⟩⟩, ty102, ⟨⟨⟨trivial, ty103, trivial⟩, ty104, trivial⟩, ty105, ⟨⟨trivial, ty106, trivial⟩, ty107, trivial⟩⟩⟩⟩⟩⟩
end Go.Proofs.Ytoachkpkbgpmjaa
end
section
set_option linter.unusedVariables false
set_option linter.unusedSimpArgs false
set_option maxRecDepth 4000
namespace Go.Proofs.Ytoachkpkbgpmjaa
open Go.Gh Go.RowKit

abbrev cs : List UInt8 := [48, 49, 120, 122]
/-- The code of a character. -/
def cd (c : Int) : Int := if c = 48 then 0 else if c = 49 then 1 else if c = 120 then 2 else if c = 122 then 3 else -1
theorem cd_at : ∀ {k : Nat}, k < 4 → cd (bat cs (k : Int)) = k
  | 0, _ => rfl
  | 1, _ => rfl
  | 2, _ => rfl
  | 3, _ => rfl
  | _ + 4, h => by omega
theorem cd_none {c : Int} (h : ∀ k : Nat, k < 4 → bat cs (k : Int) ≠ c) : cd c = -1 := by
  have h0 := h 0 (by decide); have h1 := h 1 (by decide); have h2 := h 2 (by decide); have h3 := h 3 (by decide)
  change (48 : Int) ≠ c at h0; change (49 : Int) ≠ c at h1; change (120 : Int) ≠ c at h2; change (122 : Int) ≠ c at h3
  unfold cd
  rw [if_neg h0.symm, if_neg h1.symm, if_neg h2.symm, if_neg h3.symm]
theorem cd_in (c : Int) : -1 ≤ cd c ∧ cd c < 4 := by unfold cd; (repeat' split) <;> decide
/-- The character of a code. -/
def ch (k : Int) : Int := if 0 ≤ k ∧ k < 4 then bat cs k else 0
theorem Code_any (c : Int) (h : SH) : SRun Try.prog 61 [.int .u8 c] h fun r q => r = I (cd c) ∧ q = h := by
  refine w_body1 Try.func61 rfl rfl ?_
  repeat' (first | apply w_seq | apply w_region | apply o_nil | (apply o_g tyOk; exact rfl; exact rfl) | (apply o_ar tyOk; exact rfl; exact rfl) | (apply o_eqs; (iterate 3 exact rfl); (focus (kernel_rfl)); exact rfl; exact rfl; (focus (kernel_rfl)); exact rfl) | (apply w_true; exact rfl) | (apply w_false; exact rfl) | (apply w_dT; exact rfl; (focus (first | exact ‹_› | with_reducible exact rfl | omega))) | (apply w_dF; exact rfl; (focus (first | exact ‹_› | with_reducible exact rfl | omega))) | (apply w_ifN; exact rfl; all_goals intro hc) | (apply w_if; exact rfl; all_goals intro hc) | (apply w_ifB; exact rfl; all_goals intro hc) | apply thenS_normal | apply thenS_ret | apply thenS_exit | apply blockS_normal | apply blockS_ret | apply blockS_exit | apply w_skip | apply w_ret | apply w_exit | apply w_block | apply scopeS_normal | apply scopeS_ret | apply scopeS_exit | apply w_scope | (apply blockS_exit_ne; exact rfl) | ((with_reducible apply Sd.mk); (first | exact True.intro | omega | (constructor <;> first | omega | (unfold maxLen; omega)) | (unfold maxLen; omega))) | ((with_reducible apply Wr.mk); (first | exact IntWalk.i64_in _ (by omega) | exact IntWalk.u8_in _ (by omega) | exact IntWalk.u32_in _ (by omega) | exact IntWalk.u64_in _ (by omega) | exact IntKind.wrap_u8 _ | exact IntKind.wrap_u32 _ | rfl)) | exact True.intro | exact rfl)
  refine w_loop (S := Nat) (fun k => [(0, .int .u8 c), (4, I k)]) (fun _ => h) (fun k => k ≤ 4 ∧ ∀ j : Nat, j < k → bat cs (j : Int) ≠ c) (fun k => 4 - k) 0 ⟨by omega, fun j hj => by omega⟩ (by repeat' (first | exact trivial | refine ⟨rfl, ?_⟩ | refine ⟨congrArg some ?_, ?_⟩)) (by repeat (first | with_reducible exact Take.nil | with_reducible apply Take.c | ((with_reducible apply Take.cE); (first | exact rfl | (apply blkE; (focus (first | exact rfl | exact recs_snocE rfl | exact map_snocE rfl | exact congrArg (fun v => [v]) (gslE rfl rfl (by first | rfl | exact ‹_› | omega | (simp ; first | done | omega)) (by first | rfl | exact ‹_› | omega | (simp ; first | done | omega)) rfl)))))) | with_reducible apply Take.drop)) ?_
  rintro k ⟨hk, he⟩
  repeat' (first | apply w_seq | apply w_region | apply o_nil | (apply o_g tyOk; exact rfl; exact rfl) | (apply o_ar tyOk; exact rfl; exact rfl) | (apply o_eqs; (iterate 3 exact rfl); (focus (kernel_rfl)); exact rfl; exact rfl; (focus (kernel_rfl)); exact rfl) | (apply w_true; exact rfl) | (apply w_false; exact rfl) | (apply w_dT; exact rfl; (focus (first | exact ‹_› | with_reducible exact rfl | omega))) | (apply w_dF; exact rfl; (focus (first | exact ‹_› | with_reducible exact rfl | omega))) | (apply w_ifN; exact rfl; all_goals intro hc) | (apply w_if; exact rfl; all_goals intro hc) | (apply w_ifB; exact rfl; all_goals intro hc) | apply thenS_normal | apply thenS_ret | apply thenS_exit | apply blockS_normal | apply blockS_ret | apply blockS_exit | apply w_skip | apply w_ret | apply w_exit | apply w_block | apply scopeS_normal | apply scopeS_ret | apply scopeS_exit | apply w_scope | (apply blockS_exit_ne; exact rfl) | ((with_reducible apply Sd.mk); (first | exact True.intro | omega | (constructor <;> first | omega | (unfold maxLen; omega)) | (unfold maxLen; omega))) | ((with_reducible apply Wr.mk); (first | exact IntWalk.i64_in _ (by omega) | exact IntWalk.u8_in _ (by omega) | exact IntWalk.u32_in _ (by omega) | exact IntWalk.u64_in _ (by omega) | exact IntKind.wrap_u8 _ | exact IntKind.wrap_u32 _ | rfl)) | exact True.intro | exact rfl)
  · (apply s_fin; (exact (show ResS _ _ _ _ [_] from ⟨rfl, trivial⟩)); (focus (refine ⟨?_, rfl⟩; show I _ = I _; rw [← hc, cd_at (by omega)])); (focus (repeat (first | with_reducible exact Take.nil | with_reducible apply Take.c | ((with_reducible apply Take.cE); (first | exact rfl | (apply blkE; (focus (first | exact rfl | exact recs_snocE rfl | exact map_snocE rfl | exact congrArg (fun v => [v]) (gslE rfl rfl (by first | rfl | exact ‹_› | omega | (simp ; first | done | omega)) (by first | rfl | exact ‹_› | omega | (simp ; first | done | omega)) rfl)))))) | with_reducible apply Take.drop))))
  · exact ⟨k + 1, ⟨by omega, fun j hj => by
      by_cases e : j = k
      · subst e; exact hc
      · exact he j (by omega)⟩, by omega, (by repeat' (first | exact trivial | refine ⟨rfl, ?_⟩ | refine ⟨congrArg some ?_, ?_⟩)), (by repeat (first | with_reducible exact Take.nil | with_reducible apply Take.c | ((with_reducible apply Take.cE); (first | exact rfl | (apply blkE; (focus (first | exact rfl | exact recs_snocE rfl | exact map_snocE rfl | exact congrArg (fun v => [v]) (gslE rfl rfl (by first | rfl | exact ‹_› | omega | (simp ; first | done | omega)) (by first | rfl | exact ‹_› | omega | (simp ; first | done | omega)) rfl)))))) | with_reducible apply Take.drop))⟩
  · (apply s_fin; (exact (show ResS _ _ _ _ [_] from ⟨rfl, trivial⟩)); (focus (refine ⟨?_, rfl⟩; show I _ = I _; rw [cd_none fun j hj => he j (by omega)])); (focus (repeat (first | with_reducible exact Take.nil | with_reducible apply Take.c | ((with_reducible apply Take.cE); (first | exact rfl | (apply blkE; (focus (first | exact rfl | exact recs_snocE rfl | exact map_snocE rfl | exact congrArg (fun v => [v]) (gslE rfl rfl (by first | rfl | exact ‹_› | omega | (simp ; first | done | omega)) (by first | rfl | exact ‹_› | omega | (simp ; first | done | omega)) rfl)))))) | with_reducible apply Take.drop))))
theorem rCode_any (c : Int) (h : SH) : SRun Try.prog 53 [.int .u8 c] h fun r q => r = I (cd c) ∧ q = h := by
  refine w_body1 Try.func53 rfl rfl ?_
  repeat' (first | apply w_seq | apply w_region | apply o_nil | (apply o_g tyOk; exact rfl; exact rfl) | (apply o_eqs; (iterate 3 exact rfl); (focus (kernel_rfl)); exact rfl; exact rfl; (focus (kernel_rfl)); exact rfl) | (apply w_true; exact rfl) | (apply w_false; exact rfl) | (apply w_dT; exact rfl; (focus (first | exact ‹_› | with_reducible exact rfl | omega))) | (apply w_dF; exact rfl; (focus (first | exact ‹_› | with_reducible exact rfl | omega))) | (apply w_ifN; exact rfl; all_goals intro hc) | (apply w_if; exact rfl; all_goals intro hc) | (apply w_ifB; exact rfl; all_goals intro hc) | apply thenS_normal | apply thenS_ret | apply thenS_exit | apply blockS_normal | apply blockS_ret | apply blockS_exit | apply w_skip | apply w_ret | apply w_exit | apply w_block | apply scopeS_normal | apply scopeS_ret | apply scopeS_exit | apply w_scope | (apply blockS_exit_ne; exact rfl) | ((with_reducible apply Sd.mk); (first | exact True.intro | omega | (constructor <;> first | omega | (unfold maxLen; omega)) | (unfold maxLen; omega))) | exact True.intro | exact rfl)
  all_goals (apply s_fin; (exact (show ResS _ _ _ _ [_] from ⟨rfl, trivial⟩)); (focus (refine ⟨?_, rfl⟩; show I _ = I _; unfold cd; simp [*])); (focus (repeat (first | with_reducible exact Take.nil | with_reducible apply Take.c | ((with_reducible apply Take.cE); (first | exact rfl | (apply blkE; (focus (first | exact rfl | exact recs_snocE rfl | exact map_snocE rfl | exact congrArg (fun v => [v]) (gslE rfl rfl (by first | rfl | exact ‹_› | omega | (simp ; first | done | omega)) (by first | rfl | exact ‹_› | omega | (simp ; first | done | omega)) rfl)))))) | with_reducible apply Take.drop))))
theorem Char_any (k : Int) (h : SH) : SRun Try.prog 60 [I k] h fun r q => r = .tuple #[.int .u8 (ch k), B (decide (0 ≤ k ∧ k < 4))] ∧ q = h := by
  by_cases hk : 0 ≤ k ∧ k < 4
  · obtain ⟨n, rfl⟩ := Int.eq_ofNat_of_zero_le hk.1
    rw [show ch (n : Int) = bat cs n from if_pos hk, decide_eq_true hk]
    refine w_body1 Try.func60 rfl rfl ?_
    repeat' (first | apply w_seq | apply w_region | apply o_nil | (apply o_g tyOk; exact rfl; exact rfl) | (apply o_want; exact rfl; exact rfl) | (apply o_skip; iterate 4 exact rfl) | (apply o_skip_undef; iterate 3 exact rfl) | (apply o_gT; (iterate 3 exact rfl); (focus (first | exact ‹_› | with_reducible exact rfl | omega))) | (apply o_gF; (iterate 3 exact rfl); (focus (first | exact ‹_› | with_reducible exact rfl | omega))) | (apply o_sF; (iterate 3 exact rfl); (focus (first | exact ‹_› | with_reducible exact rfl | omega)); exact rfl) | (apply o_sT; (iterate 3 exact rfl); (focus (first | exact ‹_› | with_reducible exact rfl | omega)); exact rfl) | (apply o_guardTN; (iterate 3 exact rfl); all_goals intro hc) | (apply o_guardFN; (iterate 3 exact rfl); all_goals intro hc) | (apply o_guardT; (iterate 3 exact rfl); all_goals intro hc) | (apply o_guardF; (iterate 3 exact rfl); all_goals intro hc) | (apply o_guardB; (iterate 3 exact rfl); all_goals intro hc) | (apply w_true; exact rfl) | (apply w_false; exact rfl) | (apply w_dT; exact rfl; (focus (first | exact ‹_› | with_reducible exact rfl | omega))) | (apply w_dF; exact rfl; (focus (first | exact ‹_› | with_reducible exact rfl | omega))) | (apply w_ifN; exact rfl; all_goals intro hc) | (apply w_if; exact rfl; all_goals intro hc) | (apply w_ifB; exact rfl; all_goals intro hc) | apply thenS_normal | apply thenS_ret | apply thenS_exit | apply blockS_normal | apply blockS_ret | apply blockS_exit | apply w_skip | apply w_ret | apply w_exit | apply w_block | apply scopeS_normal | apply scopeS_ret | apply scopeS_exit | apply w_scope | (apply blockS_exit_ne; exact rfl) | ((with_reducible apply Sd.mk); (first | exact True.intro | omega | (constructor <;> first | omega | (unfold maxLen; omega)) | (unfold maxLen; omega))) | exact True.intro | exact rfl)
    all_goals (apply s_fin; (exact (show ResS _ _ _ _ [_, _] from ⟨rfl, ⟨rfl, trivial⟩⟩)); (focus (exact ⟨rfl, rfl⟩)); (focus (repeat (first | with_reducible exact Take.nil | with_reducible apply Take.c | ((with_reducible apply Take.cE); (first | exact rfl | (apply blkE; (focus (first | exact rfl | exact recs_snocE rfl | exact map_snocE rfl | exact congrArg (fun v => [v]) (gslE rfl rfl (by first | rfl | exact ‹_› | omega | (simp ; first | done | omega)) (by first | rfl | exact ‹_› | omega | (simp ; first | done | omega)) rfl)))))) | with_reducible apply Take.drop))))
  · rw [show ch k = 0 from if_neg hk, decide_eq_false hk]
    refine w_body1 Try.func60 rfl rfl ?_
    repeat' (first | apply w_seq | apply w_region | apply o_nil | (apply o_g tyOk; exact rfl; exact rfl) | (apply o_want; exact rfl; exact rfl) | (apply o_skip; iterate 4 exact rfl) | (apply o_skip_undef; iterate 3 exact rfl) | (apply o_gT; (iterate 3 exact rfl); (focus (first | exact ‹_› | with_reducible exact rfl | omega))) | (apply o_gF; (iterate 3 exact rfl); (focus (first | exact ‹_› | with_reducible exact rfl | omega))) | (apply o_sF; (iterate 3 exact rfl); (focus (first | exact ‹_› | with_reducible exact rfl | omega)); exact rfl) | (apply o_sT; (iterate 3 exact rfl); (focus (first | exact ‹_› | with_reducible exact rfl | omega)); exact rfl) | (apply o_guardTN; (iterate 3 exact rfl); all_goals intro hc) | (apply o_guardFN; (iterate 3 exact rfl); all_goals intro hc) | (apply o_guardT; (iterate 3 exact rfl); all_goals intro hc) | (apply o_guardF; (iterate 3 exact rfl); all_goals intro hc) | (apply o_guardB; (iterate 3 exact rfl); all_goals intro hc) | (apply w_true; exact rfl) | (apply w_false; exact rfl) | (apply w_dT; exact rfl; (focus (first | exact ‹_› | with_reducible exact rfl | omega))) | (apply w_dF; exact rfl; (focus (first | exact ‹_› | with_reducible exact rfl | omega))) | (apply w_ifN; exact rfl; all_goals intro hc) | (apply w_if; exact rfl; all_goals intro hc) | (apply w_ifB; exact rfl; all_goals intro hc) | apply thenS_normal | apply thenS_ret | apply thenS_exit | apply blockS_normal | apply blockS_ret | apply blockS_exit | apply w_skip | apply w_ret | apply w_exit | apply w_block | apply scopeS_normal | apply scopeS_ret | apply scopeS_exit | apply w_scope | (apply blockS_exit_ne; exact rfl) | ((with_reducible apply Sd.mk); (first | exact True.intro | omega | (constructor <;> first | omega | (unfold maxLen; omega)) | (unfold maxLen; omega))) | exact True.intro | exact rfl)
    all_goals first | (exfalso; omega) | (apply s_fin; (exact (show ResS _ _ _ _ [_, _] from ⟨rfl, ⟨rfl, trivial⟩⟩)); (focus (exact ⟨rfl, rfl⟩)); (focus (repeat (first | with_reducible exact Take.nil | with_reducible apply Take.c | ((with_reducible apply Take.cE); (first | exact rfl | (apply blkE; (focus (first | exact rfl | exact recs_snocE rfl | exact map_snocE rfl | exact congrArg (fun v => [v]) (gslE rfl rfl (by first | rfl | exact ‹_› | omega | (simp ; first | done | omega)) (by first | rfl | exact ‹_› | omega | (simp ; first | done | omega)) rfl)))))) | with_reducible apply Take.drop))))
theorem rChar_any (k : Int) (h : SH) : SRun Try.prog 67 [I k] h fun r q => r = .tuple #[.int .u8 (ch k), B (decide (0 ≤ k ∧ k < 4))] ∧ q = h := by
  by_cases hk : 0 ≤ k ∧ k < 4
  · obtain ⟨n, rfl⟩ := Int.eq_ofNat_of_zero_le hk.1
    rw [show ch (n : Int) = bat cs n from if_pos hk, decide_eq_true hk]
    refine w_body1 Try.func67 rfl rfl ?_
    repeat' (first | apply w_seq | apply w_region | apply o_nil | (apply o_g tyOk; exact rfl; exact rfl) | (apply o_want; exact rfl; exact rfl) | (apply o_skip; iterate 4 exact rfl) | (apply o_skip_undef; iterate 3 exact rfl) | (apply o_gT; (iterate 3 exact rfl); (focus (first | exact ‹_› | with_reducible exact rfl | omega))) | (apply o_gF; (iterate 3 exact rfl); (focus (first | exact ‹_› | with_reducible exact rfl | omega))) | (apply o_sF; (iterate 3 exact rfl); (focus (first | exact ‹_› | with_reducible exact rfl | omega)); exact rfl) | (apply o_sT; (iterate 3 exact rfl); (focus (first | exact ‹_› | with_reducible exact rfl | omega)); exact rfl) | (apply o_guardTN; (iterate 3 exact rfl); all_goals intro hc) | (apply o_guardFN; (iterate 3 exact rfl); all_goals intro hc) | (apply o_guardT; (iterate 3 exact rfl); all_goals intro hc) | (apply o_guardF; (iterate 3 exact rfl); all_goals intro hc) | (apply o_guardB; (iterate 3 exact rfl); all_goals intro hc) | (apply w_true; exact rfl) | (apply w_false; exact rfl) | (apply w_dT; exact rfl; (focus (first | exact ‹_› | with_reducible exact rfl | omega))) | (apply w_dF; exact rfl; (focus (first | exact ‹_› | with_reducible exact rfl | omega))) | (apply w_ifN; exact rfl; all_goals intro hc) | (apply w_if; exact rfl; all_goals intro hc) | (apply w_ifB; exact rfl; all_goals intro hc) | apply thenS_normal | apply thenS_ret | apply thenS_exit | apply blockS_normal | apply blockS_ret | apply blockS_exit | apply w_skip | apply w_ret | apply w_exit | apply w_block | apply scopeS_normal | apply scopeS_ret | apply scopeS_exit | apply w_scope | (apply blockS_exit_ne; exact rfl) | ((with_reducible apply Sd.mk); (first | exact True.intro | omega | (constructor <;> first | omega | (unfold maxLen; omega)) | (unfold maxLen; omega))) | exact True.intro | exact rfl)
    all_goals first | (exfalso; omega) | (apply s_fin; (exact (show ResS _ _ _ _ [_, _] from ⟨rfl, ⟨rfl, trivial⟩⟩)); (focus (exact ⟨rfl, rfl⟩)); (focus (repeat (first | with_reducible exact Take.nil | with_reducible apply Take.c | ((with_reducible apply Take.cE); (first | exact rfl | (apply blkE; (focus (first | exact rfl | exact recs_snocE rfl | exact map_snocE rfl | exact congrArg (fun v => [v]) (gslE rfl rfl (by first | rfl | exact ‹_› | omega | (simp ; first | done | omega)) (by first | rfl | exact ‹_› | omega | (simp ; first | done | omega)) rfl)))))) | with_reducible apply Take.drop))))
  · rw [show ch k = 0 from if_neg hk, decide_eq_false hk]
    refine w_body1 Try.func67 rfl rfl ?_
    repeat' (first | apply w_seq | apply w_region | apply o_nil | (apply o_g tyOk; exact rfl; exact rfl) | (apply o_want; exact rfl; exact rfl) | (apply o_skip; iterate 4 exact rfl) | (apply o_skip_undef; iterate 3 exact rfl) | (apply o_gT; (iterate 3 exact rfl); (focus (first | exact ‹_› | with_reducible exact rfl | omega))) | (apply o_gF; (iterate 3 exact rfl); (focus (first | exact ‹_› | with_reducible exact rfl | omega))) | (apply o_sF; (iterate 3 exact rfl); (focus (first | exact ‹_› | with_reducible exact rfl | omega)); exact rfl) | (apply o_sT; (iterate 3 exact rfl); (focus (first | exact ‹_› | with_reducible exact rfl | omega)); exact rfl) | (apply o_guardTN; (iterate 3 exact rfl); all_goals intro hc) | (apply o_guardFN; (iterate 3 exact rfl); all_goals intro hc) | (apply o_guardT; (iterate 3 exact rfl); all_goals intro hc) | (apply o_guardF; (iterate 3 exact rfl); all_goals intro hc) | (apply o_guardB; (iterate 3 exact rfl); all_goals intro hc) | (apply w_true; exact rfl) | (apply w_false; exact rfl) | (apply w_dT; exact rfl; (focus (first | exact ‹_› | with_reducible exact rfl | omega))) | (apply w_dF; exact rfl; (focus (first | exact ‹_› | with_reducible exact rfl | omega))) | (apply w_ifN; exact rfl; all_goals intro hc) | (apply w_if; exact rfl; all_goals intro hc) | (apply w_ifB; exact rfl; all_goals intro hc) | apply thenS_normal | apply thenS_ret | apply thenS_exit | apply blockS_normal | apply blockS_ret | apply blockS_exit | apply w_skip | apply w_ret | apply w_exit | apply w_block | apply scopeS_normal | apply scopeS_ret | apply scopeS_exit | apply w_scope | (apply blockS_exit_ne; exact rfl) | ((with_reducible apply Sd.mk); (first | exact True.intro | omega | (constructor <;> first | omega | (unfold maxLen; omega)) | (unfold maxLen; omega))) | exact True.intro | exact rfl)
    all_goals first | (exfalso; omega) | (apply s_fin; (exact (show ResS _ _ _ _ [_, _] from ⟨rfl, ⟨rfl, trivial⟩⟩)); (focus (exact ⟨rfl, rfl⟩)); (focus (repeat (first | with_reducible exact Take.nil | with_reducible apply Take.c | ((with_reducible apply Take.cE); (first | exact rfl | (apply blkE; (focus (first | exact rfl | exact recs_snocE rfl | exact map_snocE rfl | exact congrArg (fun v => [v]) (gslE rfl rfl (by first | rfl | exact ‹_› | omega | (simp ; first | done | omega)) (by first | rfl | exact ‹_› | omega | (simp ; first | done | omega)) rfl)))))) | with_reducible apply Take.drop))))
theorem cd_ge {c : Int} : 0 ≤ cd c ↔ c = 48 ∨ c = 49 ∨ c = 120 ∨ c = 122 := by
  unfold cd; (repeat' split) <;> omega
theorem rValid1_any (c : Int) (h : SH) : SRun Try.prog 49 [.int .u8 c] h fun r q => r = B (decide (0 ≤ cd c)) ∧ q = h := by
  rw [show decide (0 ≤ cd c) = decide (c = 48 ∨ c = 49 ∨ c = 120 ∨ c = 122) from decide_eq_decide.2 cd_ge]
  refine w_body1 Try.func49 rfl rfl ?_
  repeat' (first | apply w_seq | apply w_region | apply o_nil | (apply o_g tyOk; exact rfl; exact rfl) | (apply o_eqs; (iterate 3 exact rfl); (focus (kernel_rfl)); exact rfl; exact rfl; (focus (kernel_rfl)); exact rfl) | (apply o_want; exact rfl; exact rfl) | (apply o_skip; iterate 4 exact rfl) | (apply o_skip_undef; iterate 3 exact rfl) | (apply o_gT; (iterate 3 exact rfl); (focus (first | exact ‹_› | with_reducible exact rfl | omega))) | (apply o_gF; (iterate 3 exact rfl); (focus (first | exact ‹_› | with_reducible exact rfl | omega))) | (apply o_sF; (iterate 3 exact rfl); (focus (first | exact ‹_› | with_reducible exact rfl | omega)); exact rfl) | (apply o_sT; (iterate 3 exact rfl); (focus (first | exact ‹_› | with_reducible exact rfl | omega)); exact rfl) | (apply o_guardTN; (iterate 3 exact rfl); all_goals intro hc) | (apply o_guardFN; (iterate 3 exact rfl); all_goals intro hc) | (apply o_guardT; (iterate 3 exact rfl); all_goals intro hc) | (apply o_guardF; (iterate 3 exact rfl); all_goals intro hc) | (apply o_guardB; (iterate 3 exact rfl); all_goals intro hc) | (apply w_true; exact rfl) | (apply w_false; exact rfl) | (apply w_dT; exact rfl; (focus (first | exact ‹_› | with_reducible exact rfl | omega))) | (apply w_dF; exact rfl; (focus (first | exact ‹_› | with_reducible exact rfl | omega))) | (apply w_ifN; exact rfl; all_goals intro hc) | (apply w_if; exact rfl; all_goals intro hc) | (apply w_ifB; exact rfl; all_goals intro hc) | apply thenS_normal | apply thenS_ret | apply thenS_exit | apply blockS_normal | apply blockS_ret | apply blockS_exit | apply w_skip | apply w_ret | apply w_exit | apply w_block | apply scopeS_normal | apply scopeS_ret | apply scopeS_exit | apply w_scope | (apply blockS_exit_ne; exact rfl) | ((with_reducible apply Sd.mk); (first | exact True.intro | omega | (constructor <;> first | omega | (unfold maxLen; omega)) | (unfold maxLen; omega))) | exact True.intro | exact rfl)
  all_goals (apply s_fin; (exact (show ResS _ _ _ _ [_] from ⟨rfl, trivial⟩)); (focus (exact ⟨by show B _ = B _; simp [*], rfl⟩)); (focus (repeat (first | with_reducible exact Take.nil | with_reducible apply Take.c | ((with_reducible apply Take.cE); (first | exact rfl | (apply blkE; (focus (first | exact rfl | exact recs_snocE rfl | exact map_snocE rfl | exact congrArg (fun v => [v]) (gslE rfl rfl (by first | rfl | exact ‹_› | omega | (simp ; first | done | omega)) (by first | rfl | exact ‹_› | omega | (simp ; first | done | omega)) rfl)))))) | with_reducible apply Take.drop))))
/-- The code, 2 for all that is no character. -/
def ck (c : Int) : Int := if 0 ≤ cd c then cd c else 2
theorem known1_any (c : Int) (h : SH) : SRun Try.prog 78 [.int .u8 c] h fun r q => r = I (ck c) ∧ q = h := by
  refine w_body1 Try.func78 rfl rfl ?_
  repeat' (first | apply w_seq | apply w_region | apply o_nil | (apply o_g tyOk; exact rfl; exact rfl) | (apply o_call; exact rfl; exact rfl; (focus (first | exact rfl | assumption)); exact rfl; (focus (exact ⟨_, Code_any c _, by repeat (first | with_reducible exact Take.nil | with_reducible apply Take.c | with_reducible apply Take.drop)⟩)); rintro _ _ ⟨rfl, rfl⟩) | (apply o_callN; (iterate 3 exact rfl); (focus (exact ⟨_, Code_any c _, by repeat (first | with_reducible exact Take.nil | with_reducible apply Take.c | with_reducible apply Take.drop)⟩)); rintro _ _ ⟨rfl, rfl⟩) | (apply w_true; exact rfl) | (apply w_false; exact rfl) | (apply w_dT; exact rfl; (focus (first | exact ‹_› | with_reducible exact rfl | omega))) | (apply w_dF; exact rfl; (focus (first | exact ‹_› | with_reducible exact rfl | omega))) | (apply w_ifN; exact rfl; all_goals intro hc) | (apply w_if; exact rfl; all_goals intro hc) | (apply w_ifB; exact rfl; all_goals intro hc) | apply thenS_normal | apply thenS_ret | apply thenS_exit | apply blockS_normal | apply blockS_ret | apply blockS_exit | apply w_skip | apply w_ret | apply w_exit | apply w_block | apply scopeS_normal | apply scopeS_ret | apply scopeS_exit | apply w_scope | (apply blockS_exit_ne; exact rfl) | ((with_reducible apply Sd.mk); (first | exact True.intro | omega | (constructor <;> first | omega | (unfold maxLen; omega)) | (unfold maxLen; omega))) | exact True.intro | exact rfl)
  · (apply s_fin; (exact (show ResS _ _ _ _ [_] from ⟨rfl, trivial⟩)); (focus (exact ⟨by show I _ = I _; rw [ck, if_pos (by assumption)], rfl⟩)); (focus (repeat (first | with_reducible exact Take.nil | with_reducible apply Take.c | ((with_reducible apply Take.cE); (first | exact rfl | (apply blkE; (focus (first | exact rfl | exact recs_snocE rfl | exact map_snocE rfl | exact congrArg (fun v => [v]) (gslE rfl rfl (by first | rfl | exact ‹_› | omega | (simp ; first | done | omega)) (by first | rfl | exact ‹_› | omega | (simp ; first | done | omega)) rfl)))))) | with_reducible apply Take.drop))))
  · (apply s_fin; (exact (show ResS _ _ _ _ [_] from ⟨rfl, trivial⟩)); (focus (exact ⟨by show I _ = I _; rw [ck, if_neg (by omega)], rfl⟩)); (focus (repeat (first | with_reducible exact Take.nil | with_reducible apply Take.c | ((with_reducible apply Take.cE); (first | exact rfl | (apply blkE; (focus (first | exact rfl | exact recs_snocE rfl | exact map_snocE rfl | exact congrArg (fun v => [v]) (gslE rfl rfl (by first | rfl | exact ‹_› | omega | (simp ; first | done | omega)) (by first | rfl | exact ‹_› | omega | (simp ; first | done | omega)) rfl)))))) | with_reducible apply Take.drop))))
/-- 0 and 1 exchanged. -/
def nv (c : Int) : Int := if c = 48 then 49 else if c = 49 then 48 else if c = 122 then 122 else 120
theorem ck_at (c : Int) : ∃ k : Nat, ck c = k ∧ k < 4 ∧ nv c = bat [49, 48, 120, 122] k := by
  have := cd_in c
  unfold ck nv cd
  (repeat' split) <;> first | (exfalso; omega) | exact ⟨0, rfl, by decide, rfl⟩ | exact ⟨1, rfl, by decide, rfl⟩ | exact ⟨2, rfl, by decide, rfl⟩ | exact ⟨3, rfl, by decide, rfl⟩
theorem rNot_any (c : Int) (h : SH) : SRun Try.prog 79 [.int .u8 c] h fun r q => r = .int .u8 (if c = 48 then 49 else if c = 49 then 48 else 120) ∧ q = h := by
  refine w_body1 Try.func79 rfl rfl ?_
  repeat' (first | apply w_seq | apply w_region | apply o_nil | (apply o_g tyOk; exact rfl; exact rfl) | (apply o_eqs; (iterate 3 exact rfl); (focus (kernel_rfl)); exact rfl; exact rfl; (focus (kernel_rfl)); exact rfl) | (apply w_true; exact rfl) | (apply w_false; exact rfl) | (apply w_dT; exact rfl; (focus (first | exact ‹_› | with_reducible exact rfl | omega))) | (apply w_dF; exact rfl; (focus (first | exact ‹_› | with_reducible exact rfl | omega))) | (apply w_ifN; exact rfl; all_goals intro hc) | (apply w_if; exact rfl; all_goals intro hc) | (apply w_ifB; exact rfl; all_goals intro hc) | apply thenS_normal | apply thenS_ret | apply thenS_exit | apply blockS_normal | apply blockS_ret | apply blockS_exit | apply w_skip | apply w_ret | apply w_exit | apply w_block | apply scopeS_normal | apply scopeS_ret | apply scopeS_exit | apply w_scope | (apply blockS_exit_ne; exact rfl) | ((with_reducible apply Sd.mk); (first | exact True.intro | omega | (constructor <;> first | omega | (unfold maxLen; omega)) | (unfold maxLen; omega))) | exact True.intro | exact rfl)
  all_goals (apply s_fin; (exact (show ResS _ _ _ _ [_] from ⟨rfl, trivial⟩)); (focus (exact ⟨by show Value.int _ _ = Value.int _ _; simp [*], rfl⟩)); (focus (repeat (first | with_reducible exact Take.nil | with_reducible apply Take.c | ((with_reducible apply Take.cE); (first | exact rfl | (apply blkE; (focus (first | exact rfl | exact recs_snocE rfl | exact map_snocE rfl | exact congrArg (fun v => [v]) (gslE rfl rfl (by first | rfl | exact ‹_› | omega | (simp ; first | done | omega)) (by first | rfl | exact ‹_› | omega | (simp ; first | done | omega)) rfl)))))) | with_reducible apply Take.drop))))
theorem rInverse1_any (c : Int) (h : SH) : SRun Try.prog 69 [.int .u8 c] h fun r q => r = .int .u8 (nv c) ∧ q = h := by
  refine w_body1 Try.func69 rfl rfl ?_
  repeat' (first | apply w_seq | apply w_region | apply o_nil | (apply o_g tyOk; exact rfl; exact rfl) | (apply o_eqs; (iterate 3 exact rfl); (focus (kernel_rfl)); exact rfl; exact rfl; (focus (kernel_rfl)); exact rfl) | (apply o_call; exact rfl; exact rfl; (focus (first | exact rfl | assumption)); exact rfl; (focus (exact ⟨_, rNot_any c _, by repeat (first | with_reducible exact Take.nil | with_reducible apply Take.c | with_reducible apply Take.drop)⟩)); rintro _ _ ⟨rfl, rfl⟩) | (apply o_callN; (iterate 3 exact rfl); (focus (exact ⟨_, rNot_any c _, by repeat (first | with_reducible exact Take.nil | with_reducible apply Take.c | with_reducible apply Take.drop)⟩)); rintro _ _ ⟨rfl, rfl⟩) | (apply w_true; exact rfl) | (apply w_false; exact rfl) | (apply w_dT; exact rfl; (focus (first | exact ‹_› | with_reducible exact rfl | omega))) | (apply w_dF; exact rfl; (focus (first | exact ‹_› | with_reducible exact rfl | omega))) | (apply w_ifN; exact rfl; all_goals intro hc) | (apply w_if; exact rfl; all_goals intro hc) | (apply w_ifB; exact rfl; all_goals intro hc) | apply thenS_normal | apply thenS_ret | apply thenS_exit | apply blockS_normal | apply blockS_ret | apply blockS_exit | apply w_skip | apply w_ret | apply w_exit | apply w_block | apply scopeS_normal | apply scopeS_ret | apply scopeS_exit | apply w_scope | (apply blockS_exit_ne; exact rfl) | ((with_reducible apply Sd.mk); (first | exact True.intro | omega | (constructor <;> first | omega | (unfold maxLen; omega)) | (unfold maxLen; omega))) | exact True.intro | exact rfl)
  all_goals (apply s_fin; (exact (show ResS _ _ _ _ [_] from ⟨rfl, trivial⟩)); (focus (exact ⟨by show Value.int _ _ = Value.int _ _; unfold nv; simp [*], rfl⟩)); (focus (repeat (first | with_reducible exact Take.nil | with_reducible apply Take.c | ((with_reducible apply Take.cE); (first | exact rfl | (apply blkE; (focus (first | exact rfl | exact recs_snocE rfl | exact map_snocE rfl | exact congrArg (fun v => [v]) (gslE rfl rfl (by first | rfl | exact ‹_› | omega | (simp ; first | done | omega)) (by first | rfl | exact ‹_› | omega | (simp ; first | done | omega)) rfl)))))) | with_reducible apply Take.drop))))
theorem Inverse1_any (c : Int) (h : SH) : SRun Try.prog 68 [.int .u8 c] h fun r q => r = .int .u8 (nv c) ∧ q = h := by
  obtain ⟨k, e, hk, hn⟩ := ck_at c
  have hK := fun h => known1_any c h
  rw [e] at hK
  rw [hn]
  obtain rfl | rfl | rfl | rfl : k = 0 ∨ k = 1 ∨ k = 2 ∨ k = 3 := by omega
  all_goals
    refine w_body1 Try.func68 rfl rfl ?_
    repeat' (first | apply w_seq | apply w_region | apply o_nil | (apply o_g tyOk; exact rfl; exact rfl) | (apply o_buildArr tyOk; (iterate 4 exact rfl); (focus (repeat (first | exact BuildR.nil | (apply BuildR.one; exact rfl; exact rfl; (first | (focus ((repeat (first | exact SetAt.zero | apply SetAt.succ)); done)) | exact setAt_bytes (by omega) (by omega) | exact setAt_mapZ (by omega) | exact setAt_map (by omega))) | (apply BuildR.agg; exact rfl; exact rfl; (first | exact putAt_all rfl | exact putAt_recZ (fun _ => rfl) (by omega) | exact putAt_rec (fun _ => rfl) (by omega)))))); exact rfl) | (apply o_call; exact rfl; exact rfl; (focus (first | exact rfl | assumption)); exact rfl; (focus (exact ⟨_, hK _, by repeat (first | with_reducible exact Take.nil | with_reducible apply Take.c | with_reducible apply Take.drop)⟩)); rintro _ _ ⟨rfl, rfl⟩) | (apply o_callN; (iterate 3 exact rfl); (focus (exact ⟨_, hK _, by repeat (first | with_reducible exact Take.nil | with_reducible apply Take.c | with_reducible apply Take.drop)⟩)); rintro _ _ ⟨rfl, rfl⟩) | (apply w_true; exact rfl) | (apply w_false; exact rfl) | (apply w_dT; exact rfl; (focus (first | exact ‹_› | with_reducible exact rfl | omega))) | (apply w_dF; exact rfl; (focus (first | exact ‹_› | with_reducible exact rfl | omega))) | (apply w_ifN; exact rfl; all_goals intro hc) | (apply w_if; exact rfl; all_goals intro hc) | (apply w_ifB; exact rfl; all_goals intro hc) | apply thenS_normal | apply thenS_ret | apply thenS_exit | apply blockS_normal | apply blockS_ret | apply blockS_exit | apply w_skip | apply w_ret | apply w_exit | apply w_block | apply scopeS_normal | apply scopeS_ret | apply scopeS_exit | apply w_scope | (apply blockS_exit_ne; exact rfl) | ((with_reducible apply Sd.mk); (first | exact True.intro | omega | (constructor <;> first | omega | (unfold maxLen; omega)) | (unfold maxLen; omega))) | exact True.intro | exact rfl)
    all_goals (apply s_fin; (exact (show ResS _ _ _ _ [_] from ⟨rfl, trivial⟩)); (focus (exact ⟨rfl, rfl⟩)); (focus (repeat (first | with_reducible exact Take.nil | with_reducible apply Take.c | ((with_reducible apply Take.cE); (first | exact rfl | (apply blkE; (focus (first | exact rfl | exact recs_snocE rfl | exact map_snocE rfl | exact congrArg (fun v => [v]) (gslE rfl rfl (by first | rfl | exact ‹_› | omega | (simp ; first | done | omega)) (by first | rfl | exact ‹_› | omega | (simp ; first | done | omega)) rfl)))))) | with_reducible apply Take.drop))))
end Go.Proofs.Ytoachkpkbgpmjaa
end
