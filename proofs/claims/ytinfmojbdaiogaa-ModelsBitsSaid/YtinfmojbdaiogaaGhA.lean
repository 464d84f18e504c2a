/- The ghost heap: values, heaps and frames without capacities, draws and block numbers, and their relation to the model's worlds. No program in sight. -/
import Derived.WalkKit
set_option linter.unusedVariables false
set_option linter.unusedSimpArgs false
set_option maxRecDepth 4000
namespace Go.Gh
open Go.RowKit

structure Loc where
  b : Nat
  base : Nat
  size : Nat
  mp : Bool

structure Blk where
  cells : List Value
  ro : Bool

/-- Blocks by number; a number may be kept free. -/
abbrev Heap := List (Option Blk)
abbrev Lens := Nat → Option Nat
def lens (H : Heap) : Lens := fun A => ((H[A]?).join).map (·.cells.length)

inductive Val (φ : Nat → Loc) (L : Lens) : Value → Value → Prop
  | bool (b : Bool) : Val φ L (.bool b) (.bool b)
  | int (k : IntKind) (n : Int) : Val φ L (.int k n) (.int k n)
  | str (s : ByteArray) : Val φ L (.string s) (.string s)
  | pnil : Val φ L (.pointer none) (.pointer none)
  | ptr (A o v n : Nat) (c : Addr) (hL : L A = some n) (hv : v ≤ n) (h : v = n → c = ⟨(φ A).b, (φ A).base + o, none⟩ ∧ (φ A).mp = false) :
      Val φ L (.pointer (some ⟨A, o, some v⟩)) (.pointer (some c))
  | snil : Val φ L (.slice none 0 0) (.slice none 0 0)
  | slc (A o v n len fl cap : Nat) (c : Addr) (hL : L A = some n) (hv : v ≤ n) (hc : len ≤ cap) (hm : cap ≤ maxLen)
      (h : v = n → c = ⟨(φ A).b, (φ A).base + o, none⟩ ∧ (fl ≠ 0 → (φ A).base + o + cap * fl ≤ (φ A).size) ∧ (φ A).mp = false) :
      Val φ L (.slice (some ⟨A, o, some v⟩) len fl) (.slice (some c) len cap)
  | sdead (c : Addr) (cap : Nat) (hm : cap ≤ maxLen) : Val φ L (.slice (some ⟨0, 0, none⟩) 0 0) (.slice (some c) 0 cap)
  | full (A o v n len : Nat) (c : Addr) (hL : L A = some n) (hv : v ≤ n) (hm : len ≤ maxLen) (h : v = n → c = ⟨(φ A).b, (φ A).base + o, none⟩ ∧ (φ A).mp = false) :
      Val φ L (.slice (some ⟨A, o, none⟩) len (v + 1)) (.slice (some c) len len)
  | map (A n r : Nat) (hL : L A = some n) (h : (φ A).mp = true ∧ r = (φ A).b) : Val φ L (.map (some A)) (.map (some r))
  | mnil : Val φ L (.map none) (.map none)
  | func (f : Fn) (a b c d : Array Value) (h1 : a.size = b.size) (h2 : ∀ i (h : i < a.size) (h' : i < b.size), Val φ L a[i] b[i])
      (h3 : c.size = d.size) (h4 : ∀ i (h : i < c.size) (h' : i < d.size), Val φ L c[i] d[i]) : Val φ L (.func f a c) (.func f b d)
  | fnil : Val φ L .nilFunc .nilFunc
  | inil : Val φ L .nilIface .nilIface
  | iface (t : TypeId) (v v' : Value) (h : Val φ L v v') : Val φ L (.iface t v) (.iface t v')
  | agg (a b : Array Value) (h1 : a.size = b.size) (h2 : ∀ i (h : i < a.size) (h' : i < b.size), Val φ L a[i] b[i]) : Val φ L (.agg a) (.agg b)
  | tuple (a b : Array Value) (h1 : a.size = b.size) (h2 : ∀ i (h : i < a.size) (h' : i < b.size), Val φ L a[i] b[i]) : Val φ L (.tuple a) (.tuple b)

def Ext (φ : Nat → Loc) (L : Lens) (φ' : Nat → Loc) (L' : Lens) : Prop :=
  ∀ A n, L A = some n → ∃ n', L' A = some n' ∧ ((n' = n ∧ φ' A = φ A) ∨ (n < n' ∧ ((φ A).mp = true → φ' A = φ A)))

theorem Ext.refl (φ : Nat → Loc) (L : Lens) : Ext φ L φ L := fun _ n h => ⟨n, h, .inl ⟨rfl, rfl⟩⟩

theorem Ext.trans {φ φ' φ'' : Nat → Loc} {L L' L'' : Lens} (h : Ext φ L φ' L') (k : Ext φ' L' φ'' L'') : Ext φ L φ'' L'' := by
  intro A n hn
  obtain ⟨n', h1, h2⟩ := h A n hn
  obtain ⟨n'', h3, h4⟩ := k A n' h1
  refine ⟨n'', h3, ?_⟩
  rcases h2 with ⟨rfl, e⟩ | ⟨h2, e⟩
  · rcases h4 with ⟨rfl, e'⟩ | ⟨h4, e'⟩
    · exact .inl ⟨rfl, e'.trans e⟩
    · exact .inr ⟨h4, fun hm => (e' (by rw [e]; exact hm)).trans e⟩
  · rcases h4 with ⟨rfl, e'⟩ | ⟨h4, e'⟩
    · exact .inr ⟨h2, fun hm => e'.trans (e hm)⟩
    · exact .inr ⟨by omega, fun hm => (e' (by rw [e hm]; exact hm)).trans (e hm)⟩

theorem Val.mono {φ φ' : Nat → Loc} {L L' : Lens} (e : Ext φ L φ' L') {v v' : Value} (h : Val φ L v v') : Val φ' L' v v' := by
  induction h with
  | bool b => exact .bool b
  | int k n => exact .int k n
  | str s => exact .str s
  | pnil => exact .pnil
  | ptr A o v n c hL hv h =>
    obtain ⟨n', h1, h2⟩ := e A n hL
    rcases h2 with ⟨rfl, e'⟩ | ⟨h2, _⟩
    · exact .ptr A o v n' c h1 hv (fun q => by rw [e']; exact h q)
    · exact .ptr A o v n' c h1 (by omega) (fun q => by omega)
  | snil => exact .snil
  | slc A o v n len fl cap c hL hv hc hm h =>
    obtain ⟨n', h1, h2⟩ := e A n hL
    rcases h2 with ⟨rfl, e'⟩ | ⟨h2, _⟩
    · exact .slc A o v n' len fl cap c h1 hv hc hm (fun q => by rw [e']; exact h q)
    · exact .slc A o v n' len fl cap c h1 (by omega) hc hm (fun q => by omega)
  | full A o v n len c hL hv hm h =>
    obtain ⟨n', h1, h2⟩ := e A n hL
    rcases h2 with ⟨rfl, e'⟩ | ⟨h2, _⟩
    · exact .full A o v n' len c h1 hv hm (fun q => by rw [e']; exact h q)
    · exact .full A o v n' len c h1 (by omega) hm (fun q => by omega)
  | map A n r hL h =>
    obtain ⟨n', h1, h2⟩ := e A n hL
    rcases h2 with ⟨rfl, e'⟩ | ⟨h2, e'⟩
    · exact .map A n' r h1 (by rw [e']; exact h)
    · exact .map A n' r h1 (by rw [e' h.1]; exact h)
  | sdead c cap hm => exact .sdead c cap hm
  | mnil => exact .mnil
  | func f a b c d h1 _ h3 _ ih1 ih2 => exact .func f a b c d h1 ih1 h3 ih2
  | fnil => exact .fnil
  | inil => exact .inil
  | iface t v v' _ ih => exact .iface t v v' ih
  | agg a b h1 _ ih => exact .agg a b h1 ih
  | tuple a b h1 _ ih => exact .tuple a b h1 ih

/-- A constant that holds no address. -/
def constOk : Value → Bool
  | .bool _ | .int _ _ | .string _ | .pointer none | .slice none 0 0 | .map none | .nilFunc | .nilIface => true
  | .iface _ (.int _ _) | .iface _ (.string _) => true
  | .agg cs => cs.toList.all fun
    | .bool _ | .int _ _ | .string _ | .pointer none | .slice none 0 0 | .map none | .nilFunc | .nilIface => true
    | _ => false
  | .tuple cs => cs.toList.all fun
    | .bool _ | .int _ _ | .string _ | .pointer none | .slice none 0 0 | .map none | .nilFunc | .nilIface => true
    | _ => false
  | _ => false

theorem Val.const1 {φ : Nat → Loc} {L : Lens} {v : Value}
    (h : (match v with
      | .bool _ | .int _ _ | .string _ | .pointer none | .slice none 0 0 | .map none | .nilFunc | .nilIface => true
      | _ => false) = true) : Val φ L v v := by
  split at h <;> first | cases h | skip
  · exact .bool _
  · exact .int _ _
  · exact .str _
  · exact .pnil
  · exact .snil
  · exact .mnil
  · exact .fnil
  · exact .inil

theorem Val.const {φ : Nat → Loc} {L : Lens} {v : Value} (h : constOk v = true) : Val φ L v v := by
  unfold constOk at h
  split at h
  · exact .bool _
  · exact .int _ _
  · exact .str _
  · exact .pnil
  · exact .snil
  · exact .mnil
  · exact .fnil
  · exact .inil
  · exact .iface _ _ _ (.int _ _)
  · exact .iface _ _ _ (.str _)
  · rename_i cs
    refine .agg cs cs rfl fun i h1 h2 => Val.const1 ?_
    exact (List.all_eq_true.1 h) cs[i] (Array.mem_toList_iff.2 (Array.getElem_mem h1))
  · rename_i cs
    refine .tuple cs cs rfl fun i h1 h2 => Val.const1 ?_
    exact (List.all_eq_true.1 h) cs[i] (Array.mem_toList_iff.2 (Array.getElem_mem h1))
  · cases h

/-- A scalar: the value of the model is the ghost's. -/
def scalar : Value → Bool
  | .bool _ | .int _ _ | .string _ => true
  | _ => false
theorem Val.scalar {φ : Nat → Loc} {L : Lens} {v v' : Value} (h : Val φ L v v') (hs : scalar v = true) : v' = v := by
  cases h <;> first | rfl | cases hs

/-- A value without addresses, or an aggregate of such. -/
theorem Val.det {φ : Nat → Loc} {L : Lens} {v v' : Value} (hs : constOk v = true) (h : Val φ L v v') : v' = v := by
  have one : ∀ {u u' : Value}, Val φ L u u' → (match u with
      | .bool _ | .int _ _ | .string _ | .pointer none | .slice none 0 0 | .map none | .nilFunc | .nilIface => true
      | _ => false) = true → u' = u := by
    intro u u' h hu
    cases h <;> first | rfl | (simp at hu)
  have arr : ∀ {a b : Array Value}, a.size = b.size → (∀ i (h : i < a.size) (h' : i < b.size), Val φ L a[i] b[i]) → (a.toList.all fun
    | .bool _ | .int _ _ | .string _ | .pointer none | .slice none 0 0 | .map none | .nilFunc | .nilIface => true
    | _ => false) = true → b = a := by
    intro a b h1 h2 h3
    refine Array.ext h1.symm fun i hi hi' => ?_
    exact one (h2 i hi' hi) ((List.all_eq_true.1 h3) a[i] (Array.mem_toList_iff.2 (Array.getElem_mem hi')))
  cases h with
  | agg a b h1 h2 => rw [arr h1 h2 hs]
  | tuple a b h1 h2 => rw [arr h1 h2 hs]
  | iface t w w' h =>
    cases h <;> first | rfl | (simp [constOk] at hs)
  | _ => first | rfl | (simp [constOk] at hs)

/-- The keys and values of a map, one after another. -/
def flat (es : List MapEntry) : List Value := es.flatMap fun e => [e.key, e.val]
theorem flat_len : ∀ (es : List MapEntry), (flat es).length = 2 * es.length
  | [] => rfl
  | e :: es => by have := flat_len es; simp only [flat, List.flatMap_cons, List.length_append, List.length_cons, List.length_nil] at this ⊢; omega
/-- The row of values that an object holds. -/
inductive View (l : Loc) (g : Blk) : Obj → Array Value → Prop
  | cells {c T fz} (hm : l.mp = false) (hs : c.size = l.size) (hf : g.ro = false → ∀ i, i < c.size → ¬ (fz.1 ≤ i ∧ i < fz.2)) : View l g (.cells c T fz) c
  | map {es clock} (hm : l.mp = true) (hb : l.base = 0) (hl : g.cells.length = 2 * es.size) : View l g (.map es clock) (flat es.toList).toArray
structure BRel (φ : Nat → Loc) (L : Lens) (g : Blk) (l : Loc) (w : World) : Prop where
  any : ∃ o c, w.heap[l.b]? = some o ∧ View l g o c ∧ l.base + g.cells.length ≤ c.size ∧ ∀ i v, g.cells[i]? = some v → ∃ v', c[l.base + i]? = some v' ∧ Val φ L v v'
theorem BRel.ex {φ : Nat → Loc} {L : Lens} {g : Blk} {l : Loc} {w : World} (h : BRel φ L g l w) (hm : l.mp = false) :
    ∃ c T fz, w.heap[l.b]? = some (.cells c T fz) ∧ c.size = l.size ∧ l.base + g.cells.length ≤ c.size ∧ (g.ro = false → ∀ i, i < c.size → ¬ (fz.1 ≤ i ∧ i < fz.2)) ∧
    ∀ i v, g.cells[i]? = some v → ∃ v', c[l.base + i]? = some v' ∧ Val φ L v v' := by
  obtain ⟨o, c, h1, h2, h3, h4⟩ := h.any
  cases h2 with
  | cells _ hs hf => exact ⟨_, _, _, h1, hs, h3, hf, h4⟩
  | map hm' => rw [hm] at hm'; cases hm'

structure Rel (B0 : Nat) (w0 : World) (φ : Nat → Loc) (H : Heap) (w : World) : Prop where
  below : Below B0 w0 w
  b0 : B0 ≤ w0.heap.size
  blk : ∀ A g, H[A]? = some (some g) → BRel φ (lens H) g (φ A) w
  own : ∀ A g, H[A]? = some (some g) → g.ro = false → B0 ≤ (φ A).b ∧ (φ A).base = 0
  inj : ∀ A A' g g', H[A]? = some (some g) → g.ro = false → H[A']? = some (some g') → (φ A').b = (φ A).b → A' = A

theorem Rel.lt {B0 : Nat} {w0 : World} {φ : Nat → Loc} {H : Heap} {w : World} (r : Rel B0 w0 φ H w) {A : Nat} {g : Blk} (h : H[A]? = some (some g)) : (φ A).b < w.heap.size := by
  obtain ⟨o, c, h1, _⟩ := (r.blk A g h).any
  exact (Array.getElem?_eq_some_iff.1 h1).1

def upd (φ : Nat → Loc) (A : Nat) (l : Loc) : Nat → Loc := fun B => if B = A then l else φ B
theorem upd_same {φ : Nat → Loc} {A : Nat} {l : Loc} : upd φ A l A = l := by simp [upd]
theorem upd_ne {φ : Nat → Loc} {A B : Nat} {l : Loc} (h : B ≠ A) : upd φ A l B = φ B := by simp [upd, h]

structure VRel (φ : Nat → Loc) (L : Lens) (as : List Value) (vs : Array Value) : Prop where
  size : vs.size = as.length
  get : ∀ (i : Nat) (v : Value), as[i]? = some v → ∃ v', vs[i]? = some v' ∧ Val φ L v v'

theorem VRel.mono {φ φ' : Nat → Loc} {L L' : Lens} (e : Ext φ L φ' L') {as : List Value} {vs : Array Value} (h : VRel φ L as vs) : VRel φ' L' as vs :=
  ⟨h.size, fun i v hi => let ⟨v', h1, h2⟩ := h.get i v hi; ⟨v', h1, h2.mono e⟩⟩

theorem lens_live {H : Heap} {A n : Nat} (h : lens H A = some n) : ∃ g, H[A]? = some (some g) ∧ g.cells.length = n := by
  unfold lens at h
  cases hA : H[A]? with
  | none => rw [hA] at h; cases h
  | some x =>
    cases x with
    | none => rw [hA] at h; cases h
    | some g => rw [hA] at h; simp only [Option.join_some, Option.map_some, Option.some.injEq] at h; exact ⟨g, rfl, h⟩
theorem lens_some {H : Heap} {A n : Nat} (h : lens H A = some n) : A < H.length := by
  obtain ⟨g, h, _⟩ := lens_live h
  exact (List.getElem?_eq_some_iff.1 h).1

theorem lens_of {H : Heap} {A : Nat} {g : Blk} (h : H[A]? = some (some g)) : lens H A = some g.cells.length := by simp [lens, h]

theorem lens_app_lt {H : Heap} {g : Blk} {A : Nat} (h : A < H.length) : lens (H ++ [some g]) A = lens H A := by
  simp [lens, List.getElem?_append_left h]
theorem lens_app_eq {H : Heap} {g : Blk} : lens (H ++ [some g]) H.length = some g.cells.length := by
  simp [lens]
theorem lens_set_ne {H : Heap} {g : Blk} {A B : Nat} (h : B ≠ A) : lens (H.set A (some g)) B = lens H B := by
  simp only [lens]; rw [List.getElem?_set_ne (by omega)]
theorem lens_set_eq {H : Heap} {g : Blk} {A : Nat} (h : A < H.length) : lens (H.set A (some g)) A = some g.cells.length := by
  simp [lens, h]

/-- Number A, which was free, is b. -/
structure Place (H : Heap) (A : Nat) (H' : Heap) (b : Blk) : Prop where
  at_ : H'[A]? = some (some b)
  ne : ∀ B, B ≠ A → H'[B]? = H[B]?
  free : ∀ g, H[A]? ≠ some (some g)
theorem Place.app (H : Heap) (b : Blk) : Place H H.length (H ++ [some b]) b := by
  refine ⟨by simp, fun B hB => ?_, fun g h => ?_⟩
  · rcases Nat.lt_or_ge B H.length with h | h
    · rw [List.getElem?_append_left h]
    · rw [List.getElem?_eq_none (by simp; omega), List.getElem?_eq_none h]
  · rw [List.getElem?_eq_none (Nat.le_refl _)] at h; cases h
theorem Place.hole {H : Heap} {A : Nat} (h : H[A]? = some none) (b : Blk) : Place H A (H.set A (some b)) b := by
  have hA := (List.getElem?_eq_some_iff.1 h).1
  exact ⟨by simp [hA], fun B hB => List.getElem?_set_ne (by omega), fun g k => by rw [h] at k; cases k⟩
theorem Place.lens {H H' : Heap} {A : Nat} {b : Blk} (p : Place H A H' b) : lens H' A = some b.cells.length := lens_of p.at_
theorem Place.lens_ne {H H' : Heap} {A B : Nat} {b : Blk} (p : Place H A H' b) (h : B ≠ A) : Gh.lens H' B = Gh.lens H B := by
  simp only [Gh.lens, p.ne B h]
/-- A new block, of any kind. -/
theorem rel_newO {B0 : Nat} {w0 : World} {φ : Nat → Loc} {H : Heap} {w w' : World} (r : Rel B0 w0 φ H w) {g0 : Blk} {o : Obj} {l0 : Loc} {A0 : Nat} {H' : Heap}
    (hpl : Place H A0 H' g0) (hlb : l0.b = w.heap.size) (hl0 : l0.base = 0) (hw : w'.heap = w.heap.push o) (hos : w'.os = w.os) (htp : w'.tape = w.tape) (hou : w'.output = w.output)
    (hbr : Ext φ (lens H) (upd φ A0 l0) (lens H') → BRel (upd φ A0 l0) (lens H') g0 l0 w') :
    Ext φ (lens H) (upd φ A0 l0) (lens H') ∧ Rel B0 w0 (upd φ A0 l0) H' w' := by
  have hne : ∀ {A n}, lens H A = some n → A ≠ A0 := by
    intro A n hA e
    subst e
    obtain ⟨g, h, _⟩ := lens_live hA
    exact hpl.free g h
  have hext : Ext φ (lens H) (upd φ A0 l0) (lens H') := by
    intro A n hA
    have h := hne hA
    exact ⟨n, by rw [hpl.lens_ne h]; exact hA, .inl ⟨rfl, upd_ne h⟩⟩
  have hb : w0.heap.size ≤ w.heap.size := r.below.size
  refine ⟨hext, ⟨?_, r.b0, ?_, ?_, ?_⟩⟩
  · refine r.below.trans ⟨hos, htp, hou, by rw [hw]; simp, fun k hk => ?_⟩
    rw [hw, Array.getElem?_push, if_neg (by have := r.b0; omega)]
  · intro A g hA
    by_cases e : A = A0
    · subst e
      rw [hpl.at_] at hA
      simp only [Option.some.injEq] at hA
      subst hA
      rw [upd_same]
      exact hbr hext
    · rw [hpl.ne A e] at hA
      obtain ⟨o1, c1, h1, h2, h3, h5⟩ := (r.blk A g hA).any
      have hlt' := (Array.getElem?_eq_some_iff.1 h1).1
      rw [upd_ne e]
      refine ⟨o1, c1, ?_, h2, h3, fun i v hi => ?_⟩
      · rw [hw, Array.getElem?_push, if_neg (by omega)]; exact h1
      · obtain ⟨v', g1, g2⟩ := h5 i v hi
        exact ⟨v', g1, g2.mono hext⟩
  · intro A g hA hro
    by_cases e : A = A0
    · subst e
      rw [upd_same]
      exact ⟨by have := r.b0; omega, hl0⟩
    · rw [hpl.ne A e] at hA
      rw [upd_ne e]
      exact r.own A g hA hro
  · intro A A' g g' hA hro hA' he
    by_cases e1 : A = A0
    · subst e1
      by_cases e2 : A' = A
      · exact e2
      · rw [upd_same, upd_ne e2] at he
        rw [hpl.ne A' e2] at hA'
        have := r.lt hA'
        omega
    · rw [hpl.ne A e1] at hA
      by_cases e2 : A' = A0
      · subst e2
        rw [upd_same, upd_ne e1] at he
        have := r.lt hA
        omega
      · rw [upd_ne e1, upd_ne e2] at he
        rw [hpl.ne A' e2] at hA'
        exact r.inj A A' g g' hA hro hA' he

/-- A new block. -/
theorem rel_new {B0 : Nat} {w0 : World} {φ : Nat → Loc} {H : Heap} {w w' : World} (r : Rel B0 w0 φ H w) {cells : List Value} {us c : Array Value} {T : TypeId} {fz : Nat × Nat} {ro : Bool} {A0 : Nat} {H' : Heap}
    (hpl : Place H A0 H' ⟨cells, ro⟩) (hv : VRel φ (lens H) cells us) (hw : w'.heap = w.heap.push (.cells c T fz)) (hos : w'.os = w.os) (htp : w'.tape = w.tape) (hou : w'.output = w.output)
    (hc : us.size ≤ c.size) (hcu : ∀ i : Nat, i < us.size → c[i]? = us[i]?) (hfz : ∀ i, i < c.size → ¬ (fz.1 ≤ i ∧ i < fz.2)) :
    Ext φ (lens H) (upd φ A0 ⟨w.heap.size, 0, c.size, false⟩) (lens H') ∧ Rel B0 w0 (upd φ A0 ⟨w.heap.size, 0, c.size, false⟩) H' w' :=
  rel_newO r hpl rfl rfl hw hos htp hou fun hext => by
    refine ⟨.cells c T fz, c, ?_, .cells rfl rfl fun _ => hfz, ?_, fun i v hi => ?_⟩
    · rw [hw]; simp
    · simp only; have := hv.size; omega
    · obtain ⟨v', g1, g2⟩ := hv.get i v hi
      refine ⟨v', ?_, g2.mono hext⟩
      simp only [Nat.zero_add]
      rw [hcu i (Array.getElem?_eq_some_iff.1 g1).1]; exact g1

/-- A block that is written, or has moved. -/
theorem rel_setO {B0 : Nat} {w0 : World} {φ : Nat → Loc} {H : Heap} {w w' : World} (r : Rel B0 w0 φ H w) {A : Nat} {g g' : Blk} {l' : Loc}
    (hA : H[A]? = some (some g)) (hro : g.ro = false) (hos : w'.os = w.os) (htp : w'.tape = w.tape) (hou : w'.output = w.output) (hsz : w.heap.size ≤ w'.heap.size)
    (hoth : ∀ k, k < w.heap.size → k ≠ (φ A).b → w'.heap[k]? = w.heap[k]?) (hl : l'.b = (φ A).b ∨ w.heap.size ≤ l'.b) (hbase : l'.base = 0)
    (hgrow : (g'.cells.length = g.cells.length ∧ l' = φ A) ∨ (g.cells.length < g'.cells.length ∧ ((φ A).mp = true → l' = φ A)))
    (hbr : Ext φ (lens H) (upd φ A l') (lens (H.set A (some g'))) → BRel (upd φ A l') (lens (H.set A (some g'))) g' l' w') :
    Ext φ (lens H) (upd φ A l') (lens (H.set A (some g'))) ∧ Rel B0 w0 (upd φ A l') (H.set A (some g')) w' := by
  have hAlt := (List.getElem?_eq_some_iff.1 hA).1
  obtain ⟨hB0, _⟩ := r.own A g hA hro
  have hext : Ext φ (lens H) (upd φ A l') (lens (H.set A (some g'))) := by
    intro A' n hn
    by_cases e : A' = A
    · subst e
      rw [lens_of hA] at hn
      simp only [Option.some.injEq] at hn
      refine ⟨g'.cells.length, lens_set_eq hAlt, ?_⟩
      rw [upd_same, ← hn]
      exact hgrow
    · exact ⟨n, by rw [lens_set_ne e]; exact hn, .inl ⟨rfl, upd_ne e⟩⟩
  refine ⟨hext, ⟨?_, r.b0, ?_, ?_, ?_⟩⟩
  · refine r.below.trans ⟨hos, htp, hou, hsz, fun k hk => hoth k ?_ (by omega)⟩
    have := r.b0; have := r.below.size; omega
  · intro A' g1 hA'
    by_cases e : A' = A
    · subst e
      rw [List.getElem?_set_self hAlt] at hA'
      simp only [Option.some.injEq] at hA'
      subst hA'
      rw [upd_same]
      exact hbr hext
    · rw [List.getElem?_set_ne (by omega)] at hA'
      rw [upd_ne e]
      obtain ⟨o1, c1, h1, h2, h3, h5⟩ := (r.blk A' g1 hA').any
      have hlt' := (Array.getElem?_eq_some_iff.1 h1).1
      refine ⟨o1, c1, ?_, h2, h3, fun i v hi => ?_⟩
      · rw [hoth _ hlt' (fun e' => e (r.inj A A' g g1 hA hro hA' e'))]; exact h1
      · obtain ⟨v', g2, g3⟩ := h5 i v hi
        exact ⟨v', g2, g3.mono hext⟩
  · intro A' g1 hA' hr1
    by_cases e : A' = A
    · subst e
      rw [upd_same]
      refine ⟨?_, hbase⟩
      rcases hl with hl | hl
      · omega
      · have := r.b0; have := r.below.size; omega
    · rw [List.getElem?_set_ne (by omega)] at hA'
      rw [upd_ne e]
      exact r.own A' g1 hA' hr1
  · intro A1 A2 g1 g2 h1 hr1 h2 he
    by_cases e1 : A1 = A
    · subst e1
      by_cases e2 : A2 = A1
      · exact e2
      · rw [List.getElem?_set_ne (by omega)] at h2
        rw [upd_same, upd_ne e2] at he
        rcases hl with hl | hl
        · exact r.inj A1 A2 g g2 hA hro h2 (he.trans hl)
        · have := r.lt h2; omega
    · rw [List.getElem?_set_ne (by omega)] at h1
      by_cases e2 : A2 = A
      · subst e2
        rw [upd_same, upd_ne e1] at he
        rcases hl with hl | hl
        · exact r.inj A1 A2 g1 g h1 hr1 hA (hl.symm.trans he)
        · have := r.lt h1; omega
      · rw [List.getElem?_set_ne (by omega)] at h2
        rw [upd_ne e1, upd_ne e2] at he
        exact r.inj A1 A2 g1 g2 h1 hr1 h2 he

/-- A block that is written, or has moved. -/
theorem rel_set {B0 : Nat} {w0 : World} {φ : Nat → Loc} {H : Heap} {w w' : World} (r : Rel B0 w0 φ H w) {A : Nat} {g g' : Blk} {l' : Loc} {c : Array Value} {T : TypeId} {fz : Nat × Nat}
    (hA : H[A]? = some (some g)) (hro : g.ro = false) (hos : w'.os = w.os) (htp : w'.tape = w.tape) (hou : w'.output = w.output) (hsz : w.heap.size ≤ w'.heap.size)
    (hoth : ∀ k, k < w.heap.size → k ≠ (φ A).b → w'.heap[k]? = w.heap[k]?) (hl : l'.b = (φ A).b ∨ w.heap.size ≤ l'.b) (hbase : l'.base = 0) (hmp : l'.mp = false) (hmp0 : (φ A).mp = false)
    (hw : w'.heap[l'.b]? = some (.cells c T fz)) (hc : c.size = l'.size) (hlen : g'.cells.length ≤ c.size) (hfz : ∀ i, i < c.size → ¬ (fz.1 ≤ i ∧ i < fz.2))
    (hgrow : (g'.cells.length = g.cells.length ∧ l' = φ A) ∨ g.cells.length < g'.cells.length)
    (hcells : ∀ (i : Nat) (v : Value), g'.cells[i]? = some v → ∃ v', c[i]? = some v' ∧ Val (upd φ A l') (lens (H.set A (some g'))) v v') :
    Ext φ (lens H) (upd φ A l') (lens (H.set A (some g'))) ∧ Rel B0 w0 (upd φ A l') (H.set A (some g')) w' :=
  rel_setO r hA hro hos htp hou hsz hoth hl hbase (hgrow.imp id fun h => ⟨h, fun h' => by rw [hmp0] at h'; cases h'⟩) fun _ => by
    refine ⟨_, c, hw, .cells hmp hc fun _ => hfz, by omega, fun i v hi => ?_⟩
    rw [hbase, Nat.zero_add]
    exact hcells i v hi

abbrev AF := List (Nat × Value)

def get : AF → Nat → Option Value
  | [], _ => none
  | (k, v) :: r, t => bif Nat.beq k t then some v else get r t

/-- The slots of a frame, and the length of the ghost heap when the function was entered: blocks from there on may be forgotten. -/
structure Fr where
  sz : Nat
  n0 : Nat

structure FRel (φ : Nat → Loc) (L : Lens) (N : Fr) (a : AF) (ac : Act) : Prop where
  defers : ac.defers = []
  size : ac.tmps.size = N.sz
  slot : ∀ t v, get a t = some v → ∃ v', ac.tmps[t]? = some v' ∧ Val φ L v v'

theorem FRel.mono {φ φ' : Nat → Loc} {L L' : Lens} {N : Fr} {a : AF} {ac : Act} (e : Ext φ L φ' L') (h : FRel φ L N a ac) : FRel φ' L' N a ac :=
  ⟨h.defers, h.size, fun t v ht => let ⟨v', h1, h2⟩ := h.slot t v ht; ⟨v', h1, h2.mono e⟩⟩

def ev (a : AF) : Operand → Option Value
  | .tmp t => get a t
  | .const v => bif constOk v then some v else none
  | .global _ => none
  | .func f => some (.func (.func f) #[] #[])

theorem ev_rel {φ : Nat → Loc} {L : Lens} {N : Fr} {a : AF} {ac : Act} (h : FRel φ L N a ac) {x : Operand} {v : Value} (hx : ev a x = some v) :
    Val φ L v (ac.eval x) := by
  cases x with
  | tmp t =>
    obtain ⟨v', h1, h2⟩ := h.slot t v hx
    have : ac.eval (.tmp t) = v' := by simp [Act.eval, Array.getD_eq_getD_getElem?, h1]
    rw [this]; exact h2
  | const u =>
    cases hu : constOk u with
    | true =>
      simp only [ev, hu, cond_true, Option.some.injEq] at hx
      subst hx
      exact Val.const hu
    | false => simp [ev, hu] at hx
  | global g => cases hx
  | func f =>
    simp only [ev, Option.some.injEq] at hx
    subst hx
    exact .func _ _ _ _ _ rfl (fun i h => by simp at h) rfl (fun i h => by simp at h)

def put (a : AF) (dst : Option Tmp) (v : Value) : AF :=
  match dst with
  | some d => (d, v) :: a
  | none => a

theorem get_put {a : AF} {d : Nat} {v : Value} {t : Nat} {u : Value} (h : get ((d, v) :: a) t = some u) : (t = d ∧ u = v) ∨ (t ≠ d ∧ get a t = some u) := by
  unfold get at h
  by_cases hd : d = t
  · subst hd
    rw [show Nat.beq d d = true from Nat.beq_refl d] at h
    simp only [cond_true, Option.some.injEq] at h
    exact .inl ⟨rfl, h.symm⟩
  · have : Nat.beq d t = false := by
      cases hb : Nat.beq d t with
      | true => exact absurd (Nat.eq_of_beq_eq_true hb) hd
      | false => rfl
    rw [this] at h
    exact .inr ⟨fun e => hd e.symm, h⟩

theorem FRel.put {φ : Nat → Loc} {L : Lens} {N : Fr} {a : AF} {ac : Act} (h : FRel φ L N a ac) {dst : Option Tmp} {v v' : Value}
    (hd : ∀ d, dst = some d → d < N.sz) (hv : Val φ L v v') : FRel φ L N (put a dst v) (ac.put dst v') := by
  cases dst with
  | none => exact h
  | some d =>
    refine ⟨h.defers, by simp [Act.put, h.size], fun t u ht => ?_⟩
    rcases get_put ht with ⟨rfl, rfl⟩ | ⟨hne, ht⟩
    · exact ⟨v', by simp [Act.put, h.size, hd t rfl], hv⟩
    · obtain ⟨u', h1, h2⟩ := h.slot t u ht
      refine ⟨u', ?_, h2⟩
      simp only [Act.put]
      rw [Array.getElem?_setIfInBounds_ne (by omega)]
      exact h1

/-- Every binding of the first frame is one of the second. -/
def Sub : AF → AF → Prop
  | [], _ => True
  | (t, v) :: r, a => get a t = some v ∧ Sub r a

theorem Sub.get {b a : AF} (h : Sub b a) : ∀ {t v}, get b t = some v → get a t = some v := by
  induction b with
  | nil => intro t v hv; cases hv
  | cons x r ih =>
    obtain ⟨k, u⟩ := x
    intro t v hv
    rcases get_put hv with ⟨rfl, rfl⟩ | ⟨_, hv⟩
    · exact h.1
    · exact ih h.2 hv

theorem FRel.sub {φ : Nat → Loc} {L : Lens} {N : Fr} {a b : AF} {ac : Act} (h : FRel φ L N a ac) (s : Sub b a) : FRel φ L N b ac :=
  ⟨h.defers, h.size, fun t v hv => h.slot t v (s.get hv)⟩

end Go.Gh
