/- Part 10 of the proof of the law ModelsMixed: texts merged. No condition. -/
import Derived.Test.YtinfmojbdaiogaaZModelsMixedI
import Derived.Deep.Slices
section
set_option linter.unusedVariables false
set_option linter.unusedSimpArgs false
set_option maxRecDepth 4000
namespace Go.Gh
open Go.RowKit Go.ChangeShapes Go.WideShapes

/-- A block that comes in, with the world it lies in. -/
structure CB (W : World) (e : Loc × Blk) : Prop where
  ro : e.2.ro = true
  mp : e.1.mp = false
  ex : ∃ c T fz, W.heap[e.1.b]? = some (.cells c T fz) ∧ c.size = e.1.size ∧ e.1.base + e.2.cells.length ≤ c.size ∧ ∀ i v, e.2.cells[i]? = some v → c[e.1.base + i]? = some v ∧ constOk v = true
/-- An argument: its blocks; its ghost by the number of its first block. -/
structure Arg (W : World) (v : Value) (es : List (Loc × Blk)) (g : Nat → Value) : Prop where
  cb : ∀ e ∈ es, CB W e
  val : ∀ (φ : Nat → Loc) (L : Lens) (k : Nat), (∀ (j : Nat) e, es[j]? = some e → φ (k + j) = e.1 ∧ L (k + j) = some e.2.cells.length) → Val φ L (g k) v
inductive ArgAll (W : World) : Nat → List Value → List (Loc × Blk) → List Value → Prop
  | nil {k} : ArgAll W k [] [] []
  | cons {k v vs es es' g as0} (h : Arg W v es g) (r : ArgAll W (k + es.length) vs es' as0) : ArgAll W k (v :: vs) (es ++ es') (g k :: as0)
def num : Nat → List Blk → SH
  | _, [] => []
  | k, b :: r => (k, b) :: num (k + 1) r
theorem pick_num : ∀ {l : List Blk} {k j : Nat} {b : Blk}, l[j]? = some b → ∃ h1, Pick (num k l) (k + j) b h1
  | [], k, j, b, h => by simp at h
  | x :: r, k, 0, b, h => by simp only [List.getElem?_cons_zero, Option.some.injEq] at h; subst h; exact ⟨_, .head⟩
  | x :: r, k, j + 1, b, h => by
    obtain ⟨h1, p⟩ := pick_num (k := k + 1) (l := r) (j := j) (by simpa using h)
    exact ⟨_, .tail (by rw [show k + (j + 1) = k + 1 + j by omega]; exact p)⟩
theorem num_sat : ∀ {l : List Blk} {k : Nat} {x : Nat × Blk}, x ∈ num k l → k ≤ x.1 ∧ l[x.1 - k]? = some x.2
  | [], k, x, h => by cases h
  | b :: r, k, x, h => by
    rcases List.mem_cons.1 h with rfl | h
    · simp
    · obtain ⟨h1, h2⟩ := num_sat h
      refine ⟨by omega, ?_⟩
      rw [show x.1 - k = (x.1 - (k + 1)) + 1 by omega]; simpa using h2
theorem num_nodup : ∀ (l : List Blk) (k : Nat), ((num k l).map (·.1)).Nodup
  | [], _ => List.nodup_nil
  | b :: r, k => by
    simp only [num, List.map_cons, List.nodup_cons]
    refine ⟨fun hm => ?_, num_nodup r (k + 1)⟩
    obtain ⟨x, hx, e⟩ := List.mem_map.1 hm
    have := (num_sat hx).1
    omega
theorem ArgAll.cb {W : World} {k : Nat} {vs : List Value} {es : List (Loc × Blk)} {as0 : List Value} (h : ArgAll W k vs es as0) : ∀ e ∈ es, CB W e := by
  induction h with
  | nil => intro e he; cases he
  | cons h _ ih =>
    intro e he
    rcases List.mem_append.1 he with he | he
    · exact h.cb e he
    · exact ih e he
theorem ArgAll.rel {W : World} {k : Nat} {vs : List Value} {es : List (Loc × Blk)} {as0 : List Value} (h : ArgAll W k vs es as0) (φ : Nat → Loc) (L : Lens)
    (hφ : ∀ (j : Nat) e, es[j]? = some e → φ (k + j) = e.1 ∧ L (k + j) = some e.2.cells.length) : vs.length = as0.length ∧ ∀ (i : Nat) a, as0[i]? = some a → ∃ v, vs[i]? = some v ∧ Val φ L a v := by
  induction h with
  | nil => exact ⟨rfl, fun i a h => by simp at h⟩
  | @cons k v vs es es' g as0 h _ ih =>
    have h1 := h.val φ L k fun j e he => hφ j e (by rw [List.getElem?_append_left (List.getElem?_eq_some_iff.1 he).1]; exact he)
    obtain ⟨h2, h3⟩ := ih fun j e he => by
      have := hφ (es.length + j) e (by rw [List.getElem?_append_right (by omega), show es.length + j - es.length = j by omega]; exact he)
      rwa [show k + (es.length + j) = k + es.length + j by omega] at this
    refine ⟨by simp [h2], fun i a hi => ?_⟩
    cases i with
    | zero => simp only [List.getElem?_cons_zero, Option.some.injEq] at hi; subst hi; exact ⟨v, rfl, h1⟩
    | succ i => obtain ⟨u, g1, g2⟩ := h3 i a (by simpa using hi); exact ⟨u, by simpa using g1, g2⟩

/-- A contract over arguments, as the model's calls. -/
theorem calls_args {P : Program} {f : FuncId} {W : World} {vs : List Value} {es : List (Loc × Blk)} {as0 : List Value} (ha : ArgAll W 0 vs es as0) (h : SRun P f as0 (num 0 (es.map (·.2))) fun r _ => r = B true) :
    Calls P f vs.toArray W fun e W' => e = .returned (.bool true) ∧ Below W.heap.size W W' := by
  unfold SRun at h
  have h1 := h (es.map fun e => some e.2) (.start (fun x hx => (by have := (num_sat hx).2; simpa using this)) (num_nodup _ _))
  unfold Run at h1
  have hcb := ha.cb
  obtain ⟨hl, hv⟩ := ha.rel (fun A => ((es[A]?).map (·.1)).getD ⟨0, 0, 0, false⟩) (lens (es.map fun e => some e.2)) fun j e he => by
    simp only [Nat.zero_add, he, Option.map_some, Option.getD_some, lens, List.getElem?_map, Option.join_some, and_self]
  have get : ∀ (A : Nat) (g : Blk), (es.map fun e => some e.2)[A]? = some (some g) → ∃ e : Loc × Blk, es[A]? = some e ∧ e.2 = g := fun A g hA => by
    rw [List.getElem?_map] at hA
    cases he : es[A]? with
    | none => rw [he] at hA; cases hA
    | some e => rw [he] at hA; simp only [Option.map_some, Option.some.injEq] at hA; exact ⟨e, rfl, hA⟩
  have hro : ∀ (A : Nat) (g : Blk), (es.map fun e => some e.2)[A]? = some (some g) → g.ro = true := fun A g hA => by
    obtain ⟨e, h1, rfl⟩ := get A g hA
    exact (hcb e (List.mem_of_getElem? h1)).ro
  have h2 := h1 W.heap.size W (fun A => ((es[A]?).map (·.1)).getD ⟨0, 0, 0, false⟩) (lens (es.map fun e => some e.2)) (fun A => ((es[A]?).map (·.1)).getD ⟨0, 0, 0, false⟩) W vs.toArray (.refl _ _)
    ⟨Below.refl _ _, Nat.le_refl _, fun A g hA => by
        obtain ⟨e, h1, rfl⟩ := get A g hA
        have hc := hcb e (List.mem_of_getElem? h1)
        obtain ⟨c, T, fz, g1, g2, g3, g4⟩ := hc.ex
        refine ⟨⟨.cells c T fz, c, ?_, .cells ?_ ?_ (fun hr => ?_), ?_, fun i v hi => ?_⟩⟩
        · simp only [h1, Option.map_some, Option.getD_some]; exact g1
        · simp only [h1, Option.map_some, Option.getD_some]; exact hc.mp
        · simp only [h1, Option.map_some, Option.getD_some]; exact g2
        · rw [hc.ro] at hr; cases hr
        · simp only [h1, Option.map_some, Option.getD_some]; exact g3
        · simp only [h1, Option.map_some, Option.getD_some]; exact ⟨v, (g4 i v hi).1, Val.const (g4 i v hi).2⟩,
      fun A g hA hr => (by rw [hro A g hA] at hr; cases hr), fun A A' g _ hA hr => by rw [hro A g hA] at hr; cases hr⟩
    ⟨by simp [hl], fun i a hi => by obtain ⟨v, g1, g2⟩ := hv i a hi; exact ⟨v, by simpa using g1, g2⟩⟩
  refine h2.mono ?_
  rintro e W' ⟨φ', r, H', v, g1, g2, rfl, g4, q, rfl, g5⟩
  cases g4
  exact ⟨rfl, g2.below⟩

theorem has_at {esL es esR : List (Loc × Blk)} (j : Nat) (b : Loc × Blk) (h : es[j]? = some b) : ∃ h1, Pick (num 0 ((esL ++ (es ++ esR)).map (·.2))) (esL.length + j) b.2 h1 := by
  have hg : ((esL ++ (es ++ esR)).map (·.2))[esL.length + j]? = some b.2 := by
    rw [List.getElem?_map, List.getElem?_append_right (by omega), show esL.length + j - esL.length = j by omega, List.getElem?_append_left (List.getElem?_eq_some_iff.1 h).1, h]; rfl
  obtain ⟨h1, p⟩ := pick_num (k := 0) hg
  rw [Nat.zero_add] at p
  exact ⟨h1, p⟩
/-- How an element of a slice reads. -/
structure Elem {H : Type} (enc : TypeId × Value → H) (P : Program) (e : TypeId) {α : Type} (f : α → List Value) (w : Nat) (ok : α → Prop) : Prop where
  cells : P.cellsOf e = w
  pos : 0 < w
  len : ∀ y, (f y).length = w
  cst : ∀ y, ∀ v ∈ f y, constOk v = true
  rd : ∀ {W : World} {base : Nat} {sp : Nat → Bool} {held : Bool} {n : Nat} {cs : List Value} {x : DataW H × List MemPlace}, DataW.trod enc P W base sp held n e cs = some x → ∃ y, cs = f y ∧ ok y

section
variable {H : Type} {enc : TypeId × Value → H} {P : Program} {W : World} {α : Type} {f : α → List Value} {w : Nat} {ok : α → Prop}
theorem cell_heap {a : Addr} {v : Value} (h : W.cell? a = some v) : a.spot = none ∧ ∃ c T fz, W.heap[a.block]? = some (.cells c T fz) ∧ c[a.off]? = some v := by
  unfold World.cell? at h
  split at h
  · rename_i c T fz hc
    split at h
    · cases h
    · rename_i hs
      exact ⟨by cases hsp : a.spot <;> simp_all, c, T, fz, hc, h⟩
  · cases h
theorem arg_slice [Inhabited α] {t e : TypeId} {base : Nat} {held : Bool} {v : Value} {d : DataW H} {ps : List MemPlace} {r : Reach} {b0 : Nat} (E : Elem enc P e f w ok) (ht : P.underlying t = some (.slice e)) (hval : Value.okWide P W r b0 t v)
    (hd : DataW.Trod enc P W base (fun _ => true) held t v d ps) :
    ∃ (l : List α) (es : List (Loc × Blk)) (g : Nat → Value), Arg W v es g ∧ (∀ x ∈ l, ok x) ∧ l.length ≤ maxLen ∧ ∀ (h : SH) (k : Nat), (∀ (j : Nat) b, es[j]? = some b → ∃ h1, Pick h (k + j) b.2 h1) → Has h (recs f l) w l.length (g k) := by
  obtain ⟨a, len, cap, rfl⟩ := okWide_slice ht hval
  obtain ⟨fuel, hf⟩ := hd
  simp only [Value.cells] at hf
  rcases Go.Deep.open_slice ht hf with ⟨h0, _⟩ | ⟨a', len', cap', m, n, D, Pl, h0, hb, hl, hm, hmm, _, hx⟩
  · simp only [List.cons.injEq, Value.slice.injEq, and_true] at h0
    obtain ⟨rfl, rfl, rfl⟩ := h0
    exact ⟨[], [], fun _ => .slice none 0 0, ⟨fun e he => (by cases he), fun _ _ _ _ => .snil⟩, fun x hx => (by cases hx), by simp, fun h k _ => ⟨none, 0, rfl, fun hn => absurd rfl hn⟩⟩
  · simp only [List.cons.injEq, Value.slice.injEq, and_true] at h0
    obtain ⟨rfl, rfl, rfl⟩ := h0
    simp only [if_true] at hmm
    subst hmm
    by_cases hz : len = 0
    · subst hz
      exact ⟨[], [], fun _ => .slice (some ⟨0, 0, none⟩) 0 0, ⟨fun e he => (by cases he), fun _ _ _ _ => .sdead _ _ hm⟩, fun x hx => (by cases hx), by simp, fun h k _ => ⟨_, 0, rfl, fun hn => absurd rfl hn⟩⟩
    · rw [E.cells] at hx
      obtain ⟨Y, hY⟩ := Go.Deep.choose_lt (α := α) (n := len) (p := fun i y => W.cells? base (a'.add (i * w)) w = some (f y) ∧ ok y) fun i hi => by
        obtain ⟨cs, h1, h2⟩ := hx i (by omega)
        obtain ⟨y, rfl, h3⟩ := E.rd h2
        exact ⟨y, h1, h3⟩
      have hw := E.pos
      have hcell : ∀ i j, i < len → j < w → ∃ u, (f (Y i))[j]? = some u ∧ W.cell? ((a'.add (i * w)).add j) = some u := fun i j hi hj => by
        obtain ⟨_, _, h1⟩ := World.cells?_some (hY i hi).1
        obtain ⟨u, hu⟩ : ∃ u, (f (Y i))[j]? = some u := ⟨_, List.getElem?_eq_getElem (by rw [E.len]; exact hj)⟩
        exact ⟨u, hu, (h1 j hj).trans hu⟩
      obtain ⟨u0, _, hu0⟩ := hcell 0 0 (by omega) hw
      obtain ⟨hsp, c, T, fz, hc, _⟩ := cell_heap hu0
      simp only [Nat.zero_mul, Addr.add, if_true] at hsp hc
      obtain ⟨ab, ao, asp⟩ := a'
      simp only at hsp hc
      subst hsp
      have hget : ∀ i j, i < len → j < w → ∃ u, (f (Y i))[j]? = some u ∧ c[ao + (i * w + j)]? = some u := fun i j hi hj => by
        obtain ⟨u, h1, h2⟩ := hcell i j hi hj
        rw [Go.Deep.add_add] at h2
        obtain ⟨_, c2, T2, fz2, h3, h4⟩ := cell_heap h2
        have eb : (Addr.add ⟨ab, ao, none⟩ (i * w + j)).block = ab := by unfold Addr.add; split <;> rfl
        have eo : (Addr.add ⟨ab, ao, none⟩ (i * w + j)).off = ao + (i * w + j) := by unfold Addr.add; split <;> simp_all
        rw [eb, hc] at h3
        simp only [Option.some.injEq, Obj.cells.injEq] at h3
        obtain ⟨rfl, _, _⟩ := h3
        rw [eo] at h4
        exact ⟨u, h1, h4⟩
      have hll : ((List.range len).map Y).length = len := by simp
      have hlY : ∀ i, i < len → ((List.range len).map Y)[i]! = Y i := fun i hi => by rw [getElem!_pos _ i (by simpa using hi)]; simp
      have hrl : (recs f ((List.range len).map Y)).length = len * w := by rw [recs_len E.len, hll]
      refine ⟨(List.range len).map Y, [(⟨ab, ao, c.size, false⟩, ⟨recs f ((List.range len).map Y), true⟩)], fun k => .slice (some ⟨k, 0, some (w * len)⟩) len 0, ⟨fun e he => ?_, fun φ L k hφ => ?_⟩, fun x hx => ?_, by rw [hll]; omega, fun h k hp => ?_⟩
      · obtain rfl := List.mem_singleton.1 he
        refine ⟨rfl, rfl, c, T, fz, hc, rfl, ?_, fun i u hi => ?_⟩
        · show ao + (recs f _).length ≤ c.size
          rw [hrl]
          obtain ⟨u, _, h1⟩ := hget (len - 1) (w - 1) (by omega) (by omega)
          have := (Array.getElem?_eq_some_iff.1 h1).1
          have e : (len - 1) * w + (w - 1) + 1 = len * w := by
            obtain ⟨q, rfl⟩ : ∃ q, len = q + 1 := ⟨len - 1, by omega⟩
            rw [Nat.add_sub_cancel, Nat.add_mul]; omega
          omega
        · have hi2 : i < len * w := by have := (List.getElem?_eq_some_iff.1 hi).1; rw [hrl] at this; exact this
          have hq : i / w < len := (Nat.div_lt_iff_lt_mul hw).2 hi2
          have hr := Nat.mod_lt i hw
          have e := Nat.div_add_mod' i w
          have hg := recs_get (l := (List.range len).map Y) E.len (i := i / w) (j := i % w) (by rw [hll]; exact hq) hr
          rw [e, hlY _ hq] at hg
          obtain ⟨u2, h1, h2⟩ := hget (i / w) (i % w) hq hr
          rw [e] at h2
          have : u = u2 := by
            have h3 := hi.symm.trans (hg.trans h1)
            exact Option.some.inj h3
          subst this
          exact ⟨h2, E.cst _ _ (List.mem_of_getElem? h1)⟩
      · obtain ⟨h1, h2⟩ := hφ 0 _ rfl
        rw [Nat.add_zero] at h1 h2
        exact .slc k 0 (w * len) (w * len) len 0 _ ⟨ab, ao, none⟩ (by rw [h2, hrl, Nat.mul_comm]) (Nat.le_refl _) hl hm fun _ => ⟨by rw [h1]; rfl, fun h => absurd rfl h, by rw [h1]⟩
      · obtain ⟨i, hi, rfl⟩ := List.mem_map.1 hx
        exact (hY i (List.mem_range.1 hi)).2
      · obtain ⟨h1, p⟩ := hp 0 _ rfl
        rw [hll]
        exact ⟨_, 0, rfl, fun _ => ⟨k, true, h1, rfl, p⟩⟩

/-- A field, an element of one cell. -/
structure C1 {H : Type} (enc : TypeId × Value → H) (P : Program) (e : TypeId) {α : Type} (f : α → Value) (ok : α → Prop) : Prop where
  cells : P.cellsOf e = 1
  cst : ∀ y, constOk (f y) = true
  rd : ∀ {W : World} {base : Nat} {sp : Nat → Bool} {held : Bool} {n : Nat} {cs : List Value} {x : DataW H × List MemPlace}, DataW.trod enc P W base sp held n e cs = some x → ∃ y, cs = [f y] ∧ ok y
theorem c1_int {e : TypeId} {k : IntKind} (he : P.underlying e = some (.int k)) (hc : P.cellsOf e = 1) : C1 enc P e (fun z => .int k z) (fun z => (Lit.int k z).wf = true) :=
  ⟨hc, fun _ => rfl, fun h => let ⟨n, h1, _, h2⟩ := DataW.trod_int he h; ⟨n, h1, h2⟩⟩
theorem c1_bool {e : TypeId} (he : P.underlying e = some .bool) (hc : P.cellsOf e = 1) : C1 enc P e (fun z => .bool z) (fun _ => True) :=
  ⟨hc, fun _ => rfl, fun h => let ⟨n, h1, _⟩ := DataW.trod_bool he h; ⟨n, h1, trivial⟩⟩
theorem el_one {e : TypeId} {α : Type} {f : α → Value} {ok : α → Prop} (h : C1 enc P e f ok) : Elem enc P e (fun y => [f y]) 1 ok :=
  ⟨h.cells, by decide, fun _ => rfl, fun y v hv => by obtain rfl := List.mem_singleton.1 hv; exact h.cst y, h.rd⟩
/-- The fields of a struct from an offset on. -/
structure Flds {H : Type} (enc : TypeId × Value → H) (P : Program) (fs : List Field) (o : Nat) {α : Type} (f : α → List Value) (w : Nat) (ok : α → Prop) : Prop where
  len : ∀ y, (f y).length = w
  cst : ∀ y, ∀ v ∈ f y, constOk v = true
  rd : ∀ {W : World} {base : Nat} {sp : Nat → Bool} {held : Bool} {n : Nat} {cs : List Value}, cs.length = o + w → (∀ fl ∈ fs, ∃ x, DataW.trod enc P W base sp held n fl.type ((cs.drop fl.offset).take (P.cellsOf fl.type)) = some x) → ∃ y, cs.drop o = f y ∧ ok y
theorem Flds.last {fl : Field} {o : Nat} (ho : fl.offset = o) (E : Elem enc P fl.type f w ok) : Flds enc P [fl] o f w ok :=
  ⟨E.len, E.cst, fun {W base sp held n cs} hl h => by
    obtain ⟨x, hx⟩ := h fl (by simp)
    rw [ho, E.cells, List.take_of_length_le (by rw [List.length_drop]; omega)] at hx
    exact E.rd hx⟩
theorem Flds.cons {β : Type} {g : β → List Value} {w2 : Nat} {ok2 : β → Prop} {fl : Field} {fs : List Field} {o : Nat} (ho : fl.offset = o) (E : Elem enc P fl.type f w ok) (r : Flds enc P fs (o + w) g w2 ok2) :
    Flds enc P (fl :: fs) o (fun y : α × β => f y.1 ++ g y.2) (w + w2) (fun y => ok y.1 ∧ ok2 y.2) :=
  ⟨fun y => by rw [List.length_append, E.len, r.len], fun y v hv => by
    rcases List.mem_append.1 hv with hv | hv
    · exact E.cst _ _ hv
    · exact r.cst _ _ hv, fun {W base sp held n cs} hl h => by
    obtain ⟨x, hx⟩ := h fl (by simp)
    rw [ho, E.cells] at hx
    obtain ⟨y1, h1, k1⟩ := E.rd hx
    obtain ⟨y2, h2, k2⟩ := r.rd (by omega) (fun z hz => h z (by simp [hz]))
    refine ⟨(y1, y2), ?_, k1, k2⟩
    dsimp only
    rw [← h1, ← h2, ← List.drop_drop, List.take_append_drop]⟩
end
end Go.Gh
end
