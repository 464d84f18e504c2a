/- Part 9 of the proof of the law DirectoryTimes: texts merged. No condition. -/
import Derived.Test.YtncnmfdmbfbfjaaGreatZDirectoryTimesH
import Derived.Deep.Slices
section
set_option linter.unusedVariables false
set_option linter.unusedSimpArgs false
set_option maxRecDepth 4000
namespace Go.Gh
open Go.RowKit Go.ChangeShapes Go.WideShapes

/-- A block that comes in, with the world it lies in. -/
structure CB (W : World) (e : Loc × Blk) : Prop where
  ro : e.2.ro = true
  mp : e.1.mp = false
  ex : ∃ c T fz, W.heap[e.1.b]? = some (.cells c T fz) ∧ c.size = e.1.size ∧ e.1.base + e.2.cells.length ≤ c.size ∧ ∀ i v, e.2.cells[i]? = some v → c[e.1.base + i]? = some v ∧ constOk v = true
/-- An argument: its blocks; its ghost by the number of its first block. -/
structure Arg (W : World) (v : Value) (es : List (Loc × Blk)) (g : Nat → Value) : Prop where
  cb : ∀ e ∈ es, CB W e
  val : ∀ (φ : Nat → Loc) (L : Lens) (k : Nat), (∀ (j : Nat) e, es[j]? = some e → φ (k + j) = e.1 ∧ L (k + j) = some e.2.cells.length) → Val φ L (g k) v
theorem arg_const {W : World} {v : Value} (h : constOk v = true) : Arg W v [] (fun _ => v) := ⟨fun e he => (by cases he), fun _ _ _ _ => Val.const h⟩
inductive ArgAll (W : World) : Nat → List Value → List (Loc × Blk) → List Value → Prop
  | nil {k} : ArgAll W k [] [] []
  | cons {k v vs es es' g as0} (h : Arg W v es g) (r : ArgAll W (k + es.length) vs es' as0) : ArgAll W k (v :: vs) (es ++ es') (g k :: as0)
def num : Nat → List Blk → SH
  | _, [] => []
  | k, b :: r => (k, b) :: num (k + 1) r
theorem pick_num : ∀ {l : List Blk} {k j : Nat} {b : Blk}, l[j]? = some b → ∃ h1, Pick (num k l) (k + j) b h1
  | [], k, j, b, h => by simp at h
  | x :: r, k, 0, b, h => by simp only [List.getElem?_cons_zero, Option.some.injEq] at h; subst h; exact ⟨_, .head⟩
  | x :: r, k, j + 1, b, h => by
    obtain ⟨h1, p⟩ := pick_num (k := k + 1) (l := r) (j := j) (by simpa using h)
    exact ⟨_, .tail (by rw [show k + (j + 1) = k + 1 + j by omega]; exact p)⟩
theorem num_sat : ∀ {l : List Blk} {k : Nat} {x : Nat × Blk}, x ∈ num k l → k ≤ x.1 ∧ l[x.1 - k]? = some x.2
  | [], k, x, h => by cases h
  | b :: r, k, x, h => by
    rcases List.mem_cons.1 h with rfl | h
    · simp
    · obtain ⟨h1, h2⟩ := num_sat h
      refine ⟨by omega, ?_⟩
      rw [show x.1 - k = (x.1 - (k + 1)) + 1 by omega]; simpa using h2
theorem num_nodup : ∀ (l : List Blk) (k : Nat), ((num k l).map (·.1)).Nodup
  | [], _ => List.nodup_nil
  | b :: r, k => by
    simp only [num, List.map_cons, List.nodup_cons]
    refine ⟨fun hm => ?_, num_nodup r (k + 1)⟩
    obtain ⟨x, hx, e⟩ := List.mem_map.1 hm
    have := (num_sat hx).1
    omega
theorem ArgAll.cb {W : World} {k : Nat} {vs : List Value} {es : List (Loc × Blk)} {as0 : List Value} (h : ArgAll W k vs es as0) : ∀ e ∈ es, CB W e := by
  induction h with
  | nil => intro e he; cases he
  | cons h _ ih =>
    intro e he
    rcases List.mem_append.1 he with he | he
    · exact h.cb e he
    · exact ih e he
theorem ArgAll.rel {W : World} {k : Nat} {vs : List Value} {es : List (Loc × Blk)} {as0 : List Value} (h : ArgAll W k vs es as0) (φ : Nat → Loc) (L : Lens)
    (hφ : ∀ (j : Nat) e, es[j]? = some e → φ (k + j) = e.1 ∧ L (k + j) = some e.2.cells.length) : vs.length = as0.length ∧ ∀ (i : Nat) a, as0[i]? = some a → ∃ v, vs[i]? = some v ∧ Val φ L a v := by
  induction h with
  | nil => exact ⟨rfl, fun i a h => by simp at h⟩
  | @cons k v vs es es' g as0 h _ ih =>
    have h1 := h.val φ L k fun j e he => hφ j e (by rw [List.getElem?_append_left (List.getElem?_eq_some_iff.1 he).1]; exact he)
    obtain ⟨h2, h3⟩ := ih fun j e he => by
      have := hφ (es.length + j) e (by rw [List.getElem?_append_right (by omega), show es.length + j - es.length = j by omega]; exact he)
      rwa [show k + (es.length + j) = k + es.length + j by omega] at this
    refine ⟨by simp [h2], fun i a hi => ?_⟩
    cases i with
    | zero => simp only [List.getElem?_cons_zero, Option.some.injEq] at hi; subst hi; exact ⟨v, rfl, h1⟩
    | succ i => obtain ⟨u, g1, g2⟩ := h3 i a (by simpa using hi); exact ⟨u, by simpa using g1, g2⟩

/-- A contract over arguments, as the model's calls. -/
theorem calls_args {P : Program} {f : FuncId} {W : World} {vs : List Value} {es : List (Loc × Blk)} {as0 : List Value} (ha : ArgAll W 0 vs es as0) (h : SRun P f as0 (num 0 (es.map (·.2))) fun r _ => r = B true) :
    Calls P f vs.toArray W fun e W' => e = .returned (.bool true) ∧ Below W.heap.size W W' := by
  unfold SRun at h
  have h1 := h (es.map fun e => some e.2) (.start (fun x hx => (by have := (num_sat hx).2; simpa using this)) (num_nodup _ _))
  unfold Run at h1
  have hcb := ha.cb
  obtain ⟨hl, hv⟩ := ha.rel (fun A => ((es[A]?).map (·.1)).getD ⟨0, 0, 0, false⟩) (lens (es.map fun e => some e.2)) fun j e he => by
    simp only [Nat.zero_add, he, Option.map_some, Option.getD_some, lens, List.getElem?_map, Option.join_some, and_self]
  have get : ∀ (A : Nat) (g : Blk), (es.map fun e => some e.2)[A]? = some (some g) → ∃ e : Loc × Blk, es[A]? = some e ∧ e.2 = g := fun A g hA => by
    rw [List.getElem?_map] at hA
    cases he : es[A]? with
    | none => rw [he] at hA; cases hA
    | some e => rw [he] at hA; simp only [Option.map_some, Option.some.injEq] at hA; exact ⟨e, rfl, hA⟩
  have hro : ∀ (A : Nat) (g : Blk), (es.map fun e => some e.2)[A]? = some (some g) → g.ro = true := fun A g hA => by
    obtain ⟨e, h1, rfl⟩ := get A g hA
    exact (hcb e (List.mem_of_getElem? h1)).ro
  have h2 := h1 W.heap.size W (fun A => ((es[A]?).map (·.1)).getD ⟨0, 0, 0, false⟩) (lens (es.map fun e => some e.2)) (fun A => ((es[A]?).map (·.1)).getD ⟨0, 0, 0, false⟩) W vs.toArray (.refl _ _)
    ⟨Below.refl _ _, Nat.le_refl _, fun A g hA => by
        obtain ⟨e, h1, rfl⟩ := get A g hA
        have hc := hcb e (List.mem_of_getElem? h1)
        obtain ⟨c, T, fz, g1, g2, g3, g4⟩ := hc.ex
        refine ⟨⟨.cells c T fz, c, ?_, .cells ?_ ?_ (fun hr => ?_), ?_, fun i v hi => ?_⟩⟩
        · simp only [h1, Option.map_some, Option.getD_some]; exact g1
        · simp only [h1, Option.map_some, Option.getD_some]; exact hc.mp
        · simp only [h1, Option.map_some, Option.getD_some]; exact g2
        · rw [hc.ro] at hr; cases hr
        · simp only [h1, Option.map_some, Option.getD_some]; exact g3
        · simp only [h1, Option.map_some, Option.getD_some]; exact ⟨v, (g4 i v hi).1, Val.const (g4 i v hi).2⟩,
      fun A g hA hr => (by rw [hro A g hA] at hr; cases hr), fun A A' g _ hA hr => by rw [hro A g hA] at hr; cases hr⟩
    ⟨by simp [hl], fun i a hi => by obtain ⟨v, g1, g2⟩ := hv i a hi; exact ⟨v, by simpa using g1, g2⟩⟩
  refine h2.mono ?_
  rintro e W' ⟨φ', r, H', v, g1, g2, rfl, g4, q, rfl, g5⟩
  cases g4
  exact ⟨rfl, g2.below⟩

theorem has_at {esL es esR : List (Loc × Blk)} (j : Nat) (b : Loc × Blk) (h : es[j]? = some b) : ∃ h1, Pick (num 0 ((esL ++ (es ++ esR)).map (·.2))) (esL.length + j) b.2 h1 := by
  have hg : ((esL ++ (es ++ esR)).map (·.2))[esL.length + j]? = some b.2 := by
    rw [List.getElem?_map, List.getElem?_append_right (by omega), show esL.length + j - esL.length = j by omega, List.getElem?_append_left (List.getElem?_eq_some_iff.1 h).1, h]; rfl
  obtain ⟨h1, p⟩ := pick_num (k := 0) hg
  rw [Nat.zero_add] at p
  exact ⟨h1, p⟩
/-- How an element of a slice reads. -/
structure Elem {H : Type} (enc : TypeId × Value → H) (P : Program) (e : TypeId) {α : Type} (f : α → List Value) (w : Nat) (ok : α → Prop) : Prop where
  cells : P.cellsOf e = w
  pos : 0 < w
  len : ∀ y, (f y).length = w
  cst : ∀ y, ∀ v ∈ f y, constOk v = true
  rd : ∀ {W : World} {base : Nat} {sp : Nat → Bool} {held : Bool} {n : Nat} {cs : List Value} {x : DataW H × List MemPlace}, DataW.trod enc P W base sp held n e cs = some x → ∃ y, cs = f y ∧ ok y

section
variable {H : Type} {enc : TypeId × Value → H} {P : Program} {W : World} {α : Type} {f : α → List Value} {w : Nat} {ok : α → Prop}
theorem cell_heap {a : Addr} {v : Value} (h : W.cell? a = some v) : a.spot = none ∧ ∃ c T fz, W.heap[a.block]? = some (.cells c T fz) ∧ c[a.off]? = some v := by
  unfold World.cell? at h
  split at h
  · rename_i c T fz hc
    split at h
    · cases h
    · rename_i hs
      exact ⟨by cases hsp : a.spot <;> simp_all, c, T, fz, hc, h⟩
  · cases h
/-- The same of the cells of a slice. -/
theorem arg_cells [Inhabited α] {t e : TypeId} {base : Nat} {held : Bool} {cs : List Value} {x : DataW H × List MemPlace} {fuel : Nat} (E : Elem enc P e f w ok) (ht : P.underlying t = some (.slice e))
    (hf : DataW.trod enc P W base (fun _ => true) held fuel t cs = some x) :
    ∃ (v : Value) (l : List α) (es : List (Loc × Blk)) (g : Nat → Value), cs = [v] ∧ Arg W v es g ∧ (∀ x ∈ l, ok x) ∧ l.length ≤ maxLen ∧ ∀ (h : SH) (k : Nat), (∀ (j : Nat) b, es[j]? = some b → ∃ h1, Pick h (k + j) b.2 h1) → Has h (recs f l) w l.length (g k) := by
  rcases Go.Deep.open_slice ht hf with ⟨h0, _⟩ | ⟨a', len', cap', m, n, D, Pl, h0, hb, hl, hm, hmm, _, hx⟩
  · subst h0
    exact ⟨_, [], [], fun _ => .slice none 0 0, rfl, ⟨fun e he => (by cases he), fun _ _ _ _ => .snil⟩, fun x hx => (by cases hx), by simp, fun h k _ => ⟨none, 0, rfl, fun hn => absurd rfl hn⟩⟩
  · subst h0
    obtain ⟨len, rfl⟩ : ∃ l, l = len' := ⟨_, rfl⟩
    obtain ⟨cap, rfl⟩ : ∃ l, l = cap' := ⟨_, rfl⟩
    simp only [if_true] at hmm
    subst hmm
    by_cases hz : len = 0
    · subst hz
      exact ⟨_, [], [], fun _ => .slice (some ⟨0, 0, none⟩) 0 0, rfl, ⟨fun e he => (by cases he), fun _ _ _ _ => .sdead _ _ hm⟩, fun x hx => (by cases hx), by simp, fun h k _ => ⟨_, 0, rfl, fun hn => absurd rfl hn⟩⟩
    · rw [E.cells] at hx
      obtain ⟨Y, hY⟩ := Go.Deep.choose_lt (α := α) (n := len) (p := fun i y => W.cells? base (a'.add (i * w)) w = some (f y) ∧ ok y) fun i hi => by
        obtain ⟨cs, h1, h2⟩ := hx i (by omega)
        obtain ⟨y, rfl, h3⟩ := E.rd h2
        exact ⟨y, h1, h3⟩
      have hw := E.pos
      have hcell : ∀ i j, i < len → j < w → ∃ u, (f (Y i))[j]? = some u ∧ W.cell? ((a'.add (i * w)).add j) = some u := fun i j hi hj => by
        obtain ⟨_, _, h1⟩ := World.cells?_some (hY i hi).1
        obtain ⟨u, hu⟩ : ∃ u, (f (Y i))[j]? = some u := ⟨_, List.getElem?_eq_getElem (by rw [E.len]; exact hj)⟩
        exact ⟨u, hu, (h1 j hj).trans hu⟩
      obtain ⟨u0, _, hu0⟩ := hcell 0 0 (by omega) hw
      obtain ⟨hsp, c, T, fz, hc, _⟩ := cell_heap hu0
      simp only [Nat.zero_mul, Addr.add, if_true] at hsp hc
      obtain ⟨ab, ao, asp⟩ := a'
      simp only at hsp hc
      subst hsp
      have hget : ∀ i j, i < len → j < w → ∃ u, (f (Y i))[j]? = some u ∧ c[ao + (i * w + j)]? = some u := fun i j hi hj => by
        obtain ⟨u, h1, h2⟩ := hcell i j hi hj
        rw [Go.Deep.add_add] at h2
        obtain ⟨_, c2, T2, fz2, h3, h4⟩ := cell_heap h2
        have eb : (Addr.add ⟨ab, ao, none⟩ (i * w + j)).block = ab := by unfold Addr.add; split <;> rfl
        have eo : (Addr.add ⟨ab, ao, none⟩ (i * w + j)).off = ao + (i * w + j) := by unfold Addr.add; split <;> simp_all
        rw [eb, hc] at h3
        simp only [Option.some.injEq, Obj.cells.injEq] at h3
        obtain ⟨rfl, _, _⟩ := h3
        rw [eo] at h4
        exact ⟨u, h1, h4⟩
      have hll : ((List.range len).map Y).length = len := by simp
      have hlY : ∀ i, i < len → ((List.range len).map Y)[i]! = Y i := fun i hi => by rw [getElem!_pos _ i (by simpa using hi)]; simp
      have hrl : (recs f ((List.range len).map Y)).length = len * w := by rw [recs_len E.len, hll]
      refine ⟨_, (List.range len).map Y, [(⟨ab, ao, c.size, false⟩, ⟨recs f ((List.range len).map Y), true⟩)], fun k => .slice (some ⟨k, 0, some (w * len)⟩) len 0, rfl, ⟨fun e he => ?_, fun φ L k hφ => ?_⟩, fun x hx => ?_, by rw [hll]; omega, fun h k hp => ?_⟩
      · obtain rfl := List.mem_singleton.1 he
        refine ⟨rfl, rfl, c, T, fz, hc, rfl, ?_, fun i u hi => ?_⟩
        · show ao + (recs f _).length ≤ c.size
          rw [hrl]
          obtain ⟨u, _, h1⟩ := hget (len - 1) (w - 1) (by omega) (by omega)
          have := (Array.getElem?_eq_some_iff.1 h1).1
          have e : (len - 1) * w + (w - 1) + 1 = len * w := by
            obtain ⟨q, rfl⟩ : ∃ q, len = q + 1 := ⟨len - 1, by omega⟩
            rw [Nat.add_sub_cancel, Nat.add_mul]; omega
          omega
        · have hi2 : i < len * w := by have := (List.getElem?_eq_some_iff.1 hi).1; rw [hrl] at this; exact this
          have hq : i / w < len := (Nat.div_lt_iff_lt_mul hw).2 hi2
          have hr := Nat.mod_lt i hw
          have e := Nat.div_add_mod' i w
          have hg := recs_get (l := (List.range len).map Y) E.len (i := i / w) (j := i % w) (by rw [hll]; exact hq) hr
          rw [e, hlY _ hq] at hg
          obtain ⟨u2, h1, h2⟩ := hget (i / w) (i % w) hq hr
          rw [e] at h2
          have : u = u2 := by
            have h3 := hi.symm.trans (hg.trans h1)
            exact Option.some.inj h3
          subst this
          exact ⟨h2, E.cst _ _ (List.mem_of_getElem? h1)⟩
      · obtain ⟨h1, h2⟩ := hφ 0 _ rfl
        rw [Nat.add_zero] at h1 h2
        exact .slc k 0 (w * len) (w * len) len 0 _ ⟨ab, ao, none⟩ (by rw [h2, hrl, Nat.mul_comm]) (Nat.le_refl _) hl hm fun _ => ⟨by rw [h1]; rfl, fun h => absurd rfl h, by rw [h1]⟩
      · obtain ⟨i, hi, rfl⟩ := List.mem_map.1 hx
        exact (hY i (List.mem_range.1 hi)).2
      · obtain ⟨h1, p⟩ := hp 0 _ rfl
        rw [hll]
        exact ⟨_, 0, rfl, fun _ => ⟨k, true, h1, rfl, p⟩⟩

/-- A field, an element of one cell. -/
structure C1 {H : Type} (enc : TypeId × Value → H) (P : Program) (e : TypeId) {α : Type} (f : α → Value) (ok : α → Prop) : Prop where
  cells : P.cellsOf e = 1
  cst : ∀ y, constOk (f y) = true
  rd : ∀ {W : World} {base : Nat} {sp : Nat → Bool} {held : Bool} {n : Nat} {cs : List Value} {x : DataW H × List MemPlace}, DataW.trod enc P W base sp held n e cs = some x → ∃ y, cs = [f y] ∧ ok y
theorem c1_int {e : TypeId} {k : IntKind} (he : P.underlying e = some (.int k)) (hc : P.cellsOf e = 1) : C1 enc P e (fun z => .int k z) (fun z => (Lit.int k z).wf = true) :=
  ⟨hc, fun _ => rfl, fun h => let ⟨n, h1, _, h2⟩ := DataW.trod_int he h; ⟨n, h1, h2⟩⟩
theorem el_one {e : TypeId} {α : Type} {f : α → Value} {ok : α → Prop} (h : C1 enc P e f ok) : Elem enc P e (fun y => [f y]) 1 ok :=
  ⟨h.cells, by decide, fun _ => rfl, fun y v hv => by obtain rfl := List.mem_singleton.1 hv; exact h.cst y, h.rd⟩
theorem el_three {e : TypeId} {f0 f1 f2 : Field} {α β γ : Type} {g0 : α → Value} {g1 : β → Value} {g2 : γ → Value} {ok0 : α → Prop} {ok1 : β → Prop} {ok2 : γ → Prop} (he : P.underlying e = some (.struct #[f0, f1, f2])) (hc : P.cellsOf e = 3) (o0 : f0.offset = 0) (o1 : f1.offset = 1) (o2 : f2.offset = 2)
    (h0 : C1 enc P f0.type g0 ok0) (h1 : C1 enc P f1.type g1 ok1) (h2 : C1 enc P f2.type g2 ok2) : Elem enc P e (fun y : α × β × γ => [g0 y.1, g1 y.2.1, g2 y.2.2]) 3 (fun y => ok0 y.1 ∧ ok1 y.2.1 ∧ ok2 y.2.2) :=
  ⟨hc, by decide, fun _ => rfl, fun y v hv => by
    rcases List.mem_cons.1 hv with rfl | hv
    · exact h0.cst _
    · rcases List.mem_cons.1 hv with rfl | hv
      · exact h1.cst _
      · obtain rfl := List.mem_singleton.1 hv; exact h2.cst _, fun {W base sp held n cs x} h => by
    obtain ⟨xs, k, _, _, hl, hxs, hf⟩ := DataW.trod_struct he h
    rw [hc] at hl
    match xs, hxs with
    | [y0, y1, y2], _ =>
      have q0 := hf 0 f0 rfl
      have q1 := hf 1 f1 rfl
      have q2 := hf 2 f2 rfl
      simp only [o0, o1, o2, h0.cells, h1.cells, h2.cells, List.drop_zero, List.getElem?_cons_zero, List.getElem?_cons_succ] at q0 q1 q2
      obtain ⟨z0, r0, k0⟩ := h0.rd q0
      obtain ⟨z1, r1, k1⟩ := h1.rd q1
      obtain ⟨z2, r2, k2⟩ := h2.rd q2
      refine ⟨(z0, z1, z2), ?_, k0, k1, k2⟩
      match cs, hl with
      | [c0, c1, c2], _ => simp at r0 r1 r2; simp [r0, r1, r2]⟩
/-- The fields of a struct from an offset on. -/
structure Flds {H : Type} (enc : TypeId × Value → H) (P : Program) (fs : List Field) (o : Nat) {α : Type} (f : α → List Value) (w : Nat) (ok : α → Prop) : Prop where
  len : ∀ y, (f y).length = w
  cst : ∀ y, ∀ v ∈ f y, constOk v = true
  rd : ∀ {W : World} {base : Nat} {sp : Nat → Bool} {held : Bool} {n : Nat} {cs : List Value}, cs.length = o + w → (∀ fl ∈ fs, ∃ x, DataW.trod enc P W base sp held n fl.type ((cs.drop fl.offset).take (P.cellsOf fl.type)) = some x) → ∃ y, cs.drop o = f y ∧ ok y
theorem Flds.last {fl : Field} {o : Nat} (ho : fl.offset = o) (E : Elem enc P fl.type f w ok) : Flds enc P [fl] o f w ok :=
  ⟨E.len, E.cst, fun {W base sp held n cs} hl h => by
    obtain ⟨x, hx⟩ := h fl (by simp)
    rw [ho, E.cells, List.take_of_length_le (by rw [List.length_drop]; omega)] at hx
    exact E.rd hx⟩
theorem Flds.cons {β : Type} {g : β → List Value} {w2 : Nat} {ok2 : β → Prop} {fl : Field} {fs : List Field} {o : Nat} (ho : fl.offset = o) (E : Elem enc P fl.type f w ok) (r : Flds enc P fs (o + w) g w2 ok2) :
    Flds enc P (fl :: fs) o (fun y : α × β => f y.1 ++ g y.2) (w + w2) (fun y => ok y.1 ∧ ok2 y.2) :=
  ⟨fun y => by rw [List.length_append, E.len, r.len], fun y v hv => by
    rcases List.mem_append.1 hv with hv | hv
    · exact E.cst _ _ hv
    · exact r.cst _ _ hv, fun {W base sp held n cs} hl h => by
    obtain ⟨x, hx⟩ := h fl (by simp)
    rw [ho, E.cells] at hx
    obtain ⟨y1, h1, k1⟩ := E.rd hx
    obtain ⟨y2, h2, k2⟩ := r.rd (by omega) (fun z hz => h z (by simp [hz]))
    refine ⟨(y1, y2), ?_, k1, k2⟩
    dsimp only
    rw [← h1, ← h2, ← List.drop_drop, List.take_append_drop]⟩
theorem el_flds {e : TypeId} {fs : List Field} (he : P.underlying e = some (.struct fs.toArray)) (hc : P.cellsOf e = w) (hw : 0 < w) (F : Flds enc P fs 0 f w ok) : Elem enc P e f w ok :=
  ⟨hc, hw, F.len, F.cst, fun {W base sp held n cs x} h => by
    obtain ⟨xs, k, _, _, hl, hxs, hf⟩ := DataW.trod_struct he h
    have := F.rd (W := W) (base := base) (sp := sp) (held := held) (n := k) (cs := cs) (by rw [Nat.zero_add, hl, hc]) fun fl hfl => by
      obtain ⟨i, hi, rfl⟩ := List.getElem_of_mem hfl
      have h1 := hf i fs[i] (by simp [hi])
      have hlt : i < xs.length := by rw [hxs]; simpa using hi
      exact ⟨xs[i], h1.trans (List.getElem?_eq_getElem hlt)⟩
    simpa using this⟩
theorem arg_agg {W : World} {a : List Value} {v : Value} {es : List (Loc × Blk)} {g : Nat → Value} (ha : ∀ x ∈ a, constOk x = true) (h : Arg W v es g) : Arg W (.agg ⟨a ++ [v]⟩) es (fun k => .agg ⟨a ++ [g k]⟩) := by
  refine ⟨h.cb, fun φ L k hφ => .agg _ _ (by simp) fun i h1 h2 => ?_⟩
  by_cases hi : i < a.length
  · have e1 : (⟨a ++ [g k]⟩ : Array Value)[i] = a[i] := by simp [List.getElem_append_left, hi]
    have e2 : (⟨a ++ [v]⟩ : Array Value)[i] = a[i] := by simp [List.getElem_append_left, hi]
    rw [e1, e2]
    exact Val.const (ha _ (List.getElem_mem hi))
  · have h3 : i = a.length := by simp at h1; omega
    subst h3
    have e1 : (⟨a ++ [g k]⟩ : Array Value)[a.length] = g k := by simp
    have e2 : (⟨a ++ [v]⟩ : Array Value)[a.length] = v := by simp
    rw [e1, e2]
    exact h.val φ L k hφ
/-- A struct of a part without addresses and a slice behind it. -/
theorem arg_sslice [Inhabited α] {β : Type} {f2 : β → List Value} {w2 : Nat} {ok2 : β → Prop} {t t2 e : TypeId} {a0 a1 : Field} {base : Nat} {held : Bool} {v : Value} {d : DataW H} {ps : List MemPlace} {r : Reach} {b0 : Nat}
    (ht : P.underlying t = some (.struct #[a0, a1])) (hc : P.cellsOf t = w2 + 1) (o0 : a0.offset = 0) (o1 : a1.offset = w2) (E2 : Elem enc P a0.type f2 w2 ok2) (ht1 : P.underlying a1.type = some (.slice e)) (hc1 : P.cellsOf a1.type = 1) (E : Elem enc P e f w ok)
    (hval : Value.okWide P W r b0 t v) (hd : DataW.Trod enc P W base (fun _ => true) held t v d ps) :
    ∃ (y : β) (l : List α) (es : List (Loc × Blk)) (g : Nat → Value), Arg W v es (fun k => .agg ⟨f2 y ++ [g k]⟩) ∧ ok2 y ∧ (∀ x ∈ l, ok x) ∧ l.length ≤ maxLen ∧ ∀ (h : SH) (k : Nat), (∀ (j : Nat) b, es[j]? = some b → ∃ h1, Pick h (k + j) b.2 h1) → Has h (recs f l) w l.length (g k) := by
  obtain ⟨ca, rfl, _⟩ := okWide_struct ht hval
  obtain ⟨cs, rfl⟩ : ∃ l : List Value, ca = ⟨l⟩ := ⟨ca.toList, rfl⟩
  obtain ⟨fuel, hf⟩ := hd
  have hf : DataW.trod enc P W base (fun _ => true) held fuel t cs = some (d, ps) := hf
  obtain ⟨xs, k, _, _, hl, hxs, hg⟩ := DataW.trod_struct ht hf
  have q0 := hg 0 a0 rfl
  have q1 := hg 1 a1 rfl
  rw [hc] at hl
  rw [o0, E2.cells, List.drop_zero] at q0
  rw [o1, hc1, List.take_of_length_le (by rw [List.length_drop]; omega)] at q1
  have hx : ∃ x0 x1, xs = [x0, x1] := by
    match xs, hxs with
    | [x0, x1], _ => exact ⟨x0, x1, rfl⟩
  obtain ⟨x0, x1, rfl⟩ := hx
  simp only [List.getElem?_cons_zero, List.getElem?_cons_succ] at q0 q1
  obtain ⟨y, h1, h2⟩ := E2.rd q0
  obtain ⟨u, l, es, g, h3, h4, h5⟩ := arg_cells E ht1 q1
  refine ⟨y, l, es, g, ?_, h2, h5⟩
  have hcs : cs = f2 y ++ [u] := by rw [← h1, ← h3, List.take_append_drop]
  rw [hcs]
  exact arg_agg (E2.cst y) h4
end
end Go.Gh
end
section
set_option linter.unusedVariables false
set_option linter.unusedSimpArgs false
set_option maxRecDepth 4000
namespace Go.Proofs.YtncnmfdmbfbfjaaGreat
open Go.Gh Go.RowKit

def cst (c : Cst) (l : List UInt8) (w : Int) : Int := costs c (parse c l w).1
section
variable {c : Cst} {l : List UInt8} {w : Int} (hc : vC c) (hw : 1 ≤ w ∧ w ≤ 4096) (hn : l.length ≤ 4096)
include hc hw hn
end
end Go.Proofs.YtncnmfdmbfbfjaaGreat
end
section
set_option linter.unusedVariables false
set_option linter.unusedSimpArgs false
set_option maxRecDepth 4000
namespace Go.Proofs.YtncnmfdmbfbfjaaGreat
open Go.Gh Go.RowKit

theorem byt_bat {l : List UInt8} {i : Nat} (h : i < l.length) : byt (bat l (i : Int)) = l[i] := by
  unfold byt bat
  rw [Int.toNat_natCast, Int.toNat_natCast, List.getD_eq_getElem?_getD, List.getElem?_eq_getElem h, Option.getD_some, UInt8.ofNat_toNat]
theorem bat_inj {l : List UInt8} {i j : Nat} (hi : i < l.length) (hj : j < l.length) (h : bat l (i : Int) = bat l (j : Int)) : l[i] = l[j] := by
  rw [← byt_bat hi, ← byt_bat hj, h]
theorem copyN_take {l : List UInt8} {d : Nat} (hd : 1 ≤ d) : ∀ (n i : Nat), d ≤ i → i + n ≤ l.length → same l i d n → copyN d n (l.take i) = l.take (i + n)
  | 0, i, _, _, _ => rfl
  | n + 1, i, h1, h2, h3 => by
    have hl : (l.take i).length = i := by rw [List.length_take]; omega
    have e : (l.take i)[(l.take i).length - d]! = l[i]'(by omega) := by
      rw [getElem!_pos _ _ (by omega), List.getElem_take]
      have := h3 0 (by omega)
      simp only [Nat.add_zero] at this
      simp only [hl]
      exact bat_inj (by omega) (by omega) this
    rw [copyN, e, List.take_append_getElem (by omega), copyN_take hd n (i + 1) (by omega) (by omega) (fun k hk => by
      have := h3 (k + 1) (by omega)
      rwa [show i - d + (k + 1) = i + 1 - d + k by omega, show i + (k + 1) = i + 1 + k by omega] at this)]
    congr 1; omega
theorem cov_bytes {l : List UInt8} {w : Int} : ∀ {ps : List Pc} {i : Nat}, Cov l w i ps → bytesOk ps
  | [], _, _ => fun t ht => by cases ht
  | t :: r, i, h => fun u hu => by
    rcases List.mem_cons.1 hu with rfl | hu
    · rcases h.1 with ⟨_, rfl⟩ | ⟨n, d, rfl, _⟩
      · have := bat_lo l i; have := bat_hi l i; show 0 ≤ bat l i ∧ bat l i ≤ 255; omega
      · exact ⟨Int.le_refl _, by show (0 : Int) ≤ 255; omega⟩
    · exact cov_bytes h.2 u hu
end Go.Proofs.YtncnmfdmbfbfjaaGreat
end
section
set_option linter.unusedVariables false
set_option linter.unusedSimpArgs false
set_option maxRecDepth 4000
namespace Go.Proofs.YtncnmfdmbfbfjaaGreat
open Go.Gh Go.RowKit

/-- A piece is written. -/
def wst (s : Ms × Enc) (t : Pc) : Ms × Enc :=
  if t.2.1 = 0 then
    ({ s.1 with K := (tenc 0 1 s.1.K s.2 1).1, P := (benc s.1.P s.1.c (tenc 0 1 s.1.K s.2 1).2 t.2.2).1, c := t.2.2 }, (benc s.1.P s.1.c (tenc 0 1 s.1.K s.2 1).2 t.2.2).2)
  else
    ({ s.1 with K := (tenc 1 1 s.1.K s.2 1).1, L := (nenc s.1.L (tenc 1 1 s.1.K s.2 1).2 (t.1 - 2)).1, D := (nenc s.1.D (nenc s.1.L (tenc 1 1 s.1.K s.2 1).2 (t.1 - 2)).2 (t.2.1 - 1)).1 },
      (nenc s.1.D (nenc s.1.L (tenc 1 1 s.1.K s.2 1).2 (t.1 - 2)).2 (t.2.1 - 1)).2)
def wrun (l : List Pc) (s : Ms × Enc) : Ms × Enc := l.foldl wst s
theorem wrun_cons (t : Pc) (l : List Pc) (s : Ms × Enc) : wrun (t :: l) s = wrun l (wst s t) := rfl
abbrev vPb (t : Pc) : Prop := vP t ∧ 0 ≤ t.2.2 ∧ t.2.2 ≤ 255
def psum : List Pc → Nat
  | [] => 0
  | t :: r => t.1.toNat + psum r
theorem wst_ok {n : Nat} {s : Ms × Enc} {t : Pc} (hx : MsOk s.1) (hok : EncOk n s.2) (ht : vPb t) : MsOk (wst s t).1 ∧ EncOk (n + 137 * t.1.toNat) (wst s t).2 := by
  obtain ⟨hv, hy⟩ := ht
  unfold wst
  split
  · have h1 := tenc_ok (v := 0) (k := 1) (t := s.1.K) (j := 1) hok
    have h2 := benc_ok (v := t.2.2) h1.1 hx.P hx.c
    exact ⟨⟨h1.2.trans hx.K, h2.2, hy, hx.L, hx.D⟩, h2.1.mono (by rcases hv with g | g <;> omega)⟩
  · have h1 := tenc_ok (v := 1) (k := 1) (t := s.1.K) (j := 1) hok
    have h2 := nenc_ok (t := s.1.L) h1.1 (t.1 - 2)
    have h3 := nenc_ok (t := s.1.D) h2.1 (t.2.1 - 1)
    exact ⟨⟨h1.2.trans hx.K, hx.P, hx.c, h2.2.trans hx.L, h3.2.trans hx.D⟩, h3.1.mono (by rcases hv with g | g <;> omega)⟩
theorem wrun_ok : ∀ {l : List Pc} {n : Nat} {s : Ms × Enc}, MsOk s.1 → EncOk n s.2 → (∀ t ∈ l, vPb t) → MsOk (wrun l s).1 ∧ EncOk (n + 137 * psum l) (wrun l s).2
  | [], n, s, hx, hok, _ => ⟨hx, hok⟩
  | t :: r, n, s, hx, hok, ht => by
    have h1 := wst_ok hx hok (ht t (by simp))
    have h2 := wrun_ok (l := r) h1.1 h1.2 (fun u hu => ht u (by simp [hu]))
    rw [wrun_cons]
    exact ⟨h2.1, h2.2.mono (by show _ ≤ n + 137 * (t.1.toNat + psum r); omega)⟩
theorem EncT.add {n : Nat} {h p : SH} {a : Option Nat} {e : Enc} {x : Nat × Blk} (hb : EncT n h a e p) : ∃ p', EncT n (x :: h) a e p' ∧ Take (x :: p) p' := by
  cases hb with
  | nil _ _ ha => exact ⟨_, .nil _ _ ha, .cons (.tail .head) .nil⟩
  | some _ _ _ _ ha ho => exact ⟨_, .some _ _ _ _ ha ho, .cons (.tail .head) (.cons (.tail .head) .nil)⟩
theorem Take.up8 {X A B C D E F G H : Nat × Blk} {h : SH} : Take (X :: A :: B :: C :: D :: E :: F :: G :: H :: h) (A :: B :: C :: D :: E :: F :: G :: H :: X :: h) :=
  .cons (.tail .head) (.cons (.tail .head) (.cons (.tail .head) (.cons (.tail .head) (.cons (.tail .head) (.cons (.tail .head) (.cons (.tail .head) (.cons (.tail .head) .nil)))))))
theorem Take.dn8 {X A B C D E F G H : Nat × Blk} {h : SH} : Take (A :: B :: C :: D :: E :: F :: G :: H :: X :: h) (A :: B :: C :: D :: E :: F :: G :: H :: h) :=
  .cons .head (.cons .head (.cons .head (.cons .head (.cons .head (.cons .head (.cons .head (.cons .head (.drop .nil))))))))
theorem EncT.add8 {n : Nat} {a : Mad} {x : Ms} {h p : SH} {e : Enc} {y : Nat × Blk} (hb : EncT n (msB a x h) none e p) : ∃ p', EncT n (msB a x (y :: h)) none e p' ∧ Take (y :: p) p' := by
  obtain ⟨p1, h1, t1⟩ := hb.add (x := y)
  obtain ⟨p2, h2, t2⟩ := h1.re Take.up8
  exact ⟨p2, h2, t1.trans t2⟩
theorem pk3 {a : Mad} {n A s c : Nat} {x : Ms} {bA bS bC : Blk} {h p : SH} {e : Enc} (hb : EncT n (msB a x ((A, bA) :: (s, bS) :: (c, bC) :: h)) none e p) : (∃ p1, Pick p A bA p1) ∧ (∃ p1, Pick p s bS p1) ∧ ∃ p1, Pick p c bC p1 :=
  ⟨hb.pick (.tail (.tail (.tail (.tail (.tail (.tail (.tail (.tail .head)))))))), hb.pick (.tail (.tail (.tail (.tail (.tail (.tail (.tail (.tail (.tail .head))))))))), hb.pick (.tail (.tail (.tail (.tail (.tail (.tail (.tail (.tail (.tail (.tail .head)))))))))) ⟩
theorem write_any (a : Mad) (n s c m : Nat) (x : Ms) (e : Enc) (t : Pc) (h p : SH) (hb : EncT n (msB a x ((s, ⟨setC a, false⟩) :: (c, ⟨[gptr n 0 3], false⟩) :: h)) none e p) (hx : MsOk x) (hok : EncOk m e) (hm : m + 800 ≤ 999000) (ht : vPb t) :
    SRun Tryz.prog 51 [pcV t, gptr s 0 4, gptr c 0 1] p fun r q => r = .tuple #[] ∧ EncT n (msB a (wst (x, e) t).1 ((s, ⟨setC a, false⟩) :: (c, ⟨[gptr n 0 3], false⟩) :: h)) none (wst (x, e) t).2 q := by
  refine srun_post ?_
  obtain ⟨hv, hy⟩ := ht
  obtain ⟨l, d, y⟩ := t
  dsimp only at hv hy
  refine w_body3 Tryz.func51 rfl rfl ?_
  repeat' ((fail_if_success (show SWp _ _ (Code.seq (Code.region 1 _ _) _) _ _ _)); (fail_if_success (show SWp _ _ (Code.region 1 _ _) _ _ _)); first | apply w_seq | apply w_region | apply o_nil | (apply o_box (tt := tyT); iterate 5 exact rfl) | apply thenS_normal | intro A)
  obtain ⟨p1, hb1, t1⟩ := hb.add8 (y := (A, (⟨pcC (l, d, y), false⟩ : Blk)))
  obtain ⟨⟨pA, hA⟩, ⟨pS, hS⟩, ⟨pC, hC⟩⟩ := pk3 hb1
  refine SWp.take (b := [(1, gptr s 0 4), (2, gptr c 0 1), (3, gptr A 0 3)]) (by repeat' (first | exact trivial | refine ⟨rfl, ?_⟩ | refine ⟨congrArg some ?_, ?_⟩)) t1 ?_
  unfold wst
  by_cases h0 : d = 0
  · rw [if_pos h0]
    have hK := (kEncW a n m x e 0 _ p1 hb1 hx hok (by omega)).mono fun _ q g => And.intro g (pk3 g)
    have ok1 := tenc_ok (v := 0) (k := 1) (t := x.K) (j := 1) hok
    have hB := fun q g => (bEncW a n (m + 2) { x with K := (tenc 0 1 x.K e 1).1 } (tenc 0 1 x.K e 1).2 y ((A, (⟨pcC (l, d, y), false⟩ : Blk)) :: (s, ⟨setC a, false⟩) :: (c, ⟨[gptr n 0 3], false⟩) :: h) q g ⟨ok1.2.trans hx.K, hx.P, hx.c, hx.L, hx.D⟩ (ok1.1.mono (by omega)) (by omega) hy)
    generalize tenc 0 1 x.K e 1 = T at *
    dsimp only at hB ⊢
    generalize benc x.P x.c T.2 y = W at *
    repeat' (first | apply w_seq | apply w_region | apply o_nil | (apply o_g tyOk; exact rfl; exact rfl) | (apply o_load tyOk; (iterate 3 exact rfl); (focus (exact pk))) | (apply o_call; exact rfl; exact rfl; (focus (first | exact rfl | assumption)); exact rfl; (focus (exact ⟨_, hK, by repeat (first | with_reducible exact Take.nil | with_reducible apply Take.c | with_reducible apply Take.drop)⟩)); rintro _ _ ⟨hb2, ⟨pA2, hA2⟩, ⟨pS2, hS2⟩, ⟨pC2, hC2⟩⟩) | (apply o_call; exact rfl; exact rfl; (focus (first | exact rfl | assumption)); exact rfl; (focus (exact ⟨_, hB _ hb2, by repeat (first | with_reducible exact Take.nil | with_reducible apply Take.c | with_reducible apply Take.drop)⟩)); rintro _ _ hb3) | (apply w_dT; exact rfl; (focus (first | exact ‹_› | with_reducible exact rfl | omega))) | apply thenS_normal | apply thenS_ret | apply w_ret | ((with_reducible apply Sd.mk); (first | exact True.intro | omega | (constructor <;> first | omega | (unfold maxLen; omega)) | (unfold maxLen; omega))) | ((with_reducible apply Ln.mk); (first | rfl | exact ‹_› | omega | (simp ; first | done | omega))) | ((with_reducible apply Ce.mk); (first | rfl | exact ‹_› | exact cell_recZ (fun _ => rfl) (by omega) (by decide) rfl | exact cell_rec (fun _ => rfl) (by omega) (by decide) rfl | exact cell_bytes (by omega) | exact cell_mapZ (by omega) | exact cell_map (by omega))) | exact True.intro | exact rfl)
    all_goals first
      | (exfalso; omega)
      | (apply s_fin; (exact (show ResS _ _ _ _ [] from trivial)); (focus (exact (hb3.re Take.dn8).imp fun _ g => ⟨⟨rfl, g.1⟩, g.2⟩)); (focus (repeat (first | with_reducible exact Take.nil | with_reducible apply Take.c | with_reducible apply Take.drop))))
      | trace_state
  · rw [if_neg h0]
    have hK := (kEncW a n m x e 1 _ p1 hb1 hx hok (by omega)).mono fun _ q g => And.intro g (pk3 g)
    have ok1 := tenc_ok (v := 1) (k := 1) (t := x.K) (j := 1) hok
    have ok2 := nenc_ok (t := x.L) ok1.1 (l - 2)
    have hL := fun q g => (lEncW a n (m + 2) { x with K := (tenc 1 1 x.K e 1).1 } (tenc 1 1 x.K e 1).2 (l - 2) ((A, (⟨pcC (l, d, y), false⟩ : Blk)) :: (s, ⟨setC a, false⟩) :: (c, ⟨[gptr n 0 3], false⟩) :: h) q g ⟨ok1.2.trans hx.K, hx.P, hx.c, hx.L, hx.D⟩ (ok1.1.mono (by omega)) (by omega)).mono fun _ q g => And.intro g (pk3 g)
    have hD := fun q g => (dEncW a n (m + 138) { x with K := (tenc 1 1 x.K e 1).1, L := (nenc x.L (tenc 1 1 x.K e 1).2 (l - 2)).1 } (nenc x.L (tenc 1 1 x.K e 1).2 (l - 2)).2 (d - 1) ((A, (⟨pcC (l, d, y), false⟩ : Blk)) :: (s, ⟨setC a, false⟩) :: (c, ⟨[gptr n 0 3], false⟩) :: h) q g ⟨ok1.2.trans hx.K, hx.P, hx.c, ok2.2.trans hx.L, hx.D⟩ (ok2.1.mono (by omega)) (by omega))
    generalize tenc 1 1 x.K e 1 = T at *
    dsimp only at hL hD ⊢
    generalize nenc x.L T.2 (l - 2) = V at *
    generalize nenc x.D V.2 (d - 1) = W at *
    have hdl : 1 ≤ d ∧ d ≤ 4096 ∧ 2 ≤ l ∧ l ≤ 273 := by rcases hv with g | g <;> (dsimp only at g; omega)
    repeat' (first | apply w_seq | apply w_region | apply o_nil | (apply o_g tyOk; exact rfl; exact rfl) | (apply o_ar tyOk; exact rfl; exact rfl) | (apply o_load tyOk; (iterate 3 exact rfl); (focus (exact pk))) | (apply o_call; exact rfl; exact rfl; (focus (first | exact rfl | assumption)); exact rfl; (focus (exact ⟨_, hK, by repeat (first | with_reducible exact Take.nil | with_reducible apply Take.c | with_reducible apply Take.drop)⟩)); rintro _ _ ⟨hb2, ⟨pA2, hA2⟩, ⟨pS2, hS2⟩, ⟨pC2, hC2⟩⟩) | (apply o_call; exact rfl; exact rfl; (focus (first | exact rfl | assumption)); exact rfl; (focus (exact ⟨_, hL _ hb2, by repeat (first | with_reducible exact Take.nil | with_reducible apply Take.c | with_reducible apply Take.drop)⟩)); rintro _ _ ⟨hb3, ⟨pA3, hA3⟩, ⟨pS3, hS3⟩, ⟨pC3, hC3⟩⟩) | (apply o_call; exact rfl; exact rfl; (focus (first | exact rfl | assumption)); exact rfl; (focus (exact ⟨_, hD _ hb3, by repeat (first | with_reducible exact Take.nil | with_reducible apply Take.c | with_reducible apply Take.drop)⟩)); rintro _ _ hb4) | (apply w_dF; exact rfl; (focus (first | exact ‹_› | with_reducible exact rfl | omega))) | apply thenS_normal | apply w_skip | ((with_reducible apply Sd.mk); (first | exact True.intro | omega | (constructor <;> first | omega | (unfold maxLen; omega)) | (unfold maxLen; omega))) | ((with_reducible apply Ln.mk); (first | rfl | exact ‹_› | omega | (simp ; first | done | omega))) | ((with_reducible apply Wr.mk); (first | exact IntWalk.i64_in _ (by omega) | exact IntWalk.u8_in _ (by omega) | exact IntWalk.u32_in _ (by omega) | exact IntWalk.u64_in _ (by omega) | exact IntKind.wrap_u8 _ | exact IntKind.wrap_u32 _ | rfl)) | ((with_reducible apply Ce.mk); (first | rfl | exact ‹_› | exact cell_recZ (fun _ => rfl) (by omega) (by decide) rfl | exact cell_rec (fun _ => rfl) (by omega) (by decide) rfl | exact cell_bytes (by omega) | exact cell_mapZ (by omega) | exact cell_map (by omega))) | exact True.intro | exact rfl)
    all_goals first
      | (exfalso; omega)
      | (apply s_finN; (exact (show ResS _ _ _ _ [] from trivial)); (focus (exact (hb4.re Take.dn8).imp fun _ g => ⟨⟨rfl, g.1⟩, g.2⟩)); (focus (repeat (first | with_reducible exact Take.nil | with_reducible apply Take.c | with_reducible apply Take.drop))))
      | trace_state
end Go.Proofs.YtncnmfdmbfbfjaaGreat
end
section
set_option linter.unusedVariables false
set_option linter.unusedSimpArgs false
set_option maxRecDepth 4000
namespace Go.Proofs.YtncnmfdmbfbfjaaGreat
open Go.Gh Go.RowKit

def lcst : Cst := ⟨9, 12, 1, 1⟩
theorem lcst_ok : vC lcst := by unfold vC one1 lcst; decide
def pcs (l : List UInt8) : List Pc := (parse lcst l 4096).1
theorem pcs_cov {l : List UInt8} (hl : l.length ≤ 4096) : Cov l 4096 0 (pcs l) := parse_cov lcst_ok (by decide) hl
theorem pcs_err (l : List UInt8) : (parse lcst l 4096).2 = if 4096 < l.length then 9 else 0 := by
  unfold parse
  rw [if_pos ⟨lcst_ok, by decide⟩]
  split <;> rfl
theorem cov_vPb {l : List UInt8} {w : Int} (hw : w ≤ 4096) {ps : List Pc} {i : Nat} (h : Cov l w i ps) : ∀ t ∈ ps, vPb t := fun t ht => ⟨cov_vPs hw h t ht, cov_bytes h t ht⟩
theorem cov_psum {l : List UInt8} {w : Int} (hw : w ≤ 4096) : ∀ {ps : List Pc} {i : Nat}, Cov l w i ps → i + psum ps = l.length
  | [], i, h => by show i + 0 = _; have : i = l.length := h; omega
  | t :: r, i, h => by
    have h1 := cov_psum hw h.2
    show i + (t.1.toNat + psum r) = _
    omega
theorem Pieces_any (l : List UInt8) (h : SH) (hl : l.length ≤ 9223372036854775807) : SRun Tryz.prog 48 [S l] h fun r q =>
    ∃ v, r = .tuple #[v, I (if 4096 < l.length then 9 else 0)] ∧ Has q (recs pcC (pcs l)) 3 (pcs l).length v ∧ Take q h := by
  have hP : ∀ h, SRun Tryz.prog 68 [csV ⟨9, 12, 1, 1⟩, S l, I 4096] h fun r q => ∃ v, r = .tuple #[v, I (if 4096 < l.length then 9 else 0)] ∧ Has q (recs pcC (pcs l)) 3 (pcs l).length v ∧ Take q h :=
    fun h => (Parse_any lcst l 4096 h hl).mono fun r q ⟨v, g1, g2⟩ => ⟨v, by rw [g1, pcs_err], g2.has⟩
  generalize pcs l = L at *
  generalize (if 4096 < l.length then (9 : Int) else 0) = E at *
  refine w_body1 Tryz.func48 rfl rfl ?_
  repeat' (first | apply w_seq | apply w_region | apply o_nil | (apply o_g tyOk; exact rfl; exact rfl) | (apply o_build tyOk; exact rfl; exact rfl; (focus (first | with_reducible exact pl112)); exact rfl; (focus (repeat (first | exact BuildR.nil | (apply BuildR.one; exact rfl; exact rfl; (first | (focus ((repeat (first | exact SetAt.zero | apply SetAt.succ)); done)) | exact setAt_bytes (by omega) (by omega) | exact setAt_mapZ (by omega) | exact setAt_map (by omega))) | (apply BuildR.agg; exact rfl; exact rfl; (first | exact putAt_all rfl | exact putAt_recZ (fun _ => rfl) (by omega) | exact putAt_rec (fun _ => rfl) (by omega)))))); exact rfl) | (apply o_call; exact rfl; exact rfl; (focus (first | exact rfl | assumption)); exact rfl; (focus (exact ⟨_, hP _, by repeat (first | with_reducible exact Take.nil | with_reducible apply Take.c | with_reducible apply Take.drop)⟩)); rintro _ _ ⟨v, rfl, hv, ht⟩) | apply thenS_normal | apply w_ret | ((with_reducible apply Sd.mk); (first | exact True.intro | omega | (constructor <;> first | omega | (unfold maxLen; omega)) | (unfold maxLen; omega))))
  (apply s_fin; (exact (show ResS _ _ _ _ [_, _] from ⟨rfl, ⟨rfl, trivial⟩⟩)); (focus (exact ⟨v, rfl, hv, ht⟩)); (focus (repeat (first | with_reducible exact Take.nil | with_reducible apply Take.c | with_reducible apply Take.drop))))
theorem psum_app (a b : List Pc) : psum (a ++ b) = psum a + psum b := by
  induction a with
  | nil => exact (Nat.zero_add _).symm
  | cons t r ih => show t.1.toNat + psum (r ++ b) = t.1.toNat + psum r + psum b; omega
theorem wrun_snoc (l : List Pc) (t : Pc) (s : Ms × Enc) : wrun (l ++ [t]) s = wst (wrun l s) t := by unfold wrun; rw [List.foldl_append]; rfl
def zs0 : Ms × Enc := (ms0, encZ)
/-- The bytes of a text of n bytes that is written as some pieces. -/
def wrt (n : Nat) (ps : List Pc) : List UInt8 := vnum n ++ fin (wrun ps zs0).2
/-- What Encode gives. -/
def lzE (l : List UInt8) : List UInt8 × Int := if 4096 < l.length then ([], 9) else (if l = [] then vnum 0 else wrt l.length (pcs l), 0)
theorem ztake_bang {α : Type} [Inhabited α] {l : List α} {i : Nat} (h : i < l.length) : l.take (i + 1) = l.take i ++ [l[i]!] := by
  rw [getElem!_pos l i h]; exact (List.take_append_getElem h).symm
theorem psum_all {l : List Pc} {i : Nat} : psum (l.take i) ≤ psum l := by
  have h1 := psum_app (l.take i) (l.drop i)
  rw [List.take_append_drop] at h1
  omega
theorem wrunT_ok {ps : List Pc} (hv : ∀ t ∈ ps, vPb t) (i : Nat) : MsOk (wrun (ps.take i) zs0).1 ∧ EncOk (137 * psum ps) (wrun (ps.take i) zs0).2 := by
  have h := wrun_ok (l := ps.take i) (s := zs0) ms0_ok encZ_ok (fun t ht => hv t (List.mem_of_mem_take ht))
  have := psum_all (l := ps) (i := i)
  exact ⟨h.1, h.2.mono (by omega)⟩
abbrev WF (s c : Nat) : Value := .func (.func 51) ⟨[]⟩ ⟨[gptr s 0 4, gptr c 0 1]⟩
theorem Encode_any' (l : List UInt8) (h : SH) (hl : l.length ≤ 9223372036854775807) : SRun Tryz.prog 34 [S l] h fun r q => r = .tuple #[S (lzE l).1, I (lzE l).2] ∧ q = h := by
  have hP := fun h => Pieces_any l h hl
  have hN := fun h => Number_any (l.length : Int) h (by omega)
  by_cases hbig : 4096 < l.length
  · rw [show lzE l = ([], 9) from if_pos hbig]
    simp only [if_pos hbig] at hP
    refine w_body1 Tryz.func34 rfl rfl ?_
    repeat' (first | apply w_seq | apply w_region | apply o_nil | (apply o_g tyOk; exact rfl; exact rfl) | (apply o_call; exact rfl; exact rfl; (focus (first | exact rfl | assumption)); exact rfl; (focus (exact ⟨_, hP _, by repeat (first | with_reducible exact Take.nil | with_reducible apply Take.c | with_reducible apply Take.drop)⟩)); rintro _ _ ⟨v, rfl, hv, ht⟩) | (apply w_true; exact rfl) | apply thenS_normal | apply thenS_ret | apply w_ret | ((with_reducible apply Sd.mk); (first | exact True.intro | omega | (constructor <;> first | omega | (unfold maxLen; omega)) | (unfold maxLen; omega))))
    all_goals first
      | (exfalso; omega)
      | (apply s_fin; (exact (show ResS _ _ _ _ [_, _] from ⟨rfl, ⟨rfl, trivial⟩⟩)); (focus (exact ⟨rfl, rfl⟩)); (focus (repeat (first | with_reducible exact Take.nil | exact ht | with_reducible apply Take.c | with_reducible apply Take.drop))))
      | trace_state
  · simp only [if_neg hbig] at hP
    by_cases h0 : l = []
    · subst h0
      rw [show lzE [] = (vnum 0, 0) from rfl]
      refine w_body1 Tryz.func34 rfl rfl ?_
      repeat' (first | apply w_seq | apply w_region | apply o_nil | (apply o_g tyOk; exact rfl; exact rfl) | (apply o_call; exact rfl; exact rfl; (focus (first | exact rfl | assumption)); exact rfl; (focus (exact ⟨_, hP _, by repeat (first | with_reducible exact Take.nil | with_reducible apply Take.c | with_reducible apply Take.drop)⟩)); rintro _ _ ⟨v, rfl, hv, ht⟩) | (apply o_call; exact rfl; exact rfl; (focus (first | exact rfl | assumption)); exact rfl; (focus (exact ⟨_, hN _, by repeat (first | with_reducible exact Take.nil | with_reducible apply Take.c | with_reducible apply Take.drop)⟩)); rintro _ _ ⟨rfl, rfl⟩) | (apply w_true; exact rfl) | (apply w_false; exact rfl) | apply thenS_normal | apply thenS_ret | apply w_skip | apply w_ret | ((with_reducible apply Sd.mk); (first | exact True.intro | omega | (constructor <;> first | omega | (unfold maxLen; omega)) | (unfold maxLen; omega))))
      all_goals first
        | contradiction
        | (apply s_fin; (exact (show ResS _ _ _ _ [_, _] from ⟨rfl, ⟨rfl, trivial⟩⟩)); (focus (exact ⟨rfl, rfl⟩)); (focus (repeat (first | with_reducible exact Take.nil | exact ht | with_reducible apply Take.c | with_reducible apply Take.drop))))
        | trace_state
    · rw [show lzE l = (wrt l.length (pcs l), 0) by unfold lzE; rw [if_neg hbig, if_neg h0]]
      have hcv := pcs_cov (l := l) (by omega)
      have hvp := cov_vPb (by omega) hcv
      have hps := cov_psum (by omega) hcv
      have hl0 : l.length ≠ 0 := fun g => h0 (List.length_eq_zero_iff.1 g)
      have hpl := cov_short (by omega) hcv
      unfold wrt
      generalize pcs l = ps at *
      have hpn : ps.length ≠ 0 := fun g => by
        rw [List.length_eq_zero_iff.1 g] at hps
        exact hl0 (by rw [← hps]; rfl)
      refine w_body1 Tryz.func34 rfl rfl ?_
      repeat' (first | apply w_seq | apply w_region | apply o_nil | (apply o_g tyOk; exact rfl; exact rfl) | (apply o_store tyOk; (iterate 4 exact rfl); (focus (exact up))) | (apply o_stores tyOk; (iterate 4 exact rfl); (focus (exact ⟨rfl⟩)); (focus (exact up))) | (apply o_alloc tyOk; iterate 5 exact rfl) | (apply o_makeFunc; iterate 3 exact rfl) | (apply o_call; exact rfl; exact rfl; (focus (first | exact rfl | assumption)); exact rfl; (focus (exact ⟨_, hP _, by repeat (first | with_reducible exact Take.nil | with_reducible apply Take.c | with_reducible apply Take.drop)⟩)); rintro _ _ ⟨v, rfl, ⟨ad, fl, rfl, hh⟩, ht⟩) | (apply o_call; exact rfl; exact rfl; (focus (first | exact rfl | assumption)); exact rfl; (focus (exact ⟨_, hN _, by repeat (first | with_reducible exact Take.nil | with_reducible apply Take.c | with_reducible apply Take.drop)⟩)); rintro _ _ ⟨rfl, rfl⟩) | (apply o_call; exact rfl; exact rfl; (focus (first | exact rfl | assumption)); exact rfl; (focus (exact ⟨_, newSet_any _, by repeat (first | with_reducible exact Take.nil | with_reducible apply Take.c | with_reducible apply Take.drop)⟩)); rintro _ _ ⟨a, rfl, rfl⟩) | (apply o_call; exact rfl; exact rfl; (focus (first | exact rfl | assumption)); exact rfl; (focus (exact ⟨_, NewEncoderT _, by repeat (first | with_reducible exact Take.nil | with_reducible apply Take.c | with_reducible apply Take.drop)⟩)); rintro _ _ ⟨n, rfl, rfl⟩) | (apply w_false; exact rfl) | (apply w_dF; exact rfl; (focus (first | exact ‹_› | with_reducible exact rfl | omega))) | apply thenS_normal | apply w_skip | apply w_block | ((with_reducible apply Sd.mk); (first | exact True.intro | omega | (constructor <;> first | omega | (unfold maxLen; omega)) | (unfold maxLen; omega))) | ((with_reducible apply Ln.mk); (first | rfl | exact ‹_› | omega | (simp ; first | done | omega))) | ((with_reducible apply Se.mk); (first | (focus ((repeat (first | exact SetAt.zero | apply SetAt.succ)); done)) | exact setAt_bytes (by omega) (by omega) | exact setAt_mapZ (by omega) | exact setAt_map (by omega))) | ((with_reducible apply Pu.mk); (first | exact putAt_all rfl | exact putAt_recZ (fun _ => rfl) (by omega) | exact putAt_rec (fun _ => rfl) (by omega))) | exact True.intro | intro A)
      all_goals first | contradiction | skip
      rename_i q0 s
      refine w_loop (S := Nat × SH) (fun x => [(6, S (vnum l.length)), (8, gptr A 0 1), (9, WF s A), (29, .slice ad ps.length fl), (30, I ps.length), (31, I x.1)]) (fun x => x.2)
        (fun x => x.1 ≤ ps.length ∧ EncT n (msB a (wrun (ps.take x.1) zs0).1 ((s, ⟨setC a, false⟩) :: (A, ⟨[gptr n 0 3], false⟩) :: q0)) none (wrun (ps.take x.1) zs0).2 x.2) (fun x => ps.length - x.1)
        (0, (n, ⟨encC (.slice none 0 0) 0 4294967295, false⟩) :: msB a ms0 ((s, ⟨setC a, false⟩) :: (A, ⟨[gptr n 0 3], false⟩) :: q0)) ⟨Nat.zero_le _, .nil _ _ rfl⟩ (by repeat' (first | exact trivial | refine ⟨rfl, ?_⟩ | refine ⟨congrArg some ?_, ?_⟩)) (by repeat (first | with_reducible exact Take.nil | with_reducible apply Take.c | with_reducible apply Take.drop)) ?_
      rintro ⟨i, p⟩ ⟨hi, hb⟩
      dsimp only at hi hb ⊢
      have hok := wrunT_ok hvp i
      obtain ⟨pC, hpC⟩ : ∃ p1, Pick p A ⟨[gptr n 0 3], false⟩ p1 := hb.pick (.tail (.tail (.tail (.tail (.tail (.tail (.tail (.tail (.tail .head)))))))))
      by_cases hil : i < ps.length
      · obtain ⟨A', ro, h1, rfl, hp⟩ := hh (by omega)
        obtain ⟨pA, hpA⟩ := hb.pick (.tail (.tail (.tail (.tail (.tail (.tail (.tail (.tail (.tail (.tail hp))))))))))
        have hW : ∀ A2 b2, SRun Tryz.prog 51 [pcV ps[i]!, gptr s 0 4, gptr A 0 1] ((A2, b2) :: p) fun r q => r = .tuple #[] ∧ EncT n (msB a (wrun (ps.take (i + 1)) zs0).1 ((s, ⟨setC a, false⟩) :: (A, ⟨[gptr n 0 3], false⟩) :: q0)) none (wrun (ps.take (i + 1)) zs0).2 q := fun A2 b2 => by
          rw [ztake_bang hil, wrun_snoc]
          exact (write_any a n s A _ _ _ ps[i]! q0 p hb hok.1 hok.2 (by omega) (hvp _ (bang_mem hil))).take (.drop .nil)
        repeat' (first | apply w_seq | apply w_region | apply o_nil | (apply o_g tyOk; exact rfl; exact rfl) | (apply o_ar tyOk; exact rfl; exact rfl) | (apply o_loads tyOk; (iterate 3 exact rfl); (focus (exact pk))) | (apply o_stores tyOk; (iterate 4 exact rfl); (focus (exact ⟨rfl⟩)); (focus (exact up))) | (apply o_alloc tyOk; iterate 5 exact rfl) | (apply o_call; exact rfl; exact rfl; (focus (first | exact rfl | assumption)); exact rfl; (focus (exact ⟨_, hW _ _, by repeat (first | with_reducible exact Take.nil | with_reducible apply Take.c | with_reducible apply Take.drop)⟩)); rintro _ _ ⟨rfl, hb2⟩) | (apply w_dT; exact rfl; (focus (first | exact ‹_› | with_reducible exact rfl | omega))) | apply thenS_normal | apply blockS_normal | apply w_skip | apply w_block | ((with_reducible apply Sd.mk); (first | exact True.intro | omega | (constructor <;> first | omega | (unfold maxLen; omega)) | (unfold maxLen; omega))) | ((with_reducible apply Ln.mk); (first | rfl | exact ‹_› | omega | (simp ; first | done | omega))) | ((with_reducible apply Wr.mk); (first | exact IntWalk.i64_in _ (by omega) | exact IntWalk.u8_in _ (by omega) | exact IntWalk.u32_in _ (by omega) | exact IntWalk.u64_in _ (by omega) | exact IntKind.wrap_u8 _ | exact IntKind.wrap_u32 _ | rfl)) | ((with_reducible apply Pu.mk); (first | exact putAt_all rfl | exact putAt_recZ (fun _ => rfl) (by omega) | exact putAt_rec (fun _ => rfl) (by omega))) | ((with_reducible apply Su.mk); (first | exact subAt_all | exact subAt_recZ (fun _ => rfl) (by omega) | exact subAt_rec (fun _ => rfl) (by omega))) | exact True.intro | intro A | exact rfl)
        all_goals first
          | (exfalso; omega)
          | exact ⟨(i + 1, _), ⟨hil, hb2⟩, by show ps.length - (i + 1) < ps.length - i; omega, (by repeat' (first | exact trivial | refine ⟨rfl, ?_⟩ | refine ⟨congrArg some ?_, ?_⟩)), Take.nil⟩
          | trace_state
      · obtain rfl : i = ps.length := by omega
        rw [List.take_length] at hb hok
        have hs1 := vnum_len (n := (l.length : Int)) (by omega)
        have hs2 := (vk_ok (n := (l.length : Int)) (by omega)).2
        have hs3 : (fin (wrun ps zs0).2).length = (wrun ps zs0).2.out.length + 4 := by simp [fin, tail4]
        have hs4 := hok.2.out
        have hF := Finish_any n (wrun ps zs0).2 p hb.b.r (by omega) hok.2.low
        generalize fin (wrun ps zs0).2 = F at *
        repeat' (first | apply w_seq | apply w_region | apply o_nil | (apply o_g tyOk; exact rfl; exact rfl) | (apply o_load tyOk; (iterate 3 exact rfl); (focus (exact pk))) | (apply o_call; exact rfl; exact rfl; (focus (first | exact rfl | assumption)); exact rfl; (focus (exact ⟨_, hF, by repeat (first | with_reducible exact Take.nil | exact hb.b.take.trans (.drop (.drop (.drop (.drop (.drop (.drop (.drop (.drop (.drop (.drop ht)))))))))) | with_reducible apply Take.c | with_reducible apply Take.drop)⟩)); rintro _ _ ⟨rfl, rfl⟩) | (apply w_dF; exact rfl; (focus (first | exact ‹_› | with_reducible exact rfl | omega))) | apply thenS_normal | apply thenS_exit | apply blockS_exit | apply w_ret | apply w_exit | ((with_reducible apply Sd.mk); (first | exact True.intro | omega | (constructor <;> first | omega | (unfold maxLen; omega)) | (unfold maxLen; omega))) | ((with_reducible apply Ln.mk); (first | rfl | exact ‹_› | omega | (simp ; first | done | omega))) | ((with_reducible apply Ce.mk); (first | rfl | exact ‹_› | exact cell_recZ (fun _ => rfl) (by omega) (by decide) rfl | exact cell_rec (fun _ => rfl) (by omega) (by decide) rfl | exact cell_bytes (by omega) | exact cell_mapZ (by omega) | exact cell_map (by omega))) | exact True.intro | exact rfl)
        all_goals first
          | (exfalso; omega)
          | (apply s_fin; (exact (show ResS _ _ _ _ [_, _] from ⟨rfl, ⟨rfl, trivial⟩⟩)); (focus (exact ⟨rfl, rfl⟩)); (focus (repeat (first | with_reducible exact Take.nil | exact hb.b.take.trans (.drop (.drop (.drop (.drop (.drop (.drop (.drop (.drop (.drop (.drop ht)))))))))) | with_reducible apply Take.c | with_reducible apply Take.drop))))
          | trace_state
end Go.Proofs.YtncnmfdmbfbfjaaGreat
end
section
set_option linter.unusedVariables false
set_option linter.unusedSimpArgs false
set_option maxRecDepth 4000
namespace Go.Proofs.YtncnmfdmbfbfjaaGreat
open Go.Gh Go.RowKit

/-- A piece is read: the models, the decoder, whether it is a literal, the piece. -/
structure Rd1 where
  x : Ms
  d : Dec
  lit : Bool
  t : Pc
def zrd (x : Ms) (d : Dec) : Rd1 :=
  if (tdec 1 x.K d 1).2.2 = 2 then
    ⟨{ x with K := (tdec 1 x.K d 1).1, P := (bdec x.P x.c (tdec 1 x.K d 1).2.1).1, c := (bdec x.P x.c (tdec 1 x.K d 1).2.1).2.2 }, (bdec x.P x.c (tdec 1 x.K d 1).2.1).2.1, true, (1, 0, (bdec x.P x.c (tdec 1 x.K d 1).2.1).2.2)⟩
  else
    ⟨{ x with K := (tdec 1 x.K d 1).1, L := (ndec x.L (tdec 1 x.K d 1).2.1).1, D := (ndec x.D (ndec x.L (tdec 1 x.K d 1).2.1).2.1).1 }, (ndec x.D (ndec x.L (tdec 1 x.K d 1).2.1).2.1).2.1, false,
      ((ndec x.L (tdec 1 x.K d 1).2.1).2.2 + 2, (ndec x.D (ndec x.L (tdec 1 x.K d 1).2.1).2.1).2.2 + 1, 0)⟩
abbrev okC (n : Nat) (o : List UInt8) (t : Pc) : Prop := 2 ≤ t.1 ∧ t.1 ≤ 273 ∧ t.1 + o.length ≤ n ∧ 1 ≤ t.2.1 ∧ t.2.1 ≤ o.length
/-- The pieces that are read behind some bytes, up to n bytes, and the decoder behind them. -/
def rdP (n : Nat) : Nat → Ms → Dec → List UInt8 → Option (List Pc × Dec)
  | 0, _, d, _ => some ([], d)
  | f + 1, x, d, o => if o.length < n then
      (if (zrd x d).lit = true ∨ okC n o (zrd x d).t then (rdP n f (zrd x d).x (zrd x d).d (estp o (zrd x d).t)).map fun r => ((zrd x d).t :: r.1, r.2) else none)
    else some ([], d)
def exps (ps : List Pc) (o : List UInt8) : List UInt8 := ps.foldl estp o
/-- What read gives. -/
def lzR (D : List UInt8) (n : Nat) : List UInt8 × Bool := match rdP n n ms0 (dnew D) [] with
  | some r => (exps r.1 [], true)
  | none => ([], false)
theorem rstp_ok {x : Ms} {d : Dec} (hx : MsOk x) (hd : DecOk d) : MsOk (zrd x d).x ∧ DecOk (zrd x d).d ∧ ((zrd x d).lit = true → (zrd x d).t.1 = 1 ∧ (zrd x d).t.2.1 = 0 ∧ 0 ≤ (zrd x d).t.2.2 ∧ (zrd x d).t.2.2 ≤ 255) ∧ ((zrd x d).lit = false → (zrd x d).t.2.2 = 0) := by
  obtain ⟨h1, h2, _⟩ := tdec_ok (k := 1) (t := x.K) (j := 1) hd
  unfold zrd
  split
  · obtain ⟨g1, g2, g3⟩ := bdec_ok (P := x.P) (c := x.c) h1 hx.P hx.c
    exact ⟨⟨h2.trans hx.K, g2, g3, hx.L, hx.D⟩, g1, fun _ => ⟨rfl, rfl, g3⟩, fun g => (by cases g)⟩
  · obtain ⟨g1, g2⟩ := ndec_ok (t := x.L) h1 hx.L
    obtain ⟨k1, k2⟩ := ndec_ok (t := x.D) g1 hx.D
    exact ⟨⟨h2.trans hx.K, hx.P, hx.c, g2, k2⟩, k1, fun g => (by cases g), fun _ => rfl⟩
theorem rdP_go {n f : Nat} {x : Ms} {d : Dec} {o : List UInt8} (h : o.length < n) (hf : n - o.length ≤ f) : ∃ f', f = f' + 1 ∧ rdP n f x d o = (if (zrd x d).lit = true ∨ okC n o (zrd x d).t then (rdP n f' (zrd x d).x (zrd x d).d (estp o (zrd x d).t)).map fun r => ((zrd x d).t :: r.1, r.2) else none) := by
  cases f with
  | zero => omega
  | succ f => exact ⟨f, rfl, if_pos h⟩
theorem rdP_end {n f : Nat} {x : Ms} {d : Dec} {o : List UInt8} (h : ¬ o.length < n) : rdP n f x d o = some ([], d) := by
  cases f with
  | zero => rfl
  | succ f => exact if_neg h
/-- A slice of bytes that grows beside a decoder and the models. -/
inductive OR (a : Mad) (s nd : Nat) (x : Ms) (d : Dec) (h : SH) : List UInt8 → Value → SH → Prop
  | nil : OR a s nd x d h [] (.slice none 0 0) (decB nd d :: msB a x ((s, ⟨setC a, false⟩) :: h))
  | some (A : Nat) (o : List UInt8) : OR a s nd x d h o (gsl A 0 o.length o.length 1) (decB nd d :: msB a x ((A, ⟨bytesV o, false⟩) :: (s, ⟨setC a, false⟩) :: h))
def outR (o : List UInt8) (r : Option (List Pc × Dec)) : List UInt8 × Bool := match r with
  | some r => (exps r.1 o, true)
  | none => ([], false)
theorem outR_map {o : List UInt8} {t : Pc} {r : Option (List Pc × Dec)} : outR o (r.map fun r => (t :: r.1, r.2)) = outR (estp o t) r := by cases r <;> rfl
theorem rstp_lit {x : Ms} {d d1 d2 : Dec} {K1 P2 : List Int} {c2 : Int} (h1 : tdec 1 x.K d 1 = (K1, d1, 2)) (h2 : bdec x.P x.c d1 = (P2, d2, c2)) : zrd x d = ⟨⟨K1, P2, c2, x.L, x.D⟩, d2, true, (1, 0, c2)⟩ := by
  unfold zrd
  rw [h1]
  dsimp only
  rw [if_pos rfl, h2]
theorem rstp_cpy {x : Ms} {d d1 d2 d3 : Dec} {j : Nat} {K1 L2 D3 : List Int} {l2 dd : Int} (h1 : tdec 1 x.K d 1 = (K1, d1, j)) (hj : j ≠ 2) (h2 : ndec x.L d1 = (L2, d2, l2)) (h3 : ndec x.D d2 = (D3, d3, dd)) : zrd x d = ⟨⟨K1, x.P, x.c, L2, D3⟩, d3, false, (l2 + 2, dd + 1, 0)⟩ := by
  unfold zrd
  rw [h1]
  dsimp only
  rw [if_neg hj, h2]
  dsimp only
  rw [h3]
theorem lzread_any (l : List UInt8) (n : Nat) (h : SH) (hl : l.length ≤ 1000000) (hn : n ≤ 4096) :
    SRun Tryz.prog 100 [S l, I n] h fun r q => r = .tuple #[S (lzR l n).1, B (lzR l n).2] ∧ q = h := by
  obtain ⟨R, hR⟩ : ∃ R, R = lzR l n := ⟨_, rfl⟩
  rw [← hR]
  have hR : outR [] (rdP n n ms0 (dnew l) []) = R := hR.symm
  have hd0 := dnew_ok (l := l) (by omega)
  have hND : ∀ h, SRun Tryz.prog 112 [S l] h fun r q => ∃ n, r = gptr n 0 5 ∧ q = decB n (dnew l) :: h := fun h => NewDecoder_any l h (by omega)
  have hNS : ∀ h, SRun Tryz.prog 49 [] h fun r q => ∃ a : Mad, r = .agg ⟨setC a⟩ ∧ q = msB a ms0 h := newSet_any
  have hm0 := ms0_ok
  generalize ms0 = x0 at hR hm0 hNS
  generalize dnew l = d0 at hR hd0 hND
  refine w_body2 Tryz.func100 rfl rfl ?_
  repeat' (first | apply w_seq | apply w_region | apply o_nil | (apply o_g tyOk; exact rfl; exact rfl) | (apply o_stores tyOk; (iterate 4 exact rfl); (focus (exact ⟨rfl⟩)); (focus (exact up))) | (apply o_alloc tyOk; iterate 5 exact rfl) | (apply o_call; exact rfl; exact rfl; (focus (first | exact rfl | assumption)); exact rfl; (focus (exact ⟨_, hNS _, by repeat (first | with_reducible exact Take.nil | with_reducible apply Take.c | with_reducible apply Take.drop)⟩)); rintro _ _ ⟨a, rfl, rfl⟩) | (apply o_call; exact rfl; exact rfl; (focus (first | exact rfl | assumption)); exact rfl; (focus (exact ⟨_, hND _, by repeat (first | with_reducible exact Take.nil | with_reducible apply Take.c | with_reducible apply Take.drop)⟩)); rintro _ _ ⟨nd, rfl, rfl⟩) | apply thenS_normal | apply w_block | ((with_reducible apply Sd.mk); (first | exact True.intro | omega | (constructor <;> first | omega | (unfold maxLen; omega)) | (unfold maxLen; omega))) | ((with_reducible apply Ln.mk); (first | rfl | exact ‹_› | omega | (simp ; first | done | omega))) | ((with_reducible apply Pu.mk); (first | exact putAt_all rfl | exact putAt_recZ (fun _ => rfl) (by omega) | exact putAt_rec (fun _ => rfl) (by omega))) | exact True.intro | intro A)
  obtain ⟨s, rfl⟩ : ∃ s, s = A := ⟨_, rfl⟩
  refine w_loop (S := Nat × Ms × Dec × List UInt8 × Value × SH) (fun y => [(1, I n), (6, gptr s 0 4), (7, gptr nd 0 5), (8, y.2.2.2.2.1)]) (fun y => y.2.2.2.2.2)
    (fun y => n - y.2.2.2.1.length ≤ y.1 ∧ MsOk y.2.1 ∧ DecOk y.2.2.1 ∧ y.2.2.2.1.length ≤ n ∧ OR a s nd y.2.1 y.2.2.1 h y.2.2.2.1 y.2.2.2.2.1 y.2.2.2.2.2 ∧ outR y.2.2.2.1 (rdP n y.1 y.2.1 y.2.2.1 y.2.2.2.1) = R) (fun y => y.1)
    (n, x0, d0, [], .slice none 0 0, decB nd d0 :: msB a x0 ((s, ⟨setC a, false⟩) :: h)) ⟨Nat.sub_le _ _, hm0, hd0, Nat.zero_le _, .nil, hR⟩ (by repeat' (first | exact trivial | refine ⟨rfl, ?_⟩ | refine ⟨congrArg some ?_, ?_⟩)) (by repeat (first | with_reducible exact Take.nil | with_reducible apply Take.c | with_reducible apply Take.drop)) ?_
  rintro ⟨f, x, d, o, w, p⟩ ⟨hf, hx, hd, ho, hb, he⟩
  dsimp only at hf hx hd ho hb he ⊢
  by_cases hlt : o.length < n
  · obtain ⟨f', rfl, e⟩ := rdP_go (x := x) (d := d) hlt hf
    rw [e] at he
    clear e
    have hrs := rstp_ok hx hd
    have hK := fun h => kDecW a nd x d h hx hd
    obtain ⟨h1, h2, h3⟩ := tdec_ok (k := 1) (t := x.K) (j := 1) hd
    obtain ⟨⟨K1, d1, j⟩, hT⟩ : ∃ T, tdec 1 x.K d 1 = T := ⟨_, rfl⟩
    rw [hT] at hK h1 h2 h3
    dsimp only at hK h1 h2 h3
    have h2' := h2.trans hx.K
    by_cases hj : j = 2
    · subst hj
      have hB := fun h => bDecW a nd { x with K := K1 } d1 h ⟨h2', hx.P, hx.c, hx.L, hx.D⟩ h1
      obtain ⟨⟨P2, d2, c2⟩, hV⟩ : ∃ V, bdec x.P x.c d1 = V := ⟨_, rfl⟩
      dsimp only at hB
      rw [hV] at hB
      dsimp only at hB
      rw [rstp_lit hT hV] at he hrs
      dsimp only at he hrs
      rw [if_pos (.inl rfl), outR_map, estp_lit o rfl] at he
      have hc2 := (hrs.2.2.1 rfl).2.2
      dsimp only at hc2 he
      cases hb with
      | nil =>
        repeat' (first | apply w_seq | apply w_region | apply o_nil | (apply o_g tyOk; exact rfl; exact rfl) | (apply o_load tyOk; (iterate 3 exact rfl); (focus (exact pk))) | (apply o_buildSlice tyOk; (iterate 5 exact rfl); (focus (decide)); exact rfl; (focus (decide)); (focus (repeat (first | exact CatR.nil | exact CatR.last rfl | (apply CatR.one; exact rfl; exact rfl) | (apply CatR.agg; exact rfl)))); exact rfl) | (apply o_append_nil tyOk; (iterate 5 exact rfl); (focus (exact ⟨by decide⟩)); (focus (exact pk))) | (apply o_call; exact rfl; exact rfl; (focus (first | exact rfl | assumption)); exact rfl; (focus (exact ⟨_, hK _, by repeat (first | with_reducible exact Take.nil | with_reducible apply Take.c | with_reducible apply Take.drop)⟩)); rintro _ _ ⟨rfl, rfl⟩) | (apply o_call; exact rfl; exact rfl; (focus (first | exact rfl | assumption)); exact rfl; (focus (exact ⟨_, hB _, by repeat (first | with_reducible exact Take.nil | with_reducible apply Take.c | with_reducible apply Take.drop)⟩)); rintro _ _ ⟨rfl, rfl⟩) | (apply w_true; exact rfl) | (apply w_dT; exact rfl; (focus (first | exact ‹_› | with_reducible exact rfl | omega))) | apply thenS_normal | apply thenS_exit | apply blockS_exit | apply w_skip | apply w_exit | apply w_block | ((with_reducible apply Sd.mk); (first | exact True.intro | omega | (constructor <;> first | omega | (unfold maxLen; omega)) | (unfold maxLen; omega))) | ((with_reducible apply Ln.mk); (first | rfl | exact ‹_› | omega | (simp ; first | done | omega))) | ((with_reducible apply Ce.mk); (first | rfl | exact ‹_› | exact cell_recZ (fun _ => rfl) (by omega) (by decide) rfl | exact cell_rec (fun _ => rfl) (by omega) (by decide) rfl | exact cell_bytes (by omega) | exact cell_mapZ (by omega) | exact cell_map (by omega))) | ((with_reducible apply Su.mk); (first | exact subAt_all | exact subAt_recZ (fun _ => rfl) (by omega) | exact subAt_rec (fun _ => rfl) (by omega))) | exact True.intro | intro A | exact rfl)
        all_goals first
          | (exfalso; omega)
          | skip
        all_goals (rw [show Y c2 = byteV (byt c2) from byteV_byt hc2]; exact ⟨(f', ⟨K1, P2, c2, x.L, x.D⟩, d2, [byt c2], gsl A 0 1 1 1, decB nd d2 :: msB a ⟨K1, P2, c2, x.L, x.D⟩ ((A, ⟨bytesV [byt c2], false⟩) :: (s, ⟨setC a, false⟩) :: h)), ⟨by show n - 1 ≤ f'; simp only [List.length_nil] at hf; omega, hrs.1, hrs.2.1, by show 1 ≤ n; omega,   .some A [byt c2], he⟩, by show f' < f' + 1; omega, (by repeat' (first | exact trivial | refine ⟨rfl, ?_⟩ | refine ⟨congrArg some ?_, ?_⟩)), (by repeat (first | with_reducible exact Take.nil | with_reducible apply Take.c | with_reducible apply Take.drop))⟩)
      | some A0 o =>
        repeat' (first | apply w_seq | apply w_region | apply o_nil | (apply o_g tyOk; exact rfl; exact rfl) | (apply o_load tyOk; (iterate 3 exact rfl); (focus (exact pk))) | (apply o_buildSlice tyOk; (iterate 5 exact rfl); (focus (decide)); exact rfl; (focus (decide)); (focus (repeat (first | exact CatR.nil | exact CatR.last rfl | (apply CatR.one; exact rfl; exact rfl) | (apply CatR.agg; exact rfl)))); exact rfl) | (apply o_append tyOk; (iterate 5 exact rfl); (focus (exact ⟨by decide⟩)); (focus (exact up)); (focus (exact pk))) | (apply o_call; exact rfl; exact rfl; (focus (first | exact rfl | assumption)); exact rfl; (focus (exact ⟨_, hK _, by repeat (first | with_reducible exact Take.nil | with_reducible apply Take.c | with_reducible apply Take.drop)⟩)); rintro _ _ ⟨rfl, rfl⟩) | (apply o_call; exact rfl; exact rfl; (focus (first | exact rfl | assumption)); exact rfl; (focus (exact ⟨_, hB _, by repeat (first | with_reducible exact Take.nil | with_reducible apply Take.c | with_reducible apply Take.drop)⟩)); rintro _ _ ⟨rfl, rfl⟩) | (apply w_true; exact rfl) | (apply w_dT; exact rfl; (focus (first | exact ‹_› | with_reducible exact rfl | omega))) | apply thenS_normal | apply thenS_exit | apply blockS_exit | apply w_skip | apply w_exit | apply w_block | ((with_reducible apply Sd.mk); (first | exact True.intro | omega | (constructor <;> first | omega | (unfold maxLen; omega)) | (unfold maxLen; omega))) | ((with_reducible apply Ln.mk); (first | rfl | exact ‹_› | omega | (simp ; first | done | omega))) | ((with_reducible apply Ce.mk); (first | rfl | exact ‹_› | exact cell_recZ (fun _ => rfl) (by omega) (by decide) rfl | exact cell_rec (fun _ => rfl) (by omega) (by decide) rfl | exact cell_bytes (by omega) | exact cell_mapZ (by omega) | exact cell_map (by omega))) | ((with_reducible apply Su.mk); (first | exact subAt_all | exact subAt_recZ (fun _ => rfl) (by omega) | exact subAt_rec (fun _ => rfl) (by omega))) | exact True.intro | intro A | exact rfl)
        all_goals first
          | (exfalso; omega)
          | skip
        all_goals
          (rw [show Y c2 = byteV (byt c2) from byteV_byt hc2]
           exact ⟨(f', ⟨K1, P2, c2, x.L, x.D⟩, d2, o ++ [byt c2], gsl A0 0 (o ++ [byt c2]).length (o ++ [byt c2]).length 1, decB nd d2 :: msB a ⟨K1, P2, c2, x.L, x.D⟩ ((A0, ⟨bytesV (o ++ [byt c2]), false⟩) :: (s, ⟨setC a, false⟩) :: h)), ⟨by show n - (o ++ [byt c2]).length ≤ f'; rw [List.length_append, List.length_singleton]; omega, hrs.1, hrs.2.1, by show (o ++ [byt c2]).length ≤ n; rw [List.length_append, List.length_singleton]; omega, .some A0 (o ++ [byt c2]), he⟩, by show f' < f' + 1; omega,
               ⟨rfl, rfl, rfl, congrArg some (gslE rfl rfl (by simp) (by simp) rfl), trivial⟩, (by repeat (first | with_reducible exact Take.nil | with_reducible apply Take.c | ((with_reducible apply Take.cE); (first | exact rfl | (apply blkE; (focus (first | exact rfl | exact recs_snocE rfl | exact map_snocE rfl | exact congrArg (fun v => [v]) (gslE rfl rfl (by first | rfl | exact ‹_› | omega | (simp ; first | done | omega)) (by first | rfl | exact ‹_› | omega | (simp ; first | done | omega)) rfl)))))) | with_reducible apply Take.drop))⟩)
    · have hx1 : MsOk { x with K := K1 } := ⟨h2', hx.P, hx.c, hx.L, hx.D⟩
      have hL := fun h => lDecW a nd { x with K := K1 } d1 h hx1 h1
      obtain ⟨⟨L2, d2, l2⟩, hV⟩ : ∃ V, ndec x.L d1 = V := ⟨_, rfl⟩
      have okL := ndec_ok (t := x.L) h1 hx.L
      dsimp only at hL
      rw [hV] at hL okL
      dsimp only at hL okL
      have hD := fun h => dDecW a nd { x with K := K1, L := L2 } d2 h ⟨h2', hx.P, hx.c, okL.2, hx.D⟩ okL.1
      obtain ⟨⟨D3, d3, dd⟩, hW⟩ : ∃ V, ndec x.D d2 = V := ⟨_, rfl⟩
      dsimp only at hD
      rw [hW] at hD
      dsimp only at hD
      rw [rstp_cpy hT hj hV hW] at he hrs
      dsimp only at he hrs
      have hj3 : (j : Int) - 2 ≠ 0 := by omega
      cases hb with
      | nil =>
        rw [if_neg (by rintro (g | g); cases g; unfold okC at g; simp only [List.length_nil] at g; omega)] at he
        repeat' (first | apply w_seq | apply w_region | apply o_nil | (apply w_draw; (focus (kernel_rfl)); (focus (kernel_rfl))) | (apply o_g tyOk; exact rfl; exact rfl) | (apply o_ar tyOk; exact rfl; exact rfl) | (apply o_load tyOk; (iterate 3 exact rfl); (focus (exact pk))) | (apply o_call; exact rfl; exact rfl; (focus (first | exact rfl | assumption)); exact rfl; (focus (exact ⟨_, hK _, by repeat (first | with_reducible exact Take.nil | with_reducible apply Take.c | with_reducible apply Take.drop)⟩)); rintro _ _ ⟨rfl, rfl⟩) | (apply o_callE0; (iterate 4 exact rfl); (focus (exact ⟨hL _, by repeat (first | with_reducible exact Take.nil | with_reducible apply Take.c | with_reducible apply Take.drop)⟩)); (focus (first | exact List.Perm.refl _ | (simp; done) | exact List.Perm.swap _ _ _)); (focus ((intro ρ D hρ hD; refine ⟨?_, ?_⟩; (focus (repeat (first | exact VR.const rfl | (apply VR.ptr'; (focus (first | exact e1 | exact e2 | exact e3 | ((apply rho_pick hρ); (exact pk)))); (focus (first | exact d1 | exact d2 | exact d3 | ((apply dom_pick hD); (exact pk))))) | (apply VR.slc'; (focus (first | exact e1 | exact e2 | exact e3 | ((apply rho_pick hρ); (exact pk)))); (focus (first | exact d1 | exact d2 | exact d3 | ((apply dom_pick hD); (exact pk))))) | exact VR.sdead | apply VRs.tuple | apply VRs.agg | exact VRs.nil | ((apply VRs.const); (focus (first | exact bytesV_const _ | exact map_const (fun _ => rfl) | exact recs_const (fun _ v hv => by simp only [List.mem_cons, List.not_mem_nil, or_false] at hv; rcases hv with rfl | rfl | rfl | rfl | rfl <;> rfl)))) | apply VRs.cons))); (focus (repeat (first | exact SHR.nil | ((apply SHR.same); (focus (intro x hx; (repeat (first | exact hx | apply List.mem_cons_of_mem)); done))) | ((apply SHR.keep); (focus ((repeat (first | with_reducible exact List.mem_cons_self | apply List.mem_cons_of_mem)); done))) | (apply SHR.cons; (focus (first | exact e1 | exact e2 | exact e3 | ((apply rho_pick hρ); (exact pk)))); (focus (repeat (first | exact VR.const rfl | (apply VR.ptr'; (focus (first | exact e1 | exact e2 | exact e3 | ((apply rho_pick hρ); (exact pk)))); (focus (first | exact d1 | exact d2 | exact d3 | ((apply dom_pick hD); (exact pk))))) | (apply VR.slc'; (focus (first | exact e1 | exact e2 | exact e3 | ((apply rho_pick hρ); (exact pk)))); (focus (first | exact d1 | exact d2 | exact d3 | ((apply dom_pick hD); (exact pk))))) | exact VR.sdead | apply VRs.tuple | apply VRs.agg | exact VRs.nil | ((apply VRs.const); (focus (first | exact bytesV_const _ | exact map_const (fun _ => rfl) | exact recs_const (fun _ v hv => by simp only [List.mem_cons, List.not_mem_nil, or_false] at hv; rcases hv with rfl | rfl | rfl | rfl | rfl <;> rfl)))) | apply VRs.cons))))))))))) | (apply o_callE0; (iterate 4 exact rfl); (focus (exact ⟨hD _, by repeat (first | with_reducible exact Take.nil | with_reducible apply Take.c | with_reducible apply Take.drop)⟩)); (focus (first | exact List.Perm.refl _ | (simp; done) | exact List.Perm.swap _ _ _)); (focus ((intro ρ D hρ hD; refine ⟨?_, ?_⟩; (focus (repeat (first | exact VR.const rfl | (apply VR.ptr'; (focus (first | exact e1 | exact e2 | exact e3 | ((apply rho_pick hρ); (exact pk)))); (focus (first | exact d1 | exact d2 | exact d3 | ((apply dom_pick hD); (exact pk))))) | (apply VR.slc'; (focus (first | exact e1 | exact e2 | exact e3 | ((apply rho_pick hρ); (exact pk)))); (focus (first | exact d1 | exact d2 | exact d3 | ((apply dom_pick hD); (exact pk))))) | exact VR.sdead | apply VRs.tuple | apply VRs.agg | exact VRs.nil | ((apply VRs.const); (focus (first | exact bytesV_const _ | exact map_const (fun _ => rfl) | exact recs_const (fun _ v hv => by simp only [List.mem_cons, List.not_mem_nil, or_false] at hv; rcases hv with rfl | rfl | rfl | rfl | rfl <;> rfl)))) | apply VRs.cons))); (focus (repeat (first | exact SHR.nil | ((apply SHR.same); (focus (intro x hx; (repeat (first | exact hx | apply List.mem_cons_of_mem)); done))) | ((apply SHR.keep); (focus ((repeat (first | with_reducible exact List.mem_cons_self | apply List.mem_cons_of_mem)); done))) | (apply SHR.cons; (focus (first | exact e1 | exact e2 | exact e3 | ((apply rho_pick hρ); (exact pk)))); (focus (repeat (first | exact VR.const rfl | (apply VR.ptr'; (focus (first | exact e1 | exact e2 | exact e3 | ((apply rho_pick hρ); (exact pk)))); (focus (first | exact d1 | exact d2 | exact d3 | ((apply dom_pick hD); (exact pk))))) | (apply VR.slc'; (focus (first | exact e1 | exact e2 | exact e3 | ((apply rho_pick hρ); (exact pk)))); (focus (first | exact d1 | exact d2 | exact d3 | ((apply dom_pick hD); (exact pk))))) | exact VR.sdead | apply VRs.tuple | apply VRs.agg | exact VRs.nil | ((apply VRs.const); (focus (first | exact bytesV_const _ | exact map_const (fun _ => rfl) | exact recs_const (fun _ v hv => by simp only [List.mem_cons, List.not_mem_nil, or_false] at hv; rcases hv with rfl | rfl | rfl | rfl | rfl <;> rfl)))) | apply VRs.cons))))))))))) | (apply o_want; exact rfl; exact rfl) | (apply o_skip; iterate 4 exact rfl) | (apply o_guardF; (iterate 3 exact rfl); all_goals intro hc) | (apply w_true; exact rfl) | (apply w_dT; exact rfl; (focus (first | exact ‹_› | with_reducible exact rfl | omega))) | (apply w_dF; exact rfl; (focus (first | exact ‹_› | with_reducible exact rfl | omega))) | apply thenS_normal | apply thenS_ret | apply blockS_ret | apply w_skip | apply w_ret | apply w_block | ((with_reducible apply Sd.mk); (first | exact True.intro | omega | (constructor <;> first | omega | (unfold maxLen; omega)) | (unfold maxLen; omega))) | ((with_reducible apply Ln.mk); (first | rfl | exact ‹_› | omega | (simp ; first | done | omega))) | ((with_reducible apply Wr.mk); (first | exact IntWalk.i64_in _ (by omega) | exact IntWalk.u8_in _ (by omega) | exact IntWalk.u32_in _ (by omega) | exact IntWalk.u64_in _ (by omega) | exact IntKind.wrap_u8 _ | exact IntKind.wrap_u32 _ | rfl)) | ((with_reducible apply Ce.mk); (first | rfl | exact ‹_› | exact cell_recZ (fun _ => rfl) (by omega) (by decide) rfl | exact cell_rec (fun _ => rfl) (by omega) (by decide) rfl | exact cell_bytes (by omega) | exact cell_mapZ (by omega) | exact cell_map (by omega))) | exact True.intro | refine Rc.mk ⟨_, _, pk, ?_⟩ | exact Or.inl rfl | refine Or.inr (And.intro ?_ ?_) | apply And.intro | exact rfl)
        all_goals first
          | (exfalso; omega)
          | (apply s_fin; (exact (show ResS _ _ _ _ [_, _] from ⟨rfl, ⟨rfl, trivial⟩⟩)); (focus (exact ⟨by rw [← he]; rfl, rfl⟩)); (focus (repeat (first | with_reducible exact Take.nil | with_reducible apply Take.c | with_reducible apply Take.drop))))
          | trace_state
      | some A0 o =>
        repeat' (first | apply w_seq | apply w_region | apply o_nil | (apply w_draw; (focus (kernel_rfl)); (focus (kernel_rfl))) | (apply o_g tyOk; exact rfl; exact rfl) | (apply o_ar tyOk; exact rfl; exact rfl) | (apply o_load tyOk; (iterate 3 exact rfl); (focus (exact pk))) | (apply o_call; exact rfl; exact rfl; (focus (first | exact rfl | assumption)); exact rfl; (focus (exact ⟨_, hK _, by repeat (first | with_reducible exact Take.nil | with_reducible apply Take.c | with_reducible apply Take.drop)⟩)); rintro _ _ ⟨rfl, rfl⟩) | (apply o_callE0; (iterate 4 exact rfl); (focus (exact ⟨hL _, by repeat (first | with_reducible exact Take.nil | with_reducible apply Take.c | with_reducible apply Take.drop)⟩)); (focus (first | exact List.Perm.refl _ | (simp; done) | exact List.Perm.swap _ _ _)); (focus ((intro ρ D hρ hD; refine ⟨?_, ?_⟩; (focus (repeat (first | exact VR.const rfl | (apply VR.ptr'; (focus (first | exact e1 | exact e2 | exact e3 | ((apply rho_pick hρ); (exact pk)))); (focus (first | exact d1 | exact d2 | exact d3 | ((apply dom_pick hD); (exact pk))))) | (apply VR.slc'; (focus (first | exact e1 | exact e2 | exact e3 | ((apply rho_pick hρ); (exact pk)))); (focus (first | exact d1 | exact d2 | exact d3 | ((apply dom_pick hD); (exact pk))))) | exact VR.sdead | apply VRs.tuple | apply VRs.agg | exact VRs.nil | ((apply VRs.const); (focus (first | exact bytesV_const _ | exact map_const (fun _ => rfl) | exact recs_const (fun _ v hv => by simp only [List.mem_cons, List.not_mem_nil, or_false] at hv; rcases hv with rfl | rfl | rfl | rfl | rfl <;> rfl)))) | apply VRs.cons))); (focus (repeat (first | exact SHR.nil | ((apply SHR.same); (focus (intro x hx; (repeat (first | exact hx | apply List.mem_cons_of_mem)); done))) | ((apply SHR.keep); (focus ((repeat (first | with_reducible exact List.mem_cons_self | apply List.mem_cons_of_mem)); done))) | (apply SHR.cons; (focus (first | exact e1 | exact e2 | exact e3 | ((apply rho_pick hρ); (exact pk)))); (focus (repeat (first | exact VR.const rfl | (apply VR.ptr'; (focus (first | exact e1 | exact e2 | exact e3 | ((apply rho_pick hρ); (exact pk)))); (focus (first | exact d1 | exact d2 | exact d3 | ((apply dom_pick hD); (exact pk))))) | (apply VR.slc'; (focus (first | exact e1 | exact e2 | exact e3 | ((apply rho_pick hρ); (exact pk)))); (focus (first | exact d1 | exact d2 | exact d3 | ((apply dom_pick hD); (exact pk))))) | exact VR.sdead | apply VRs.tuple | apply VRs.agg | exact VRs.nil | ((apply VRs.const); (focus (first | exact bytesV_const _ | exact map_const (fun _ => rfl) | exact recs_const (fun _ v hv => by simp only [List.mem_cons, List.not_mem_nil, or_false] at hv; rcases hv with rfl | rfl | rfl | rfl | rfl <;> rfl)))) | apply VRs.cons))))))))))) | (apply o_callE0; (iterate 4 exact rfl); (focus (exact ⟨hD _, by repeat (first | with_reducible exact Take.nil | with_reducible apply Take.c | with_reducible apply Take.drop)⟩)); (focus (first | exact List.Perm.refl _ | (simp; done) | exact List.Perm.swap _ _ _)); (focus ((intro ρ D hρ hD; refine ⟨?_, ?_⟩; (focus (repeat (first | exact VR.const rfl | (apply VR.ptr'; (focus (first | exact e1 | exact e2 | exact e3 | ((apply rho_pick hρ); (exact pk)))); (focus (first | exact d1 | exact d2 | exact d3 | ((apply dom_pick hD); (exact pk))))) | (apply VR.slc'; (focus (first | exact e1 | exact e2 | exact e3 | ((apply rho_pick hρ); (exact pk)))); (focus (first | exact d1 | exact d2 | exact d3 | ((apply dom_pick hD); (exact pk))))) | exact VR.sdead | apply VRs.tuple | apply VRs.agg | exact VRs.nil | ((apply VRs.const); (focus (first | exact bytesV_const _ | exact map_const (fun _ => rfl) | exact recs_const (fun _ v hv => by simp only [List.mem_cons, List.not_mem_nil, or_false] at hv; rcases hv with rfl | rfl | rfl | rfl | rfl <;> rfl)))) | apply VRs.cons))); (focus (repeat (first | exact SHR.nil | ((apply SHR.same); (focus (intro x hx; (repeat (first | exact hx | apply List.mem_cons_of_mem)); done))) | ((apply SHR.keep); (focus ((repeat (first | with_reducible exact List.mem_cons_self | apply List.mem_cons_of_mem)); done))) | (apply SHR.cons; (focus (first | exact e1 | exact e2 | exact e3 | ((apply rho_pick hρ); (exact pk)))); (focus (repeat (first | exact VR.const rfl | (apply VR.ptr'; (focus (first | exact e1 | exact e2 | exact e3 | ((apply rho_pick hρ); (exact pk)))); (focus (first | exact d1 | exact d2 | exact d3 | ((apply dom_pick hD); (exact pk))))) | (apply VR.slc'; (focus (first | exact e1 | exact e2 | exact e3 | ((apply rho_pick hρ); (exact pk)))); (focus (first | exact d1 | exact d2 | exact d3 | ((apply dom_pick hD); (exact pk))))) | exact VR.sdead | apply VRs.tuple | apply VRs.agg | exact VRs.nil | ((apply VRs.const); (focus (first | exact bytesV_const _ | exact map_const (fun _ => rfl) | exact recs_const (fun _ v hv => by simp only [List.mem_cons, List.not_mem_nil, or_false] at hv; rcases hv with rfl | rfl | rfl | rfl | rfl <;> rfl)))) | apply VRs.cons))))))))))) | (apply o_want; exact rfl; exact rfl) | (apply o_skip; iterate 4 exact rfl) | (apply o_guardF; (iterate 3 exact rfl); all_goals intro hc) | (apply w_true; exact rfl) | (apply w_dT; exact rfl; (focus (first | exact ‹_› | with_reducible exact rfl | omega))) | (apply w_dF; exact rfl; (focus (first | exact ‹_› | with_reducible exact rfl | omega))) | (apply w_if; exact rfl; all_goals intro hc) | apply thenS_normal | apply thenS_ret | apply blockS_ret | apply w_skip | apply w_ret | apply w_block | ((with_reducible apply Sd.mk); (first | exact True.intro | omega | (constructor <;> first | omega | (unfold maxLen; omega)) | (unfold maxLen; omega))) | ((with_reducible apply Ln.mk); (first | rfl | exact ‹_› | omega | (simp ; first | done | omega))) | ((with_reducible apply Wr.mk); (first | exact IntWalk.i64_in _ (by omega) | exact IntWalk.u8_in _ (by omega) | exact IntWalk.u32_in _ (by omega) | exact IntWalk.u64_in _ (by omega) | exact IntKind.wrap_u8 _ | exact IntKind.wrap_u32 _ | rfl)) | ((with_reducible apply Ce.mk); (first | rfl | exact ‹_› | exact cell_recZ (fun _ => rfl) (by omega) (by decide) rfl | exact cell_rec (fun _ => rfl) (by omega) (by decide) rfl | exact cell_bytes (by omega) | exact cell_mapZ (by omega) | exact cell_map (by omega))) | exact True.intro | refine Rc.mk ⟨_, _, pk, ?_⟩ | exact Or.inl rfl | refine Or.inr (And.intro ?_ ?_) | apply And.intro | exact rfl)
        all_goals first
          | (exfalso; omega)
          | (rw [if_neg (by rintro (g | g); cases g; unfold okC at g; dsimp only at g; omega)] at he; (apply s_fin; (exact (show ResS _ _ _ _ [_, _] from ⟨rfl, ⟨rfl, trivial⟩⟩)); (focus (exact ⟨by rw [← he]; rfl, rfl⟩)); (focus (repeat (first | with_reducible exact Take.nil | with_reducible apply Take.c | with_reducible apply Take.drop)))))
          | skip
        have hg : 2 ≤ l2 + 2 ∧ l2 + 2 ≤ 273 ∧ l2 + 2 + o.length ≤ n ∧ 1 ≤ dd + 1 ∧ dd + 1 ≤ o.length := by omega
        rw [if_pos (.inr hg), outR_map, estp_cpy o (by show dd + 1 ≠ 0; omega)] at he
        dsimp only at he
        obtain ⟨N, hN⟩ : ∃ N, N = (l2 + 2).toNat := ⟨_, rfl⟩
        obtain ⟨D, hDD⟩ : ∃ D, D = (dd + 1).toNat := ⟨_, rfl⟩
        rw [← hN, ← hDD] at he
        refine w_loop (S := Nat × List UInt8) (fun y => [(1, I n), (6, gptr s 0 4), (7, gptr nd 0 5), (8, gsl A0 0 y.2.length y.2.length 1), (10, I dd), (64, I (l2 + 2)), (65, I y.1)])
          (fun y => decB nd d3 :: msB a ⟨K1, x.P, x.c, L2, D3⟩ ((A0, ⟨bytesV y.2, false⟩) :: (s, ⟨setC a, false⟩) :: h))
          (fun y => y.1 ≤ N ∧ y.2.length = o.length + y.1 ∧ copyN D (N - y.1) y.2 = copyN D N o) (fun y => N - y.1) (0, o) ⟨Nat.zero_le _, rfl, rfl⟩ (by repeat' (first | exact trivial | refine ⟨rfl, ?_⟩ | refine ⟨congrArg some ?_, ?_⟩)) (by repeat (first | with_reducible exact Take.nil | with_reducible apply Take.c | with_reducible apply Take.drop)) ?_
        rintro ⟨k, o2⟩ ⟨hk, hol, hcp⟩
        dsimp only at hk hol hcp ⊢
        by_cases hkN : k < N
        · rw [show N - k = (N - (k + 1)) + 1 by omega, copyN] at hcp
          have hbt : Value.int .u8 (bat o2 ((o2.length : Int) - dd - 1)) = byteV o2[o2.length - D]! := by
            show _ = Value.int .u8 _
            congr 1
            unfold bat
            rw [show ((o2.length : Int) - dd - 1).toNat = o2.length - D by omega, List.getD_eq_getElem?_getD, getElem!_pos o2 _ (by omega), List.getElem?_eq_getElem (by omega)]; rfl
          repeat' (first | apply w_seq | apply w_region | apply o_nil | (apply o_g tyOk; exact rfl; exact rfl) | (apply o_ar tyOk; exact rfl; exact rfl) | (apply o_load tyOk; (iterate 3 exact rfl); (focus (exact pk))) | (apply o_buildSlice tyOk; (iterate 5 exact rfl); (focus (decide)); exact rfl; (focus (decide)); (focus (repeat (first | exact CatR.nil | exact CatR.last rfl | (apply CatR.one; exact rfl; exact rfl) | (apply CatR.agg; exact rfl)))); exact rfl) | (apply o_append tyOk; (iterate 5 exact rfl); (focus (exact ⟨by decide⟩)); (focus (exact up)); (focus (exact pk))) | (apply w_dT; exact rfl; (focus (first | exact ‹_› | with_reducible exact rfl | omega))) | apply thenS_normal | apply blockS_normal | apply w_skip | apply w_block | ((with_reducible apply Sd.mk); (first | exact True.intro | omega | (constructor <;> first | omega | (unfold maxLen; omega)) | (unfold maxLen; omega))) | ((with_reducible apply Ln.mk); (first | rfl | exact ‹_› | omega | (simp ; first | done | omega))) | ((with_reducible apply Wr.mk); (first | exact IntWalk.i64_in _ (by omega) | exact IntWalk.u8_in _ (by omega) | exact IntWalk.u32_in _ (by omega) | exact IntWalk.u64_in _ (by omega) | exact IntKind.wrap_u8 _ | exact IntKind.wrap_u32 _ | rfl)) | ((with_reducible apply Ce.mk); (first | rfl | exact ‹_› | exact cell_recZ (fun _ => rfl) (by omega) (by decide) rfl | exact cell_rec (fun _ => rfl) (by omega) (by decide) rfl | exact cell_bytes (by omega) | exact cell_mapZ (by omega) | exact cell_map (by omega))) | ((with_reducible apply Su.mk); (first | exact subAt_all | exact subAt_recZ (fun _ => rfl) (by omega) | exact subAt_rec (fun _ => rfl) (by omega))) | exact True.intro | intro A | exact rfl)
          all_goals first
            | (exfalso; omega)
            | skip
          rw [hbt]
          exact ⟨(k + 1, o2 ++ [o2[o2.length - D]!]), ⟨hkN, by show (o2 ++ [_]).length = _; rw [List.length_append, List.length_singleton]; omega, hcp⟩, by show N - (k + 1) < N - k; omega, ⟨rfl, rfl, rfl, congrArg some (gslE rfl rfl (by simp) (by simp) rfl), by repeat' (first | exact trivial | refine ⟨rfl, ?_⟩)⟩, (by repeat (first | with_reducible exact Take.nil | with_reducible apply Take.c | ((with_reducible apply Take.cE); (first | exact rfl | (apply blkE; (focus (first | exact rfl | exact recs_snocE rfl | exact map_snocE rfl | exact congrArg (fun v => [v]) (gslE rfl rfl (by first | rfl | exact ‹_› | omega | (simp ; first | done | omega)) (by first | rfl | exact ‹_› | omega | (simp ; first | done | omega)) rfl)))))) | with_reducible apply Take.drop))⟩
        · obtain rfl : k = N := by omega
          rw [Nat.sub_self, copyN] at hcp
          rw [← hcp] at he
          repeat' (first | apply w_seq | apply w_region | apply o_nil | (apply o_g tyOk; exact rfl; exact rfl) | (apply w_dF; exact rfl; (focus (first | exact ‹_› | with_reducible exact rfl | omega))) | apply thenS_normal | apply thenS_exit | apply blockS_normal | apply blockS_exit | apply w_exit | ((with_reducible apply Sd.mk); (first | exact True.intro | omega | (constructor <;> first | omega | (unfold maxLen; omega)) | (unfold maxLen; omega))))
          all_goals first
            | (exfalso; omega)
            | skip
          exact ⟨(f', ⟨K1, x.P, x.c, L2, D3⟩, d3, o2, gsl A0 0 o2.length o2.length 1, decB nd d3 :: msB a ⟨K1, x.P, x.c, L2, D3⟩ ((A0, ⟨bytesV o2, false⟩) :: (s, ⟨setC a, false⟩) :: h)), ⟨by show n - o2.length ≤ f'; omega, hrs.1, hrs.2.1, by show o2.length ≤ n; omega, .some A0 o2, he⟩, by show f' < f' + 1; omega, (by repeat' (first | exact trivial | refine ⟨rfl, ?_⟩ | refine ⟨congrArg some ?_, ?_⟩)), (by repeat (first | with_reducible exact Take.nil | with_reducible apply Take.c | with_reducible apply Take.drop))⟩
  · rw [rdP_end hlt] at he
    have he : (o, true) = R := he
    cases hb with
    | nil =>
      rw [List.length_nil] at hlt
      repeat' (first | apply w_seq | apply w_region | apply o_nil | (apply o_g tyOk; exact rfl; exact rfl) | (apply o_toString_nil tyOk; iterate 7 exact rfl) | (apply w_dF; exact rfl; (focus (first | exact ‹_› | with_reducible exact rfl | omega))) | apply thenS_normal | apply thenS_exit | apply blockS_exit | apply w_ret | apply w_exit | ((with_reducible apply Sd.mk); (first | exact True.intro | omega | (constructor <;> first | omega | (unfold maxLen; omega)) | (unfold maxLen; omega))))
      all_goals first
        | (exfalso; omega)
        | (apply s_fin; (exact (show ResS _ _ _ _ [_, _] from ⟨rfl, ⟨rfl, trivial⟩⟩)); (focus (exact ⟨by subst he; rfl, rfl⟩)); (focus (repeat (first | with_reducible exact Take.nil | with_reducible apply Take.c | with_reducible apply Take.drop))))
        | trace_state
    | some A0 o =>
      repeat' (first | apply w_seq | apply w_region | apply o_nil | (apply o_g tyOk; exact rfl; exact rfl) | (apply o_toString tyOk; (iterate 6 exact rfl); (focus (exact pk))) | (apply w_dF; exact rfl; (focus (first | exact ‹_› | with_reducible exact rfl | omega))) | apply thenS_normal | apply thenS_exit | apply blockS_exit | apply w_ret | apply w_exit | ((with_reducible apply Sd.mk); (first | exact True.intro | omega | (constructor <;> first | omega | (unfold maxLen; omega)) | (unfold maxLen; omega))) | ((with_reducible apply Ln.mk); (first | rfl | exact ‹_› | omega | (simp ; first | done | omega))) | ((with_reducible apply Su.mk); (first | exact subAt_all | exact subAt_recZ (fun _ => rfl) (by omega) | exact subAt_rec (fun _ => rfl) (by omega))) | exact True.intro | exact rfl)
      all_goals first
        | (exfalso; omega)
        | (apply s_fin; (exact (show ResS _ _ _ _ [_, _] from ⟨rfl, ⟨rfl, trivial⟩⟩)); (focus (exact ⟨by subst he; rfl, rfl⟩)); (focus (repeat (first | with_reducible exact Take.nil | with_reducible apply Take.c | with_reducible apply Take.drop))))
        | trace_state
end Go.Proofs.YtncnmfdmbfbfjaaGreat
end
section
set_option linter.unusedVariables false
set_option linter.unusedSimpArgs false
set_option maxRecDepth 4000
namespace Go.Proofs.YtncnmfdmbfbfjaaGreat
open Go.Gh Go.RowKit

/-- What Decode gives. -/
def lzD (D : List UInt8) (most : Int) : List UInt8 × Int :=
  if (rdN D 4096).2.2 ≠ 0 then ([], 12) else if most < (rdN D 4096).1 then ([], 2)
  else if (lzR (rdN D 4096).2.1 (rdN D 4096).1.toNat).2 = false then ([], 12)
  else if lzE (lzR (rdN D 4096).2.1 (rdN D 4096).1.toNat).1 = (D, 0) then ((lzR (rdN D 4096).2.1 (rdN D 4096).1.toNat).1, 0) else ([], 12)
theorem copyN_le {n : Nat} {o : List UInt8} {t : Pc} (h : okC n o t) : (estp o t).length ≤ n := by
  unfold okC at h
  rw [estp_cpy o (by omega), copyN_len]; omega
theorem rdP_len {n : Nat} : ∀ {f : Nat} {x : Ms} {d : Dec} {o : List UInt8} {r : List Pc × Dec}, MsOk x → DecOk d → o.length ≤ n → n - o.length ≤ f → rdP n f x d o = some r → (exps r.1 o).length = n
  | 0, x, d, o, r, _, _, ho, hf, h => by
    obtain rfl := Option.some.inj h
    show o.length = n; omega
  | f + 1, x, d, o, r, hx, hd, ho, hf, h => by
    by_cases hlt : o.length < n
    · rw [show rdP n (f + 1) x d o = _ from if_pos hlt] at h
      obtain ⟨h1, h2, h3, h4⟩ := rstp_ok hx hd
      split at h
      · rename_i hg
        obtain ⟨⟨ps, d'⟩, e1, rfl⟩ := Option.map_eq_some_iff.1 h
        have hel : o.length + 1 ≤ (estp o (zrd x d).t).length ∧ (estp o (zrd x d).t).length ≤ n := by
          cases hl : (zrd x d).lit with
          | true =>
            have := h3 hl
            rw [estp_lit o this.2.1, List.length_append, List.length_singleton]; omega
          | false =>
            rw [hl] at hg
            rcases hg with hg | hg
            · cases hg
            · refine ⟨?_, copyN_le hg⟩
              unfold okC at hg
              rw [estp_cpy o (by omega), copyN_len]; omega
        exact rdP_len (r := (ps, d')) h1 h2 hel.2 (by omega) e1
      · cases h
    · rw [rdP_end hlt] at h
      obtain rfl := Option.some.inj h
      show o.length = n; omega
theorem lzR_len {l : List UInt8} {n : Nat} (hl : l.length ≤ 1000000) (h : (lzR l n).2 = true) : (lzR l n).1.length = n := by
  unfold lzR at h ⊢
  cases e : rdP n n ms0 (dnew l) [] with
  | none => rw [e] at h; cases h
  | some r => exact rdP_len ms0_ok (dnew_ok hl) (Nat.zero_le _) (Nat.sub_le _ _) e
theorem Decode_any' (l : List UInt8) (most : Int) (h : SH) (hl : l.length ≤ 1000000) : SRun Tryz.prog 83 [S l, I most] h fun r q => r = .tuple #[S (lzD l most).1, Er (lzD l most).2] ∧ q = h := by
  have hR := fun n h => rNumber_any n l 4096 h hl
  have hok := rdN_ok l 4096
  obtain ⟨x, hx⟩ : ∃ x, lzD l most = x := ⟨_, rfl⟩
  rw [hx]
  unfold lzD at hx
  generalize rdN l 4096 = V at *
  obtain ⟨k, d, e⟩ := V
  dsimp only at *
  have hT := fun n h => rTake_any n d (d.length : Int) h (by omega) (by omega)
  rw [show ((d.length : Int)).toNat = d.length from rfl, List.take_length, List.drop_length] at hT
  by_cases he : e = 0
  case neg =>
    rw [if_pos he] at hx
    refine w_body2 Tryz.func83 rfl rfl ?_
    repeat' (first | apply w_seq | apply w_region | apply o_nil | (apply o_g tyOk; exact rfl; exact rfl) | (apply o_call; exact rfl; exact rfl; (focus (first | exact rfl | assumption)); exact rfl; (focus (exact ⟨_, NewReader_any _ _, by repeat (first | with_reducible exact Take.nil | with_reducible apply Take.c | with_reducible apply Take.drop)⟩)); rintro _ _ ⟨n, rfl, rfl⟩) | (apply o_call; exact rfl; exact rfl; (focus (first | exact rfl | assumption)); exact rfl; (focus (exact ⟨_, hR _ _, by repeat (first | with_reducible exact Take.nil | with_reducible apply Take.c | with_reducible apply Take.drop)⟩)); rintro _ _ ⟨rfl, rfl⟩) | (apply o_call; exact rfl; exact rfl; (focus (first | exact rfl | assumption)); exact rfl; (focus (exact ⟨_, rErr_any _ _ _ _, by repeat (first | with_reducible exact Take.nil | with_reducible apply Take.c | with_reducible apply Take.drop)⟩)); rintro _ _ ⟨rfl, rfl⟩) | (apply w_dT; exact rfl; (focus (first | exact ‹_› | with_reducible exact rfl | omega))) | apply thenS_normal | apply thenS_ret | apply w_ret | ((with_reducible apply Sd.mk); (first | exact True.intro | omega | (constructor <;> first | omega | (unfold maxLen; omega)) | (unfold maxLen; omega))))
    all_goals first
      | contradiction
      | (apply s_fin; (exact (show ResS _ _ _ _ [_, _] from ⟨rfl, ⟨rfl, trivial⟩⟩)); (focus (exact ⟨by subst hx; rfl, rfl⟩)); (focus (repeat (first | with_reducible exact Take.nil | with_reducible apply Take.c | with_reducible apply Take.drop))))
      | trace_state
  subst he
  rw [if_neg (by decide)] at hx
  have hk := hok.2 rfl
  by_cases h1 : most < k
  case pos =>
    rw [if_pos h1] at hx
    refine w_body2 Tryz.func83 rfl rfl ?_
    repeat' (first | apply w_seq | apply w_region | apply o_nil | (apply o_g tyOk; exact rfl; exact rfl) | (apply o_call; exact rfl; exact rfl; (focus (first | exact rfl | assumption)); exact rfl; (focus (exact ⟨_, NewReader_any _ _, by repeat (first | with_reducible exact Take.nil | with_reducible apply Take.c | with_reducible apply Take.drop)⟩)); rintro _ _ ⟨n, rfl, rfl⟩) | (apply o_call; exact rfl; exact rfl; (focus (first | exact rfl | assumption)); exact rfl; (focus (exact ⟨_, hR _ _, by repeat (first | with_reducible exact Take.nil | with_reducible apply Take.c | with_reducible apply Take.drop)⟩)); rintro _ _ ⟨rfl, rfl⟩) | (apply o_call; exact rfl; exact rfl; (focus (first | exact rfl | assumption)); exact rfl; (focus (exact ⟨_, rErr_any _ _ _ _, by repeat (first | with_reducible exact Take.nil | with_reducible apply Take.c | with_reducible apply Take.drop)⟩)); rintro _ _ ⟨rfl, rfl⟩) | (apply w_false; exact rfl) | (apply w_dT; exact rfl; (focus (first | exact ‹_› | with_reducible exact rfl | omega))) | apply thenS_normal | apply thenS_ret | apply w_skip | apply w_ret | ((with_reducible apply Sd.mk); (first | exact True.intro | omega | (constructor <;> first | omega | (unfold maxLen; omega)) | (unfold maxLen; omega))))
    all_goals first
      | contradiction
      | (apply s_fin; (exact (show ResS _ _ _ _ [_, _] from ⟨rfl, ⟨rfl, trivial⟩⟩)); (focus (exact ⟨by subst hx; rfl, rfl⟩)); (focus (repeat (first | with_reducible exact Take.nil | with_reducible apply Take.c | with_reducible apply Take.drop))))
      | trace_state
  rw [if_neg h1] at hx
  obtain ⟨m, rfl⟩ := Int.eq_ofNat_of_zero_le hk.1
  rw [Int.toNat_natCast] at hx
  have hRd := fun h => lzread_any d m h (by omega) (by omega)
  have hlen := lzR_len (l := d) (n := m) (by omega)
  obtain ⟨⟨s, b⟩, hs⟩ : ∃ R, lzR d m = R := ⟨_, rfl⟩
  rw [hs] at hRd hx hlen
  dsimp only at hRd hx hlen
  cases b with
  | false =>
    rw [if_pos rfl] at hx
    refine w_body2 Tryz.func83 rfl rfl ?_
    repeat' (first | apply w_seq | apply w_region | apply o_nil | (apply o_g tyOk; exact rfl; exact rfl) | (apply o_notB; exact rfl; exact rfl) | (apply o_call; exact rfl; exact rfl; (focus (first | exact rfl | assumption)); exact rfl; (focus (exact ⟨_, NewReader_any _ _, by repeat (first | with_reducible exact Take.nil | with_reducible apply Take.c | with_reducible apply Take.drop)⟩)); rintro _ _ ⟨n, rfl, rfl⟩) | (apply o_call; exact rfl; exact rfl; (focus (first | exact rfl | assumption)); exact rfl; (focus (exact ⟨_, hR _ _, by repeat (first | with_reducible exact Take.nil | with_reducible apply Take.c | with_reducible apply Take.drop)⟩)); rintro _ _ ⟨rfl, rfl⟩) | (apply o_call; exact rfl; exact rfl; (focus (first | exact rfl | assumption)); exact rfl; (focus (exact ⟨_, rErr_any _ _ _ _, by repeat (first | with_reducible exact Take.nil | with_reducible apply Take.c | with_reducible apply Take.drop)⟩)); rintro _ _ ⟨rfl, rfl⟩) | (apply o_call; exact rfl; exact rfl; (focus (first | exact rfl | assumption)); exact rfl; (focus (exact ⟨_, rLeft_any _ _ _ _, by repeat (first | with_reducible exact Take.nil | with_reducible apply Take.c | with_reducible apply Take.drop)⟩)); rintro _ _ ⟨rfl, rfl⟩) | (apply o_call; exact rfl; exact rfl; (focus (first | exact rfl | assumption)); exact rfl; (focus (exact ⟨_, hT _ _, by repeat (first | with_reducible exact Take.nil | with_reducible apply Take.c | with_reducible apply Take.drop)⟩)); rintro _ _ ⟨rfl, rfl⟩) | (apply o_call; exact rfl; exact rfl; (focus (first | exact rfl | assumption)); exact rfl; (focus (exact ⟨_, hRd _, by repeat (first | with_reducible exact Take.nil | with_reducible apply Take.c | with_reducible apply Take.drop)⟩)); rintro _ _ ⟨rfl, rfl⟩) | (apply w_true; exact rfl) | (apply w_false; exact rfl) | (apply w_dF; exact rfl; (focus (first | exact ‹_› | with_reducible exact rfl | omega))) | apply thenS_normal | apply thenS_ret | apply w_skip | apply w_ret | ((with_reducible apply Sd.mk); (first | exact True.intro | omega | (constructor <;> first | omega | (unfold maxLen; omega)) | (unfold maxLen; omega))))
    all_goals first
      | contradiction
      | (apply s_fin; (exact (show ResS _ _ _ _ [_, _] from ⟨rfl, ⟨rfl, trivial⟩⟩)); (focus (exact ⟨by subst hx; rfl, rfl⟩)); (focus (repeat (first | with_reducible exact Take.nil | with_reducible apply Take.c | with_reducible apply Take.drop))))
      | trace_state
  | true =>
    rw [if_neg (by decide)] at hx
    have hlen := hlen rfl
    have hE := fun h => Encode_any' s h (by omega)
    obtain ⟨⟨t, g⟩, ht⟩ : ∃ R, lzE s = R := ⟨_, rfl⟩
    rw [ht] at hE hx
    dsimp only at hE hx
    refine w_body2 Tryz.func83 rfl rfl ?_
    repeat' (first | apply w_seq | apply w_region | apply o_nil | (apply o_g tyOk; exact rfl; exact rfl) | (apply o_notB; exact rfl; exact rfl) | (apply o_call; exact rfl; exact rfl; (focus (first | exact rfl | assumption)); exact rfl; (focus (exact ⟨_, NewReader_any _ _, by repeat (first | with_reducible exact Take.nil | with_reducible apply Take.c | with_reducible apply Take.drop)⟩)); rintro _ _ ⟨n, rfl, rfl⟩) | (apply o_call; exact rfl; exact rfl; (focus (first | exact rfl | assumption)); exact rfl; (focus (exact ⟨_, hR _ _, by repeat (first | with_reducible exact Take.nil | with_reducible apply Take.c | with_reducible apply Take.drop)⟩)); rintro _ _ ⟨rfl, rfl⟩) | (apply o_call; exact rfl; exact rfl; (focus (first | exact rfl | assumption)); exact rfl; (focus (exact ⟨_, rErr_any _ _ _ _, by repeat (first | with_reducible exact Take.nil | with_reducible apply Take.c | with_reducible apply Take.drop)⟩)); rintro _ _ ⟨rfl, rfl⟩) | (apply o_call; exact rfl; exact rfl; (focus (first | exact rfl | assumption)); exact rfl; (focus (exact ⟨_, rLeft_any _ _ _ _, by repeat (first | with_reducible exact Take.nil | with_reducible apply Take.c | with_reducible apply Take.drop)⟩)); rintro _ _ ⟨rfl, rfl⟩) | (apply o_call; exact rfl; exact rfl; (focus (first | exact rfl | assumption)); exact rfl; (focus (exact ⟨_, hT _ _, by repeat (first | with_reducible exact Take.nil | with_reducible apply Take.c | with_reducible apply Take.drop)⟩)); rintro _ _ ⟨rfl, rfl⟩) | (apply o_call; exact rfl; exact rfl; (focus (first | exact rfl | assumption)); exact rfl; (focus (exact ⟨_, hRd _, by repeat (first | with_reducible exact Take.nil | with_reducible apply Take.c | with_reducible apply Take.drop)⟩)); rintro _ _ ⟨rfl, rfl⟩) | (apply o_call; exact rfl; exact rfl; (focus (first | exact rfl | assumption)); exact rfl; (focus (exact ⟨_, hE _, by repeat (first | with_reducible exact Take.nil | with_reducible apply Take.c | with_reducible apply Take.drop)⟩)); rintro _ _ ⟨rfl, rfl⟩) | (apply o_want; exact rfl; exact rfl) | (apply o_skip; iterate 4 exact rfl) | (apply o_guardFN; (iterate 3 exact rfl); all_goals intro hc) | (apply w_true; exact rfl) | (apply w_false; exact rfl) | (apply w_dF; exact rfl; (focus (first | exact ‹_› | with_reducible exact rfl | omega))) | (apply w_ifN; exact rfl; all_goals intro hc) | apply thenS_normal | apply thenS_ret | apply w_skip | apply w_ret | ((with_reducible apply Sd.mk); (first | exact True.intro | omega | (constructor <;> first | omega | (unfold maxLen; omega)) | (unfold maxLen; omega))))
    all_goals first
      | contradiction
      | (rw [if_pos (by rw [show t = l by assumption, show g = 0 by assumption])] at hx; (apply s_fin; (exact (show ResS _ _ _ _ [_, _] from ⟨rfl, ⟨rfl, trivial⟩⟩)); (focus (exact ⟨by subst hx; rfl, rfl⟩)); (focus (repeat (first | with_reducible exact Take.nil | with_reducible apply Take.c | with_reducible apply Take.drop)))))
      | (rw [if_neg (fun e => absurd (congrArg Prod.snd e) (by assumption))] at hx; (apply s_fin; (exact (show ResS _ _ _ _ [_, _] from ⟨rfl, ⟨rfl, trivial⟩⟩)); (focus (exact ⟨by subst hx; rfl, rfl⟩)); (focus (repeat (first | with_reducible exact Take.nil | with_reducible apply Take.c | with_reducible apply Take.drop)))))
      | (rw [if_neg (fun e => absurd (congrArg Prod.fst e) (by assumption))] at hx; (apply s_fin; (exact (show ResS _ _ _ _ [_, _] from ⟨rfl, ⟨rfl, trivial⟩⟩)); (focus (exact ⟨by subst hx; rfl, rfl⟩)); (focus (repeat (first | with_reducible exact Take.nil | with_reducible apply Take.c | with_reducible apply Take.drop)))))
      | trace_state
end Go.Proofs.YtncnmfdmbfbfjaaGreat
end
section
set_option linter.unusedVariables false
set_option linter.unusedSimpArgs false
set_option maxRecDepth 4000
namespace Go.Proofs.YtncnmfdmbfbfjaaGreat
open Go.Gh Go.RowKit

def hd2 (k : Int) : List UInt8 := [b8 165, b8 k]
theorem hd2_len (k : Int) : (hd2 k).length = 2 := rfl
theorem hd2_sub {k : Int} (hk : 0 ≤ k ∧ k ≤ 255) : SubAt [Y 165, Y k] 0 (bytesV (hd2 k)) := by
  have e : bytesV (hd2 k) = [Y 165, Y k] := by
    unfold hd2
    rw [show ∀ a b : UInt8, [a, b] = [a] ++ [b] from fun _ _ => rfl, bytesV_app, bytesV_one (by omega), bytesV_one (by omega)]
    rfl
  rw [e]; exact subAt_all
/-- The bytes of a frame ahead of its sum. -/
def frm (k : Int) (b : List UInt8) : List UInt8 := hd2 k ++ (vnum b.length ++ b)
def sl (t : List UInt8) : List UInt8 := t ++ le4 (crcV t)
abbrev frV (k : Int) (c : List UInt8) : Value := .agg ⟨[I k, S c]⟩
/-- What Wrap gives. -/
def wrp (k : Int) (c : List UInt8) : List UInt8 × Int :=
  if k < 0 ∨ 15 < k then ([], 2) else if 4096 < c.length then ([], 9) else (if (lzE c).1.length < c.length then sl (frm (k + 16) (lzE c).1) else sl (frm k c), 0)
theorem Wrap_any (k : Int) (c : List UInt8) (h : SH) (hl : c.length ≤ 9223372036854775807) : SRun Tryz.prog 17 [frV k c] h fun r q => r = .tuple #[S (wrp k c).1, I (wrp k c).2] ∧ q = h := by
  unfold wrp
  by_cases hk : k < 0 ∨ 15 < k
  · rw [if_pos hk]
    rcases hk with hk | hk
    all_goals
      refine w_body1 Tryz.func17 rfl rfl ?_
      repeat' (first | apply w_seq | apply w_region | apply o_nil | (apply o_g tyOk; exact rfl; exact rfl) | (apply o_load tyOk; (iterate 3 exact rfl); (focus (exact pk))) | (apply o_box (tt := tyT); iterate 5 exact rfl) | (apply o_want; exact rfl; exact rfl) | (apply o_skip; iterate 4 exact rfl) | (apply o_gF; (iterate 3 exact rfl); (focus (first | exact ‹_› | with_reducible exact rfl | omega))) | (apply o_sT; (iterate 3 exact rfl); (focus (first | exact ‹_› | with_reducible exact rfl | omega)); exact rfl) | (apply w_true; exact rfl) | (apply w_dT; exact rfl; (focus (first | exact ‹_› | with_reducible exact rfl | omega))) | apply thenS_normal | apply thenS_ret | apply w_ret | ((with_reducible apply Sd.mk); (first | exact True.intro | omega | (constructor <;> first | omega | (unfold maxLen; omega)) | (unfold maxLen; omega))) | ((with_reducible apply Ln.mk); (first | rfl | exact ‹_› | omega | (simp ; first | done | omega))) | ((with_reducible apply Ce.mk); (first | rfl | exact ‹_› | exact cell_recZ (fun _ => rfl) (by omega) (by decide) rfl | exact cell_rec (fun _ => rfl) (by omega) (by decide) rfl | exact cell_bytes (by omega) | exact cell_mapZ (by omega) | exact cell_map (by omega))) | exact True.intro | intro A | exact rfl)
      all_goals first
        | (exfalso; omega)
        | (apply s_fin; (exact (show ResS _ _ _ _ [_, _] from ⟨rfl, ⟨rfl, trivial⟩⟩)); (focus (exact ⟨rfl, rfl⟩)); (focus (repeat (first | with_reducible exact Take.nil | with_reducible apply Take.c | with_reducible apply Take.drop))))
        | trace_state
  rw [if_neg hk]
  have hE := fun h => Encode_any' c h hl
  by_cases h4 : 4096 < c.length
  · rw [if_pos h4]
    rw [show lzE c = ([], 9) from if_pos h4] at hE
    refine w_body1 Tryz.func17 rfl rfl ?_
    repeat' (first | apply w_seq | apply w_region | apply o_nil | (apply o_g tyOk; exact rfl; exact rfl) | (apply o_load tyOk; (iterate 3 exact rfl); (focus (exact pk))) | (apply o_box (tt := tyT); iterate 5 exact rfl) | (apply o_call; exact rfl; exact rfl; (focus (first | exact rfl | assumption)); exact rfl; (focus (exact ⟨_, hE _, by repeat (first | with_reducible exact Take.nil | with_reducible apply Take.c | with_reducible apply Take.drop)⟩)); rintro _ _ ⟨rfl, rfl⟩) | (apply o_want; exact rfl; exact rfl) | (apply o_gF; (iterate 3 exact rfl); (focus (first | exact ‹_› | with_reducible exact rfl | omega))) | (apply w_true; exact rfl) | (apply w_dF; exact rfl; (focus (first | exact ‹_› | with_reducible exact rfl | omega))) | apply thenS_normal | apply thenS_ret | apply w_skip | apply w_ret | ((with_reducible apply Sd.mk); (first | exact True.intro | omega | (constructor <;> first | omega | (unfold maxLen; omega)) | (unfold maxLen; omega))) | ((with_reducible apply Ln.mk); (first | rfl | exact ‹_› | omega | (simp ; first | done | omega))) | ((with_reducible apply Ce.mk); (first | rfl | exact ‹_› | exact cell_recZ (fun _ => rfl) (by omega) (by decide) rfl | exact cell_rec (fun _ => rfl) (by omega) (by decide) rfl | exact cell_bytes (by omega) | exact cell_mapZ (by omega) | exact cell_map (by omega))) | exact True.intro | intro A | exact rfl)
    all_goals first
      | (exfalso; omega)
      | contradiction
      | (apply s_fin; (exact (show ResS _ _ _ _ [_, _] from ⟨rfl, ⟨rfl, trivial⟩⟩)); (focus (exact ⟨rfl, rfl⟩)); (focus (repeat (first | with_reducible exact Take.nil | with_reducible apply Take.c | with_reducible apply Take.drop))))
      | trace_state
  rw [if_neg h4]
  obtain ⟨z, hz⟩ : ∃ z, lzE c = (z, 0) := ⟨_, if_neg h4⟩
  rw [hz] at hE ⊢
  dsimp only at hE ⊢
  by_cases hs : z.length < c.length
  · rw [if_pos hs]
    have hT := fun h => vText_any z h (by omega)
    have hs1 := vnum_len (n := (z.length : Int)) (by omega)
    have hs2 := (vk_ok (n := (z.length : Int)) (by omega)).2
    have hS := fun h => Seal_any (hd2 (k + 16) ++ (vnum (z.length : Int) ++ z)) h (by rw [List.length_append, List.length_append, hd2_len]; omega)
    have hsl : sl (frm (k + 16) z) = hd2 (k + 16) ++ (vnum (z.length : Int) ++ z) ++ le4 (crcV (hd2 (k + 16) ++ (vnum (z.length : Int) ++ z))) := rfl
    rw [hsl]
    have hsub := hd2_sub (k := k + 16) (by omega)
    generalize le4 (crcV (hd2 (k + 16) ++ (vnum (z.length : Int) ++ z))) = L at *
    generalize vnum (z.length : Int) = V at *
    refine w_body1 Tryz.func17 rfl rfl ?_
    repeat' (first | apply w_seq | apply w_region | apply o_nil | (apply w_draw; (focus (kernel_rfl)); (focus (kernel_rfl))) | (apply o_g tyOk; exact rfl; exact rfl) | (apply o_ar tyOk; exact rfl; exact rfl) | (apply o_load tyOk; (iterate 3 exact rfl); (focus (exact pk))) | (apply o_box (tt := tyT); iterate 5 exact rfl) | (apply o_buildSlice tyOk; (iterate 5 exact rfl); (focus (decide)); exact rfl; (focus (decide)); (focus (repeat (first | exact CatR.nil | exact CatR.last rfl | (apply CatR.one; exact rfl; exact rfl) | (apply CatR.agg; exact rfl)))); exact rfl) | (apply o_toString tyOk; (iterate 6 exact rfl); (focus (exact pk))) | (apply o_call; exact rfl; exact rfl; (focus (first | exact rfl | assumption)); exact rfl; (focus (exact ⟨_, hE _, by repeat (first | with_reducible exact Take.nil | with_reducible apply take_lock | with_reducible apply Take.c | with_reducible apply Take.drop)⟩)); rintro _ _ ⟨rfl, rfl⟩) | (apply o_callD; (iterate 4 exact rfl); (focus (exact ⟨_, hT (lockS h), by repeat (first | with_reducible exact Take.nil | with_reducible apply take_lock | with_reducible apply Take.c | with_reducible apply Take.drop)⟩)); (focus (exact fun _ _ h => h.1)); (focus ((repeat (first | exact Flat.c rfl | apply flat_tuple | apply flat_agg | exact FlatL.nil | apply FlatL.cons))))) | (apply o_callD; (iterate 4 exact rfl); (focus (exact ⟨_, hS (lockS h), by repeat (first | with_reducible exact Take.nil | with_reducible apply take_lock | with_reducible apply Take.c | with_reducible apply Take.drop)⟩)); (focus (exact fun _ _ h => h.1)); (focus ((repeat (first | exact Flat.c rfl | apply flat_tuple | apply flat_agg | exact FlatL.nil | apply FlatL.cons))))) | (apply o_want; exact rfl; exact rfl) | (apply o_gF; (iterate 3 exact rfl); (focus (first | exact ‹_› | with_reducible exact rfl | omega))) | (apply w_false; exact rfl) | (apply w_dT; exact rfl; (focus (first | exact ‹_› | with_reducible exact rfl | omega))) | (apply w_dF; exact rfl; (focus (first | exact ‹_› | with_reducible exact rfl | omega))) | apply thenS_normal | apply w_skip | apply w_ret | ((with_reducible apply Sd.mk); (first | exact True.intro | omega | (constructor <;> first | omega | (unfold maxLen; omega)) | (unfold maxLen; omega) | (simp only [hd2_len, List.length_nil]; omega) | (rw [List.length_append, hd2_len]; omega))) | ((with_reducible apply Ln.mk); (first | rfl | exact ‹_› | omega | (simp [hd2_len]; first | done | omega))) | ((with_reducible apply Wr.mk); (first | exact IntWalk.i64_in _ (by omega) | exact IntWalk.u8_in _ (by omega) | exact IntWalk.u32_in _ (by omega) | exact IntWalk.u64_in _ (by omega) | exact IntKind.wrap_u8 _ | exact IntKind.wrap_u32 _ | rfl)) | ((with_reducible apply Ce.mk); (first | rfl | exact ‹_› | exact cell_recZ (fun _ => rfl) (by omega) (by decide) rfl | exact cell_rec (fun _ => rfl) (by omega) (by decide) rfl | exact cell_bytes (by omega) | exact cell_mapZ (by omega) | exact cell_map (by omega))) | ((with_reducible apply Su.mk); (first | exact hsub | exact subAt_all | exact subAt_recZ (fun _ => rfl) (by omega) | exact subAt_rec (fun _ => rfl) (by omega))) | exact True.intro | exact Rd.mk ⟨_, hT (lockS h), by repeat (first | with_reducible exact Take.nil | with_reducible apply take_lock | with_reducible apply take_lock | with_reducible apply Take.c | with_reducible apply Take.drop)⟩ | exact Or.inl rfl | apply And.intro | apply Or.inr | intro A | exact rfl)
    all_goals first
      | (exfalso; omega)
      | contradiction
      | (apply s_fin; (exact (show ResS _ _ _ _ [_, _] from ⟨rfl, ⟨rfl, trivial⟩⟩)); (focus (exact ⟨rfl, rfl⟩)); (focus (repeat (first | with_reducible exact Take.nil | with_reducible apply Take.c | with_reducible apply Take.drop))))
      | trace_state
  · rw [if_neg hs]
    have hT := fun h => vText_any c h (by omega)
    have hs1 := vnum_len (n := (c.length : Int)) (by omega)
    have hs2 := (vk_ok (n := (c.length : Int)) (by omega)).2
    have hS := fun h => Seal_any (hd2 k ++ (vnum (c.length : Int) ++ c)) h (by rw [List.length_append, List.length_append, hd2_len]; omega)
    have hsl : sl (frm k c) = hd2 k ++ (vnum (c.length : Int) ++ c) ++ le4 (crcV (hd2 k ++ (vnum (c.length : Int) ++ c))) := rfl
    rw [hsl]
    have hsub := hd2_sub (k := k) (by omega)
    generalize le4 (crcV (hd2 k ++ (vnum (c.length : Int) ++ c))) = L at *
    generalize vnum (c.length : Int) = V at *
    refine w_body1 Tryz.func17 rfl rfl ?_
    repeat' (first | apply w_seq | apply w_region | apply o_nil | (apply w_draw; (focus (kernel_rfl)); (focus (kernel_rfl))) | (apply o_g tyOk; exact rfl; exact rfl) | (apply o_ar tyOk; exact rfl; exact rfl) | (apply o_load tyOk; (iterate 3 exact rfl); (focus (exact pk))) | (apply o_box (tt := tyT); iterate 5 exact rfl) | (apply o_buildSlice tyOk; (iterate 5 exact rfl); (focus (decide)); exact rfl; (focus (decide)); (focus (repeat (first | exact CatR.nil | exact CatR.last rfl | (apply CatR.one; exact rfl; exact rfl) | (apply CatR.agg; exact rfl)))); exact rfl) | (apply o_toString tyOk; (iterate 6 exact rfl); (focus (exact pk))) | (apply o_call; exact rfl; exact rfl; (focus (first | exact rfl | assumption)); exact rfl; (focus (exact ⟨_, hE _, by repeat (first | with_reducible exact Take.nil | with_reducible apply take_lock | with_reducible apply Take.c | with_reducible apply Take.drop)⟩)); rintro _ _ ⟨rfl, rfl⟩) | (apply o_callD; (iterate 4 exact rfl); (focus (exact ⟨_, hT (lockS h), by repeat (first | with_reducible exact Take.nil | with_reducible apply take_lock | with_reducible apply Take.c | with_reducible apply Take.drop)⟩)); (focus (exact fun _ _ h => h.1)); (focus ((repeat (first | exact Flat.c rfl | apply flat_tuple | apply flat_agg | exact FlatL.nil | apply FlatL.cons))))) | (apply o_callD; (iterate 4 exact rfl); (focus (exact ⟨_, hS (lockS h), by repeat (first | with_reducible exact Take.nil | with_reducible apply take_lock | with_reducible apply Take.c | with_reducible apply Take.drop)⟩)); (focus (exact fun _ _ h => h.1)); (focus ((repeat (first | exact Flat.c rfl | apply flat_tuple | apply flat_agg | exact FlatL.nil | apply FlatL.cons))))) | (apply o_want; exact rfl; exact rfl) | (apply o_gF; (iterate 3 exact rfl); (focus (first | exact ‹_› | with_reducible exact rfl | omega))) | (apply w_false; exact rfl) | (apply w_dF; exact rfl; (focus (first | exact ‹_› | with_reducible exact rfl | omega))) | apply thenS_normal | apply w_skip | apply w_ret | ((with_reducible apply Sd.mk); (first | exact True.intro | omega | (constructor <;> first | omega | (unfold maxLen; omega)) | (unfold maxLen; omega) | (simp only [hd2_len, List.length_nil]; omega) | (rw [List.length_append, hd2_len]; omega))) | ((with_reducible apply Ln.mk); (first | rfl | exact ‹_› | omega | (simp [hd2_len]; first | done | omega))) | ((with_reducible apply Wr.mk); (first | exact IntWalk.i64_in _ (by omega) | exact IntWalk.u8_in _ (by omega) | exact IntWalk.u32_in _ (by omega) | exact IntWalk.u64_in _ (by omega) | exact IntKind.wrap_u8 _ | exact IntKind.wrap_u32 _ | rfl)) | ((with_reducible apply Ce.mk); (first | rfl | exact ‹_› | exact cell_recZ (fun _ => rfl) (by omega) (by decide) rfl | exact cell_rec (fun _ => rfl) (by omega) (by decide) rfl | exact cell_bytes (by omega) | exact cell_mapZ (by omega) | exact cell_map (by omega))) | ((with_reducible apply Su.mk); (first | exact hsub | exact subAt_all | exact subAt_recZ (fun _ => rfl) (by omega) | exact subAt_rec (fun _ => rfl) (by omega))) | exact True.intro | exact Rd.mk ⟨_, hT (lockS h), by repeat (first | with_reducible exact Take.nil | with_reducible apply take_lock | with_reducible apply take_lock | with_reducible apply Take.c | with_reducible apply Take.drop)⟩ | exact Or.inl rfl | apply And.intro | apply Or.inr | intro A | exact rfl)
    all_goals first
      | (exfalso; omega)
      | contradiction
      | (apply s_fin; (exact (show ResS _ _ _ _ [_, _] from ⟨rfl, ⟨rfl, trivial⟩⟩)); (focus (exact ⟨rfl, rfl⟩)); (focus (repeat (first | with_reducible exact Take.nil | with_reducible apply Take.c | with_reducible apply Take.drop))))
      | trace_state
end Go.Proofs.YtncnmfdmbfbfjaaGreat
end
section
set_option linter.unusedVariables false
set_option linter.unusedSimpArgs false
set_option maxRecDepth 4000
namespace Go.Proofs.YtncnmfdmbfbfjaaGreat
open Go.Gh Go.RowKit

/-- The bytes of numbers. -/
def numT (L : List Int) : List UInt8 := L.flatMap vnum
theorem numT_snoc (L : List Int) (x : Int) : numT (L ++ [x]) = numT L ++ vnum x := by simp [numT]
theorem vnum_le (n : Int) : (vnum n).length ≤ 9 := by
  unfold vnum
  split
  · exact Nat.zero_le _
  · rename_i h
    have h1 := (vk_ok (n := n) (by omega)).2
    have : ∀ (k : Nat) (m : Int) (T : List UInt8), (vbe k m T).1.length = k + T.length := by
      intro k
      induction k with
      | zero => intro m T; show T.length = 0 + T.length; omega
      | succ k ih => intro m T; unfold vbe; rw [ih]; simp only [List.length_cons]; omega
    rw [List.length_cons, this]
    simp only [List.length_nil]
    omega
theorem numT_le (L : List Int) : (numT L).length ≤ 9 * L.length := by
  induction L with
  | nil => exact Nat.zero_le _
  | cons x r ih =>
    have h1 := vnum_le x
    have h2 : numT (x :: r) = vnum x ++ numT r := rfl
    rw [h2, List.length_append, List.length_cons]
    omega
abbrev iv1 (z : Int) : Value := I z
theorem numbers_any (L : List Int) (v : Value) (h : SH) (hv : Has h (L.map iv1) 1 L.length v) (hl : L.length ≤ 1000) (hx : ∀ x ∈ L, x ≤ 9223372036854775807) :
    SRun Tryz.prog 31 [v] h fun r q => r = S (numT L) ∧ q = h := by
  obtain ⟨ad, fl, rfl, hh⟩ := hv
  refine w_body1 Tryz.func31 rfl rfl ?_
  repeat' (first | apply w_seq | apply w_region | apply o_nil | (apply o_g tyOk; exact rfl; exact rfl) | apply thenS_normal | apply w_block | ((with_reducible apply Sd.mk); (first | exact True.intro | omega | (constructor <;> first | omega | (unfold maxLen; omega)) | (unfold maxLen; omega) | (simp only [List.length_append]; omega))))
  refine w_loop (S := Nat) (fun i => [(3, S (numT (L.take i))), (6, .slice ad L.length fl), (7, I L.length), (8, I i)]) (fun _ => h) (fun i => i ≤ L.length) (fun i => L.length - i) 0 (Nat.zero_le _) (by repeat' (first | exact trivial | refine ⟨rfl, ?_⟩ | refine ⟨congrArg some ?_, ?_⟩)) (by repeat (first | with_reducible exact Take.nil | with_reducible apply Take.c | with_reducible apply Take.drop)) ?_
  rintro i hi
  by_cases hil : i < L.length
  · obtain ⟨A', ro, hx1, rfl, hp⟩ := hh (by omega)
    have htb := stake_bang hil
    have hN := fun h => Number_any L[i]! h (hx _ (sbang_mem hil))
    have hml : (L.map iv1).length = L.length := List.length_map ..
    have hcell : (L.map iv1)[0 + ((i : Int)).toNat * 1]? = some (I L[i]!) := cell_mapZ hil
    generalize L[i]! = x at *
    have hb1 := numT_le (L.take i)
    have hb2 := vnum_le x
    have hb3 : (L.take i).length ≤ 1000 := by rw [List.length_take]; omega
    have hns : numT (L.take (i + 1)) = numT (L.take i) ++ vnum x := by rw [htb, numT_snoc]
    repeat' (first | apply w_seq | apply w_region | apply o_nil | (apply o_g tyOk; exact rfl; exact rfl) | (apply o_ar tyOk; exact rfl; exact rfl) | (apply o_load tyOk; (iterate 3 exact rfl); (focus (exact pk))) | (apply o_call; exact rfl; exact rfl; (focus (first | exact rfl | assumption)); exact rfl; (focus (exact ⟨_, hN _, by repeat (first | with_reducible exact Take.nil | with_reducible apply Take.c | with_reducible apply Take.drop)⟩)); rintro _ _ ⟨rfl, rfl⟩) | (apply w_dT; exact rfl; (focus (first | exact ‹_› | with_reducible exact rfl | omega))) | apply thenS_normal | apply blockS_normal | apply w_skip | apply w_block | ((with_reducible apply Sd.mk); (first | exact True.intro | omega | (constructor <;> first | omega | (unfold maxLen; omega)) | (unfold maxLen; omega) | (simp only [List.length_append]; omega))) | ((with_reducible apply Ln.mk); (first | rfl | exact ‹_› | omega | (simp [hml]; first | done | omega))) | ((with_reducible apply Wr.mk); (first | exact IntWalk.i64_in _ (by omega) | exact IntWalk.u8_in _ (by omega) | exact IntWalk.u32_in _ (by omega) | exact IntWalk.u64_in _ (by omega) | exact IntKind.wrap_u8 _ | exact IntKind.wrap_u32 _ | rfl)) | ((with_reducible apply Ce.mk); (first | rfl | exact ‹_› | exact hcell | exact cell_recZ (fun _ => rfl) (by omega) (by decide) rfl | exact cell_rec (fun _ => rfl) (by omega) (by decide) rfl | exact cell_bytes (by omega) | exact cell_mapZ (by omega) | exact cell_map (by omega))) | exact True.intro | exact rfl)
    all_goals first
      | (exfalso; omega)
      | exact ⟨i + 1, hil, by show L.length - (i + 1) < L.length - i; omega, by rw [hns]; exact (by repeat' (first | exact trivial | refine ⟨rfl, ?_⟩ | refine ⟨congrArg some ?_, ?_⟩)), (by repeat (first | with_reducible exact Take.nil | with_reducible apply Take.c | with_reducible apply Take.drop))⟩
      | trace_state
  · obtain rfl : i = L.length := by omega
    rw [List.take_length]
    repeat' (first | apply w_seq | apply w_region | apply o_nil | (apply o_g tyOk; exact rfl; exact rfl) | (apply w_dF; exact rfl; (focus (first | exact ‹_› | with_reducible exact rfl | omega))) | apply thenS_normal | apply thenS_exit | apply blockS_exit | apply w_ret | apply w_exit | ((with_reducible apply Sd.mk); (first | exact True.intro | omega | (constructor <;> first | omega | (unfold maxLen; omega)) | (unfold maxLen; omega) | (simp only [List.length_append]; omega))))
    all_goals first
      | (exfalso; omega)
      | (apply s_fin; (exact (show ResS _ _ _ _ [_] from ⟨rfl, trivial⟩)); (focus (exact ⟨rfl, rfl⟩)); (focus (repeat (first | with_reducible exact Take.nil | with_reducible apply Take.c | with_reducible apply Take.drop))))
      | trace_state
/-- The numbers of an entry. -/
def enN (e : Eny) : List Int := [e.2.1 - e.1, e.2.2.1, e.2.2.2.1, e.2.2.2.2.1, e.2.2.2.2.2.1, e.2.2.2.2.2.2]
def exN (x : Ex3) : List Int := [x.1, x.2.1, x.2.2]
def txtD (d : Ex3) (l : List Eny) : List UInt8 := numT (exN d ++ [(l.length : Int)]) ++ l.flatMap fun e => numT (enN e)
theorem ents_in : ∀ {l : List Eny} {a : Int}, -1 ≤ a → ents a l → ∀ e ∈ l, -1 ≤ e.1 ∧ e.1 < e.2.1 ∧ e.2.1 ≤ 1099511627776 ∧ lvl e
  | [], _, _, _, e, he => by cases he
  | x :: r, a, ha, h, e, he => by
    obtain ⟨⟨h1, h2, h3, h4⟩, h5⟩ := h
    rcases List.mem_cons.1 he with rfl | he
    · exact ⟨by omega, h2, h3, h4⟩
    · exact ents_in (l := r) (by omega) h5 e he
theorem fmT_le : ∀ l : List Eny, (l.flatMap fun e => numT (enN e)).length ≤ 54 * l.length := by
  intro l
  induction l with
  | nil => exact Nat.zero_le _
  | cons e r ih =>
    have g1 := numT_le (enN e)
    have g2 : (enN e).length = 6 := rfl
    rw [List.flatMap_cons, List.length_append, List.length_cons]
    omega
theorem txtD_le {d : Ex3} {l : List Eny} (h : l.length ≤ 32) : (txtD d l).length ≤ 1764 := by
  have h1 := numT_le (exN d ++ [(l.length : Int)])
  have h2 : (exN d ++ [(l.length : Int)]).length = 4 := rfl
  have h4 := fmT_le l
  unfold txtD
  rw [List.length_append]
  omega
/-- What Encode gives. -/
def encD (d : Ex3) (l : List Eny) : List UInt8 × Int := if dvl d l then wrp 7 (txtD d l) else ([], 1)
theorem DEncode_any (d : Ex3) (l : List Eny) (v : Value) (h : SH) (hv : Has h (recs enF l) 7 l.length v) (hl : l.length ≤ 1000) :
    SRun Tryz.prog 12 [drV d v] h fun r q => r = .tuple #[S (encD d l).1, I (encD d l).2] ∧ q = h := by
  have hV := fun h hv => DValid_any d l v h hv hl
  obtain ⟨ad, fl, rfl, hh⟩ := id hv
  have hlb := en_len l
  unfold encD
  by_cases hd : dvl d l
  · rw [if_pos hd]
    rw [decide_eq_true hd] at hV
    have hW := fun h => Wrap_any 7 (txtD d l) h (by have := txtD_le (d := d) hd.1; omega)
    generalize wrp 7 (txtD d l) = T at *
    have hin := ents_in (by omega) hd.2.2.1
    have hft := hd.2.1.2
    have hfd := hd.2.1.1
    have htx : txtD d l = numT (exN d ++ [(l.length : Int)]) ++ (l.take l.length).flatMap fun e => numT (enN e) := by rw [List.take_length]; rfl
    obtain ⟨d1, d2, d3⟩ := d
    have hf1 := hfd.1; have hf2 := hfd.2.1; have hf3 := hfd.2.2.1; have hf4 := hfd.2.2.2.1; have hf5 := hfd.2.2.2.2.1; have hf6 := hfd.2.2.2.2.2.1
    dsimp only at hf1 hf2 hf3 hf4 hf5 hf6
    have hV : ∀ h, Has h (recs enF l) 7 l.length (.slice ad l.length fl) → SRun Tryz.prog 13 [.agg ⟨[I d1, I d2, I d3, .slice ad l.length fl]⟩] h fun r q => r = B true ∧ q = h := hV
    show SRun _ _ [.agg ⟨[I d1, I d2, I d3, .slice ad l.length fl]⟩] h _
    have hN1 : ∀ (A : Nat) (h : SH), SRun Tryz.prog 31 [gsl A 0 4 4 1] ((A, ⟨[I d1, I d2, I d3, I l.length], false⟩) :: h) fun r q => r = S (numT (exN (d1, d2, d3) ++ [(l.length : Int)])) ∧ q = (A, ⟨[I d1, I d2, I d3, I l.length], false⟩) :: h := fun A h =>
      numbers_any (exN (d1, d2, d3) ++ [(l.length : Int)]) (gsl A 0 4 4 1) _ ⟨_, _, rfl, fun _ => ⟨A, _, _, rfl, .head⟩⟩ (by show 4 ≤ 1000; omega) (fun x hx => by
        have hx : x = d1 ∨ x = d2 ∨ x = d3 ∨ x = (l.length : Int) := by simpa [exN] using hx
        omega)
    refine w_body1 Tryz.func12 rfl rfl ?_
    repeat' (first | apply w_seq | apply w_region | apply o_nil | (apply o_g tyOk; exact rfl; exact rfl) | (apply o_notB; exact rfl; exact rfl) | (apply o_load tyOk; (iterate 3 exact rfl); (focus (exact pk))) | (apply o_loads tyOk; (iterate 3 exact rfl); (focus (exact pk))) | (apply o_box (tt := tyT); iterate 5 exact rfl) | (apply o_buildSlice tyOk; (iterate 5 exact rfl); (focus (decide)); exact rfl; (focus (decide)); (focus (repeat (first | exact CatR.nil | exact CatR.last rfl | (apply CatR.one; exact rfl; exact rfl) | (apply CatR.agg; exact rfl)))); exact rfl) | (apply o_call; exact rfl; exact rfl; (focus (first | exact rfl | assumption)); exact rfl; (focus (exact ⟨_, hV _ (hv.re (.drop .nil)), by repeat (first | with_reducible exact Take.nil | with_reducible apply Take.c | with_reducible apply Take.drop)⟩)); rintro _ _ ⟨rfl, rfl⟩) | (apply o_call; exact rfl; exact rfl; (focus (first | exact rfl | assumption)); exact rfl; (focus (exact ⟨_, hN1 _ _, by repeat (first | with_reducible exact Take.nil | with_reducible apply Take.c | with_reducible apply Take.drop)⟩)); rintro _ _ ⟨rfl, rfl⟩) | (apply w_false; exact rfl) | apply thenS_normal | apply w_skip | apply w_block | ((with_reducible apply Sd.mk); (first | exact True.intro | omega | (constructor <;> first | omega | (unfold maxLen; omega)) | (unfold maxLen; omega) | (simp only [List.length_append]; omega))) | ((with_reducible apply Ln.mk); (first | rfl | exact ‹_› | omega | (simp ; first | done | omega))) | ((with_reducible apply Ce.mk); (first | rfl | exact ‹_› | exact cell_recZ (fun _ => rfl) (by omega) (by decide) rfl | exact cell_rec (fun _ => rfl) (by omega) (by decide) rfl | exact cell_bytes (by omega) | exact cell_mapZ (by omega) | exact cell_map (by omega))) | ((with_reducible apply Su.mk); (first | exact subAt_all | exact subAt_recZ (fun _ => rfl) (by omega) | exact subAt_rec (fun _ => rfl) (by omega))) | exact True.intro | intro A | exact rfl)
    all_goals first | contradiction | (exfalso; omega) | skip
    refine w_loop (S := Nat) (fun i => [(4, S (numT (exN (d1, d2, d3) ++ [(l.length : Int)]) ++ (l.take i).flatMap fun e => numT (enN e))), (25, .slice ad l.length fl), (26, I l.length), (27, I i)]) (fun _ => h)
      (fun i => i ≤ l.length) (fun i => l.length - i) 0 (Nat.zero_le _) (by rw [List.take_zero, List.flatMap_nil, List.append_nil]; exact (by repeat' (first | exact trivial | refine ⟨rfl, ?_⟩ | refine ⟨congrArg some ?_, ?_⟩))) (by repeat (first | with_reducible exact Take.nil | with_reducible apply Take.c | with_reducible apply Take.drop)) ?_
    rintro i hi
    by_cases hil : i < l.length
    · obtain ⟨A', ro, hx1, rfl, hp⟩ := hh (by omega)
      have htb := stake_bang hil
      have hmem := sbang_mem hil
      have hi1 := hin _ hmem
      have hi2 := hft _ hmem
      obtain ⟨x, hx⟩ : ∃ x, x = l[i]! := ⟨_, rfl⟩
      rw [← hx] at htb hi1 hi2
      obtain ⟨x1, x2, x3, x4, y1, y2, y3⟩ := x
      have hsub : SubAt (recs enF l) (0 + ((i : Int)).toNat * 7) [I x1, I x2, I x3, I x4, I y1, I y2, I y3] := by rw [show [I x1, I x2, I x3, I x4, I y1, I y2, I y3] = enF l[i]! by rw [← hx]]; exact subAt_recZ (fun _ => rfl) hil
      unfold lvl at hi1
      unfold fit at hi2
      dsimp only [plc] at hi1 hi2
      have hw : x2 - x1 ≤ 9223372036854775807 ∧ -9223372036854775808 ≤ x2 - x1 := by omega
      have hN2 : ∀ (A : Nat) (h : SH), SRun Tryz.prog 31 [gsl A 0 6 6 1] ((A, ⟨[I (x2 - x1), I x3, I x4, I y1, I y2, I y3], false⟩) :: h) fun r q => r = S (numT (enN (x1, x2, x3, x4, y1, y2, y3))) ∧ q = (A, ⟨[I (x2 - x1), I x3, I x4, I y1, I y2, I y3], false⟩) :: h := fun A h =>
        numbers_any (enN (x1, x2, x3, x4, y1, y2, y3)) (gsl A 0 6 6 1) _ ⟨_, _, rfl, fun _ => ⟨A, _, _, rfl, .head⟩⟩ (by show 6 ≤ 1000; omega) (fun x hx => by
          have hx : x = x2 - x1 ∨ x = x3 ∨ x = x4 ∨ x = y1 ∨ x = y2 ∨ x = y3 := by simpa [enN] using hx
          omega)
      have hb1 := numT_le (exN (d1, d2, d3) ++ [(l.length : Int)])
      have hb2 := fmT_le (l.take i)
      have hb3 : (l.take i).length ≤ 1000 := by rw [List.length_take]; omega
      have hb4 := numT_le (enN (x1, x2, x3, x4, y1, y2, y3))
      have hb5 : (exN (d1, d2, d3) ++ [(l.length : Int)]).length = 4 := rfl
      have hb6 : (enN (x1, x2, x3, x4, y1, y2, y3)).length = 6 := rfl
      have hfm : (l.take (i + 1)).flatMap (fun e => numT (enN e)) = (l.take i).flatMap (fun e => numT (enN e)) ++ numT (enN (x1, x2, x3, x4, y1, y2, y3)) := by rw [htb, List.flatMap_append]; simp
      repeat' (first | apply w_seq | apply w_region | apply o_nil | (apply o_g tyOk; exact rfl; exact rfl) | (apply o_ar tyOk; exact rfl; exact rfl) | (apply o_load tyOk; (iterate 3 exact rfl); (focus (exact pk))) | (apply o_loads tyOk; (iterate 3 exact rfl); (focus (exact pk))) | (apply o_stores tyOk; (iterate 4 exact rfl); (focus (exact ⟨rfl⟩)); (focus (exact up))) | (apply o_alloc tyOk; iterate 5 exact rfl) | (apply o_buildSlice tyOk; (iterate 5 exact rfl); (focus (decide)); exact rfl; (focus (decide)); (focus (repeat (first | exact CatR.nil | exact CatR.last rfl | (apply CatR.one; exact rfl; exact rfl) | (apply CatR.agg; exact rfl)))); exact rfl) | (apply o_call; exact rfl; exact rfl; (focus (first | exact rfl | assumption)); exact rfl; (focus (exact ⟨_, hN2 _ _, by repeat (first | with_reducible exact Take.nil | with_reducible apply Take.c | with_reducible apply Take.drop)⟩)); rintro _ _ ⟨rfl, rfl⟩) | (apply w_dT; exact rfl; (focus (first | exact ‹_› | with_reducible exact rfl | omega))) | apply thenS_normal | apply blockS_normal | apply w_skip | apply w_block | ((with_reducible apply Sd.mk); (first | exact True.intro | omega | (constructor <;> first | omega | (unfold maxLen; omega)) | (unfold maxLen; omega) | (simp only [List.length_append]; omega))) | ((with_reducible apply Ln.mk); (first | rfl | exact ‹_› | omega | (simp [hlb]; first | done | omega))) | ((with_reducible apply Wr.mk); (first | exact IntWalk.i64_in _ (by omega) | exact IntWalk.u8_in _ (by omega) | exact IntWalk.u32_in _ (by omega) | exact IntWalk.u64_in _ (by omega) | exact IntKind.wrap_u8 _ | exact IntKind.wrap_u32 _ | rfl)) | ((with_reducible apply Ce.mk); (first | rfl | exact ‹_› | exact cell_recZ (fun _ => rfl) (by omega) (by decide) rfl | exact cell_rec (fun _ => rfl) (by omega) (by decide) rfl | exact cell_bytes (by omega) | exact cell_mapZ (by omega) | exact cell_map (by omega))) | ((with_reducible apply Pu.mk); (first | exact putAt_all rfl | exact putAt_recZ (fun _ => rfl) (by omega) | exact putAt_rec (fun _ => rfl) (by omega))) | ((with_reducible apply Su.mk); (first | exact hsub | exact subAt_all | exact subAt_recZ (fun _ => rfl) (by omega) | exact subAt_rec (fun _ => rfl) (by omega))) | exact True.intro | intro A | exact rfl)
      all_goals first
        | (exfalso; omega)
        | exact ⟨i + 1, hil, by show l.length - (i + 1) < l.length - i; omega, by rw [hfm, ← List.append_assoc]; exact (by repeat' (first | exact trivial | refine ⟨rfl, ?_⟩ | refine ⟨congrArg some ?_, ?_⟩)), (by repeat (first | with_reducible exact Take.nil | with_reducible apply Take.c | with_reducible apply Take.drop))⟩
        | trace_state
    · obtain rfl : i = l.length := by omega
      rw [← htx]
      have hW : ∀ h, SRun Tryz.prog 17 [.agg ⟨[I 7, S (txtD (d1, d2, d3) l)]⟩] h fun r q => r = .tuple #[S T.1, I T.2] ∧ q = h := hW
      repeat' (first | apply w_seq | apply w_region | apply o_nil | (apply o_g tyOk; exact rfl; exact rfl) | (apply o_build tyOk; exact rfl; exact rfl; (focus (first | with_reducible exact pl38)); exact rfl; (focus (repeat (first | exact BuildR.nil | (apply BuildR.one; exact rfl; exact rfl; (first | (focus ((repeat (first | exact SetAt.zero | apply SetAt.succ)); done)) | exact setAt_bytes (by omega) (by omega) | exact setAt_mapZ (by omega) | exact setAt_map (by omega))) | (apply BuildR.agg; exact rfl; exact rfl; (first | exact putAt_all rfl | exact putAt_recZ (fun _ => rfl) (by omega) | exact putAt_rec (fun _ => rfl) (by omega)))))); exact rfl) | (apply o_call; exact rfl; exact rfl; (focus (first | exact rfl | assumption)); exact rfl; (focus (exact ⟨_, hW _, by repeat (first | with_reducible exact Take.nil | with_reducible apply Take.c | with_reducible apply Take.drop)⟩)); rintro _ _ ⟨rfl, rfl⟩) | (apply w_dF; exact rfl; (focus (first | exact ‹_› | with_reducible exact rfl | omega))) | apply thenS_normal | apply thenS_exit | apply blockS_exit | apply w_ret | apply w_exit | ((with_reducible apply Sd.mk); (first | exact True.intro | omega | (constructor <;> first | omega | (unfold maxLen; omega)) | (unfold maxLen; omega) | (simp only [List.length_append]; omega))))
      all_goals first
        | (exfalso; omega)
        | (apply s_fin; (exact (show ResS _ _ _ _ [_, _] from ⟨rfl, ⟨rfl, trivial⟩⟩)); (focus (exact ⟨rfl, rfl⟩)); (focus (repeat (first | with_reducible exact Take.nil | with_reducible apply Take.c | with_reducible apply Take.drop))))
        | trace_state
  · rw [if_neg hd]
    rw [decide_eq_false hd] at hV
    obtain ⟨d1, d2, d3⟩ := d
    have hV : ∀ h, Has h (recs enF l) 7 l.length (.slice ad l.length fl) → SRun Tryz.prog 13 [.agg ⟨[I d1, I d2, I d3, .slice ad l.length fl]⟩] h fun r q => r = B false ∧ q = h := hV
    show SRun _ _ [.agg ⟨[I d1, I d2, I d3, .slice ad l.length fl]⟩] h _
    refine w_body1 Tryz.func12 rfl rfl ?_
    repeat' ((fail_if_success (show SWp _ _ (Code.seq (Code.region 3 _ _) _) _ _ _)); (fail_if_success (show SWp _ _ (Code.region 3 _ _) _ _ _)); first | apply w_seq | apply w_region | apply o_nil | (apply o_g tyOk; exact rfl; exact rfl) | (apply o_notB; exact rfl; exact rfl) | (apply o_loads tyOk; (iterate 3 exact rfl); (focus (exact pk))) | (apply o_box (tt := tyT); iterate 5 exact rfl) | (apply o_call; exact rfl; exact rfl; (focus (first | exact rfl | assumption)); exact rfl; (focus (exact ⟨_, hV _ (hv.re (.drop .nil)), by repeat (first | with_reducible exact Take.nil | with_reducible apply Take.c | with_reducible apply Take.drop)⟩)); rintro _ _ ⟨rfl, rfl⟩) | (apply w_true; exact rfl) | apply thenS_normal | apply thenS_ret | apply w_ret | ((with_reducible apply Sd.mk); (first | exact True.intro | omega | (constructor <;> first | omega | (unfold maxLen; omega)) | (unfold maxLen; omega) | (simp only [List.length_append]; omega))) | ((with_reducible apply Ln.mk); (first | rfl | exact ‹_› | omega | (simp ; first | done | omega))) | ((with_reducible apply Su.mk); (first | exact subAt_all | exact subAt_recZ (fun _ => rfl) (by omega) | exact subAt_rec (fun _ => rfl) (by omega))) | exact True.intro | intro A | exact rfl)
    all_goals first
      | contradiction
      | (exfalso; omega)
      | (apply s_fin; (exact (show ResS _ _ _ _ [_, _] from ⟨rfl, ⟨rfl, trivial⟩⟩)); (focus (exact ⟨rfl, rfl⟩)); (focus (repeat (first | with_reducible exact Take.nil | with_reducible apply Take.c | with_reducible apply Take.drop))))
      | trace_state
end Go.Proofs.YtncnmfdmbfbfjaaGreat
end
section
set_option linter.unusedVariables false
set_option linter.unusedSimpArgs false
set_option maxRecDepth 4000
namespace Go.Proofs.YtncnmfdmbfbfjaaGreat
open Go.Gh Go.RowKit

theorem lead_fin : ∀ f : Nat, f < 256 → (f < 128 → vlead (f : Int) 8 0 = 0 ∧ vlow (f : Int) 0 = f) ∧ (128 ≤ f → f < 192 → vlead (f : Int) 8 0 = 1 ∧ vlow (f : Int) 1 = (f : Int) - 128) ∧ (192 ≤ f → 2 ≤ vlead (f : Int) 8 0) := by decide +kernel
theorem hd_fin : ∀ m : Nat, m < 128 → vhd 0 (m : Int) = m ∧ (m < 64 → vhd 1 (m : Int) = 128 + (m : Int)) := by decide +kernel
theorem vbnd0 : vbnd 0 = 0 := rfl
theorem vbnd1 : vbnd 1 = 128 := by decide
theorem vbnd2 : vbnd 2 = 16512 := by decide
theorem vk_lo {n : Int} (h : n < 128) : vk n = 0 := by
  show (if vbnd 1 ≤ n then vks n 7 1 else 0) = 0
  rw [vbnd1, if_neg (by omega)]
theorem vk_hi {n : Int} (h : 128 ≤ n) (h2 : n < 16512) : vk n = 1 := by
  show (if vbnd 1 ≤ n then (if vbnd 2 ≤ n then vks n 6 2 else 1) else 0) = 1
  rw [vbnd1, vbnd2, if_pos h, if_neg (by omega)]
theorem vnum_lo {n : Int} (h0 : 0 ≤ n) (h : n < 128) : vnum n = [b8 n] := by
  obtain ⟨m, rfl⟩ := Int.eq_ofNat_of_zero_le h0
  unfold vnum
  rw [if_neg (by omega), vk_lo h, vbnd0, Int.sub_zero]
  show [b8 (vhd 0 (m : Int))] = _
  rw [(hd_fin m (by omega)).1]
theorem vnum_hi {n : Int} (h0 : 128 ≤ n) (h : n < 16512) : vnum n = [b8 (128 + (n - 128) / 256), b8 ((n - 128) % 256)] := by
  unfold vnum
  rw [if_neg (by omega), vk_hi h0 h, vbnd1]
  show [b8 (vhd 1 ((n - 128) / 256)), b8 ((n - 128) % 256)] = _
  obtain ⟨m, hm⟩ := Int.eq_ofNat_of_zero_le (show 0 ≤ (n - 128) / 256 by omega)
  rw [hm, (hd_fin m (by omega)).2 (by omega)]
theorem bat_zero (x : UInt8) (r : List UInt8) : bat (x :: r) 0 = x.toNat := rfl
theorem vpeek_lo {x : UInt8} {r : List UInt8} (h : x.toNat < 128) : vpeek (x :: r) = ((x.toNat : Int), 1, true) := by
  have hl := (lead_fin x.toNat (by omega)).1 h
  unfold vpeek
  rw [if_neg (by simp), bat_zero, hl.1, if_neg (by simp), hl.2, vbnd0]
  rw [show vacc (x :: r) 0 1 (x.toNat : Int) = x.toNat from rfl, if_neg (by omega), Int.add_zero]
  rfl
theorem vpeek_hi {x y : UInt8} {r : List UInt8} (h : 128 ≤ x.toNat) (h2 : x.toNat < 192) : vpeek (x :: y :: r) = (((x.toNat : Int) - 128) * 256 + y.toNat + 128, 2, true) := by
  have hl := (lead_fin x.toNat (by omega)).2.1 h h2
  have hy := y.toNat_lt
  unfold vpeek
  rw [if_neg (by simp), bat_zero, hl.1, if_neg (by simp), hl.2, vbnd1]
  rw [show vacc (x :: y :: r) 1 1 ((x.toNat : Int) - 128) = ((x.toNat : Int) - 128) * 256 + y.toNat from rfl, if_neg (by omega)]
  rfl
theorem vpeek_num {n : Int} (h0 : 0 ≤ n) (h : n ≤ 4096) (r : List UInt8) : vpeek (vnum n ++ r) = (n, ((vnum n).length : Int), true) := by
  by_cases h1 : n < 128
  · rw [vnum_lo h0 h1]
    have := b8_val (n := n) (by omega)
    show vpeek (b8 n :: r) = _
    rw [vpeek_lo (by omega), this]
    rfl
  · rw [vnum_hi (by omega) (by omega)]
    have e1 := b8_val (n := 128 + (n - 128) / 256) (by omega)
    have e2 := b8_val (n := (n - 128) % 256) (by omega)
    show vpeek (b8 (128 + (n - 128) / 256) :: b8 ((n - 128) % 256) :: r) = _
    rw [vpeek_hi (by omega) (by omega), e1, e2]
    have : (128 + (n - 128) / 256 - 128) * 256 + (n - 128) % 256 + 128 = n := by omega
    rw [this]
    rfl
theorem rdN_num {n : Int} (h0 : 0 ≤ n) (h : n ≤ 4096) (r : List UInt8) : rdN (vnum n ++ r) 4096 = (n, r, 0) := by
  unfold rdN
  rw [vpeek_num h0 h]
  dsimp only
  rw [if_neg (by decide), if_neg (by omega), Int.toNat_natCast, List.drop_left]
end Go.Proofs.YtncnmfdmbfbfjaaGreat
end
section
set_option linter.unusedVariables false
set_option linter.unusedSimpArgs false
set_option maxRecDepth 4000
namespace Go.Proofs.YtncnmfdmbfbfjaaGreat
open Go.Gh Go.RowKit

theorem wst_in {n : Nat} {s : Ms × Enc} {t : Pc} (hok : EncOk n s.2) (hi : InB s.2) : Within s.2 (wst s t).2 ∧ InB (wst s t).2 := by
  unfold wst
  split
  · have h1 := tenc_ok (v := 0) (k := 1) (t := s.1.K) (j := 1) hok
    have g1 := tenc_in (v := 0) 1 (t := s.1.K) (j := 1) hok hi
    have g2 := benc_in (P := s.1.P) (c := s.1.c) (v := t.2.2) h1.1 g1.2
    exact ⟨g1.1.trans g2.1, g2.2⟩
  · have h1 := tenc_ok (v := 1) (k := 1) (t := s.1.K) (j := 1) hok
    have h2 := nenc_ok (t := s.1.L) h1.1 (t.1 - 2)
    have g1 := tenc_in (v := 1) 1 (t := s.1.K) (j := 1) hok hi
    have g2 := nenc_in (t := s.1.L) (v := t.1 - 2) h1.1 g1.2
    have g3 := nenc_in (t := s.1.D) (v := t.2.1 - 1) h2.1 g2.2
    exact ⟨(g1.1.trans g2.1).trans g3.1, g3.2⟩
theorem wrun_in (l : List Pc) : ∀ {n : Nat} {s : Ms × Enc}, MsOk s.1 → EncOk n s.2 → InB s.2 → (∀ t ∈ l, vPb t) → Within s.2 (wrun l s).2 ∧ InB (wrun l s).2 := by
  induction l with
  | nil => intro n s _ _ hi _; exact ⟨.refl _, hi⟩
  | cons t r ih =>
    intro n s hx hok hi ht
    have h1 := wst_ok hx hok (ht t (by simp))
    have g1 := wst_in (t := t) hok hi
    have g2 := ih h1.1 h1.2 g1.2 (fun u hu => ht u (by simp [hu]))
    rw [wrun_cons]
    exact ⟨g1.1.trans g2.1, g2.2⟩
theorem wst_read {D : List UInt8} {f : Enc} {n : Nat} {s : Ms × Enc} {d : Dec} {t : Pc} (hf : Beh D f) (sy : Syn D s.2 d) (hok : EncOk n s.2) (hi : InB s.2) (ht : vPb t) (w : Within (wst s t).2 f) :
    Syn D (wst s t).2 (zrd s.1 d).d ∧ (zrd s.1 d).x = (wst s t).1 ∧ (zrd s.1 d).t = t ∧ ((zrd s.1 d).lit = true ↔ t.2.1 = 0) ∧ (zrd s.1 d).d.full = d.full := by
  obtain ⟨hv, hy⟩ := ht
  obtain ⟨a, b, y⟩ := t
  dsimp only at hv hy
  unfold wst at w ⊢
  dsimp only at w ⊢
  by_cases h0 : b = 0
  · have ha : a = 1 := by rcases hv with g | g <;> (dsimp only at g; omega)
    subst h0 ha
    rw [if_pos rfl] at w ⊢
    dsimp only at w ⊢
    have h1 := tenc_ok (v := 0) (k := 1) (t := s.1.K) (j := 1) hok
    have g1 := tenc_in (v := 0) 1 (t := s.1.K) (j := 1) hok hi
    have g2 := benc_in (P := s.1.P) (c := s.1.c) (v := y) h1.1 g1.2
    obtain ⟨k1, k2, k3⟩ := tenc_read (v := 0) hf 1 (t := s.1.K) (j := 1) sy hok hi (g2.1.trans w)
    obtain ⟨m1, m2, m3⟩ := benc_read hf k1 h1.1 g1.2 (P := s.1.P) (c := s.1.c) (v := y) w
    have hj : (tdec 1 s.1.K d 1).2.2 = 2 := by
      have e : (2 : Int) ^ 1 * ((1 : Nat) : Int) + 0 % 2 ^ 1 = 2 := by decide
      rw [e] at k3; omega
    have hfu := tdec_full 1 (t := s.1.K) (d := d) (j := 1)
    have hfu2 := bdec_full (P := s.1.P) (c := s.1.c) (d := (tdec 1 s.1.K d 1).2.1)
    have hyy : y % 256 = y := by omega
    unfold zrd
    rw [if_pos hj]
    dsimp only
    rw [m2, m3, k2, hyy]
    exact ⟨m1, rfl, rfl, ⟨fun _ => rfl, fun _ => rfl⟩, hfu2.trans hfu⟩
  · have hg : 1 ≤ b ∧ b ≤ 4096 ∧ 2 ≤ a ∧ a ≤ 273 ∧ y = 0 := by rcases hv with g | g <;> (dsimp only at g; omega)
    rw [if_neg h0] at w ⊢
    dsimp only at w ⊢
    have h1 := tenc_ok (v := 1) (k := 1) (t := s.1.K) (j := 1) hok
    have h2 := nenc_ok (t := s.1.L) h1.1 (a - 2)
    have g1 := tenc_in (v := 1) 1 (t := s.1.K) (j := 1) hok hi
    have g2 := nenc_in (t := s.1.L) (v := a - 2) h1.1 g1.2
    have g3 := nenc_in (t := s.1.D) (v := b - 1) h2.1 g2.2
    obtain ⟨k1, k2, k3⟩ := tenc_read (v := 1) hf 1 (t := s.1.K) (j := 1) sy hok hi ((g2.1.trans g3.1).trans w)
    obtain ⟨m1, m2, m3⟩ := nenc_read hf k1 h1.1 g1.2 (t := s.1.L) (v := a - 2) (g3.1.trans w)
    obtain ⟨p1, p2, p3⟩ := nenc_read hf m1 h2.1 g2.2 (t := s.1.D) (v := b - 1) w
    have hj : ¬ (tdec 1 s.1.K d 1).2.2 = 2 := by
      have e : (2 : Int) ^ 1 * ((1 : Nat) : Int) + 1 % 2 ^ 1 = 3 := by decide
      rw [e] at k3; omega
    have hfu := tdec_full 1 (t := s.1.K) (d := d) (j := 1)
    have hfu2 := ndec_full (t := s.1.L) (d := (tdec 1 s.1.K d 1).2.1)
    have hfu3 := ndec_full (t := s.1.D) (d := (ndec s.1.L (tdec 1 s.1.K d 1).2.1).2.1)
    rw [show ncut (a - 2) = a - 2 from if_neg (by omega)] at m3
    rw [show ncut (b - 1) = b - 1 from if_neg (by omega)] at p3
    unfold zrd
    rw [if_neg hj]
    dsimp only
    rw [p2, p3, m2, m3, k2, Int.sub_add_cancel, Int.sub_add_cancel, hg.2.2.2.2]
    exact ⟨p1, rfl, rfl, ⟨fun g => (by cases g), fun g => absurd g h0⟩, (hfu3.trans hfu2).trans hfu⟩
/-- Pieces that make bytes of n bytes. -/
def Fit (n : Nat) : List UInt8 → List Pc → Prop
  | o, [] => o.length = n
  | o, t :: r => o.length < n ∧ (t.2.1 = 0 ∨ okC n o t) ∧ Fit n (estp o t) r
theorem rdP_read {D : List UInt8} {f : Enc} {n : Nat} (hf : Beh D f) (ps : List Pc) : ∀ {m k : Nat} {s : Ms × Enc} {d : Dec} {o : List UInt8}, MsOk s.1 → EncOk m s.2 → InB s.2 → Syn D s.2 d → Fit n o ps → (∀ t ∈ ps, vPb t) → Within (wrun ps s).2 f → n - o.length ≤ k →
    ∃ d', rdP n k s.1 d o = some (ps, d') ∧ Syn D (wrun ps s).2 d' ∧ d'.full = d.full := by
  induction ps with
  | nil => intro m k s d o _ _ _ sy hfit _ _ _; exact ⟨d, rdP_end (by have : o.length = n := hfit; omega), sy, rfl⟩
  | cons t r ih =>
    intro m k s d o hx hok hi sy hfit ht w hk
    obtain ⟨f1, f2, f3⟩ := hfit
    have h1 := wst_ok hx hok (ht t (by simp))
    have g1 := wst_in (t := t) hok hi
    have htr : ∀ u ∈ r, vPb u := fun u hu => ht u (by simp [hu])
    have g2 := wrun_in r h1.1 h1.2 g1.2 htr
    rw [wrun_cons] at w ⊢
    obtain ⟨q1, q2, q3, q4, q5⟩ := wst_read hf sy hok hi (ht t (by simp)) (g2.1.trans w)
    obtain ⟨k', rfl, e⟩ := rdP_go (x := s.1) (d := d) f1 hk
    have hlen : o.length + 1 ≤ (estp o t).length := by
      have hv := (ht t (by simp)).1
      have := estp_len (o := o) hv
      rcases hv with g | g <;> omega
    obtain ⟨d', e1, e2, e3⟩ := ih (k := k') (o := estp o t) h1.1 h1.2 g1.2 q1 f3 htr w (by omega)
    rw [e, q3, q2, e1, if_pos (f2.imp q4.2 id)]
    exact ⟨d', rfl, e2, e3.trans q5⟩
theorem cov_fit {l : List UInt8} {w : Int} (hw : w ≤ 4096) : ∀ {ps : List Pc} {i : Nat}, i ≤ l.length → Cov l w i ps → Fit l.length (l.take i) ps ∧ exps ps (l.take i) = l
  | [], i, _, h => by
    obtain rfl : i = l.length := h
    rw [List.take_length]; exact ⟨rfl, rfl⟩
  | t :: r, i, hi, h => by
    have hl : (l.take i).length = i := by rw [List.length_take]; omega
    have hf := h.1.fits hw
    have hest : estp (l.take i) t = l.take (i + t.1.toNat) ∧ (t.2.1 = 0 ∨ okC l.length (l.take i) t) := by
      rcases h.1 with ⟨hil, rfl⟩ | ⟨n, d, rfl, h1, h2, h3, h4, h5, h6, h7⟩
      · refine ⟨?_, .inl (litP_at l i)⟩
        unfold estp
        rw [if_pos (litP_at l i)]
        show l.take i ++ [byt (bat l i)] = l.take (i + 1)
        rw [byt_bat hil, List.take_append_getElem hil]
      · refine ⟨?_, .inr (by unfold okC; rw [hl]; dsimp only; omega)⟩
        unfold estp
        rw [if_neg (by show ¬ (d : Int) = 0; omega)]
        show copyN (d : Int).toNat (n : Int).toNat _ = l.take (i + (n : Int).toNat)
        rw [Int.toNat_natCast, Int.toNat_natCast]
        exact copyN_take h3 n i h5 h6 h7
    have hn := cov_fit hw (ps := r) (i := i + t.1.toNat) (by omega) h.2
    refine ⟨⟨by rw [hl]; omega, hest.2, by rw [hest.1]; exact hn.1⟩, ?_⟩
    show exps r (estp (l.take i) t) = l
    rw [hest.1]; exact hn.2
theorem rstp_miss {x : Ms} {d : Dec} (h : (zrd x d).d.missing = false) : d.missing = false := by
  unfold zrd at h
  split at h
  · exact tdec_miss 1 (bdec_miss h)
  · exact tdec_miss 1 (ndec_miss (ndec_miss h).1).1
theorem rstp_ext {x : Ms} {d : Dec} {c : UInt8} (h : (zrd x d).d.missing = false) : zrd x (ext d c) = ⟨(zrd x d).x, ext (zrd x d).d c, (zrd x d).lit, (zrd x d).t⟩ := by
  unfold zrd at h ⊢
  by_cases hj : (tdec 1 x.K d 1).2.2 = 2
  · rw [if_pos hj] at h ⊢
    have h1 := tdec_ext (c := c) 1 (t := x.K) (j := 1) (bdec_miss h)
    have h2 := bdec_ext (x := c) h
    rw [h1]
    dsimp only
    rw [if_pos hj, h2]
  · rw [if_neg hj] at h ⊢
    have h1 := tdec_ext (c := c) 1 (t := x.K) (j := 1) (ndec_miss (ndec_miss h).1).1
    have h2 := ndec_ext (x := c) (ndec_miss h).1
    have h3 := ndec_ext (x := c) h
    rw [h1]
    dsimp only
    rw [if_neg hj, h2]
    dsimp only
    rw [h3]
theorem rdP_miss {n : Nat} : ∀ {f : Nat} {x : Ms} {d : Dec} {o : List UInt8} {r : List Pc × Dec}, rdP n f x d o = some r → r.2.missing = false → d.missing = false
  | 0, x, d, o, r, h, hm => by obtain rfl := Option.some.inj h; exact hm
  | f + 1, x, d, o, r, h, hm => by
    by_cases hlt : o.length < n
    · rw [show rdP n (f + 1) x d o = _ from if_pos hlt] at h
      split at h
      · obtain ⟨r', e1, rfl⟩ := Option.map_eq_some_iff.1 h
        exact rstp_miss (rdP_miss e1 hm)
      · cases h
    · rw [rdP_end hlt] at h
      obtain rfl := Option.some.inj h; exact hm
theorem rdP_ext {n : Nat} {c : UInt8} : ∀ {f : Nat} {x : Ms} {d : Dec} {o : List UInt8} {r : List Pc × Dec}, rdP n f x d o = some r → r.2.missing = false → rdP n f x (ext d c) o = some (r.1, ext r.2 c)
  | 0, x, d, o, r, h, hm => by obtain rfl := Option.some.inj h; rfl
  | f + 1, x, d, o, r, h, hm => by
    by_cases hlt : o.length < n
    · rw [show rdP n (f + 1) x d o = _ from if_pos hlt] at h
      rw [show rdP n (f + 1) x (ext d c) o = _ from if_pos hlt]
      split at h
      · rename_i hg
        obtain ⟨r', e1, rfl⟩ := Option.map_eq_some_iff.1 h
        have hm1 := rdP_miss e1 hm
        rw [rstp_ext hm1]
        dsimp only
        rw [if_pos hg, rdP_ext e1 hm]
        rfl
      · cases h
    · rw [rdP_end hlt] at h ⊢
      obtain rfl := Option.some.inj h; rfl
/-- What is written as pieces is read. -/
theorem lzR_wrt {l : List UInt8} {w : Int} {ps : List Pc} (hw : w ≤ 4096) (hc : Cov l w 0 ps) : ∃ d', rdP l.length l.length ms0 (dnew (fin (wrun ps zs0).2)) [] = some (ps, d') ∧ dend d' = 0 ∧ (∀ c, rdP l.length l.length ms0 (dnew (fin (wrun ps zs0).2 ++ [c])) [] = some (ps, ext d' c)) ∧ exps ps [] = l := by
  have hv := cov_vPb hw hc
  have h1 := wrun_ok (s := zs0) ms0_ok encZ_ok hv
  have h2 := wrun_in ps (s := zs0) ms0_ok encZ_ok e00_InB hv
  have hfit := cov_fit hw (Nat.zero_le _) hc
  rw [List.take_zero] at hfit
  obtain ⟨d', e1, e2, e3⟩ := rdP_read (n := l.length) (Beh.fin h1.2) ps (k := l.length) (s := zs0) (o := []) ms0_ok encZ_ok e00_InB (start_syn h1.2 h2.1) hfit.1 hv (.refl _) (Nat.sub_le _ _)
  have hend := inv_end h1.2.low e2 (e3.trans (start_full h1.2 h2.1))
  obtain ⟨k1, _⟩ := dend_zero hend
  refine ⟨d', e1, hend, fun c => ?_, hfit.2⟩
  rw [dnew_ext (by rw [fin_len]; omega)]
  exact rdP_ext e1 k1
end Go.Proofs.YtncnmfdmbfbfjaaGreat
end
