/- Maps with keys of one cell, and slices that are full (three indices), in the ghost heap. -/
import Derived.Test.YtinfmojbdaiogaaSlE
import Derived.MapKept
set_option linter.unusedVariables false
set_option linter.unusedSimpArgs false
set_option maxRecDepth 4000
namespace Go.Gh
open Go.RowKit Go.MapKept

section
variable {α : Type}
/-- The cells of a map: keys and values. -/
def mapC (kf : α → Value) (l : List (α × Value)) : List Value := l.flatMap fun e => [kf e.1, e.2]
def mget [DecidableEq α] : List (α × Value) → α → Option Value
  | [], _ => none
  | e :: r, a => if e.1 = a then some e.2 else mget r a
def mput [DecidableEq α] : List (α × Value) → α → Value → List (α × Value)
  | [], a, x => [(a, x)]
  | e :: r, a, x => if e.1 = a then (a, x) :: r else e :: mput r a x
theorem mput_len [DecidableEq α] : ∀ (l : List (α × Value)) (a : α) (x : Value), (mput l a x).length = l.length + (if mget l a = none then 1 else 0)
  | [], _, _ => rfl
  | e :: r, a, x => by
    unfold mput mget
    split
    · simp
    · have := mput_len r a x; simp only [List.length_cons]; omega
theorem mapC_len (kf : α → Value) : ∀ l : List (α × Value), (mapC kf l).length = 2 * l.length
  | [] => rfl
  | e :: r => by have := mapC_len kf r; simp only [mapC, List.flatMap_cons, List.length_append, List.length_cons, List.length_nil] at this ⊢; omega
structure KeyF (d : TypeDesc) (kf : α → Value) : Prop where
  is : ∀ a, IsKey d (kf a)
  inj : ∀ a b, kf a = kf b → a = b
  sc : ∀ a, scalar (kf a) = true
theorem keyS : KeyF .string (fun l : List UInt8 => S l) := ⟨fun _ => trivial, fun a b h => by injection h with h; injection h with h; injection h, fun _ => rfl⟩
theorem keyI : KeyF (.int .i64) (fun n : Int => I n) := ⟨fun _ => rfl, fun a b h => by injection h, fun _ => rfl⟩
/-- Entries of a map and what they are. -/
inductive EntR (φ : Nat → Loc) (L : Lens) (kf : α → Value) : List (α × Value) → List MapEntry → Prop
  | nil : EntR φ L kf [] []
  | cons {a : α} {v : Value} {e : MapEntry} {l es} (hk : e.key = kf a) (hv : Val φ L v e.val) (r : EntR φ L kf l es) : EntR φ L kf ((a, v) :: l) (e :: es)
theorem EntR.len {φ : Nat → Loc} {L : Lens} {kf : α → Value} {l : List (α × Value)} {es : List MapEntry} (h : EntR φ L kf l es) : es.length = l.length := by
  induction h with
  | nil => rfl
  | cons _ _ _ ih => simp [ih]
theorem EntR.keys {φ : Nat → Loc} {L : Lens} {kf : α → Value} {d : TypeDesc} (K : KeyF d kf) {l : List (α × Value)} {es : List MapEntry} (h : EntR φ L kf l es) : ∀ x ∈ es, IsKey d x.key := by
  induction h with
  | nil => intro x hx; cases hx
  | cons hk _ _ ih =>
    intro x hx
    rcases List.mem_cons.1 hx with rfl | hx
    · rw [hk]; exact K.is _
    · exact ih x hx
theorem EntR.mono {φ φ' : Nat → Loc} {L L' : Lens} (e : Ext φ L φ' L') {kf : α → Value} {l : List (α × Value)} {es : List MapEntry} (h : EntR φ L kf l es) : EntR φ' L' kf l es := by
  induction h with
  | nil => exact .nil
  | cons hk hv _ ih => exact .cons hk (hv.mono e) ih
theorem EntR.row {φ : Nat → Loc} {L : Lens} {kf : α → Value} {d : TypeDesc} (K : KeyF d kf) {l : List (α × Value)} {es : List MapEntry} (h : EntR φ L kf l es) :
    ∀ (i : Nat) v, (mapC kf l)[i]? = some v → ∃ v', (flat es)[i]? = some v' ∧ Val φ L v v' := by
  induction h with
  | nil => intro i v hi; simp [mapC] at hi
  | @cons a v e l es hk hv _ ih =>
    intro i u hi
    have e1 : mapC kf ((a, v) :: l) = kf a :: v :: mapC kf l := rfl
    have e2 : flat (e :: es) = e.key :: e.val :: flat es := rfl
    rw [e1] at hi; rw [e2]
    match i, hi with
    | 0, hi =>
      simp only [List.getElem?_cons_zero, Option.some.injEq] at hi
      subst hi
      refine ⟨e.key, rfl, ?_⟩
      rw [hk]
      have hs := K.sc a
      cases hx : kf a with
      | bool b => exact .bool b
      | int k n => exact .int k n
      | string s => exact .str s
      | _ => rw [hx] at hs; cases hs
    | 1, hi => simp only [List.getElem?_cons_succ, List.getElem?_cons_zero, Option.some.injEq] at hi; subst hi; exact ⟨e.val, rfl, hv⟩
    | i + 2, hi => exact ih i u (by simpa using hi)
theorem ent_of {φ : Nat → Loc} {L : Lens} {kf : α → Value} {d : TypeDesc} (K : KeyF d kf) : ∀ {l : List (α × Value)} {es : List MapEntry}, es.length = l.length →
    (∀ (i : Nat) v, (mapC kf l)[i]? = some v → ∃ v', (flat es)[i]? = some v' ∧ Val φ L v v') → EntR φ L kf l es
  | [], [], _, _ => .nil
  | [], _ :: _, h, _ => by simp at h
  | _ :: _, [], h, _ => by simp at h
  | (a, v) :: l, e :: es, h, hr => by
    have e1 : mapC kf ((a, v) :: l) = kf a :: v :: mapC kf l := rfl
    have e2 : flat (e :: es) = e.key :: e.val :: flat es := rfl
    rw [e1, e2] at hr
    obtain ⟨k', h1, h2⟩ := hr 0 (kf a) rfl
    obtain ⟨v', h3, h4⟩ := hr 1 v rfl
    simp only [List.getElem?_cons_zero, List.getElem?_cons_succ, Option.some.injEq] at h1 h3
    subst h1 h3
    exact .cons (h2.scalar (K.sc a)) h4 (ent_of K (by simpa using h) fun i u hu => by
      obtain ⟨u', g1, g2⟩ := hr (i + 2) u (by simpa using hu)
      exact ⟨u', by simpa using g1, g2⟩)
/-- Finding a key, and what a write there does. -/
theorem EntR.find [DecidableEq α] {φ : Nat → Loc} {L : Lens} {kf : α → Value} {d : TypeDesc} (K : KeyF d kf) (a : α) {l : List (α × Value)} {es : List MapEntry} (h : EntR φ L kf l es) : ∀ i : Nat,
    (Instr.findNow d (kf a) es i = some none ∧ mget l a = none) ∨ ∃ j e v, Instr.findNow d (kf a) es i = some (some (i + j, e.val)) ∧ es[j]? = some e ∧ e.key = kf a ∧ mget l a = some v ∧ Val φ L v e.val := by
  induction h with
  | nil => intro i; exact .inl ⟨rfl, rfl⟩
  | @cons b v e l es hk hv _ ih =>
    intro i
    obtain ⟨r, hr, hiff⟩ := sameNow_of_keys (K.is a) (hk ▸ K.is b : IsKey d e.key)
    cases r with
    | true =>
      have : b = a := (K.inj _ _ ((hiff.1 rfl).trans hk)).symm
      subst this
      exact .inr ⟨0, e, v, by simp [Instr.findNow, hr], rfl, hk, by simp [mget], hv⟩
    | false =>
      have hne : b ≠ a := fun q => by have := hiff.2 (by rw [hk, q]); cases this
      rcases ih (i + 1) with ⟨h1, h2⟩ | ⟨j, e', v', h1, h2, h3, h4, h5⟩
      · exact .inl ⟨by simp [Instr.findNow, hr, h1], by simp [mget, hne, h2]⟩
      · exact .inr ⟨j + 1, e', v', by simp [Instr.findNow, hr, h1]; omega, by simpa using h2, h3, by simp [mget, hne, h4], h5⟩
theorem EntR.push [DecidableEq α] {φ : Nat → Loc} {L : Lens} {kf : α → Value} (a : α) {x x' : Value} (hx : Val φ L x x') (cl : Nat) {l : List (α × Value)} {es : List MapEntry} (h : EntR φ L kf l es) (hn : mget l a = none) : EntR φ L kf (mput l a x) (es ++ [⟨kf a, x', cl⟩]) := by
  induction h with
  | nil => exact .cons rfl hx .nil
  | @cons b v e l es hk hv _ ih =>
    unfold mget at hn
    split at hn
    · cases hn
    · rename_i hne
      unfold mput
      rw [if_neg hne]
      exact .cons hk hv (ih hn)
theorem EntR.modify [DecidableEq α] {φ : Nat → Loc} {L : Lens} {kf : α → Value} {d : TypeDesc} (K : KeyF d kf) (a : α) {x x' : Value} (hx : Val φ L x x') {l : List (α × Value)} {es : List MapEntry} (h : EntR φ L kf l es) :
    ∀ (j : Nat) (i : Nat) (y : Value), Instr.findNow d (kf a) es i = some (some (i + j, y)) → EntR φ L kf (mput l a x) (es.modify j fun e => { e with key := kf a, val := x' }) := by
  induction h with
  | nil => intro j i y hf; cases hf
  | @cons b v e l es hk hv hr' ih =>
    intro j i y hf
    obtain ⟨r, hr, hiff⟩ := sameNow_of_keys (K.is a) (hk ▸ K.is b : IsKey d e.key)
    cases r with
    | true =>
      have : b = a := (K.inj _ _ ((hiff.1 rfl).trans hk)).symm
      subst this
      simp only [Instr.findNow, hr, Option.some.injEq, Prod.mk.injEq] at hf
      obtain rfl : j = 0 := by omega
      unfold mput
      rw [if_pos rfl]
      exact .cons rfl hx hr'
    | false =>
      have hne : b ≠ a := fun q => by have := hiff.2 (by rw [hk, q]); cases this
      simp only [Instr.findNow, hr] at hf
      have hj : j ≠ 0 := fun h0 => by
        subst h0
        rcases findNow_spec (K.is a) es (i + 1) (hr'.keys K) with ⟨h1, _⟩ | ⟨q, e', h1, _⟩
        · rw [h1] at hf; cases hf
        · rw [h1] at hf; simp only [Option.some.injEq, Prod.mk.injEq] at hf; omega
      obtain ⟨j, rfl⟩ : ∃ m, j = m + 1 := ⟨j - 1, by omega⟩
      unfold mput
      rw [if_neg hne]
      exact .cons hk hv (ih j (i + 1) y (by rw [hf]; congr 3; omega))
end
section
variable {P : Program} {N : Fr} {o : Oper} {a : AF} {H : Heap} {α : Type}
theorem map_obj {B0 : Nat} {w0 : World} {φ : Nat → Loc} {w : World} (r : Rel B0 w0 φ H w) {A : Nat} {kf : α → Value} {d : TypeDesc} (K : KeyF d kf) {l : List (α × Value)} {ro : Bool} (hA : H[A]? = some (some ⟨mapC kf l, ro⟩))
    {u : Value} (hu : Val φ (lens H) (.map (some A)) u) : u = .map (some (φ A).b) ∧ (φ A).mp = true ∧ (φ A).base = 0 ∧ ∃ es clock, w.heap[(φ A).b]? = some (.map es clock) ∧ EntR φ (lens H) kf l es.toList := by
  cases hu with
  | map _ n q hL h =>
    obtain ⟨o, c, h1, h2, h3, h4⟩ := (r.blk A _ hA).any
    refine ⟨by rw [h.2], h.1, ?_⟩
    cases h2 with
    | cells hm => rw [h.1] at hm; cases hm
    | map hm hb hl =>
      refine ⟨hb, _, _, h1, ent_of K ?_ fun i v hi => ?_⟩
      · have := mapC_len kf l; simp only at hl; simp; omega
      · obtain ⟨v', g1, g2⟩ := h4 i v hi
        rw [hb, Nat.zero_add] at g1
        exact ⟨v', by simpa using g1, g2⟩
theorem e_makeMap (T : TypeId) (ho : o.op = .makeMap T none) {A0 : Nat} {H' : Heap} (hpl : Place H A0 H' ⟨[], false⟩) : AEff P N o a H (.map (some A0)) H' := by
  refine eff_value (fun B0 w0 φ w ac r hf => ?_)
  obtain ⟨h1, h2⟩ := rel_newO (w' := w.alloc (.map #[] 0)) (l0 := ⟨w.heap.size, 0, 0, true⟩) r hpl rfl rfl rfl rfl rfl rfl fun hext => by
    refine ⟨.map #[] 0, _, ?_, .map (es := #[]) (clock := 0) rfl rfl rfl, by simp, fun i v hi => by simp at hi⟩
    exact (heap_alloc w _).1
  refine ⟨_, .map (some w.heap.size), _, h1, h2, ?_, ?_⟩
  · exact .map _ 0 _ hpl.lens (by rw [upd_same]; exact ⟨rfl, rfl⟩)
  · unfold execOp
    simp only [ho, Option.map_none, Instr.makeMap, Sem.run_bind, Sem.run_pure, Result.andThen_ok]
    simp [run_newObj]
theorem a_lookup [DecidableEq α] (T : TypeId) (x k : Operand) {A K E s b : Nat} {d : TypeDesc} {kf : α → Value} {l : List (α × Value)} {ro : Bool} {z : Value} {c : α} (ho : o.op = .lookup T x k false) (hx : ev a x = some (.map (some A))) (hk : ev a k = some (kf c))
    (hA : H[A]? = some (some ⟨mapC kf l, ro⟩)) (hT : P.underlying T = some (.map K E)) (hK : P.underlying K = some d) (KF : KeyF d kf) (hI : tinf P E = some (some z, s, b)) (hz : constOk z = true) : APure P N o a H ((mget l c).getD z) := by
  refine ⟨fun B0 w0 φ w ac r hf => ?_⟩
  obtain ⟨h1, _, _, es, cl, h2, h3⟩ := map_obj r KF hA (ev_rel hf hx)
  have h4 := (ev_rel hf hk).scalar (KF.sc c)
  rcases h3.find KF c 0 with ⟨g1, g2⟩ | ⟨j, e, v, g1, g2, g3, g4, g5⟩
  · refine ⟨z, by rw [g2]; exact Val.const hz, fun w1 hb => ?_⟩
    have h2' : w1.heap[(φ A).b]? = some (.map es cl) := by rw [hb.block _ (r.lt hA)]; exact h2
    unfold execOp
    simp only [ho, h1, h4, Instr.lookup, Sem.run_bind, run_underlying hT, Result.andThen_ok, MapKept.run_getObj_map h2', Sem.run_pure, run_checkKey hK (KF.is c), run_findKey hK g1, run_zeroValue hI, Bool.false_eq_true, if_false]
  · refine ⟨e.val, by rw [g4]; exact g5, fun w1 hb => ?_⟩
    have h2' : w1.heap[(φ A).b]? = some (.map es cl) := by rw [hb.block _ (r.lt hA)]; exact h2
    unfold execOp
    simp only [ho, h1, h4, Instr.lookup, Sem.run_bind, run_underlying hT, Result.andThen_ok, MapKept.run_getObj_map h2', Sem.run_pure, run_checkKey hK (KF.is c), run_findKey hK g1, Bool.false_eq_true, if_false]
theorem e_mapUpdate [DecidableEq α] (T : TypeId) (x k y : Operand) {A K E : Nat} {d : TypeDesc} {kf : α → Value} {l : List (α × Value)} {c : α} {v : Value} (ho : o.op = .mapUpdate T x k y) (hx : ev a x = some (.map (some A))) (hk : ev a k = some (kf c)) (hy : ev a y = some v)
    (hA : H[A]? = some (some ⟨mapC kf l, false⟩)) (hT : P.underlying T = some (.map K E)) (hK : P.underlying K = some d) (KF : KeyF d kf) : AEff P N o a H undef (H.set A (some ⟨mapC kf (mput l c v), false⟩)) := by
  refine eff_unit (fun B0 w0 φ w ac r hf => ?_)
  obtain ⟨h1, hmp, hbase, es, cl, h2, h3⟩ := map_obj r KF hA (ev_rel hf hx)
  have h4 := (ev_rel hf hk).scalar (KF.sc c)
  have h5 := ev_rel hf hy
  generalize hvv : ac.eval y = v' at h5
  have hupd : upd φ A (φ A) = φ := by funext B; unfold upd; split <;> simp_all
  have hlt := r.lt hA
  have key : ∀ (es' : Array MapEntry) (cl' : Nat), EntR φ (lens H) kf (mput l c v) es'.toList →
      ∃ φ', Ext φ (lens H) φ' (lens (H.set A (some ⟨mapC kf (mput l c v), false⟩))) ∧ Rel B0 w0 φ' (H.set A (some ⟨mapC kf (mput l c v), false⟩)) { w with heap := w.heap.setIfInBounds (φ A).b (.map es' cl') } := fun es' cl' he => by
    obtain ⟨g1, g2⟩ := rel_setO (w' := { w with heap := w.heap.setIfInBounds (φ A).b (.map es' cl') }) (g' := ⟨mapC kf (mput l c v), false⟩) (l' := φ A) r hA rfl rfl rfl rfl (by simp) (fun q _ hq => (heap_set h2).2 q hq) (.inl rfl) hbase
      (by
        have h6 := mapC_len kf l
        have h7 := mapC_len kf (mput l c v)
        have h8 := mput_len l c v
        by_cases hn : mget l c = none
        · rw [if_pos hn] at h8; exact .inr ⟨by simp only; omega, fun _ => rfl⟩
        · rw [if_neg hn] at h8; exact .inl ⟨by simp only; omega, rfl⟩)
      (fun hext => by
        rw [hupd] at hext ⊢
        have he' := he.mono hext
        refine ⟨_, _, (heap_set h2).1, .map hmp hbase ?_, ?_, fun i u hi => ?_⟩
        · have h6 := mapC_len kf (mput l c v); have := he.len; simp at this; (first | omega | (simp only; omega))
        · have h6 := mapC_len kf (mput l c v); have := he.len; rw [hbase]; simp only [List.size_toArray, flat_len]; (first | omega | (simp only; omega))
        · obtain ⟨u', k1, k2⟩ := he'.row KF i u hi
          exact ⟨u', by rw [hbase, Nat.zero_add]; simpa using k1, k2⟩)
    exact ⟨_, g1, g2⟩
  rcases h3.find KF c 0 with ⟨g1, g2⟩ | ⟨j, e, u, g1, g2, g3, g4, g5⟩
  · obtain ⟨φ', k1, k2⟩ := key (es.push { key := kf c, val := v', born := cl }) (cl + 1) (by simpa using h3.push c h5 cl g2)
    refine ⟨φ', _, k1, k2, ?_⟩
    unfold execOp
    simp only [ho, h1, h4, hvv, Instr.mapUpdate, Sem.run_bind, run_underlying hT, Result.andThen_ok, MapKept.run_getObj_map h2, Sem.run_pure, run_checkKey hK (KF.is c), run_findKey hK g1, MapKept.run_setObj_map _ h2]
  · have hj : es[j]? = some e := by simpa using g2
    rw [Nat.zero_add] at g1
    have g1' : Instr.findNow d (kf c) es.toList 0 = some (some (0 + j, e.val)) := by rw [Nat.zero_add]; exact g1
    obtain ⟨φ', k1, k2⟩ := key (es.modify j fun e => { e with key := kf c, val := v' }) cl (by
      have := h3.modify KF c h5 j 0 _ g1'
      simpa using this)
    refine ⟨φ', _, k1, k2, ?_⟩
    unfold execOp
    simp only [ho, h1, h4, hvv, Instr.mapUpdate, Sem.run_bind, run_underlying hT, Result.andThen_ok, MapKept.run_getObj_map h2, Sem.run_pure, run_checkKey hK (KF.is c), run_findKey hK g1, hj, Option.map_some, Option.getD_some, g3, run_keyThatStays (KF.is c), MapKept.run_setObj_map _ h2]
/-- x[:h:h] -/
theorem a_slice3f (T : TypeId) (x hi mx : Operand) {A off n len fl E s b : Nat} {z : Option Value} {j k : IntKind} {h : Int} (ho : o.op = .slice T x none (some hi) (some mx)) (hx : ev a x = some (gsl A off n len fl))
    (hhi : ev a hi = some (.int j h)) (hmx : ev a mx = some (.int k h)) (hT : P.underlying T = some (.slice E)) (hI : tinf P E = some (z, s, b)) (h1 : 0 ≤ h ∧ h ≤ len) : APure P N o a H (.slice (some ⟨A, off, none⟩) h.toNat (n + 1)) := by
  refine ⟨fun B0 w0 φ w ac r hf => ?_⟩
  have hu := ev_rel hf hx
  have e2 := (ev_rel hf hhi).scalar rfl
  have e3 := (ev_rel hf hmx).scalar rfl
  generalize hv : ac.eval x = u at hu
  cases hu with
  | slc _ _ _ m _ _ cap c hL hle hc hm hh =>
    refine ⟨.slice (some c) h.toNat h.toNat, .full _ _ _ m _ _ hL hle (by omega) (fun e => ⟨(hh e).1, (hh e).2.2⟩), fun w _ => ?_⟩
    unfold execOp
    simp only [ho, hv, e2, e3, Instr.sliceAt, Instr.slice, Option.map_some, Option.map_none, Sem.run_bind, run_underlying hT, Result.andThen_ok, Instr.sliceBounds, Instr.sliceBound, asIntOf, Sem.run_pure,
      Sem.run_ite, if_pos (show 0 ≤ h ∧ h ≤ (cap : Int) from ⟨by omega, by omega⟩), if_pos (show 0 ≤ h ∧ h ≤ (h.toNat : Int) from ⟨by omega, by omega⟩), run_sizeOf hI, Nat.zero_mul]
    simp [Addr.add]
/-- x[lo:h:h] -/
theorem a_slice3 (T : TypeId) (x lo hi mx : Operand) {A off n len fl E s b : Nat} {z : Option Value} {i' j k : IntKind} {i h : Int} (ho : o.op = .slice T x (some lo) (some hi) (some mx)) (hx : ev a x = some (gsl A off n len fl))
    (hlo : ev a lo = some (.int i' i)) (hhi : ev a hi = some (.int j h)) (hmx : ev a mx = some (.int k h)) (hT : P.underlying T = some (.slice E)) (hI : tinf P E = some (z, s, b)) (h1 : 0 ≤ i ∧ i ≤ h ∧ h ≤ len) (h2 : i < h) : APure P N o a H (gsl A (off + i.toNat * s) n (h - i).toNat 0) := by
  refine ⟨fun B0 w0 φ w ac r hf => ?_⟩
  have hu := ev_rel hf hx
  have e1 := (ev_rel hf hlo).scalar rfl
  have e2 := (ev_rel hf hhi).scalar rfl
  have e3 := (ev_rel hf hmx).scalar rfl
  generalize hv : ac.eval x = u at hu
  cases hu with
  | slc _ _ _ m _ _ cap c hL hle hc hm hh =>
    refine ⟨.slice (some (c.add (i.toNat * s))) (h.toNat - i.toNat) (h.toNat - i.toNat), ?_, fun w _ => ?_⟩
    · rw [show h.toNat - i.toNat = (h - i).toNat from by omega]
      exact .slc _ _ _ m _ _ _ _ hL hle (by omega) (by omega) (fun e => ⟨by rw [(hh e).1, addr_add, Nat.add_assoc], fun q => absurd rfl q, (hh e).2.2⟩)
    · unfold execOp
      simp only [ho, hv, e1, e2, e3, Instr.sliceAt, Instr.slice, Option.map_some, Sem.run_bind, run_underlying hT, Result.andThen_ok, Instr.sliceBounds, Instr.sliceBound, asIntOf, Sem.run_pure,
        Sem.run_ite, if_pos (show 0 ≤ h ∧ h ≤ (cap : Int) from ⟨by omega, by omega⟩), if_pos (show 0 ≤ h ∧ h ≤ (h.toNat : Int) from ⟨by omega, by omega⟩), if_pos (show 0 ≤ i ∧ i ≤ (h.toNat : Int) from ⟨by omega, by omega⟩), run_sizeOf hI]
      rw [if_neg (by omega)]
/-- nil[:0:0] -/
theorem a_slice3n (T : TypeId) (x hi mx : Operand) {E s b : Nat} {z : Option Value} {j k : IntKind} (ho : o.op = .slice T x none (some hi) (some mx)) (hx : ev a x = some (.slice none 0 0))
    (hhi : ev a hi = some (.int j 0)) (hmx : ev a mx = some (.int k 0)) (hT : P.underlying T = some (.slice E)) (hI : tinf P E = some (z, s, b)) : APure P N o a H (.slice none 0 0) := by
  refine ⟨fun B0 w0 φ w ac r hf => ?_⟩
  have e1 : ac.eval x = .slice none 0 0 := Val.det rfl (ev_rel hf hx)
  have e2 := (ev_rel hf hhi).scalar rfl
  have e3 := (ev_rel hf hmx).scalar rfl
  refine ⟨.slice none 0 0, .snil, fun w _ => ?_⟩
  unfold execOp
  simp only [ho, e1, e2, e3, Instr.sliceAt, Instr.slice, Option.map_some, Option.map_none, Sem.run_bind, run_underlying hT, Result.andThen_ok, Instr.sliceBounds, Instr.sliceBound, asIntOf, Sem.run_pure,
    Sem.run_ite, run_sizeOf hI]
  simp
/-- append to a full slice: a new block. -/
theorem e_append_full (T : TypeId) (x y : Operand) {A n len A2 off2 n2 m fl2 E s b : Nat} {z : Value} {olds news : List Value} {g g2 : Blk}
    (ho : o.op = .call { callee := .builtin .append, args := #[x, y], argTypes := #[T, T] }) (hx : ev a x = some (.slice (some ⟨A, 0, none⟩) len (n + 1))) (hy : ev a y = some (gsl A2 off2 n2 m fl2))
    (hT : P.underlying T = some (.slice E)) (hI : tinf P E = some (some z, s, b)) (hzs : z.cells.size = s) (hs : 0 < s)
    (hA : H[A]? = some (some g)) (hn : g.cells.length = n) (hol : olds.length = len * s) (hco : ∀ (i : Nat) v, olds[i]? = some v → g.cells[i]? = some v) (hA2 : H[A2]? = some (some g2)) (hn2 : g2.cells.length = n2)
    (hl : news.length = m * s) (hc : ∀ (i : Nat) v, news[i]? = some v → g2.cells[off2 + i]? = some v)
    (hm : 0 < m) (hb : (len + m) * b ≤ 140737488355328) (h63 : len + m ≤ maxLen)
    {A0 : Nat} {H' : Heap} (hpl : Place H A0 H' ⟨olds ++ news, false⟩) : AEff P N o a H (gsl A0 0 ((len + m) * s) (len + m) s) H' := by
  refine eff_value (fun B0 w0 φ w ac r hf => ?_)
  obtain ⟨cap2, hu2, _, _, _, hmp2⟩ := slc_cells r hA2 hn2 (ev_rel hf hy)
  have hu := ev_rel hf hx
  generalize hv : ac.eval x = u at hu
  cases hu with
  | full _ _ _ q _ c hL hle hlm hh =>
    rw [lens_of hA] at hL
    simp only [Option.some.injEq] at hL
    obtain ⟨rfl, hmp⟩ := hh (by omega)
    obtain ⟨us, hus, hucell⟩ := cells_rel r hA2 hmp2 off2 hc
    obtain ⟨os, hold, hocell⟩ := cells_rel r hA hmp 0 (vs := olds) (fun i v h => by rw [Nat.zero_add]; exact hco i v h)
    obtain ⟨i, hi, e1, e2, e3⟩ := tinf_some hI
    subst e2 e3
    have hul : us.length = m * i.size := by have := hus.size; simp at this; omega
    have hosl : os.length = len * i.size := by have := hold.size; simp at this; omega
    have hrun := run_append_grow (P := P) w T o.type E i z hT hi e1 ⟨(φ A).b, (φ A).base + 0, none⟩ len len os hosl (fun j v h => hocell j v h) _ m cap2 us hul hucell (by omega)
      (by unfold maxLen at h63; omega) (growslice_fits (by omega) hb)
    have hge : len + m ≤ grownCap w (len + m) len E := grownCap_ge w _ _ _
    have hcs : (os.toArray ++ us.toArray ++ Builtin.zeroCells z.cells (grownCap w (len + m) len E - (len + m))).size = grownCap w (len + m) len E * i.size := by
      simp only [Array.size_append, List.size_toArray, size_zeroCells, hzs, hosl, hul, ← Nat.add_mul]
      congr 1; omega
    have hvr : VRel φ (lens H) (olds ++ news) (os.toArray ++ us.toArray) := hold.append hus
    obtain ⟨g1, g2⟩ := rel_new (w' := w.drew.alloc (.cells (os.toArray ++ us.toArray ++ Builtin.zeroCells z.cells (grownCap w (len + m) len E - (len + m))) E)) r (ro := false) (fz := (0, 0)) hpl hvr rfl rfl rfl rfl
      (by rw [hcs, Array.size_append, List.size_toArray, List.size_toArray, hul, hosl, ← Nat.add_mul]; exact Nat.mul_le_mul_right _ hge) (fun q hq => by rw [Array.getElem?_append_left hq]) (fun i _ h => by simp at h)
    refine ⟨_, .slice (some ⟨w.heap.size, 0, none⟩) (len + m) (grownCap w (len + m) len E), _, g1, g2, ?_, exec_append ho (by rw [hv, hu2]; exact hrun)⟩
    refine .slc _ _ _ ((len + m) * i.size) _ _ _ _ ?_ (Nat.le_refl _) hge (grownCap_le_maxLen w _ _ _ h63) (fun _ => ⟨by rw [upd_same], fun _ => by rw [upd_same, hcs]; exact Nat.le_of_eq (by rw [Nat.zero_add]), by rw [upd_same]⟩)
    rw [hpl.lens]; simp [hl, hol, Nat.add_mul]
end
section
variable {P : Program} {tt : TT} {sz : Nat} {ops : Array Oper} {Q : SPost} {rest : List Oper} {a : AF} {h h' h1 h2 : SH} {m : Mode} {t : Nat} {op : Op} {ty : TypeId} {pos : String} {aft : Array Edge} {p : Prop} {v : Value} {α : Type}
theorem o_makeMap {T : Nat} (hN : Nat.blt t sz = true) (k : ∀ A, GO (m.nw h) P sz ops Q rest ((t, .map (some A)) :: a) ((A, ⟨[], false⟩) :: h)) : GO m P sz ops Q (⟨some t, .makeMap T none, ty, pos, aft, none⟩ :: rest) a h :=
  o_new (v := fun A => .map (some A)) hN (fun _ _ _ _ _ hpl _ => e_makeMap T rfl hpl) k
theorem o_lookup [DecidableEq α] {T : Nat} {x y : Operand} {A K E s b : Nat} {tk : TK} {d : TypeDesc} {kf : α → Value} {l : List (α × Value)} {ro : Bool} {z : Value} {c : α} (ht : tt.Ok P) (hx : ev a x = some (.map (some A))) (hp : Pick h A ⟨mapC kf l, ro⟩ h1) (hk : ev a y = some (kf c))
    (hT : P.underlying T = some (.map K E)) (hK : P.underlying K = some d) (KF : KeyF d kf) (hE : tt.get E = some ⟨tk, s, b, some z⟩) (hz : constOk z = true) (hr : (mget l c).getD z = v) (hN : Nat.blt t sz = true)
    (k : GO .seq P sz ops Q rest ((t, v) :: a) h) : GO .seq P sz ops Q (⟨some t, .lookup T x y false, ty, pos, aft, none⟩ :: rest) a h := by
  obtain ⟨_, hI, hz'⟩ := te_inf (TT.get_ok ht hE)
  subst hr
  exact o_read (m := .seq) (fun h' => ∃ h1, Pick h' A ⟨mapC kf l, ro⟩ h1) ⟨_, hp⟩ (fun _ _ _ _ _ i ⟨_, hp⟩ hag => a_lookup T x y rfl ((hag.ev (by simp [Op.operands, Call.operands])).trans hx) ((hag.ev (by simp [Op.operands, Call.operands])).trans hk) (i.look hp) hT hK KF (hz' _ rfl ▸ hI) hz) hN trivial k
theorem o_mapUpdate [DecidableEq α] {T : Nat} {x y z : Operand} {A K E : Nat} {d : TypeDesc} {kf : α → Value} {l : List (α × Value)} {c : α} (hx : ev a x = some (.map (some A))) (hu : Upd h A ⟨mapC kf l, false⟩ ⟨mapC kf (mput l c v), false⟩ h') (hk : ev a y = some (kf c)) (hv : ev a z = some v)
    (hT : P.underlying T = some (.map K E)) (hK : P.underlying K = some d) (KF : KeyF d kf) (k : GO .seq P sz ops Q rest a h') : GO .seq P sz ops Q (⟨none, .mapUpdate T x y z, ty, pos, aft, none⟩ :: rest) a h :=
  o_upd (m := .seq) rfl hu (fun _ _ _ hA hag => e_mapUpdate T x y z rfl ((hag.ev (by simp [Op.operands, Call.operands])).trans hx) ((hag.ev (by simp [Op.operands, Call.operands])).trans hk) ((hag.ev (by simp [Op.operands, Call.operands])).trans hv) hA hT hK KF) trivial k
theorem o_slice3f {T : Nat} {x y z : Operand} {A off n len fl E s1 b1 : Nat} {z1 : Option Value} {j kk : IntKind} {i : Int} {e : TE} (ht : tt.Ok P) (hx : ev a x = some (gsl A off n len fl)) (hy : ev a y = some (.int j i)) (hz : ev a z = some (.int kk i)) (hT : tt.get T = some ⟨.slice E, s1, b1, z1⟩) (hE : tt.get E = some e)
    (hi : Sd (0 ≤ i ∧ i ≤ len)) (hN : Nat.blt t sz = true) (k : GO m.next P sz ops Q rest ((t, .slice (some ⟨A, off, none⟩) i.toNat (n + 1)) :: a) h) : GO m P sz ops Q (⟨some t, .slice T x none (some y) (some z), ty, pos, aft, none⟩ :: rest) a h :=
  o_pure (fun _ _ _ hag => let ⟨_, hI, _⟩ := te_inf (TT.get_ok ht hE); a_slice3f T x y z rfl ((hag.ev (by simp [Op.operands, Call.operands])).trans hx) ((hag.ev (by simp [Op.operands, Call.operands])).trans hy) ((hag.ev (by simp [Op.operands, Call.operands])).trans hz) (te_slice (TT.get_ok ht hT) rfl) hI hi.1) hN k
theorem o_slice3n {T : Nat} {x y z : Operand} {E s1 b1 : Nat} {z1 : Option Value} {j kk : IntKind} {e : TE} (ht : tt.Ok P) (hx : ev a x = some (.slice none 0 0)) (hy : ev a y = some (.int j 0)) (hz : ev a z = some (.int kk 0)) (hT : tt.get T = some ⟨.slice E, s1, b1, z1⟩) (hE : tt.get E = some e)
    (hN : Nat.blt t sz = true) (k : GO m.next P sz ops Q rest ((t, .slice none 0 0) :: a) h) : GO m P sz ops Q (⟨some t, .slice T x none (some y) (some z), ty, pos, aft, none⟩ :: rest) a h :=
  o_pure (fun _ _ _ hag => let ⟨_, hI, _⟩ := te_inf (TT.get_ok ht hE); a_slice3n T x y z rfl ((hag.ev (by simp [Op.operands, Call.operands])).trans hx) ((hag.ev (by simp [Op.operands, Call.operands])).trans hy) ((hag.ev (by simp [Op.operands, Call.operands])).trans hz) (te_slice (TT.get_ok ht hT) rfl) hI) hN k
theorem o_slice3 {T : Nat} {x w y z : Operand} {A off n len fl E s1 b1 s b : Nat} {z1 z2 : Option Value} {i' j kk : IntKind} {lo i : Int} {tk : TK} (ht : tt.Ok P) (hx : ev a x = some (gsl A off n len fl)) (hw : ev a w = some (.int i' lo)) (hy : ev a y = some (.int j i)) (hz : ev a z = some (.int kk i)) (hT : tt.get T = some ⟨.slice E, s1, b1, z1⟩) (hE : tt.get E = some ⟨tk, s, b, z2⟩)
    (hi : Sd ((0 ≤ lo ∧ lo ≤ i ∧ i ≤ len) ∧ lo < i)) (hN : Nat.blt t sz = true) (k : GO m.next P sz ops Q rest ((t, gsl A (off + lo.toNat * s) n (i - lo).toNat 0) :: a) h) : GO m P sz ops Q (⟨some t, .slice T x (some w) (some y) (some z), ty, pos, aft, none⟩ :: rest) a h :=
  o_pure (fun _ _ _ hag => let ⟨_, hI, _⟩ := te_inf (TT.get_ok ht hE); a_slice3 T x w y z rfl ((hag.ev (by simp [Op.operands, Call.operands])).trans hx) ((hag.ev (by simp [Op.operands, Call.operands])).trans hw) ((hag.ev (by simp [Op.operands, Call.operands])).trans hy) ((hag.ev (by simp [Op.operands, Call.operands])).trans hz) (te_slice (TT.get_ok ht hT) rfl) hI hi.1.1 hi.1.2) hN k
theorem o_newR2 {A2 A3 : Nat} {b g2 g3 : Blk} {v : Nat → Value} (hN : Nat.blt t sz = true) (hp : Pick h A2 g2 h1) (hq : Pick h A3 g3 h2) (hv : ∀ n0 A H H' a', H[A2]? = some (some g2) → H[A3]? = some (some g3) → Place H A H' b → Ag ⟨some t, op, ty, pos, aft, none⟩ a a' → AEff P ⟨sz, n0⟩ ⟨some t, op, ty, pos, aft, none⟩ a' H (v A) H')
    (hok : ∀ A, m.efOk ops ((A, b) :: h)) (k : ∀ A, GO (m.ef h) P sz ops Q rest ((t, v A) :: a) ((A, b) :: h)) : GO m P sz ops Q (⟨some t, op, ty, pos, aft, none⟩ :: rest) a h := by
  unfold GO
  cases m with
  | seq => exact fun E H n0 i => aops_plain rfl (aop_eff (hv n0 H.length H _ a (i.look hp) (i.look hq) (.app H b) (.refl _ _)) hN (by have := k H.length; unfold GO at this; exact this E _ n0 (i.new b)))
  | draw x l cl =>
    intro E H n0 pH i ip
    have k1 := k H.length
    unfold GO at k1
    obtain ⟨_, g⟩ := k1 E _ n0 ((true, x, H) :: pH) (i.new b) ⟨⟨rfl, rfl, i⟩, ip⟩
    exact ⟨_, .eff 1 hN trivial (by simp) (fun X a' hag hX => (hv n0 H.length (H ++ X) _ a' ((i.app X).look hp) ((i.app X).look hq) (place_free hX) hag).ceff) (efOk_l ip (hok H.length)) (efOk_cl (i.new b) (hok H.length)) g⟩
theorem o_append_full {T : Nat} {x y : Operand} {A n len A2 off2 n2 mm fl2 E s1 b1 s b : Nat} {tk : TK} {z1 : Option Value} {z : Value} {olds news : List Value} {g g2 : Blk} (ht : tt.Ok P) (hx : ev a x = some (.slice (some ⟨A, 0, none⟩) len (n + 1))) (hy : ev a y = some (gsl A2 off2 n2 mm fl2)) (hT : tt.get T = some ⟨.slice E, s1, b1, z1⟩) (hE : tt.get E = some ⟨tk, s, b, some z⟩)
    (hzs : (vcells z).length = s) (hs : Sd (0 < s)) (hp : Pick h A g h1) (hq : Pick h A2 g2 h2) (hn : Ln (g.cells.length = n)) (hco : Su (SubAt g.cells 0 olds)) (hol : Ln (olds.length = len * s)) (hn2 : Ln (g2.cells.length = n2)) (hc : Su (SubAt g2.cells off2 news)) (hl : Ln (news.length = mm * s)) (hN : Nat.blt t sz = true)
    (hb : Sd (0 < mm ∧ (len + mm) * b ≤ 140737488355328 ∧ len + mm ≤ maxLen)) (hok : ∀ A0, m.efOk ops ((A0, ⟨olds ++ news, false⟩) :: h)) (k : ∀ A0, GO (m.ef h) P sz ops Q rest ((t, gsl A0 0 ((len + mm) * s) (len + mm) s) :: a) ((A0, ⟨olds ++ news, false⟩) :: h)) :
    GO m P sz ops Q (⟨some t, .call { callee := .builtin .append, args := #[x, y], argTypes := #[T, T] }, ty, pos, aft, none⟩ :: rest) a h := by
  obtain ⟨_, hI, hz'⟩ := te_inf (TT.get_ok ht hE)
  have hzs' : z.cells.size = s := by rw [← Array.length_toList, vcells_ok, hzs]
  exact o_newR2 (v := fun A => gsl A 0 _ _ _) hN hp hq (fun _ _ _ _ _ hA hA2 hpl hag => e_append_full T x y rfl ((hag.ev (by simp [Op.operands, Call.operands])).trans hx) ((hag.ev (by simp [Op.operands, Call.operands])).trans hy) (te_slice (TT.get_ok ht hT) rfl) (hz' _ rfl ▸ hI) hzs' hs.1 hA hn.1 hol.1
    (fun i v hi => by have := hco.1 i v hi; rwa [Nat.zero_add] at this) hA2 hn2.1 hl.1 hc.1 hb.1.1 hb.1.2.1 hb.1.2.2 hpl) hok k
end
section
variable {P : Program} {f : FuncId} {fn : Func} {c : Code} {R : Value → SH → Prop} {h : SH} {x0 x1 x2 x3 x4 x5 x6 x7 x8 x9 x10 x11 : Value}
theorem w_body10 (hf : P.funcs[f]? = some fn) (hb : fn.body = some c) (hN : Nat.ble 10 fn.ntmps = true) (k : SWp P fn.ntmps c (bodyS P fn R) [(0, x0), (1, x1), (2, x2), (3, x3), (4, x4), (5, x5), (6, x6), (7, x7), (8, x8), (9, x9)] h) : SRun P f [x0, x1, x2, x3, x4, x5, x6, x7, x8, x9] h R := w_body hf hb hN k
theorem w_body11 (hf : P.funcs[f]? = some fn) (hb : fn.body = some c) (hN : Nat.ble 11 fn.ntmps = true) (k : SWp P fn.ntmps c (bodyS P fn R) [(0, x0), (1, x1), (2, x2), (3, x3), (4, x4), (5, x5), (6, x6), (7, x7), (8, x8), (9, x9), (10, x10)] h) : SRun P f [x0, x1, x2, x3, x4, x5, x6, x7, x8, x9, x10] h R := w_body hf hb hN k
theorem w_body12 (hf : P.funcs[f]? = some fn) (hb : fn.body = some c) (hN : Nat.ble 12 fn.ntmps = true) (k : SWp P fn.ntmps c (bodyS P fn R) [(0, x0), (1, x1), (2, x2), (3, x3), (4, x4), (5, x5), (6, x6), (7, x7), (8, x8), (9, x9), (10, x10), (11, x11)] h) : SRun P f [x0, x1, x2, x3, x4, x5, x6, x7, x8, x9, x10, x11] h R := w_body hf hb hN k
end
end Go.Gh
