/- A call that turns the heap in a region of a drawn order: what the callee has made is named anew. -/
import Derived.Test.YtinfmojbdaiogaaSlD
set_option linter.unusedVariables false
set_option linter.unusedSimpArgs false
set_option maxRecDepth 4000
namespace Go.Gh
open Go.RowKit

/-- A value under other names: u is v, where A is named ρ A. -/
inductive VR (ρ : Nat → Nat) (D : Nat → Prop) : Value → Value → Prop
  | const {v} (h : constOk v = true) : VR ρ D v v
  | ptr {A o n} (h : D A) : VR ρ D (.pointer (some ⟨A, o, some n⟩)) (.pointer (some ⟨ρ A, o, some n⟩))
  | slc {A o n len fl} (h : D A) : VR ρ D (.slice (some ⟨A, o, some n⟩) len fl) (.slice (some ⟨ρ A, o, some n⟩) len fl)
  | sdead : VR ρ D (.slice (some ⟨0, 0, none⟩) 0 0) (.slice (some ⟨0, 0, none⟩) 0 0)
  | agg {a b : Array Value} (h1 : a.size = b.size) (h2 : ∀ i (h : i < a.size) (h' : i < b.size), VR ρ D a[i] b[i]) : VR ρ D (.agg a) (.agg b)
  | tuple {a b : Array Value} (h1 : a.size = b.size) (h2 : ∀ i (h : i < a.size) (h' : i < b.size), VR ρ D a[i] b[i]) : VR ρ D (.tuple a) (.tuple b)
  | func {f : Fn} {a b c d : Array Value} (h1 : a.size = b.size) (h2 : ∀ i (h : i < a.size) (h' : i < b.size), VR ρ D a[i] b[i])
      (h3 : c.size = d.size) (h4 : ∀ i (h : i < c.size) (h' : i < d.size), VR ρ D c[i] d[i]) : VR ρ D (.func f a c) (.func f b d)
inductive VRs (ρ : Nat → Nat) (D : Nat → Prop) : List Value → List Value → Prop
  | nil : VRs ρ D [] []
  | cons {u v l m} (h : VR ρ D u v) (k : VRs ρ D l m) : VRs ρ D (u :: l) (v :: m)
theorem VRs.len {ρ : Nat → Nat} {D : Nat → Prop} {l m : List Value} (h : VRs ρ D l m) : l.length = m.length := by
  induction h with
  | nil => rfl
  | cons _ _ ih => simp [ih]
theorem VRs.get {ρ : Nat → Nat} {D : Nat → Prop} {l m : List Value} (h : VRs ρ D l m) : ∀ {i : Nat} {u : Value}, l[i]? = some u → ∃ v, m[i]? = some v ∧ VR ρ D u v := by
  induction h with
  | nil => intro i u h; simp at h
  | @cons u v l m h _ ih =>
    intro i w hw
    cases i with
    | zero => simp only [List.getElem?_cons_zero, Option.some.injEq] at hw; subst hw; exact ⟨v, rfl, h⟩
    | succ i => exact ih (by simpa using hw)
theorem VRs.at {ρ : Nat → Nat} {D : Nat → Prop} {l m : List Value} (h : VRs ρ D l m) (i : Nat) (h1 : i < (Array.mk l).size) (h2 : i < (Array.mk m).size) : VR ρ D (Array.mk l)[i] (Array.mk m)[i] := by
  obtain ⟨v, g1, g2⟩ := h.get (i := i) (u := l[i]'(by simpa using h1)) (List.getElem?_eq_getElem _)
  have : (Array.mk m)[i] = v := by
    have h2' : i < m.length := by simpa using h2
    rw [List.getElem?_eq_getElem h2'] at g1
    simpa using g1
  rw [this]; exact g2
theorem VRs.agg {ρ : Nat → Nat} {D : Nat → Prop} {l m : List Value} (h : VRs ρ D l m) : VR ρ D (.agg ⟨l⟩) (.agg ⟨m⟩) := .agg (by simpa using h.len) h.at
theorem VRs.tuple {ρ : Nat → Nat} {D : Nat → Prop} {l m : List Value} (h : VRs ρ D l m) : VR ρ D (.tuple ⟨l⟩) (.tuple ⟨m⟩) := .tuple (by simpa using h.len) h.at
theorem VRs.const {ρ : Nat → Nat} {D : Nat → Prop} : ∀ {l : List Value}, (∀ v ∈ l, constOk v = true) → VRs ρ D l l
  | [], _ => .nil
  | _ :: _, h => .cons (.const (h _ List.mem_cons_self)) (VRs.const fun v hv => h v (List.mem_cons_of_mem _ hv))
theorem VRs.app {ρ : Nat → Nat} {D : Nat → Prop} {l m l' m' : List Value} (h : VRs ρ D l m) (k : VRs ρ D l' m') : VRs ρ D (l ++ l') (m ++ m') := by
  induction h with
  | nil => exact k
  | cons h _ ih => exact .cons h ih
theorem VR.val {ρ : Nat → Nat} {D : Nat → Prop} {φ : Nat → Loc} {L L' : Lens} {u v : Value} (h : VR ρ D u v) (hD : ∀ A, D A → L' A = L (ρ A)) : ∀ {v' : Value}, Val φ L v v' → Val (fun A => φ (ρ A)) L' u v' := by
  induction h with
  | const hc => intro v' hv; rw [Val.det hc hv]; exact Val.const hc
  | @ptr A o n h =>
    intro v' hv
    generalize hq : Value.pointer (some ⟨ρ A, o, some n⟩) = q at hv
    cases hv with
    | ptr A' o' v' n' c hL hv h' => cases hq; exact .ptr _ _ _ _ _ (by rw [hD _ h]; exact hL) hv h'
    | _ => cases hq
  | @slc A o n len fl h =>
    intro v' hv
    generalize hq : Value.slice (some ⟨ρ A, o, some n⟩) len fl = q at hv
    cases hv with
    | slc A' o' v' n' len' fl' cap c hL hv hc hm h' => cases hq; exact .slc _ _ _ _ _ _ _ _ (by rw [hD _ h]; exact hL) hv hc hm h'
    | sdead => simp at hq
    | _ => cases hq
  | sdead => intro v' hv; cases hv with | sdead c cap hm => exact .sdead c cap hm
  | agg h1 _ ih => intro v' hv; cases hv with | agg a b g1 g2 => exact .agg _ _ (h1.trans g1) fun i hi hi' => ih i hi (by omega) (g2 i (by omega) hi')
  | tuple h1 _ ih => intro v' hv; cases hv with | tuple a b g1 g2 => exact .tuple _ _ (h1.trans g1) fun i hi hi' => ih i hi (by omega) (g2 i (by omega) hi')
  | func h1 _ h3 _ ih1 ih2 =>
    intro v' hv
    cases hv with
    | func f a b c d g1 g2 g3 g4 => exact .func _ _ _ _ _ (h1.trans g1) (fun i hi hi' => ih1 i hi (by omega) (g2 i (by omega) hi')) (h3.trans g3) fun i hi hi' => ih2 i hi (by omega) (g4 i (by omega) hi')
/-- A value that was there before: it reads as it read. -/
theorem old_val {D : Nat → Prop} {φ φ1 φ2 : Nat → Loc} {L L1 L2 : Lens} (hL : ∀ A m, L A = some m → D A) (h12 : ∀ A, D A → φ2 A = φ1 A ∧ L2 A = L1 A) {v v' : Value} (h : Val φ1 L1 v v') : ∀ {v0 : Value}, Val φ L v v0 → Val φ2 L2 v v' := by
  induction h with
  | bool b => intro v0 _; exact .bool b
  | int k n => intro v0 _; exact .int k n
  | str s => intro v0 _; exact .str s
  | pnil => intro v0 _; exact .pnil
  | ptr A o v n c h1 h2 h3 =>
    intro v0 h0
    generalize hq : Value.pointer (some ⟨A, o, some v⟩) = q at h0
    cases h0 with
    | ptr A' o' v' n' c' hL' hv' h' =>
      cases hq
      obtain ⟨e1, e2⟩ := h12 _ (hL _ _ hL')
      exact .ptr _ _ _ _ _ (by rw [e2]; exact h1) h2 (by rw [e1]; exact h3)
    | _ => cases hq
  | snil => intro v0 _; exact .snil
  | slc A o v n len fl cap c h1 h2 hc hm h3 =>
    intro v0 h0
    generalize hq : Value.slice (some ⟨A, o, some v⟩) len fl = q at h0
    cases h0 with
    | slc A' o' v' n' len' fl' cap' c' hL' hv' hc' hm' h' =>
      cases hq
      obtain ⟨e1, e2⟩ := h12 _ (hL _ _ hL')
      exact .slc _ _ _ _ _ _ _ _ (by rw [e2]; exact h1) h2 hc hm (by rw [e1]; exact h3)
    | _ => cases hq
  | full A o v n len c h1 h2 hm h3 =>
    intro v0 h0
    generalize hq : Value.slice (some ⟨A, o, none⟩) len (v + 1) = q at h0
    cases h0 with
    | full A' o' v' n' len' c' hL' hv' hm' h' =>
      cases hq
      obtain ⟨e1, e2⟩ := h12 _ (hL _ _ hL')
      exact .full _ _ _ _ _ _ (by rw [e2]; exact h1) h2 hm (by rw [e1]; exact h3)
    | sdead => simp at hq
    | _ => cases hq
  | map A n r h1 h3 =>
    intro v0 h0
    generalize hq : Value.map (some A) = q at h0
    cases h0 with
    | map A' n' r' hL' h' =>
      cases hq
      obtain ⟨e1, e2⟩ := h12 _ (hL _ _ hL')
      exact .map _ n _ (by rw [e2]; exact h1) (by rw [e1]; exact h3)
    | _ => cases hq
  | sdead c cap hm => intro v0 _; exact .sdead c cap hm
  | mnil => intro v0 _; exact .mnil
  | func f a b c d h1 _ h3 _ ih1 ih2 =>
    intro v0 h0
    cases h0 with
    | func _ _ b' _ d' g1 g2 g3 g4 => exact .func f a b c d h1 (fun i hi hi' => ih1 i hi hi' (g2 i hi (by omega))) h3 (fun i hi hi' => ih2 i hi hi' (g4 i hi (by omega)))
  | fnil => intro v0 _; exact .fnil
  | inil => intro v0 _; exact .inil
  | iface t v v' _ ih => intro v0 h0; cases h0 with | iface _ _ _ h => exact .iface t v v' (ih h)
  | agg a b h1 _ ih => intro v0 h0; cases h0 with | agg _ b' g1 g2 => exact .agg a b h1 fun i hi hi' => ih i hi hi' (g2 i hi (by omega))
  | tuple a b h1 _ ih => intro v0 h0; cases h0 with | tuple _ b' g1 g2 => exact .tuple a b h1 fun i hi hi' => ih i hi hi' (g2 i hi (by omega))

/-- Blocks under other names; of p those that did not turn. -/
inductive SHR (ρ : Nat → Nat) (D : Nat → Prop) (p : SH) : SH → SH → Prop
  | nil : SHR ρ D p [] []
  | same {h} (k : ∀ x ∈ h, x ∈ p) : SHR ρ D p h h
  | cons {A A' c c' ro h h'} (e : ρ A = A') (h1 : VRs ρ D c c') (k : SHR ρ D p h h') : SHR ρ D p ((A, ⟨c, ro⟩) :: h) ((A', ⟨c', ro⟩) :: h')
  | keep {x h h'} (e : x ∈ p) (k : SHR ρ D p h h') : SHR ρ D p (x :: h) (x :: h')
theorem SHR.get {ρ : Nat → Nat} {D : Nat → Prop} {p h h' : SH} (k : SHR ρ D p h h') (hp : ∀ y ∈ p, ρ y.1 = y.1) : ∀ x ∈ h, (x ∈ p ∧ x ∈ h') ∨ ∃ c', (ρ x.1, ⟨c', x.2.ro⟩) ∈ h' ∧ VRs ρ D x.2.cells c' := by
  induction k with
  | nil => intro x hx; cases hx
  | same k => intro x hx; exact .inl ⟨k x hx, hx⟩
  | cons e h1 _ ih =>
    intro x hx
    rcases List.mem_cons.1 hx with rfl | hx
    · exact .inr ⟨_, by rw [e]; exact List.mem_cons_self, h1⟩
    · rcases ih x hx with ⟨g1, g2⟩ | ⟨c', g1, g2⟩
      · exact .inl ⟨g1, List.mem_cons_of_mem _ g2⟩
      · exact .inr ⟨c', List.mem_cons_of_mem _ g1, g2⟩
  | keep e _ ih =>
    intro x hx
    rcases List.mem_cons.1 hx with rfl | hx
    · exact .inl ⟨e, List.mem_cons_self⟩
    · rcases ih x hx with ⟨g1, g2⟩ | ⟨c', g1, g2⟩
      · exact .inl ⟨g1, List.mem_cons_of_mem _ g2⟩
      · exact .inr ⟨c', List.mem_cons_of_mem _ g1, g2⟩

def look (g : SH) (A : Nat) : Option Blk := (g.find? fun x => Nat.beq x.1 A).map (·.2)
theorem look_mem {g : SH} {A : Nat} {b : Blk} (h : look g A = some b) : (A, b) ∈ g := by
  unfold look at h
  cases hf : g.find? fun x => Nat.beq x.1 A with
  | none => rw [hf] at h; cases h
  | some x =>
    rw [hf] at h
    simp only [Option.map_some, Option.some.injEq] at h
    have h1 := List.mem_of_find?_eq_some hf
    have h2 := Nat.eq_of_beq_eq_true (List.find?_some (p := fun x : Nat × Blk => Nat.beq x.1 A) hf)
    rw [← h2, ← h]; exact h1
theorem look_none {g : SH} {A : Nat} (h : look g A = none) : ∀ x ∈ g, x.1 ≠ A := by
  intro x hx e
  unfold look at h
  simp only [Option.map_eq_none_iff, List.find?_eq_none] at h
  exact h x hx (by rw [e]; exact Nat.beq_refl A)
theorem look_of {g : SH} (hn : (g.map (·.1)).Nodup) {A : Nat} {b : Blk} (h : (A, b) ∈ g) : look g A = some b := by
  induction g with
  | nil => cases h
  | cons x g ih =>
    simp only [List.map_cons, List.nodup_cons] at hn
    unfold look
    rw [List.find?_cons]
    rcases List.mem_cons.1 h with rfl | h
    · simp [Nat.beq_refl]
    · have hne : x.1 ≠ A := fun e => hn.1 (List.mem_map.2 ⟨_, h, e.symm⟩)
      rw [show Nat.beq x.1 A = false from by
        cases hb : Nat.beq x.1 A with
        | true => exact absurd (Nat.eq_of_beq_eq_true hb) hne
        | false => rfl]
      exact ih hn.2 h
/-- The heap behind a call, with k new blocks. -/
def canon (H : Heap) (g : SH) (k : Nat) : Heap := (List.range (H.length + k)).map fun A => match look g A with | some b => some b | none => H.getD A none
theorem canon_len {H : Heap} {g : SH} {k : Nat} : (canon H g k).length = H.length + k := by simp [canon]
theorem canon_get {H : Heap} {g : SH} {k A : Nat} (h : A < H.length + k) : (canon H g k)[A]? = some (match look g A with | some b => some b | none => H.getD A none) := by
  unfold canon; rw [List.getElem?_map, List.getElem?_range h]; rfl

theorem perm_disj {l m : List Nat} {g : List Nat} (hp : g.Perm (l ++ m)) (hn : g.Nodup) : (∀ x ∈ l, x ∉ m) ∧ l.Nodup := by
  have := hp.nodup_iff.1 hn
  rw [List.nodup_append] at this
  exact ⟨fun x hx hm => this.2.2 x hx x hm rfl, this.1⟩

theorem call_at {P : Program} {f : FuncId} {as : List Value} {p : SH} {R : Value → SH → Prop} (hr : SRun P f as p R) {H H' : Heap} {n : Nat} (i : Inv ⟨H, p⟩ p H) {k : Nat} {V : List Nat → Value} {G : List Nat → SH}
    (hfun : ∀ r q, R r q → ∃ ns, ns.length = k ∧ r = V ns ∧ Take q (G ns)) (hkeys : ∀ ns, ns.length = k → ((G ns).map (·.1)).Perm (ns ++ p.map (·.1)))
    (hpar : ∀ (ns ms : List Nat) (ρ : Nat → Nat) (D : Nat → Prop), ns.length = k → ms.length = k → ms.map ρ = ns → (∀ y ∈ p, ρ y.1 = y.1) → (∀ A ∈ ms, D A) → (∀ y ∈ p, D y.1) → VR ρ D (V ms) (V ns) ∧ SHR ρ D p (G ms) (G ns))
    (hfree : ∀ A, n ≤ A → A < n + k → ∀ g, H[A]? ≠ some (some g)) (hin : ∀ x ∈ G (List.range' n k), H'[x.1]? = some (some x.2)) (hoth : ∀ A, (∀ x ∈ G (List.range' n k), x.1 ≠ A) → ∀ g, H'[A]? = some (some g) ↔ H[A]? = some (some g))
    {B0 : Nat} {w0 w : World} {φ : Nat → Loc} {vs : Array Value} (hrel : Rel B0 w0 φ H w) (hvs : VRel φ (lens H) as vs) :
    Calls P f vs w fun e w' => ∃ φ' v', Ext φ (lens H) φ' (lens H') ∧ Rel B0 w0 φ' H' w' ∧ e = .returned v' ∧ Val φ' (lens H') (V (List.range' n k)) v' := by
  unfold SRun at hr
  have h1 := hr H i
  unfold Run at h1
  refine (h1 B0 w0 φ (lens H) φ w vs (.refl _ _) hrel hvs).mono ?_
  rintro e w' ⟨φ2, r, H2, v, hext, hrel2, rfl, hv, q, hR, i2⟩
  obtain ⟨ns, hk, rfl, ht⟩ := hfun r q hR
  have i3 := i2.le ht.le
  generalize hms : List.range' n k = ms at hin hoth ⊢
  have hmk : ms.length = k := by rw [← hms, List.length_range']
  have hmem : ∀ A, A ∈ ms ↔ n ≤ A ∧ A < n + k := fun A => by rw [← hms, List.mem_range'_1]
  -- names
  have hpk := hkeys ns hk
  have hpm := hkeys ms hmk
  obtain ⟨hdis, hnd⟩ := perm_disj hpk i3.nd
  have hpold : ∀ y ∈ p, y.1 < H.length := fun y hy => (List.getElem?_eq_some_iff.1 (i.sat y hy)).1
  have hpms : ∀ y ∈ p, y.1 ∉ ms := fun y hy h => hfree y.1 ((hmem _).1 h).1 ((hmem _).1 h).2 y.2 (i.sat y hy)
  have hns : ∀ x ∈ ns, H.length ≤ x := by
    intro x hx
    rcases Nat.lt_or_ge x H.length with hlt | hge
    · obtain ⟨b, hb, e⟩ := List.mem_map.1 (hpk.mem_iff.2 (List.mem_append_left _ hx))
      obtain ⟨y, hy, e2⟩ := i3.own b hb (by simp only; omega)
      exact absurd (List.mem_map.2 ⟨y, hy, by omega⟩) (hdis x hx)
    · exact hge
  let ρ : Nat → Nat := fun A => if n ≤ A ∧ A < n + k then ns.getD (A - n) 0 else A
  have hρo : ∀ A, A ∉ ms → ρ A = A := fun A h => if_neg (fun k => h ((hmem A).2 k))
  have hρe : ∀ A, A ∈ ms → ρ A = ns.getD (A - n) 0 := fun A h => if_pos ((hmem A).1 h)
  have hρn : ∀ A, A ∈ ms → ρ A ∈ ns := fun A h => by
    obtain ⟨g1, g2⟩ := (hmem A).1 h
    rw [hρe A h, List.getD_eq_getElem?_getD, List.getElem?_eq_getElem (by omega)]
    exact List.getElem_mem _
  have hmap : ms.map ρ = ns := by
    apply List.ext_getElem?
    intro j
    rw [List.getElem?_map]
    rcases Nat.lt_or_ge j k with hj | hj
    · have e1 : ms[j]? = some (n + j) := by rw [← hms, List.getElem?_range' hj, Nat.one_mul]
      rw [e1, Option.map_some, hρe _ ((hmem _).2 ⟨by omega, by omega⟩), Nat.add_sub_cancel_left, List.getD_eq_getElem?_getD, List.getElem?_eq_getElem (by omega)]; rfl
    · rw [List.getElem?_eq_none (by omega), List.getElem?_eq_none (by omega)]; rfl
  have hρinj : ∀ A A', (A ∈ ms ∨ A < H.length) → (A' ∈ ms ∨ A' < H.length) → ρ A = ρ A' → A = A' := by
    intro A A' hA hA' he
    by_cases h1 : A ∈ ms <;> by_cases h2 : A' ∈ ms
    · rw [hρe A h1, hρe A' h2] at he
      obtain ⟨a1, a2⟩ := (hmem A).1 h1
      obtain ⟨b1, b2⟩ := (hmem A').1 h2
      rw [List.getD_eq_getElem?_getD, List.getD_eq_getElem?_getD, List.getElem?_eq_getElem (by omega), List.getElem?_eq_getElem (by omega)] at he
      have he' : ns[A - n]'(by omega) = ns[A' - n]'(by omega) := he
      have hpw := List.pairwise_iff_getElem.1 hnd
      rcases Nat.lt_trichotomy (A - n) (A' - n) with h | h | h
      · exact absurd he' (hpw _ _ (by omega) (by omega) h)
      · omega
      · exact absurd he'.symm (hpw _ _ (by omega) (by omega) h)
    · rw [hρo A' h2] at he
      have := hns _ (hρn A h1)
      rcases hA' with h | h
      · exact absurd h h2
      · omega
    · rw [hρo A h1] at he
      have := hns _ (hρn A' h2)
      rcases hA with h | h
      · exact absurd h h1
      · omega
    · rw [hρo A h1, hρo A' h2] at he; exact he
  obtain ⟨hV, hG⟩ := hpar ns ms ρ (fun A => A ∈ ms ∨ A ∈ p.map (·.1)) hk hmk hmap (fun y hy => hρo _ (hpms y hy)) (fun A h => .inl h) (fun y hy => .inr (List.mem_map.2 ⟨y, hy, rfl⟩))
  -- blocks
  have hkeyG : ∀ A, (A ∈ ms ∨ A ∈ p.map (·.1)) → ∃ b, (A, b) ∈ G ms := by
    intro A hA
    obtain ⟨b, hb, e⟩ := List.mem_map.1 (hpm.mem_iff.2 (by rcases hA with h | h; exact List.mem_append_left _ h; exact List.mem_append_right _ h))
    exact ⟨b.2, by rw [← e]; exact hb⟩
  have hget : ∀ A g, H'[A]? = some (some g) → (A ∈ ms ∨ A < H.length) ∧ ((H2[ρ A]? = some (some g) ∧ H[A]? = some (some g) ∧ A ∉ ms) ∨ ∃ c', H2[ρ A]? = some (some ⟨c', g.ro⟩) ∧ VRs ρ (fun A => A ∈ ms ∨ A ∈ p.map (·.1)) g.cells c') := by
    intro A g hA
    by_cases hx : ∃ b, (A, b) ∈ G ms
    · obtain ⟨b, hb⟩ := hx
      have := hin _ hb
      rw [hA] at this
      simp only [Option.some.injEq] at this
      subst this
      have hdom : A ∈ ms ∨ A < H.length := by
        rcases List.mem_append.1 (hpm.mem_iff.1 (List.mem_map.2 ⟨_, hb, rfl⟩)) with h | h
        · exact .inl h
        · obtain ⟨y, hy, e⟩ := List.mem_map.1 h
          have := hpold y hy
          exact .inr (by simp only at e; omega)
      refine ⟨hdom, ?_⟩
      rcases hG.get (fun y hy => hρo _ (hpms y hy)) _ hb with ⟨g1, g2⟩ | ⟨c', g1, g2⟩
      · exact .inl ⟨by rw [hρo A (hpms _ g1)]; exact i3.sat _ g2, i.sat _ g1, hpms _ g1⟩
      · exact .inr ⟨c', i3.sat _ g1, g2⟩
    · have hno : ∀ x ∈ G ms, x.1 ≠ A := fun x hxm e => hx ⟨x.2, by rw [← e]; exact hxm⟩
      have hA2 := (hoth A hno g).1 hA
      have hl := (List.getElem?_eq_some_iff.1 hA2).1
      have hnm : A ∉ ms := fun h => hx (hkeyG A (.inl h))
      refine ⟨.inr hl, .inl ⟨?_, hA2, hnm⟩⟩
      rw [hρo A hnm, i3.keep A hl fun y hy e => hx (hkeyG A (.inr (List.mem_map.2 ⟨y, hy, e⟩)))]
      exact hA2
  have hlen : ∀ A g, H'[A]? = some (some g) → lens H' A = lens H2 (ρ A) := by
    intro A g hA
    rw [lens_of hA]
    rcases (hget A g hA).2 with ⟨g1, _⟩ | ⟨c', g1, g2⟩
    · rw [lens_of g1]
    · rw [lens_of g1, g2.len]
  have hlenD : ∀ A, (A ∈ ms ∨ A ∈ p.map (·.1)) → lens H' A = lens H2 (ρ A) := fun A h => by
    obtain ⟨b, hb⟩ := hkeyG A h
    exact hlen A b (hin _ hb)
  -- what was there is there
  have hlive : ∀ A m, lens H A = some m → A ∉ ms ∧ ∃ g, H'[A]? = some (some g) := by
    intro A m hA
    obtain ⟨g, h1, _⟩ := lens_live hA
    have hnm : A ∉ ms := fun h => hfree A ((hmem _).1 h).1 ((hmem _).1 h).2 g h1
    refine ⟨hnm, ?_⟩
    by_cases hx : ∃ b, (A, b) ∈ G ms
    · obtain ⟨b, hb⟩ := hx; exact ⟨b, hin _ hb⟩
    · exact ⟨g, (hoth A (fun x hxm e => hx ⟨x.2, by rw [← e]; exact hxm⟩) g).2 h1⟩
  have hold : ∀ A, (∃ m, lens H A = some m) → φ2 (ρ A) = φ2 A ∧ lens H' A = lens H2 A := by
    rintro A ⟨m, hA⟩
    obtain ⟨h1, g, h2⟩ := hlive A m hA
    exact ⟨by rw [hρo A h1], by rw [hlen A g h2, hρo A h1]⟩
  refine ⟨fun A => φ2 (ρ A), v, fun A n hA => ?_, ⟨hrel2.below, hrel2.b0, fun A g hA => ?_, fun A g hA hro => ?_, fun A A' g g' hA hro hA' he => ?_⟩, rfl, hV.val hlenD hv⟩
  · obtain ⟨n', g1, g2⟩ := hext A n hA
    obtain ⟨q1, q2⟩ := hold A ⟨n, hA⟩
    refine ⟨n', by rw [q2]; exact g1, ?_⟩
    show (n' = n ∧ φ2 (ρ A) = φ A) ∨ (n < n' ∧ ((φ A).mp = true → φ2 (ρ A) = φ A))
    rw [q1]; exact g2
  · obtain ⟨hlt, hc⟩ := hget A g hA
    rcases hc with ⟨g1, g2, g3⟩ | ⟨c', g1, g2⟩
    · obtain ⟨o, c, k1, k2, k3, k5⟩ := (hrel2.blk _ _ g1).any
      obtain ⟨o0, c0, _, _, _, j5⟩ := (hrel.blk _ _ g2).any
      refine ⟨o, c, k1, k2, k3, fun j x hx => ?_⟩
      obtain ⟨x', m1, m2⟩ := k5 j x hx
      obtain ⟨x0, _, m3⟩ := j5 j x hx
      exact ⟨x', m1, old_val (D := fun B => ∃ m, lens H B = some m) (fun B m h => ⟨m, h⟩) hold m2 m3⟩
    · obtain ⟨o, c, k1, k2, k3, k5⟩ := (hrel2.blk _ _ g1).any
      refine ⟨o, c, k1, ?_, by rw [g2.len]; exact k3, fun j x hx => ?_⟩
      · cases k2 with
        | cells hm hs hf => exact .cells hm hs hf
        | map hm hb hl => exact .map hm hb (by rw [g2.len]; exact hl)
      obtain ⟨y, m1, m2⟩ := g2.get hx
      obtain ⟨x', m3, m4⟩ := k5 j y m1
      exact ⟨x', m3, m2.val hlenD m4⟩
  · rcases (hget A g hA).2 with ⟨g1, _⟩ | ⟨c', g1, _⟩
    · exact hrel2.own _ _ g1 hro
    · exact hrel2.own _ _ g1 hro
  · obtain ⟨d1, hc⟩ := hget A g hA
    obtain ⟨d2, hc'⟩ := hget A' g' hA'
    obtain ⟨y, hy⟩ : ∃ y, H2[ρ A']? = some (some y) := by rcases hc' with ⟨g1, _⟩ | ⟨c', g1, _⟩ <;> exact ⟨_, g1⟩
    refine hρinj A' A d2 d1 ?_
    rcases hc with ⟨g1, _⟩ | ⟨c', g1, _⟩
    · exact hrel2.inj _ _ _ _ g1 hro hy he
    · exact hrel2.inj _ _ _ _ g1 hro hy he
/-- What the caller knows behind the call. -/
theorem canon_in {p : SH} {H : Heap} (i : Inv ⟨H, p⟩ p H) {k : Nat} {G : List Nat → SH} (hkeys : ∀ ns, ns.length = k → ((G ns).map (·.1)).Perm (ns ++ p.map (·.1))) :
    (∀ x ∈ G (List.range' H.length k), (canon H (G (List.range' H.length k)) k)[x.1]? = some (some x.2)) ∧ ((G (List.range' H.length k)).map (·.1)).Nodup ∧ (∀ x ∈ G (List.range' H.length k), x.1 < H.length + k) ∧ ∀ x ∈ G (List.range' H.length k), x.1 < H.length → ∃ y ∈ p, y.1 = x.1 := by
  generalize hms : List.range' H.length k = ms
  have hmk : ms.length = k := by rw [← hms, List.length_range']
  have hmem : ∀ A, A ∈ ms ↔ H.length ≤ A ∧ A < H.length + k := fun A => by rw [← hms, List.mem_range'_1]
  have hpm := hkeys ms hmk
  have hpold : ∀ y ∈ p, y.1 < H.length := fun y hy => (List.getElem?_eq_some_iff.1 (i.sat y hy)).1
  have hmnd : ((G ms).map (·.1)).Nodup := by
    refine hpm.nodup_iff.2 (List.nodup_append.2 ⟨by rw [← hms]; exact List.nodup_range', i.nd, ?_⟩)
    rintro a ha b hb rfl
    obtain ⟨y, hy, rfl⟩ := List.mem_map.1 hb
    have := hpold y hy
    have := (hmem _).1 ha
    omega
  have hall : ∀ x ∈ G ms, x.1 < H.length + k := by
    intro x hx
    rcases List.mem_append.1 (hpm.mem_iff.1 (List.mem_map.2 ⟨x, hx, rfl⟩)) with h | h
    · exact ((hmem _).1 h).2
    · obtain ⟨y, hy, e⟩ := List.mem_map.1 h; have := hpold y hy; omega
  refine ⟨fun x hx => ?_, hmnd, hall, fun x hx hlt => ?_⟩
  · rw [canon_get (hall x hx), look_of hmnd (show (x.1, x.2) ∈ G ms from hx)]
  · rcases List.mem_append.1 (hpm.mem_iff.1 (List.mem_map.2 ⟨x, hx, rfl⟩)) with h | h
    · have := ((hmem _).1 h).1; omega
    · obtain ⟨y, hy, e⟩ := List.mem_map.1 h; exact ⟨y, hy, e⟩
theorem canon_inv {E : Ent} {h p : SH} {H : Heap} (i0 : Inv E h H) (ht : Take h p) {k : Nat} {G : List Nat → SH} (hkeys : ∀ ns, ns.length = k → ((G ns).map (·.1)).Perm (ns ++ p.map (·.1))) :
    Inv E (G (List.range' H.length k)) (canon H (G (List.range' H.length k)) k) := by
  have i := i0.le ht.le
  obtain ⟨h1, h2, h3, h4⟩ := canon_in i.refl hkeys
  refine ⟨h1, h2, fun x hx hlt => ?_, by rw [canon_len]; have := i.len; omega, fun A hA hne => ?_⟩
  · obtain ⟨y, hy, e⟩ := h4 x hx (by have := i.len; omega)
    obtain ⟨z, hz, e2⟩ := i.own y hy (by omega)
    exact ⟨z, hz, by omega⟩
  · have hAl : A < H.length := by have := i.len; omega
    rw [canon_get (by omega)]
    cases hl : look (G (List.range' H.length k)) A with
    | some b =>
      obtain ⟨y, hy, e⟩ := h4 _ (look_mem hl) hAl
      obtain ⟨z, hz, e2⟩ := i.own y hy (by simp only at e; omega)
      exact absurd (by simp only at e; omega) (hne z hz)
    | none =>
      show some (H.getD A none) = _
      rw [List.getD_eq_getElem?_getD, List.getElem?_eq_getElem hAl, Option.getD_some, ← List.getElem?_eq_getElem hAl]
      exact i.keep A hA hne
theorem rho_pick {p p1 : SH} {ρ : Nat → Nat} {A : Nat} {b : Blk} (hρ : ∀ y ∈ p, ρ y.1 = y.1) (h : Pick p A b p1) : ρ A = A := hρ _ h.mem
theorem dom_pick {p p1 : SH} {D : Nat → Prop} {A : Nat} {b : Blk} (hD : ∀ y ∈ p, D y.1) (h : Pick p A b p1) : D A := hD _ h.mem
theorem VR.ptr' {ρ : Nat → Nat} {D : Nat → Prop} {A A' o n : Nat} (e : ρ A = A') (h : D A) : VR ρ D (gptr A o n) (gptr A' o n) := by subst e; exact .ptr h
theorem VR.slc' {ρ : Nat → Nat} {D : Nat → Prop} {A A' o n len fl : Nat} (e : ρ A = A') (h : D A) : VR ρ D (gsl A o n len fl) (gsl A' o n len fl) := by subst e; exact .slc h
theorem bytesV_const (l : List UInt8) : ∀ v ∈ bytesV l, constOk v = true := by
  intro v hv; unfold bytesV at hv; obtain ⟨_, _, rfl⟩ := List.mem_map.1 hv; rfl
theorem map_const {α : Type} {f : α → Value} {l : List α} (h : ∀ x, constOk (f x) = true) : ∀ v ∈ l.map f, constOk v = true := by
  intro v hv; obtain ⟨_, _, rfl⟩ := List.mem_map.1 hv; exact h _
theorem recs_const {α : Type} {f : α → List Value} {l : List α} (h : ∀ x, ∀ v ∈ f x, constOk v = true) : ∀ v ∈ recs f l, constOk v = true := by
  induction l with
  | nil => intro v hv; cases hv
  | cons x r ih =>
    intro v hv
    rcases List.mem_append.1 hv with hv | hv
    · exact h x v hv
    · exact ih v hv

section
variable {P : Program} {sz : Nat} {ops : Array Oper} {Q : SPost} {rest : List Oper} {a : AF} {h : SH} {t : Nat} {ty : TypeId} {pos : String} {aft : Array Edge}
theorem o_callK {x : Operand} {xs : List Operand} {ts : Array TypeId} {f : FuncId} {first captured : Array Value} {as : List Value} {R : Value → SH → Prop} {i0 : Nat} {last : SPast} {cl : SCl} {k : Nat} {V : List Nat → Value} {G : List Nat → SH} {p : SH}
    (hx : ev a x = some (.func (.func f) first captured)) (hxs : evs a xs = some as) (hf : enters P f = true) (hN : Nat.blt t sz = true) (hr : SRun P f (first.toList ++ as ++ captured.toList) p R) (ht : Take h p)
    (hfun : ∀ r q, R r q → ∃ ns, ns.length = k ∧ r = V ns ∧ Take q (G ns)) (hkeys : ∀ ns, ns.length = k → ((G ns).map (·.1)).Perm (ns ++ p.map (·.1)))
    (hpar : ∀ (ns ms : List Nat) (ρ : Nat → Nat) (D : Nat → Prop), ns.length = k → ms.length = k → ms.map ρ = ns → (∀ y ∈ p, ρ y.1 = y.1) → (∀ A ∈ ms, D A) → (∀ y ∈ p, D y.1) → VR ρ D (V ms) (V ns) ∧ SHR ρ D p (G ms) (G ns))
    (hok : ∀ ms, ms.length = k → (Mode.draw i0 last cl).efOk ops (G ms)) (kk : ∀ ms, ms.length = k → GO ((Mode.draw i0 last cl).ef h) P sz ops Q rest ((t, V ms) :: a) (G ms)) :
    GO (.draw i0 last cl) P sz ops Q (⟨some t, .call { callee := .value x, args := xs.toArray, argTypes := ts }, ty, pos, aft, none⟩ :: rest) a h := by
  unfold GO
  intro E H n0 pH i ip
  have hk : (List.range' H.length k).length = k := List.length_range'
  have kk' := kk _ hk
  unfold GO at kk'
  obtain ⟨_, g⟩ := kk' E _ n0 ((true, i0, H) :: pH) (canon_inv i ht hkeys) ⟨⟨rfl, rfl, i⟩, ip⟩
  refine ⟨_, .eff k hN trivial canon_len (fun X a' hag hX => ⟨fun B0 w0 φ w ac hrel hfr => ?_⟩) (efOk_l ip (hok _ hk)) (efOk_cl (canon_inv i ht hkeys) (hok _ hk)) g⟩
  have hx' : ev a' x = some (.func (.func f) first captured) := (hag.ev (by simp [Op.operands, Call.operands])).trans hx
  have hxs' : evs a' xs = some as := (evs_congr fun y hy => hag.ev (by simp [Op.operands, Call.operands, hy])).trans hxs
  have e1 := ev_rel hfr hx'
  have e2 := evs_rel hfr hxs'
  refine .inr ?_
  generalize hu : ac.eval x = u at e1
  cases e1 with
  | func _ _ b _ d q1 q2 q3 q4 =>
    have hvr := ((VRel.of_arrays q1 q2).append e2).append (VRel.of_arrays q3 q4)
    obtain ⟨c1, c2, c3, c4⟩ := canon_in (i.le ht.le).refl hkeys
    refine ⟨f, b ++ (xs.map ac.eval).toArray ++ d, ?_, call_at hr ((i.app X).le ht.le).refl hfun hkeys hpar (fun A h1 h2 g hg => ?_) (fun x hx => ?_) (fun A hA g => ?_) hrel hvr⟩
    rotate_left
    · have := hX (A - H.length) (by omega)
      rw [List.getElem?_append_right h1, this] at hg; cases hg
    · rw [List.getElem?_append_left (by rw [canon_len]; exact c3 x hx)]; exact c1 x hx
    · rcases Nat.lt_or_ge A (H.length + k) with hl | hl
      · rw [List.getElem?_append_left (by rw [canon_len]; exact hl), canon_get hl]
        have hlk : look (G (List.range' H.length k)) A = none := by
          cases hq : look (G (List.range' H.length k)) A with
          | none => rfl
          | some b => exact absurd rfl (hA _ (look_mem hq))
        rw [hlk]
        rcases Nat.lt_or_ge A H.length with hl2 | hl2
        · rw [List.getElem?_append_left hl2]
          show some (H.getD A none) = _ ↔ _
          rw [List.getD_eq_getElem?_getD, List.getElem?_eq_getElem hl2]; rfl
        · rw [List.getElem?_append_right hl2, hX (A - H.length) (by omega)]
          show some (H.getD A none) = _ ↔ _
          rw [List.getD_eq_getElem?_getD, List.getElem?_eq_none hl2]; rfl
      · rw [List.getElem?_append_right (by rw [canon_len]; exact hl), canon_len, List.getElem?_drop, List.getElem?_append_right (by omega), show k + (A - (H.length + k)) = A - H.length by omega]
    unfold execOp
    simp only [resolve, List.map_toArray, hu, Deferred.ofValue, Sem.run_bind, Sem.run_pure, Result.andThen_ok, invoke]
    exact run_callFunc_enters hf _ w
/-- A call that makes nothing that is kept. -/
theorem o_callE0 {x : Operand} {xs : List Operand} {ts : Array TypeId} {f : FuncId} {first captured : Array Value} {as : List Value} {v : Value} {g : SH} {i0 : Nat} {last : SPast} {cl : SCl} {p : SH}
    (hx : ev a x = some (.func (.func f) first captured)) (hxs : evs a xs = some as) (hf : enters P f = true) (hN : Nat.blt t sz = true) (hr : SRun P f (first.toList ++ as ++ captured.toList) p (fun r q => r = v ∧ q = g) ∧ Take h p)
    (hkeys : (g.map (·.1)).Perm (p.map (·.1))) (hpar : ∀ (ρ : Nat → Nat) (D : Nat → Prop), (∀ y ∈ p, ρ y.1 = y.1) → (∀ y ∈ p, D y.1) → VR ρ D v v ∧ SHR ρ D p g g)
    (hok : (Mode.draw i0 last cl).efOk ops g) (kk : GO ((Mode.draw i0 last cl).ef h) P sz ops Q rest ((t, v) :: a) g) :
    GO (.draw i0 last cl) P sz ops Q (⟨some t, .call { callee := .value x, args := xs.toArray, argTypes := ts }, ty, pos, aft, none⟩ :: rest) a h :=
  o_callK (k := 0) (V := fun _ => v) (G := fun _ => g) hx hxs hf hN hr.1 hr.2 (fun r q ⟨h1, h2⟩ => ⟨[], rfl, h1, h2 ▸ .nil⟩) (fun ns h => by rw [List.length_eq_zero_iff.1 h]; exact hkeys)
    (fun _ _ ρ D _ _ _ h1 _ h2 => hpar ρ D h1 h2) (fun _ _ => hok) (fun _ _ => kk)
/-- A call that makes one new block. -/
theorem o_callE1 {x : Operand} {xs : List Operand} {ts : Array TypeId} {f : FuncId} {first captured : Array Value} {as : List Value} {v : Nat → Value} {g : Nat → SH} {i0 : Nat} {last : SPast} {cl : SCl} {p : SH}
    (hx : ev a x = some (.func (.func f) first captured)) (hxs : evs a xs = some as) (hf : enters P f = true) (hN : Nat.blt t sz = true) (hr : SRun P f (first.toList ++ as ++ captured.toList) p (fun r q => ∃ A, r = v A ∧ q = g A) ∧ Take h p)
    (hkeys : ∀ A, ((g A).map (·.1)).Perm (A :: p.map (·.1))) (hpar : ∀ (A A' : Nat) (ρ : Nat → Nat) (D : Nat → Prop), ρ A = A' → D A → (∀ y ∈ p, ρ y.1 = y.1) → (∀ y ∈ p, D y.1) → VR ρ D (v A) (v A') ∧ SHR ρ D p (g A) (g A'))
    (hok : ∀ A, (Mode.draw i0 last cl).efOk ops (g A)) (kk : ∀ A, GO ((Mode.draw i0 last cl).ef h) P sz ops Q rest ((t, v A) :: a) (g A)) :
    GO (.draw i0 last cl) P sz ops Q (⟨some t, .call { callee := .value x, args := xs.toArray, argTypes := ts }, ty, pos, aft, none⟩ :: rest) a h := by
  have one : ∀ {ns : List Nat}, ns.length = 1 → ∃ A, ns = [A] := fun {ns} h => by
    match ns, h with
    | [A], _ => exact ⟨A, rfl⟩
  refine o_callK (k := 1) (V := fun ns => v ns.head!) (G := fun ns => g ns.head!) hx hxs hf hN hr.1 hr.2 (fun r q ⟨A, h1, h2⟩ => ⟨[A], rfl, h1, h2 ▸ .nil⟩) (fun ns h => ?_) (fun ns ms ρ D h1 h2 h3 h4 h5 h6 => ?_) (fun ms h => ?_) (fun ms h => ?_)
  · obtain ⟨A, rfl⟩ := one h; exact hkeys A
  · obtain ⟨A, rfl⟩ := one h1; obtain ⟨B, rfl⟩ := one h2
    simp only [List.map_cons, List.map_nil, List.cons.injEq, and_true] at h3
    exact hpar B A ρ D h3 (h5 B (by simp)) h4 h6
  · obtain ⟨A, rfl⟩ := one h; exact hok A
  · obtain ⟨A, rfl⟩ := one h; exact kk A
/-- A call that makes two new blocks. -/
theorem o_callE2 {x : Operand} {xs : List Operand} {ts : Array TypeId} {f : FuncId} {first captured : Array Value} {as : List Value} {v : Nat → Nat → Value} {g : Nat → Nat → SH} {i0 : Nat} {last : SPast} {cl : SCl} {p : SH}
    (hx : ev a x = some (.func (.func f) first captured)) (hxs : evs a xs = some as) (hf : enters P f = true) (hN : Nat.blt t sz = true) (hr : SRun P f (first.toList ++ as ++ captured.toList) p (fun r q => ∃ A B, r = v A B ∧ q = g A B) ∧ Take h p)
    (hkeys : ∀ A B, ((g A B).map (·.1)).Perm (A :: B :: p.map (·.1))) (hpar : ∀ (A A' B B' : Nat) (ρ : Nat → Nat) (D : Nat → Prop), ρ A = A' → ρ B = B' → D A → D B → (∀ y ∈ p, ρ y.1 = y.1) → (∀ y ∈ p, D y.1) → VR ρ D (v A B) (v A' B') ∧ SHR ρ D p (g A B) (g A' B'))
    (hok : ∀ A B, (Mode.draw i0 last cl).efOk ops (g A B)) (kk : ∀ A B, GO ((Mode.draw i0 last cl).ef h) P sz ops Q rest ((t, v A B) :: a) (g A B)) :
    GO (.draw i0 last cl) P sz ops Q (⟨some t, .call { callee := .value x, args := xs.toArray, argTypes := ts }, ty, pos, aft, none⟩ :: rest) a h := by
  have two : ∀ {ns : List Nat}, ns.length = 2 → ∃ A B, ns = [A, B] := fun {ns} h => by
    match ns, h with
    | [A, B], _ => exact ⟨A, B, rfl⟩
  refine o_callK (k := 2) (V := fun ns => v ns.head! (ns.getD 1 0)) (G := fun ns => g ns.head! (ns.getD 1 0)) hx hxs hf hN hr.1 hr.2 (fun r q ⟨A, B, h1, h2⟩ => ⟨[A, B], rfl, h1, h2 ▸ .nil⟩) (fun ns h => ?_) (fun ns ms ρ D h1 h2 h3 h4 h5 h6 => ?_) (fun ms h => ?_) (fun ms h => ?_)
  · obtain ⟨A, B, rfl⟩ := two h; exact hkeys A B
  · obtain ⟨A, B, rfl⟩ := two h1; obtain ⟨A2, B2, rfl⟩ := two h2
    simp only [List.map_cons, List.map_nil, List.cons.injEq, and_true] at h3
    exact hpar A2 A B2 B ρ D h3.1 h3.2 (h5 A2 (by simp)) (h5 B2 (by simp)) h4 h6
  · obtain ⟨A, B, rfl⟩ := two h; exact hok A B
  · obtain ⟨A, B, rfl⟩ := two h; exact kk A B
end
end Go.Gh
