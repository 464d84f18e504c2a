/- A call that turns the heap in a region of a drawn order: what the callee has made is named anew. -/
import Derived.Test.YtmdhpbolbebflaaSlD
set_option linter.unusedVariables false
set_option linter.unusedSimpArgs false
namespace Go.Gh
open Go.RowKit

/-- A value under other names: u is v, where A is named ρ A. -/
inductive VR (ρ : Nat → Nat) (D : Nat → Prop) : Value → Value → Prop
  | const {v} (h : constOk v = true) : VR ρ D v v
  | ptr {A o n} (h : D A) : VR ρ D (.pointer (some ⟨A, o, some n⟩)) (.pointer (some ⟨ρ A, o, some n⟩))
  | slc {A o n len fl} (h : D A) : VR ρ D (.slice (some ⟨A, o, some n⟩) len fl) (.slice (some ⟨ρ A, o, some n⟩) len fl)
  | sdead : VR ρ D (.slice (some ⟨0, 0, none⟩) 0 0) (.slice (some ⟨0, 0, none⟩) 0 0)
  | agg {a b : Array Value} (h1 : a.size = b.size) (h2 : ∀ i (h : i < a.size) (h' : i < b.size), VR ρ D a[i] b[i]) : VR ρ D (.agg a) (.agg b)
  | tuple {a b : Array Value} (h1 : a.size = b.size) (h2 : ∀ i (h : i < a.size) (h' : i < b.size), VR ρ D a[i] b[i]) : VR ρ D (.tuple a) (.tuple b)
  | func {f : Fn} {a b c d : Array Value} (h1 : a.size = b.size) (h2 : ∀ i (h : i < a.size) (h' : i < b.size), VR ρ D a[i] b[i])
      (h3 : c.size = d.size) (h4 : ∀ i (h : i < c.size) (h' : i < d.size), VR ρ D c[i] d[i]) : VR ρ D (.func f a c) (.func f b d)
inductive VRs (ρ : Nat → Nat) (D : Nat → Prop) : List Value → List Value → Prop
  | nil : VRs ρ D [] []
  | cons {u v l m} (h : VR ρ D u v) (k : VRs ρ D l m) : VRs ρ D (u :: l) (v :: m)
theorem VRs.len {ρ : Nat → Nat} {D : Nat → Prop} {l m : List Value} (h : VRs ρ D l m) : l.length = m.length := by
  induction h with
  | nil => rfl
  | cons _ _ ih => simp [ih]
theorem VRs.get {ρ : Nat → Nat} {D : Nat → Prop} {l m : List Value} (h : VRs ρ D l m) : ∀ {i : Nat} {u : Value}, l[i]? = some u → ∃ v, m[i]? = some v ∧ VR ρ D u v := by
  induction h with
  | nil => intro i u h; simp at h
  | @cons u v l m h _ ih =>
    intro i w hw
    cases i with
    | zero => simp only [List.getElem?_cons_zero, Option.some.injEq] at hw; subst hw; exact ⟨v, rfl, h⟩
    | succ i => exact ih (by simpa using hw)
theorem VRs.at {ρ : Nat → Nat} {D : Nat → Prop} {l m : List Value} (h : VRs ρ D l m) (i : Nat) (h1 : i < (Array.mk l).size) (h2 : i < (Array.mk m).size) : VR ρ D (Array.mk l)[i] (Array.mk m)[i] := by
  obtain ⟨v, g1, g2⟩ := h.get (i := i) (u := l[i]'(by simpa using h1)) (List.getElem?_eq_getElem _)
  have : (Array.mk m)[i] = v := by
    have h2' : i < m.length := by simpa using h2
    rw [List.getElem?_eq_getElem h2'] at g1
    simpa using g1
  rw [this]; exact g2
theorem VRs.agg {ρ : Nat → Nat} {D : Nat → Prop} {l m : List Value} (h : VRs ρ D l m) : VR ρ D (.agg ⟨l⟩) (.agg ⟨m⟩) := .agg (by simpa using h.len) h.at
theorem VRs.tuple {ρ : Nat → Nat} {D : Nat → Prop} {l m : List Value} (h : VRs ρ D l m) : VR ρ D (.tuple ⟨l⟩) (.tuple ⟨m⟩) := .tuple (by simpa using h.len) h.at
theorem VRs.const {ρ : Nat → Nat} {D : Nat → Prop} : ∀ {l : List Value}, (∀ v ∈ l, constOk v = true) → VRs ρ D l l
  | [], _ => .nil
  | _ :: _, h => .cons (.const (h _ List.mem_cons_self)) (VRs.const fun v hv => h v (List.mem_cons_of_mem _ hv))
theorem VRs.app {ρ : Nat → Nat} {D : Nat → Prop} {l m l' m' : List Value} (h : VRs ρ D l m) (k : VRs ρ D l' m') : VRs ρ D (l ++ l') (m ++ m') := by
  induction h with
  | nil => exact k
  | cons h _ ih => exact .cons h ih
theorem VR.val {ρ : Nat → Nat} {D : Nat → Prop} {φ : Nat → Loc} {L L' : Lens} {u v : Value} (h : VR ρ D u v) (hD : ∀ A, D A → L' A = L (ρ A)) : ∀ {v' : Value}, Val φ L v v' → Val (fun A => φ (ρ A)) L' u v' := by
  induction h with
  | const hc => intro v' hv; rw [Val.det hc hv]; exact Val.const hc
  | @ptr A o n h =>
    intro v' hv
    generalize hq : Value.pointer (some ⟨ρ A, o, some n⟩) = q at hv
    cases hv with
    | ptr A' o' v' n' c hL hv h' => cases hq; exact .ptr _ _ _ _ _ (by rw [hD _ h]; exact hL) hv h'
    | _ => cases hq
  | @slc A o n len fl h =>
    intro v' hv
    generalize hq : Value.slice (some ⟨ρ A, o, some n⟩) len fl = q at hv
    cases hv with
    | slc A' o' v' n' len' fl' cap c hL hv hc hm h' => cases hq; exact .slc _ _ _ _ _ _ _ _ (by rw [hD _ h]; exact hL) hv hc hm h'
    | sdead => simp at hq
    | _ => cases hq
  | sdead => intro v' hv; cases hv with | sdead c cap hm => exact .sdead c cap hm
  | agg h1 _ ih => intro v' hv; cases hv with | agg a b g1 g2 => exact .agg _ _ (h1.trans g1) fun i hi hi' => ih i hi (by omega) (g2 i (by omega) hi')
  | tuple h1 _ ih => intro v' hv; cases hv with | tuple a b g1 g2 => exact .tuple _ _ (h1.trans g1) fun i hi hi' => ih i hi (by omega) (g2 i (by omega) hi')
  | func h1 _ h3 _ ih1 ih2 =>
    intro v' hv
    cases hv with
    | func f a b c d g1 g2 g3 g4 => exact .func _ _ _ _ _ (h1.trans g1) (fun i hi hi' => ih1 i hi (by omega) (g2 i (by omega) hi')) (h3.trans g3) fun i hi hi' => ih2 i hi (by omega) (g4 i (by omega) hi')
/-- A value that was there before the blocks from n on: it reads as it read. -/
theorem old_val {n : Nat} {φ φ1 φ2 : Nat → Loc} {L L1 L2 : Lens} (hL : ∀ A m, L A = some m → A < n) (h12 : ∀ A, A < n → φ2 A = φ1 A ∧ L2 A = L1 A) {v v' : Value} (h : Val φ1 L1 v v') : ∀ {v0 : Value}, Val φ L v v0 → Val φ2 L2 v v' := by
  induction h with
  | bool b => intro v0 _; exact .bool b
  | int k n => intro v0 _; exact .int k n
  | str s => intro v0 _; exact .str s
  | pnil => intro v0 _; exact .pnil
  | ptr A o v n c h1 h2 h3 =>
    intro v0 h0
    generalize hq : Value.pointer (some ⟨A, o, some v⟩) = q at h0
    cases h0 with
    | ptr A' o' v' n' c' hL' hv' h' =>
      cases hq
      obtain ⟨e1, e2⟩ := h12 _ (hL _ _ hL')
      exact .ptr _ _ _ _ _ (by rw [e2]; exact h1) h2 (by rw [e1]; exact h3)
    | _ => cases hq
  | snil => intro v0 _; exact .snil
  | slc A o v n len fl cap c h1 h2 hc hm h3 =>
    intro v0 h0
    generalize hq : Value.slice (some ⟨A, o, some v⟩) len fl = q at h0
    cases h0 with
    | slc A' o' v' n' len' fl' cap' c' hL' hv' hc' hm' h' =>
      cases hq
      obtain ⟨e1, e2⟩ := h12 _ (hL _ _ hL')
      exact .slc _ _ _ _ _ _ _ _ (by rw [e2]; exact h1) h2 hc hm (by rw [e1]; exact h3)
    | _ => cases hq
  | sdead c cap hm => intro v0 _; exact .sdead c cap hm
  | mnil => intro v0 _; exact .mnil
  | func f a b c d h1 _ h3 _ ih1 ih2 =>
    intro v0 h0
    cases h0 with
    | func _ _ b' _ d' g1 g2 g3 g4 => exact .func f a b c d h1 (fun i hi hi' => ih1 i hi hi' (g2 i hi (by omega))) h3 (fun i hi hi' => ih2 i hi hi' (g4 i hi (by omega)))
  | fnil => intro v0 _; exact .fnil
  | inil => intro v0 _; exact .inil
  | iface t v v' _ ih => intro v0 h0; cases h0 with | iface _ _ _ h => exact .iface t v v' (ih h)
  | agg a b h1 _ ih => intro v0 h0; cases h0 with | agg _ b' g1 g2 => exact .agg a b h1 fun i hi hi' => ih i hi hi' (g2 i hi (by omega))
  | tuple a b h1 _ ih => intro v0 h0; cases h0 with | tuple _ b' g1 g2 => exact .tuple a b h1 fun i hi hi' => ih i hi hi' (g2 i hi (by omega))

/-- Blocks under other names; of p those that did not turn. -/
inductive SHR (ρ : Nat → Nat) (D : Nat → Prop) (p : SH) : SH → SH → Prop
  | nil : SHR ρ D p [] []
  | same {h} (k : ∀ x ∈ h, x ∈ p) : SHR ρ D p h h
  | cons {A A' c c' ro h h'} (e : ρ A = A') (h1 : VRs ρ D c c') (k : SHR ρ D p h h') : SHR ρ D p ((A, ⟨c, ro⟩) :: h) ((A', ⟨c', ro⟩) :: h')
  | keep {x h h'} (e : x ∈ p) (k : SHR ρ D p h h') : SHR ρ D p (x :: h) (x :: h')
theorem SHR.get {ρ : Nat → Nat} {D : Nat → Prop} {p h h' : SH} (k : SHR ρ D p h h') (hp : ∀ y ∈ p, ρ y.1 = y.1) : ∀ x ∈ h, (x ∈ p ∧ x ∈ h') ∨ ∃ c', (ρ x.1, ⟨c', x.2.ro⟩) ∈ h' ∧ VRs ρ D x.2.cells c' := by
  induction k with
  | nil => intro x hx; cases hx
  | same k => intro x hx; exact .inl ⟨k x hx, hx⟩
  | cons e h1 _ ih =>
    intro x hx
    rcases List.mem_cons.1 hx with rfl | hx
    · exact .inr ⟨_, by rw [e]; exact List.mem_cons_self, h1⟩
    · rcases ih x hx with ⟨g1, g2⟩ | ⟨c', g1, g2⟩
      · exact .inl ⟨g1, List.mem_cons_of_mem _ g2⟩
      · exact .inr ⟨c', List.mem_cons_of_mem _ g1, g2⟩
  | keep e _ ih =>
    intro x hx
    rcases List.mem_cons.1 hx with rfl | hx
    · exact .inl ⟨e, List.mem_cons_self⟩
    · rcases ih x hx with ⟨g1, g2⟩ | ⟨c', g1, g2⟩
      · exact .inl ⟨g1, List.mem_cons_of_mem _ g2⟩
      · exact .inr ⟨c', List.mem_cons_of_mem _ g1, g2⟩

def look (g : SH) (A : Nat) : Option Blk := (g.find? fun x => Nat.beq x.1 A).map (·.2)
theorem look_mem {g : SH} {A : Nat} {b : Blk} (h : look g A = some b) : (A, b) ∈ g := by
  unfold look at h
  cases hf : g.find? fun x => Nat.beq x.1 A with
  | none => rw [hf] at h; cases h
  | some x =>
    rw [hf] at h
    simp only [Option.map_some, Option.some.injEq] at h
    have h1 := List.mem_of_find?_eq_some hf
    have h2 := Nat.eq_of_beq_eq_true (List.find?_some (p := fun x : Nat × Blk => Nat.beq x.1 A) hf)
    rw [← h2, ← h]; exact h1
theorem look_none {g : SH} {A : Nat} (h : look g A = none) : ∀ x ∈ g, x.1 ≠ A := by
  intro x hx e
  unfold look at h
  simp only [Option.map_eq_none_iff, List.find?_eq_none] at h
  exact h x hx (by rw [e]; exact Nat.beq_refl A)
theorem look_of {g : SH} (hn : (g.map (·.1)).Nodup) {A : Nat} {b : Blk} (h : (A, b) ∈ g) : look g A = some b := by
  induction g with
  | nil => cases h
  | cons x g ih =>
    simp only [List.map_cons, List.nodup_cons] at hn
    unfold look
    rw [List.find?_cons]
    rcases List.mem_cons.1 h with rfl | h
    · simp [Nat.beq_refl]
    · have hne : x.1 ≠ A := fun e => hn.1 (List.mem_map.2 ⟨_, h, e.symm⟩)
      rw [show Nat.beq x.1 A = false from by
        cases hb : Nat.beq x.1 A with
        | true => exact absurd (Nat.eq_of_beq_eq_true hb) hne
        | false => rfl]
      exact ih hn.2 h
/-- The heap behind a call, with k new blocks. -/
def canon (H : Heap) (g : SH) (k : Nat) : Heap := (List.range (H.length + k)).map fun A => (look g A).getD (H.getD A ⟨[], true⟩)
theorem canon_len {H : Heap} {g : SH} {k : Nat} : (canon H g k).length = H.length + k := by simp [canon]
theorem canon_get {H : Heap} {g : SH} {k A : Nat} (h : A < H.length + k) : (canon H g k)[A]? = some ((look g A).getD (H.getD A ⟨[], true⟩)) := by
  unfold canon; rw [List.getElem?_map, List.getElem?_range h]; rfl

theorem perm_disj {l m : List Nat} {g : List Nat} (hp : g.Perm (l ++ m)) (hn : g.Nodup) : (∀ x ∈ l, x ∉ m) ∧ l.Nodup := by
  have := hp.nodup_iff.1 hn
  rw [List.nodup_append] at this
  exact ⟨fun x hx hm => this.2.2 x hx x hm rfl, this.1⟩

theorem call_canon {P : Program} {f : FuncId} {as : List Value} {p : SH} {R : Value → SH → Prop} (hr : SRun P f as p R) {H : Heap} (i : Inv ⟨H, p⟩ p H) {k : Nat} {V : List Nat → Value} {G : List Nat → SH}
    (hfun : ∀ r q, R r q → ∃ ns, ns.length = k ∧ r = V ns ∧ Take q (G ns)) (hkeys : ∀ ns, ns.length = k → ((G ns).map (·.1)).Perm (ns ++ p.map (·.1)))
    (hpar : ∀ (ns ms : List Nat) (ρ : Nat → Nat) (D : Nat → Prop), ns.length = k → ms.length = k → ms.map ρ = ns → (∀ y ∈ p, ρ y.1 = y.1) → (∀ A ∈ ms, D A) → (∀ y ∈ p, D y.1) → VR ρ D (V ms) (V ns) ∧ SHR ρ D p (G ms) (G ns))
    {B0 : Nat} {w0 w : World} {φ : Nat → Loc} {vs : Array Value} (hrel : Rel B0 w0 φ H w) (hvs : VRel φ (lens H) as vs) :
    Calls P f vs w fun e w' => ∃ φ' v', Ext φ (lens H) φ' (lens (canon H (G (List.range' H.length k)) k)) ∧ Rel B0 w0 φ' (canon H (G (List.range' H.length k)) k) w' ∧ e = .returned v' ∧ Val φ' (lens (canon H (G (List.range' H.length k)) k)) (V (List.range' H.length k)) v' := by
  unfold SRun at hr
  have h1 := hr H i
  unfold Run at h1
  refine (h1 B0 w0 φ (lens H) φ w vs (.refl _ _) hrel hvs).mono ?_
  rintro e w' ⟨φ2, r, H2, v, hext, hrel2, rfl, hv, q, hR, i2⟩
  obtain ⟨ns, hk, rfl, ht⟩ := hfun r q hR
  have i3 := i2.le ht.le
  generalize hms : List.range' H.length k = ms
  have hmk : ms.length = k := by rw [← hms, List.length_range']
  have hmem : ∀ A, A ∈ ms ↔ H.length ≤ A ∧ A < H.length + k := fun A => by rw [← hms, List.mem_range'_1]
  -- names
  have hpk := hkeys ns hk
  have hpm := hkeys ms hmk
  obtain ⟨hdis, hnd⟩ := perm_disj hpk i3.nd
  have hpold : ∀ y ∈ p, y.1 < H.length := fun y hy => (List.getElem?_eq_some_iff.1 (i.sat y hy)).1
  have hns : ∀ x ∈ ns, H.length ≤ x := by
    intro x hx
    rcases Nat.lt_or_ge x H.length with hlt | hge
    · obtain ⟨b, hb, e⟩ := List.mem_map.1 (hpk.mem_iff.2 (List.mem_append_left _ hx))
      obtain ⟨y, hy, e2⟩ := i3.own b hb (by simp only; omega)
      exact absurd (List.mem_map.2 ⟨y, hy, by omega⟩) (hdis x hx)
    · exact hge
  have hmnd : ((G ms).map (·.1)).Nodup := by
    refine hpm.nodup_iff.2 (List.nodup_append.2 ⟨by rw [← hms]; exact List.nodup_range', i.nd, ?_⟩)
    rintro a ha b hb rfl
    obtain ⟨y, hy, rfl⟩ := List.mem_map.1 hb
    have := hpold y hy
    have := (hmem _).1 ha
    omega
  let ρ : Nat → Nat := fun A => if A < H.length then A else ns.getD (A - H.length) 0
  have hρo : ∀ A, A < H.length → ρ A = A := fun A h => if_pos h
  have hρn : ∀ A, A ∈ ms → ρ A ∈ ns := fun A h => by
    obtain ⟨g1, g2⟩ := (hmem A).1 h
    show (if A < H.length then A else ns.getD (A - H.length) 0) ∈ ns
    rw [if_neg (by omega), List.getD_eq_getElem?_getD, List.getElem?_eq_getElem (by omega)]
    exact List.getElem_mem _
  have hmap : ms.map ρ = ns := by
    apply List.ext_getElem?
    intro j
    rw [List.getElem?_map]
    rcases Nat.lt_or_ge j k with hj | hj
    · have e1 : ms[j]? = some (H.length + j) := by rw [← hms, List.getElem?_range' hj, Nat.one_mul]
      rw [e1]
      show some (if H.length + j < H.length then H.length + j else ns.getD (H.length + j - H.length) 0) = _
      rw [if_neg (by omega), Nat.add_sub_cancel_left, List.getD_eq_getElem?_getD, List.getElem?_eq_getElem (by omega)]; rfl
    · rw [List.getElem?_eq_none (by omega), List.getElem?_eq_none (by omega)]; rfl
  have hρinj : ∀ A A', A < H.length + k → A' < H.length + k → ρ A = ρ A' → A = A' := by
    intro A A' hA hA' he
    rcases Nat.lt_or_ge A H.length with h1 | h1 <;> rcases Nat.lt_or_ge A' H.length with h2 | h2
    · rw [hρo A h1, hρo A' h2] at he; exact he
    · rw [hρo A h1] at he
      have := hns _ (hρn A' ((hmem _).2 ⟨h2, hA'⟩)); omega
    · rw [hρo A' h2] at he
      have := hns _ (hρn A ((hmem _).2 ⟨h1, hA⟩)); omega
    · have e1 : ρ A = ns.getD (A - H.length) 0 := if_neg (by omega)
      have e2 : ρ A' = ns.getD (A' - H.length) 0 := if_neg (by omega)
      rw [e1, e2, List.getD_eq_getElem?_getD, List.getD_eq_getElem?_getD, List.getElem?_eq_getElem (by omega), List.getElem?_eq_getElem (by omega)] at he
      have he' : ns[A - H.length]'(by omega) = ns[A' - H.length]'(by omega) := he
      have hpw := List.pairwise_iff_getElem.1 hnd
      rcases Nat.lt_trichotomy (A - H.length) (A' - H.length) with h | h | h
      · exact absurd he' (hpw _ _ (by omega) (by omega) h)
      · omega
      · exact absurd he'.symm (hpw _ _ (by omega) (by omega) h)
  obtain ⟨hV, hG⟩ := hpar ns ms ρ (fun A => A < H.length + k) hk hmk hmap (fun y hy => hρo _ (hpold y hy)) (fun A h => ((hmem A).1 h).2) (fun y hy => by have := hpold y hy; omega)
  -- blocks
  have hget : ∀ A g, (canon H (G ms) k)[A]? = some g → A < H.length + k ∧ ((H2[ρ A]? = some g ∧ H[A]? = some g ∧ A < H.length) ∨ ∃ c', H2[ρ A]? = some ⟨c', g.ro⟩ ∧ VRs ρ (fun A => A < H.length + k) g.cells c') := by
    intro A g hA
    have hlt : A < H.length + k := by have := (List.getElem?_eq_some_iff.1 hA).1; rwa [canon_len] at this
    refine ⟨hlt, ?_⟩
    rw [canon_get hlt] at hA
    simp only [Option.some.injEq] at hA
    cases hl : look (G ms) A with
    | some b =>
      rw [hl, Option.getD_some] at hA
      subst hA
      rcases hG.get (fun y hy => hρo _ (hpold y hy)) _ (look_mem hl) with ⟨g1, g2⟩ | ⟨c', g1, g2⟩
      · have h3 := hpold _ g1
        simp only at h3
        exact .inl ⟨by rw [hρo A h3]; exact i3.sat _ g2, i.sat _ g1, h3⟩
      · exact .inr ⟨c', i3.sat _ g1, g2⟩
    | none =>
      rw [hl, Option.getD_none] at hA
      have h3 := look_none hl
      have h4 : A < H.length := by
        rcases Nat.lt_or_ge A H.length with h | h
        · exact h
        · obtain ⟨b, hb, e⟩ := List.mem_map.1 (hpm.mem_iff.2 (List.mem_append_left _ ((hmem A).2 ⟨h, hlt⟩)))
          exact absurd e (h3 b hb)
      rw [List.getD_eq_getElem?_getD, List.getElem?_eq_getElem h4, Option.getD_some] at hA
      have h5 : H[A]? = some g := by rw [List.getElem?_eq_getElem h4, hA]
      refine .inl ⟨?_, h5, h4⟩
      rw [hρo A h4, i3.keep A h4 fun y hy e => ?_]
      · exact h5
      · obtain ⟨b, hb, e2⟩ := List.mem_map.1 (hpm.mem_iff.2 (List.mem_append_right _ (List.mem_map.2 ⟨y, hy, rfl⟩)))
        exact h3 b hb (by omega)
  have hlen : ∀ A, A < H.length + k → lens (canon H (G ms) k) A = lens H2 (ρ A) := by
    intro A hA
    have h0 : (canon H (G ms) k)[A]? = some ((canon H (G ms) k)[A]'(by rw [canon_len]; exact hA)) := List.getElem?_eq_getElem _
    rw [lens_of h0]
    rcases (hget A _ h0).2 with ⟨g1, _⟩ | ⟨c', g1, g2⟩
    · rw [lens_of g1]
    · rw [lens_of g1, g2.len]
  have hold : ∀ A m, lens H A = some m → A < H.length := fun A m h => lens_some h
  refine ⟨fun A => φ2 (ρ A), v, fun A n hA => ?_, ⟨hrel2.below, hrel2.b0, fun A g hA => ?_, fun A g hA hro => ?_, fun A A' g hA hro hA' he => ?_⟩, rfl, hV.val hlen hv⟩
  · have hlt := lens_some hA
    obtain ⟨n', g1, g2⟩ := hext A n hA
    refine ⟨n', by rw [hlen A (by omega), hρo A hlt]; exact g1, ?_⟩
    show (n' = n ∧ φ2 (ρ A) = φ A) ∨ _
    rw [hρo A hlt]; exact g2
  · obtain ⟨hlt, hc⟩ := hget A g hA
    rcases hc with ⟨g1, g2, g3⟩ | ⟨c', g1, g2⟩
    · obtain ⟨c, T, fz, k1, k2, k3, k4, k5⟩ := (hrel2.blk _ _ g1).ex
      obtain ⟨c0, T0, fz0, _, _, _, _, j5⟩ := (hrel.blk _ _ g2).ex
      refine ⟨c, T, fz, k1, k2, k3, k4, fun j x hx => ?_⟩
      obtain ⟨x', m1, m2⟩ := k5 j x hx
      obtain ⟨x0, _, m3⟩ := j5 j x hx
      exact ⟨x', m1, old_val hold (fun B hB => ⟨by show φ2 (ρ B) = φ2 B; rw [hρo B hB], by rw [hlen B (by omega), hρo B hB]⟩) m2 m3⟩
    · obtain ⟨c, T, fz, k1, k2, k3, k4, k5⟩ := (hrel2.blk _ _ g1).ex
      refine ⟨c, T, fz, k1, k2, by rw [g2.len]; exact k3, k4, fun j x hx => ?_⟩
      obtain ⟨y, m1, m2⟩ := g2.get hx
      obtain ⟨x', m3, m4⟩ := k5 j y m1
      exact ⟨x', m3, m2.val hlen m4⟩
  · rcases (hget A g hA).2 with ⟨g1, _⟩ | ⟨c', g1, _⟩
    · exact hrel2.own _ _ g1 hro
    · exact hrel2.own _ _ g1 hro
  · obtain ⟨hlt, hc⟩ := hget A g hA
    rw [canon_len] at hA'
    have hA2 : ρ A' < H2.length := by
      have h0 : (canon H (G ms) k)[A']? = some ((canon H (G ms) k)[A']'(by rw [canon_len]; exact hA')) := List.getElem?_eq_getElem _
      rcases (hget A' _ h0).2 with ⟨g1, _⟩ | ⟨c', g1, _⟩ <;> exact (List.getElem?_eq_some_iff.1 g1).1
    refine hρinj A' A hA' hlt ?_
    rcases hc with ⟨g1, _⟩ | ⟨c', g1, _⟩
    · exact hrel2.inj _ _ _ g1 hro hA2 he
    · exact hrel2.inj _ _ _ g1 hro hA2 he
/-- What the caller knows behind the call. -/
theorem canon_inv {E : Ent} {h p : SH} {H : Heap} (i0 : Inv E h H) (ht : Take h p) {k : Nat} {G : List Nat → SH} (hkeys : ∀ ns, ns.length = k → ((G ns).map (·.1)).Perm (ns ++ p.map (·.1))) :
    Inv E (G (List.range' H.length k)) (canon H (G (List.range' H.length k)) k) := by
  have i := i0.le ht.le
  generalize hms : List.range' H.length k = ms
  have hmk : ms.length = k := by rw [← hms, List.length_range']
  have hmem : ∀ A, A ∈ ms ↔ H.length ≤ A ∧ A < H.length + k := fun A => by rw [← hms, List.mem_range'_1]
  have hpm := hkeys ms hmk
  have hpold : ∀ y ∈ p, y.1 < H.length := fun y hy => (List.getElem?_eq_some_iff.1 (i.sat y hy)).1
  have hmnd : ((G ms).map (·.1)).Nodup := by
    refine hpm.nodup_iff.2 (List.nodup_append.2 ⟨by rw [← hms]; exact List.nodup_range', i.nd, ?_⟩)
    rintro a ha b hb rfl
    obtain ⟨y, hy, rfl⟩ := List.mem_map.1 hb
    have := hpold y hy
    have := (hmem _).1 ha
    omega
  have hall : ∀ x ∈ G ms, x.1 < H.length + k := by
    intro x hx
    rcases List.mem_append.1 (hpm.mem_iff.1 (List.mem_map.2 ⟨x, hx, rfl⟩)) with h | h
    · exact ((hmem _).1 h).2
    · obtain ⟨y, hy, e⟩ := List.mem_map.1 h; have := hpold y hy; omega
  refine ⟨fun x hx => ?_, hmnd, fun x hx hlt => ?_, by rw [canon_len]; have := i.len; omega, fun A hA hne => ?_⟩
  · rw [canon_get (hall x hx), look_of hmnd (show (x.1, x.2) ∈ G ms from hx)]; rfl
  · rcases List.mem_append.1 (hpm.mem_iff.1 (List.mem_map.2 ⟨x, hx, rfl⟩)) with h | h
    · have := ((hmem _).1 h).1; have := i.len; omega
    · obtain ⟨y, hy, e⟩ := List.mem_map.1 h
      obtain ⟨z, hz, e2⟩ := i.own y hy (by omega)
      exact ⟨z, hz, by omega⟩
  · have hAl : A < H.length := by have := i.len; omega
    rw [canon_get (by omega)]
    cases hl : look (G ms) A with
    | some b =>
      have h1 := look_mem hl
      rcases List.mem_append.1 (hpm.mem_iff.1 (List.mem_map.2 ⟨_, h1, rfl⟩)) with h | h
      · have := ((hmem _).1 h).1; simp only at this; omega
      · obtain ⟨y, hy, e⟩ := List.mem_map.1 h
        obtain ⟨z, hz, e2⟩ := i.own y hy (by simp only at e; omega)
        exact absurd (by simp only at e; omega) (hne z hz)
    | none =>
      rw [Option.getD_none, List.getD_eq_getElem?_getD, List.getElem?_eq_getElem hAl, Option.getD_some, ← List.getElem?_eq_getElem hAl]
      exact i.keep A hA hne

theorem rho_pick {p p1 : SH} {ρ : Nat → Nat} {A : Nat} {b : Blk} (hρ : ∀ y ∈ p, ρ y.1 = y.1) (h : Pick p A b p1) : ρ A = A := hρ _ h.mem
theorem dom_pick {p p1 : SH} {D : Nat → Prop} {A : Nat} {b : Blk} (hD : ∀ y ∈ p, D y.1) (h : Pick p A b p1) : D A := hD _ h.mem
theorem VR.ptr' {ρ : Nat → Nat} {D : Nat → Prop} {A A' o n : Nat} (e : ρ A = A') (h : D A) : VR ρ D (gptr A o n) (gptr A' o n) := by subst e; exact .ptr h
theorem VR.slc' {ρ : Nat → Nat} {D : Nat → Prop} {A A' o n len fl : Nat} (e : ρ A = A') (h : D A) : VR ρ D (gsl A o n len fl) (gsl A' o n len fl) := by subst e; exact .slc h
theorem bytesV_const (l : List UInt8) : ∀ v ∈ bytesV l, constOk v = true := by
  intro v hv; unfold bytesV at hv; obtain ⟨_, _, rfl⟩ := List.mem_map.1 hv; rfl
theorem map_const {α : Type} {f : α → Value} {l : List α} (h : ∀ x, constOk (f x) = true) : ∀ v ∈ l.map f, constOk v = true := by
  intro v hv; obtain ⟨_, _, rfl⟩ := List.mem_map.1 hv; exact h _
theorem recs_const {α : Type} {f : α → List Value} {l : List α} (h : ∀ x, ∀ v ∈ f x, constOk v = true) : ∀ v ∈ recs f l, constOk v = true := by
  induction l with
  | nil => intro v hv; cases hv
  | cons x r ih =>
    intro v hv
    rcases List.mem_append.1 hv with hv | hv
    · exact h x v hv
    · exact ih v hv

section
variable {P : Program} {sz : Nat} {ops : Array Oper} {Q : SPost} {rest : List Oper} {a : AF} {h : SH} {t : Nat} {ty : TypeId} {pos : String} {aft : Array Edge}
theorem o_callK {x : Operand} {xs : List Operand} {ts : Array TypeId} {f : FuncId} {first captured : Array Value} {as : List Value} {R : Value → SH → Prop} {i0 : Nat} {last : SPast} {cl : SCl} {k : Nat} {V : List Nat → Value} {G : List Nat → SH} {p : SH}
    (hx : ev a x = some (.func (.func f) first captured)) (hxs : evs a xs = some as) (hf : enters P f = true) (hN : Nat.blt t sz = true) (hr : SRun P f (first.toList ++ as ++ captured.toList) p R) (ht : Take h p)
    (hfun : ∀ r q, R r q → ∃ ns, ns.length = k ∧ r = V ns ∧ Take q (G ns)) (hkeys : ∀ ns, ns.length = k → ((G ns).map (·.1)).Perm (ns ++ p.map (·.1)))
    (hpar : ∀ (ns ms : List Nat) (ρ : Nat → Nat) (D : Nat → Prop), ns.length = k → ms.length = k → ms.map ρ = ns → (∀ y ∈ p, ρ y.1 = y.1) → (∀ A ∈ ms, D A) → (∀ y ∈ p, D y.1) → VR ρ D (V ms) (V ns) ∧ SHR ρ D p (G ms) (G ns))
    (hok : ∀ ms, ms.length = k → (Mode.draw i0 last cl).efOk ops (G ms)) (kk : ∀ ms, ms.length = k → GO ((Mode.draw i0 last cl).ef h) P sz ops Q rest ((t, V ms) :: a) (G ms)) :
    GO (.draw i0 last cl) P sz ops Q (⟨some t, .call { callee := .value x, args := xs.toArray, argTypes := ts }, ty, pos, aft, none⟩ :: rest) a h := by
  unfold GO
  intro E H n0 pH i ip
  have hk : (List.range' H.length k).length = k := List.length_range'
  have kk' := kk _ hk
  unfold GO at kk'
  obtain ⟨_, g⟩ := kk' E _ n0 ((i0, H) :: pH) (canon_inv i ht hkeys) ⟨⟨rfl, i⟩, ip⟩
  refine ⟨_, .eff hN trivial (fun a' hag => ⟨fun B0 w0 φ w ac hrel hfr => ?_⟩) (efOk_l ip (hok _ hk)) (efOk_cl (canon_inv i ht hkeys) (hok _ hk)) g⟩
  have hx' : ev a' x = some (.func (.func f) first captured) := (hag.ev (by simp [Op.operands, Call.operands])).trans hx
  have hxs' : evs a' xs = some as := (evs_congr fun y hy => hag.ev (by simp [Op.operands, Call.operands, hy])).trans hxs
  have e1 := ev_rel hfr hx'
  have e2 := evs_rel hfr hxs'
  refine .inr ?_
  generalize hu : ac.eval x = u at e1
  cases e1 with
  | func _ _ b _ d q1 q2 q3 q4 =>
    have hvr := ((VRel.of_arrays q1 q2).append e2).append (VRel.of_arrays q3 q4)
    refine ⟨f, b ++ (xs.map ac.eval).toArray ++ d, ?_, call_canon hr (i.le ht.le).refl hfun hkeys hpar hrel hvr⟩
    unfold execOp
    simp only [resolve, List.map_toArray, hu, Deferred.ofValue, Sem.run_bind, Sem.run_pure, Result.andThen_ok, invoke]
    exact run_callFunc_enters hf _ w
/-- A call that makes nothing that is kept. -/
theorem o_callE0 {x : Operand} {xs : List Operand} {ts : Array TypeId} {f : FuncId} {first captured : Array Value} {as : List Value} {v : Value} {g : SH} {i0 : Nat} {last : SPast} {cl : SCl} {p : SH}
    (hx : ev a x = some (.func (.func f) first captured)) (hxs : evs a xs = some as) (hf : enters P f = true) (hN : Nat.blt t sz = true) (hr : SRun P f (first.toList ++ as ++ captured.toList) p (fun r q => r = v ∧ q = g) ∧ Take h p)
    (hkeys : (g.map (·.1)).Perm (p.map (·.1))) (hpar : ∀ (ρ : Nat → Nat) (D : Nat → Prop), (∀ y ∈ p, ρ y.1 = y.1) → (∀ y ∈ p, D y.1) → VR ρ D v v ∧ SHR ρ D p g g)
    (hok : (Mode.draw i0 last cl).efOk ops g) (kk : GO ((Mode.draw i0 last cl).ef h) P sz ops Q rest ((t, v) :: a) g) :
    GO (.draw i0 last cl) P sz ops Q (⟨some t, .call { callee := .value x, args := xs.toArray, argTypes := ts }, ty, pos, aft, none⟩ :: rest) a h :=
  o_callK (k := 0) (V := fun _ => v) (G := fun _ => g) hx hxs hf hN hr.1 hr.2 (fun r q ⟨h1, h2⟩ => ⟨[], rfl, h1, h2 ▸ .nil⟩) (fun ns h => by rw [List.length_eq_zero_iff.1 h]; exact hkeys)
    (fun _ _ ρ D _ _ _ h1 _ h2 => hpar ρ D h1 h2) (fun _ _ => hok) (fun _ _ => kk)
/-- A call that makes one new block. -/
theorem o_callE1 {x : Operand} {xs : List Operand} {ts : Array TypeId} {f : FuncId} {first captured : Array Value} {as : List Value} {v : Nat → Value} {g : Nat → SH} {i0 : Nat} {last : SPast} {cl : SCl} {p : SH}
    (hx : ev a x = some (.func (.func f) first captured)) (hxs : evs a xs = some as) (hf : enters P f = true) (hN : Nat.blt t sz = true) (hr : SRun P f (first.toList ++ as ++ captured.toList) p (fun r q => ∃ A, r = v A ∧ q = g A) ∧ Take h p)
    (hkeys : ∀ A, ((g A).map (·.1)).Perm (A :: p.map (·.1))) (hpar : ∀ (A A' : Nat) (ρ : Nat → Nat) (D : Nat → Prop), ρ A = A' → D A → (∀ y ∈ p, ρ y.1 = y.1) → (∀ y ∈ p, D y.1) → VR ρ D (v A) (v A') ∧ SHR ρ D p (g A) (g A'))
    (hok : ∀ A, (Mode.draw i0 last cl).efOk ops (g A)) (kk : ∀ A, GO ((Mode.draw i0 last cl).ef h) P sz ops Q rest ((t, v A) :: a) (g A)) :
    GO (.draw i0 last cl) P sz ops Q (⟨some t, .call { callee := .value x, args := xs.toArray, argTypes := ts }, ty, pos, aft, none⟩ :: rest) a h := by
  have one : ∀ {ns : List Nat}, ns.length = 1 → ∃ A, ns = [A] := fun {ns} h => by
    match ns, h with
    | [A], _ => exact ⟨A, rfl⟩
  refine o_callK (k := 1) (V := fun ns => v ns.head!) (G := fun ns => g ns.head!) hx hxs hf hN hr.1 hr.2 (fun r q ⟨A, h1, h2⟩ => ⟨[A], rfl, h1, h2 ▸ .nil⟩) (fun ns h => ?_) (fun ns ms ρ D h1 h2 h3 h4 h5 h6 => ?_) (fun ms h => ?_) (fun ms h => ?_)
  · obtain ⟨A, rfl⟩ := one h; exact hkeys A
  · obtain ⟨A, rfl⟩ := one h1; obtain ⟨B, rfl⟩ := one h2
    simp only [List.map_cons, List.map_nil, List.cons.injEq, and_true] at h3
    exact hpar B A ρ D h3 (h5 B (by simp)) h4 h6
  · obtain ⟨A, rfl⟩ := one h; exact hok A
  · obtain ⟨A, rfl⟩ := one h; exact kk A
/-- A call that makes two new blocks. -/
theorem o_callE2 {x : Operand} {xs : List Operand} {ts : Array TypeId} {f : FuncId} {first captured : Array Value} {as : List Value} {v : Nat → Nat → Value} {g : Nat → Nat → SH} {i0 : Nat} {last : SPast} {cl : SCl} {p : SH}
    (hx : ev a x = some (.func (.func f) first captured)) (hxs : evs a xs = some as) (hf : enters P f = true) (hN : Nat.blt t sz = true) (hr : SRun P f (first.toList ++ as ++ captured.toList) p (fun r q => ∃ A B, r = v A B ∧ q = g A B) ∧ Take h p)
    (hkeys : ∀ A B, ((g A B).map (·.1)).Perm (A :: B :: p.map (·.1))) (hpar : ∀ (A A' B B' : Nat) (ρ : Nat → Nat) (D : Nat → Prop), ρ A = A' → ρ B = B' → D A → D B → (∀ y ∈ p, ρ y.1 = y.1) → (∀ y ∈ p, D y.1) → VR ρ D (v A B) (v A' B') ∧ SHR ρ D p (g A B) (g A' B'))
    (hok : ∀ A B, (Mode.draw i0 last cl).efOk ops (g A B)) (kk : ∀ A B, GO ((Mode.draw i0 last cl).ef h) P sz ops Q rest ((t, v A B) :: a) (g A B)) :
    GO (.draw i0 last cl) P sz ops Q (⟨some t, .call { callee := .value x, args := xs.toArray, argTypes := ts }, ty, pos, aft, none⟩ :: rest) a h := by
  have two : ∀ {ns : List Nat}, ns.length = 2 → ∃ A B, ns = [A, B] := fun {ns} h => by
    match ns, h with
    | [A, B], _ => exact ⟨A, B, rfl⟩
  refine o_callK (k := 2) (V := fun ns => v ns.head! (ns.getD 1 0)) (G := fun ns => g ns.head! (ns.getD 1 0)) hx hxs hf hN hr.1 hr.2 (fun r q ⟨A, B, h1, h2⟩ => ⟨[A, B], rfl, h1, h2 ▸ .nil⟩) (fun ns h => ?_) (fun ns ms ρ D h1 h2 h3 h4 h5 h6 => ?_) (fun ms h => ?_) (fun ms h => ?_)
  · obtain ⟨A, B, rfl⟩ := two h; exact hkeys A B
  · obtain ⟨A, B, rfl⟩ := two h1; obtain ⟨A2, B2, rfl⟩ := two h2
    simp only [List.map_cons, List.map_nil, List.cons.injEq, and_true] at h3
    exact hpar A2 A B2 B ρ D h3.1 h3.2 (h5 A2 (by simp)) (h5 B2 (by simp)) h4 h6
  · obtain ⟨A, B, rfl⟩ := two h; exact hok A B
  · obtain ⟨A, B, rfl⟩ := two h; exact kk A B
end
end Go.Gh
