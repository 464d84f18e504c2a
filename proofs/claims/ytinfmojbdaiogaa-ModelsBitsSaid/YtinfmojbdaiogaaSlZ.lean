/- From a contract over ghost values to the row of a law: every argument reads behind the call as it did, the law returned true. -/
import Derived.Test.YtinfmojbdaiogaaSlD
import Derived.ProofKit
set_option linter.unusedVariables false
set_option linter.unusedSimpArgs false
set_option maxRecDepth 4000
namespace Go.Gh
open Go.RowKit Go.ChangeShapes

theorem vrel_const {φ : Nat → Loc} {L : Lens} : ∀ {as : List Value}, as.all constOk = true → VRel φ L as as.toArray
  | as, h => ⟨by simp, fun i v hi => ⟨v, by simpa using hi, Val.const ((List.all_eq_true.1 h) v (List.mem_of_getElem? hi))⟩⟩

/-- A contract over arguments without addresses, as the model's calls. -/
theorem calls_of {P : Program} {f : FuncId} {as : List Value} (h : SRun P f as [] fun r _ => r = B true) (hc : as.all constOk = true) (W : World) :
    Calls P f as.toArray W fun e W' => e = .returned (.bool true) ∧ Below W.heap.size W W' := by
  unfold SRun at h
  have h1 := h [] (.start (fun x hx => (by cases hx)) List.nodup_nil)
  unfold Run at h1
  have h2 := h1 W.heap.size W (fun _ => ⟨0, 0, 0, false⟩) (lens []) (fun _ => ⟨0, 0, 0, false⟩) W as.toArray (.refl _ _)
    ⟨Below.refl _ _, Nat.le_refl _, fun A g hA => (by cases hA), fun A g hA => (by cases hA), fun A A' g _ hA => (by cases hA)⟩ (vrel_const hc)
  refine h2.mono ?_
  rintro e W' ⟨φ', r, H', v, g1, g2, rfl, g4, q, rfl, g5⟩
  cases g4
  exact ⟨rfl, g2.below⟩

section
variable {H : Type} {enc : TypeId × Value → H} {P : Program}
theorem trodAll_below (hl : laidOutB P = true) {W W' : World} (hb : Below W.heap.size W W') : ∀ {ts : List TypeId} {vs : List Value} {ds : List (DataW H)} {ps : List MemPlace},
    (ts.all fun t => P.readableRec t && decide (t < P.types.size)) = true → DataW.TrodAll enc P W 0 (fun _ => true) true ts vs ds ps → (∀ x ∈ ps, x.block < W.heap.size) →
    DataW.TrodAll enc P W' 0 (fun b => decide (b < W.heap.size)) true ts vs ds ps := by
  intro ts
  induction ts with
  | nil => intro vs ds ps _ h _; cases vs <;> cases ds <;> first | exact h | exact h.elim
  | cons t ts ih =>
    intro vs ds ps hr h hlt
    simp only [List.all_cons, Bool.and_eq_true, decide_eq_true_eq] at hr
    cases vs with
    | nil => exact h.elim
    | cons v vs =>
      cases ds with
      | nil => exact h.elim
      | cons d ds =>
        obtain ⟨p, q, h1, h2, rfl⟩ := h
        exact ⟨p, q, Below.trod hl hr.1.1 hr.1.2 h1 hb (fun x hx => hlt x (List.mem_append_left _ hx)), ih (by simpa using hr.2) h2 (fun x hx => hlt x (List.mem_append_right _ hx)), rfl⟩

/-- The end of a law: it returned true, only new blocks came. -/
theorem post_law {f : Func} {s : ChangeSpec} {W W' : World} {args : Array Value} {ds gs : List (DataW H)} {before : List MemPlace} {tb : TypeId} (hl : laidOutB P = true)
    (hW : DataW.Whole enc P f.params.toList s.vars false W args.toList ds gs before) (hv : s.vars = []) (hr : (f.params.toList.all fun t => P.readableRec t && decide (t < P.types.size)) = true)
    (ht : f.resultTypes = #[tb]) (hk : P.underlying tb = some .bool) (hs : (s.fn H ds).results = [.lit (.bool true)] ∧ (s.fn H ds).args = ds ∧ (s.fn H ds).vars = []) (hb : Below W.heap.size W W') :
    s.post enc P f false true false false W args (.bool true) W' := by
  have hlt : ∀ p ∈ before, p.block < W.heap.size := fun p hp => hW.lt p hp
  have hW1 := hW
  obtain ⟨p, q, h1, h2, h3, h4, h5⟩ := hW1
  rw [hv] at h2
  have hg : gs = [] ∧ q = [] := by
    cases gs with
    | nil => exact ⟨rfl, h2⟩
    | cons g gs => exact h2.elim
  obtain ⟨rfl, rfl⟩ := hg
  rw [List.append_nil] at h3
  subst h3
  refine ⟨ds, [], before, [], before, [], hW, ?_, ?_, ?_, World.keptBut_mono (fun x hx => ⟨hx, .inr (.inl hx)⟩) (hb.frame (· ∈ before)), fun h => by cases h⟩
  · rw [List.append_nil, hs.1, ht]
    exact ⟨[], [], shut_bool hk true, rfl, rfl⟩
  · rw [List.append_nil, hs.2.1]
    exact trodAll_below hl hb hr h1 hlt
  · rw [List.append_nil, hs.2.2, hv]; rfl
end
end Go.Gh
namespace Go.Gh
open Go.RowKit
theorem wf_i64 {n : Int} (h : (Lit.int .i64 n).wf = true) : -9223372036854775808 ≤ n ∧ n ≤ 9223372036854775807 := by simp [Lit.wf, IntKind.min, IntKind.max, IntKind.signed, IntKind.bits] at h; omega
theorem wf_u8 {n : Int} (h : (Lit.int .u8 n).wf = true) : 0 ≤ n ∧ n < 256 := by simp [Lit.wf, IntKind.min, IntKind.max, IntKind.signed, IntKind.bits] at h; omega
theorem wf_u16 {n : Int} (h : (Lit.int .u16 n).wf = true) : 0 ≤ n ∧ n < 65536 := by simp [Lit.wf, IntKind.min, IntKind.max, IntKind.signed, IntKind.bits] at h; omega
theorem wf_u32 {n : Int} (h : (Lit.int .u32 n).wf = true) : 0 ≤ n ∧ n < 4294967296 := by simp [Lit.wf, IntKind.min, IntKind.max, IntKind.signed, IntKind.bits] at h; omega
theorem len_max {l : List UInt8} (h : (⟨⟨l⟩⟩ : ByteArray).size ≤ maxLen) : l.length ≤ 9223372036854775807 := by
  have : (⟨⟨l⟩⟩ : ByteArray).size = l.length := rfl
  unfold maxLen at h; omega
end Go.Gh
