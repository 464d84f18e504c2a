/- The statement of the law ModelsMixed: for every input it returns true, and every argument reads behind the call as it read before. No condition. -/
import Derived.Test.YtinfmojbdaiogaaZModelsMixedJ
import Derived.Test.YtinfmojbdaiogaaRows
namespace Go.Proofs.Ytinfmojbdaiogaa.modelsMixed
open Go.ChangeShapes Go.WideShapes Go.ChangeAt Go.RowKit Go.Gh
open Go.ChangeMaps (open_string)
theorem own : ownKnob Try.prog.godebug = none := by kernel_rfl
theorem laid : laidOutB Try.prog = true := by kernel_rfl
set_option maxRecDepth 100000 in
theorem lifted (os : Os) (started : os.Started) (H : Type) (enc : TypeId × Value → H) :
    ReturnsInHanded {} Try.checked os 5 .any (Rows.modelsMixedSpec.pre6 enc Try.prog Try.f5 Rows.modelsMixedRow.domain false) (Rows.modelsMixedSpec.post enc Try.prog Try.f5 false true false false) := by
  refine returnsInHanded_of_change (C := Try.checked) own started (by kernel_rfl) Try.func5
    (ChangeSpec.witness6 (enc := enc) (C := Try.checked) false ⟨#[], #[.slice none 0 0, .slice none 0 0], []⟩ 8 (by kernel_rfl) (by kernel_rfl) (by kernel_rfl) (by kernel_rfl)) ?_
  intro W base args ds gs before hval0 hW hcnd _
  have hval : ∀ (j : Nat) t v, Try.f5.params[j]? = some t → args[j]? = some v → Value.okWide Try.prog W .any base t v := hval0
  have hW' := hW
  obtain ⟨p, q, hA0, hV, rfl, hfz, hnd⟩ := hW
  have hA : DataW.TrodAll enc Try.prog W 0 (fun _ => true) true Try.f5.params.toList args.toList ds p := hA0
  rw [Try.params5] at hA hval
  obtain ⟨v0, vs0, d0, ds0, p0, q0, hargs, rfl, rfl, h0, r0⟩ := trodAll_cons hA
  obtain ⟨v1, vs1, d1, ds1, p1, q1, rfl, rfl, rfl, h1, r1⟩ := trodAll_cons r0
  obtain ⟨rfl, rfl, rfl⟩ := trodAll_nil r1
  obtain rfl : args = #[v0, v1] := by cases args; simp_all
  obtain ⟨rfl, rfl⟩ := trodVars_none hV
  obtain ⟨l0, es0, g0, A0, k0, m0, has0⟩ := arg_slice (el_one (c1_int Try.underlying3 (by kernel_rfl))) Try.underlying30 (hval 0 30 v0 rfl rfl) h0
  obtain ⟨l1, es1, g1, A1, k1, m1, has1⟩ := arg_slice (el_one (c1_bool Try.underlying4 (by kernel_rfl))) Try.underlying31 (hval 1 31 v1 rfl rfl) h1
  clear hA0 hval0
  refine (calls_args (W := W) (.cons A0 (.cons A1 .nil)) (Mixed_any l0 _ l1 _ _ (has0 _ _ (fun j b hb => by simpa [Nat.add_assoc] using has_at (esL := (([] : List (Gh.Loc × Gh.Blk)))) (es := es0) (esR := (es1 ++ ([] : List (Gh.Loc × Gh.Blk)))) j b hb)) k0 m0 (has1 _ _ (fun j b hb => by simpa [Nat.add_assoc] using has_at (esL := (es0 ++ ([] : List (Gh.Loc × Gh.Blk)))) (es := es1) (esR := (([] : List (Gh.Loc × Gh.Blk)))) j b hb)) k1 m1)).mono fun e W' ⟨he, hg⟩ => ?_
  subst he
  exact ⟨_, rfl, post_law (tb := 4) laid hW' rfl (by kernel_rfl) rfl Try.underlying4 ⟨rfl, rfl, rfl⟩ hg⟩

theorem proved : Rows.ModelsMixedSaid :=
  OpenClaim.holds_of_wide 5 Try.f5 rfl rfl rfl rfl rfl rfl rfl ⟨rfl, rfl, rfl, rfl, rfl⟩ rfl rfl rfl rfl rfl (by kernel_rfl) Try.func5 (by kernel_rfl)
    (of_decide_eq_true (by kernel_rfl)) (by unfold Func.isWrapper; first | (rw [if_pos (by decide +kernel)]; kernel_rfl) | (rw [if_neg (by decide +kernel)]; exact ⟨rfl, rfl⟩))
    (fun os started H enc _ => lifted os started H enc)
#print axioms proved
end Go.Proofs.Ytinfmojbdaiogaa.modelsMixed
