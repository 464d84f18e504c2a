/- The statement of the law FrameInverts: for every input it returns true, and every argument reads behind the call as it read before. No condition. -/
import Derived.Test.YteaohknkhlnojaaZFrameInvertsI
import Derived.Test.YteaohknkhlnojaaRows
namespace Go.Proofs.Yteaohknkhlnojaa.frameInverts
open Go.ChangeShapes Go.WideShapes Go.ChangeAt Go.RowKit Go.Gh
open Go.ChangeMaps (open_string)
theorem own : ownKnob Try.prog.godebug = none := by kernel_rfl
theorem laid : laidOutB Try.prog = true := by kernel_rfl
set_option maxRecDepth 100000 in
theorem lifted (os : Os) (started : os.Started) (H : Type) (enc : TypeId × Value → H) :
    ReturnsInHanded {} Try.checked os 5 .any (Rows.frameInvertsSpec.pre6 enc Try.prog Try.f5 Rows.frameInvertsRow.domain false) (Rows.frameInvertsSpec.post enc Try.prog Try.f5 false true false false) := by
  refine returnsInHanded_of_change (C := Try.checked) own started (by kernel_rfl) Try.func5
    (ChangeSpec.witness6 (enc := enc) (C := Try.checked) false ⟨#[], #[.slice none 0 0], []⟩ 8 (by kernel_rfl) (by kernel_rfl) (by kernel_rfl) (by kernel_rfl)) ?_
  intro W base args ds gs before hval0 hW hcnd _
  have hval : ∀ (j : Nat) t v, Try.f5.params[j]? = some t → args[j]? = some v → Value.okWide Try.prog W .any base t v := hval0
  have hW' := hW
  obtain ⟨p, q, hA0, hV, rfl, hfz, hnd⟩ := hW
  have hA : DataW.TrodAll enc Try.prog W 0 (fun _ => true) true Try.f5.params.toList args.toList ds p := hA0
  rw [Try.params5] at hA hval
  obtain ⟨v0, vs0, d0, ds0, p0, q0, hargs, rfl, rfl, h0, r0⟩ := trodAll_cons hA
  obtain ⟨rfl, rfl, rfl⟩ := trodAll_nil r0
  obtain rfl : args = #[v0] := by cases args; simp_all
  obtain ⟨rfl, rfl⟩ := trodVars_none hV
  obtain ⟨l0, es0, g0, A0, k0, m0, has0⟩ := arg_slice (el_two Try.underlying23 (by kernel_rfl) rfl rfl (c1_int Try.underlying3 (by kernel_rfl)) (c1_str Try.underlying9 (by kernel_rfl))) Try.underlying37 (hval 0 37 v0 rfl rfl) h0
  clear hA0 hval0
  refine (calls_args (W := W) (.cons A0 .nil) (InvertsF_row l0 _ _ (has0 _ _ (fun j b hb => by simpa [Nat.add_assoc] using has_at (esL := (([] : List (Gh.Loc × Gh.Blk)))) (es := es0) (esR := (([] : List (Gh.Loc × Gh.Blk)))) j b hb)) k0 m0)).mono fun e W' ⟨he, hg⟩ => ?_
  subst he
  exact ⟨_, rfl, post_law (tb := 4) laid hW' rfl (by kernel_rfl) rfl Try.underlying4 ⟨rfl, rfl, rfl⟩ hg⟩

theorem proved : Rows.FrameInvertsSaid :=
  OpenClaim.holds_of_wide 5 Try.f5 rfl rfl rfl rfl rfl rfl rfl ⟨rfl, rfl, rfl, rfl, rfl⟩ rfl rfl rfl rfl rfl (by kernel_rfl) Try.func5 (by kernel_rfl)
    (of_decide_eq_true (by kernel_rfl)) (by unfold Func.isWrapper; first | (rw [if_pos (by decide +kernel)]; kernel_rfl) | (rw [if_neg (by decide +kernel)]; exact ⟨rfl, rfl⟩))
    (fun os started H enc _ => lifted os started H enc)
#print axioms proved
end Go.Proofs.Yteaohknkhlnojaa.frameInverts
