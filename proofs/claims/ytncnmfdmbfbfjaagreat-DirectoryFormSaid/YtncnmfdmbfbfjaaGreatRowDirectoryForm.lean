/- The statement of the law DirectoryForm: for every input it returns true, and every argument reads behind the call as it read before. No condition. -/
import Derived.Test.YtncnmfdmbfbfjaaGreatZDirectoryFormJ
import Derived.Test.YtncnmfdmbfbfjaaGreatRows
namespace Go.Proofs.YtncnmfdmbfbfjaaGreat.directoryForm
open Go.ChangeShapes Go.WideShapes Go.ChangeAt Go.RowKit Go.Gh
open Go.ChangeMaps (open_string)
theorem own : ownKnob Tryz.prog.godebug = none := by kernel_rfl
theorem laid : laidOutB Tryz.prog = true := by kernel_rfl
set_option maxRecDepth 100000 in
theorem lifted (os : Os) (started : os.Started) (H : Type) (enc : TypeId × Value → H) :
    ReturnsInHanded {} Tryz.checked os 3 .any (Rows.directoryFormSpec.pre6 enc Tryz.prog Tryz.f3 Rows.directoryFormRow.domain false) (Rows.directoryFormSpec.post enc Tryz.prog Tryz.f3 false true false false) := by
  refine returnsInHanded_of_change (C := Tryz.checked) own started (by kernel_rfl) Tryz.func3
    (ChangeSpec.witness6 (enc := enc) (C := Tryz.checked) false ⟨#[], #[.agg #[.int .i64 0, .int .i64 0, .int .i64 0, .slice none 0 0]], []⟩ 8 (by kernel_rfl) (by kernel_rfl) (by kernel_rfl) (by kernel_rfl)) ?_
  intro W base args ds gs before hval0 hW hcnd _
  have hval : ∀ (j : Nat) t v, Tryz.f3.params[j]? = some t → args[j]? = some v → Value.okWide Tryz.prog W .any base t v := hval0
  have hW' := hW
  obtain ⟨p, q, hA0, hV, rfl, hfz, hnd⟩ := hW
  have hA : DataW.TrodAll enc Tryz.prog W 0 (fun _ => true) true Tryz.f3.params.toList args.toList ds p := hA0
  rw [Tryz.params3] at hA hval
  obtain ⟨v0, vs0, d0, ds0, p0, q0, hargs, rfl, rfl, h0, r0⟩ := trodAll_cons hA
  obtain ⟨rfl, rfl, rfl⟩ := trodAll_nil r0
  obtain rfl : args = #[v0] := by cases args; simp_all
  obtain ⟨rfl, rfl⟩ := trodVars_none hV
  obtain ⟨a0, l0, es0, g0, A0, w0, k0, m0, has0⟩ := arg_sslice (t2 := 0) Tryz.underlying26 (by kernel_rfl) rfl rfl (el_three Tryz.underlying23 (by kernel_rfl) rfl rfl rfl (c1_int Tryz.underlying3 (by kernel_rfl)) (c1_int Tryz.underlying3 (by kernel_rfl)) (c1_int Tryz.underlying3 (by kernel_rfl))) Tryz.underlying24 (by kernel_rfl) (el_flds Tryz.underlying48 (by kernel_rfl) (by decide) (Flds.cons rfl (el_one (c1_int Tryz.underlying3 (by kernel_rfl))) (Flds.cons rfl (el_one (c1_int Tryz.underlying3 (by kernel_rfl))) (Flds.cons rfl (el_one (c1_int Tryz.underlying3 (by kernel_rfl))) (Flds.cons rfl (el_one (c1_int Tryz.underlying3 (by kernel_rfl))) (Flds.last rfl (el_three Tryz.underlying23 (by kernel_rfl) rfl rfl rfl (c1_int Tryz.underlying3 (by kernel_rfl)) (c1_int Tryz.underlying3 (by kernel_rfl)) (c1_int Tryz.underlying3 (by kernel_rfl))))))))) (hval 0 26 v0 rfl rfl) h0
  clear hA0 hval0
  refine (calls_args (W := W) (.cons A0 .nil) (FormD_any a0 l0 _ _ w0 (has0 _ _ (fun j b hb => by simpa [Nat.add_assoc] using has_at (esL := (([] : List (Gh.Loc × Gh.Blk)))) (es := es0) (esR := (([] : List (Gh.Loc × Gh.Blk)))) j b hb)) k0 m0)).mono fun e W' ⟨he, hg⟩ => ?_
  subst he
  exact ⟨_, rfl, post_law (tb := 4) laid hW' rfl (by kernel_rfl) rfl Tryz.underlying4 ⟨rfl, rfl, rfl⟩ hg⟩

theorem proved : Rows.DirectoryFormSaid :=
  OpenClaim.holds_of_wide 3 Tryz.f3 rfl rfl rfl rfl rfl rfl rfl ⟨rfl, rfl, rfl, rfl, rfl⟩ rfl rfl rfl rfl rfl (by kernel_rfl) Tryz.func3 (by kernel_rfl)
    (of_decide_eq_true (by kernel_rfl)) (by unfold Func.isWrapper; first | (rw [if_pos (by decide +kernel)]; kernel_rfl) | (rw [if_neg (by decide +kernel)]; exact ⟨rfl, rfl⟩))
    (fun os started H enc _ => lifted os started H enc)
#print axioms proved
end Go.Proofs.YtncnmfdmbfbfjaaGreat.directoryForm
