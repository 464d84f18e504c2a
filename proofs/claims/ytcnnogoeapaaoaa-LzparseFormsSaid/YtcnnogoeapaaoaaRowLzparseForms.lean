/- The statement of the law LzparseForms: for every input it returns true, and every argument reads behind the call as it read before. No condition. -/
import Derived.Test.YtcnnogoeapaaoaaLzH
import Derived.Test.YtcnnogoeapaaoaaRows
import Derived.Test.YtcnnogoeapaaoaaSlY
namespace Go.Proofs.Ytcnnogoeapaaoaa.lzparseForms
open Go.ChangeShapes Go.WideShapes Go.ChangeAt Go.RowKit Go.Gh
open Go.ChangeMaps (open_string)
theorem own : ownKnob Try.prog.godebug = none := by kernel_rfl
theorem laid : laidOutB Try.prog = true := by kernel_rfl
set_option maxRecDepth 100000 in
theorem lifted (os : Os) (started : os.Started) (H : Type) (enc : TypeId × Value → H) :
    ReturnsInHanded {} Try.checked os 4 .any (Rows.lzparseFormsSpec.pre6 enc Try.prog Try.f4 Rows.lzparseFormsRow.domain false) (Rows.lzparseFormsSpec.post enc Try.prog Try.f4 false true false false) := by
  refine returnsInHanded_of_change (C := Try.checked) own started (by kernel_rfl) Try.func4
    (ChangeSpec.witness6 (enc := enc) (C := Try.checked) false ⟨#[], #[.agg #[.int .i64 0, .int .i64 0, .int .i64 0, .int .i64 0], .slice none 0 0], []⟩ 8 (by kernel_rfl) (by kernel_rfl) (by kernel_rfl) (by kernel_rfl)) ?_
  intro W base args ds gs before hval0 hW hcnd _
  have hval : ∀ (j : Nat) t v, Try.f4.params[j]? = some t → args[j]? = some v → Value.okWide Try.prog W .any base t v := hval0
  have hW' := hW
  obtain ⟨p, q, hA0, hV, rfl, hfz, hnd⟩ := hW
  have hA : DataW.TrodAll enc Try.prog W 0 (fun _ => true) true Try.f4.params.toList args.toList ds p := hA0
  rw [Try.params4] at hA hval
  obtain ⟨v0, vs0, d0, ds0, p0, q0, hargs, rfl, rfl, h0, r0⟩ := trodAll_cons hA
  obtain ⟨v1, vs1, d1, ds1, p1, q1, rfl, rfl, rfl, h1, r1⟩ := trodAll_cons r0
  obtain ⟨rfl, rfl, rfl⟩ := trodAll_nil r1
  obtain rfl : args = #[v0, v1] := by cases args; simp_all
  obtain ⟨rfl, rfl⟩ := trodVars_none hV
  obtain ⟨a0, rfl, w0⟩ := arg_struct Try.underlying23 (el_flds Try.underlying23 (by kernel_rfl) (by decide) (Flds.cons rfl (el_one (c1_int Try.underlying3 (by kernel_rfl))) (Flds.cons rfl (el_one (c1_int Try.underlying3 (by kernel_rfl))) (Flds.cons rfl (el_one (c1_int Try.underlying3 (by kernel_rfl))) (Flds.last rfl (el_one (c1_int Try.underlying3 (by kernel_rfl)))))))) (hval 0 23 v0 rfl rfl) h0
  obtain ⟨l1, es1, g1, A1, k1, m1, has1⟩ := arg_slice (el_three Try.underlying35 (by kernel_rfl) rfl rfl rfl (c1_int Try.underlying3 (by kernel_rfl)) (c1_int Try.underlying3 (by kernel_rfl)) (c1_int Try.underlying5 (by kernel_rfl))) Try.underlying26 (hval 1 26 v1 rfl rfl) h1
  clear hA0 hval0
  refine (calls_args (W := W) (.cons (arg_const rfl) (.cons A1 .nil)) (Forms_law a0 l1 _ _ w0 (has1 _ _ (fun j b hb => by simpa [Nat.add_assoc] using has_at (esL := (([] : List (Gh.Loc × Gh.Blk)) ++ ([] : List (Gh.Loc × Gh.Blk)))) (es := es1) (esR := (([] : List (Gh.Loc × Gh.Blk)))) j b hb)) k1 m1)).mono fun e W' ⟨he, hg⟩ => ?_
  subst he
  exact ⟨_, rfl, post_law (tb := 4) laid hW' rfl (by kernel_rfl) rfl Try.underlying4 ⟨rfl, rfl, rfl⟩ hg⟩

theorem proved : Rows.LzparseFormsSaid :=
  OpenClaim.holds_of_wide 4 Try.f4 rfl rfl rfl rfl rfl rfl rfl ⟨rfl, rfl, rfl, rfl, rfl⟩ rfl rfl rfl rfl rfl (by kernel_rfl) Try.func4 (by kernel_rfl)
    (of_decide_eq_true (by kernel_rfl)) (by unfold Func.isWrapper; first | (rw [if_pos (by decide +kernel)]; kernel_rfl) | (rw [if_neg (by decide +kernel)]; exact ⟨rfl, rfl⟩))
    (fun os started H enc _ => lifted os started H enc)
#print axioms proved
end Go.Proofs.Ytcnnogoeapaaoaa.lzparseForms
