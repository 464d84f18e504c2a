/- The statement of the law DirectoryReplaces: for every input it returns true, and every argument reads behind the call as it read before. No condition. -/
import Derived.Test.YtncnmfdmbfbfjaaGreatZDirectoryReplacesJ
import Derived.Test.YtncnmfdmbfbfjaaGreatRows
namespace Go.Proofs.YtncnmfdmbfbfjaaGreat.directoryReplaces
open Go.ChangeShapes Go.WideShapes Go.ChangeAt Go.RowKit Go.Gh
open Go.ChangeMaps (open_string)
theorem own : ownKnob Tryz.prog.godebug = none := by kernel_rfl
theorem laid : laidOutB Tryz.prog = true := by kernel_rfl
set_option maxRecDepth 100000 in
theorem lifted (os : Os) (started : os.Started) (H : Type) (enc : TypeId × Value → H) :
    ReturnsInHanded {} Tryz.checked os 9 .any (Rows.directoryReplacesSpec.pre6 enc Tryz.prog Tryz.f9 Rows.directoryReplacesRow.domain false) (Rows.directoryReplacesSpec.post enc Tryz.prog Tryz.f9 false true false false) := by
  refine returnsInHanded_of_change (C := Tryz.checked) own started (by kernel_rfl) Tryz.func9
    (ChangeSpec.witness6 (enc := enc) (C := Tryz.checked) false ⟨#[], #[.agg #[.int .i64 0, .int .i64 0, .int .i64 0, .slice none 0 0], .int .i64 0, .int .i64 0, .slice none 0 0], []⟩ 8 (by kernel_rfl) (by kernel_rfl) (by kernel_rfl) (by kernel_rfl)) ?_
  intro W base args ds gs before hval0 hW hcnd _
  have hval : ∀ (j : Nat) t v, Tryz.f9.params[j]? = some t → args[j]? = some v → Value.okWide Tryz.prog W .any base t v := hval0
  have hW' := hW
  obtain ⟨p, q, hA0, hV, rfl, hfz, hnd⟩ := hW
  have hA : DataW.TrodAll enc Tryz.prog W 0 (fun _ => true) true Tryz.f9.params.toList args.toList ds p := hA0
  rw [Tryz.params9] at hA hval
  obtain ⟨v0, vs0, d0, ds0, p0, q0, hargs, rfl, rfl, h0, r0⟩ := trodAll_cons hA
  obtain ⟨v1, vs1, d1, ds1, p1, q1, rfl, rfl, rfl, h1, r1⟩ := trodAll_cons r0
  obtain ⟨v2, vs2, d2, ds2, p2, q2, rfl, rfl, rfl, h2, r2⟩ := trodAll_cons r1
  obtain ⟨v3, vs3, d3, ds3, p3, q3, rfl, rfl, rfl, h3, r3⟩ := trodAll_cons r2
  obtain ⟨rfl, rfl, rfl⟩ := trodAll_nil r3
  obtain rfl : args = #[v0, v1, v2, v3] := by cases args; simp_all
  obtain ⟨rfl, rfl⟩ := trodVars_none hV
  obtain ⟨a0, l0, es0, g0, A0, w0, k0, m0, has0⟩ := arg_sslice (t2 := 0) Tryz.underlying26 (by kernel_rfl) rfl rfl (el_three Tryz.underlying23 (by kernel_rfl) rfl rfl rfl (c1_int Tryz.underlying3 (by kernel_rfl)) (c1_int Tryz.underlying3 (by kernel_rfl)) (c1_int Tryz.underlying3 (by kernel_rfl))) Tryz.underlying24 (by kernel_rfl) (el_flds Tryz.underlying48 (by kernel_rfl) (by decide) (Flds.cons rfl (el_one (c1_int Tryz.underlying3 (by kernel_rfl))) (Flds.cons rfl (el_one (c1_int Tryz.underlying3 (by kernel_rfl))) (Flds.cons rfl (el_one (c1_int Tryz.underlying3 (by kernel_rfl))) (Flds.cons rfl (el_one (c1_int Tryz.underlying3 (by kernel_rfl))) (Flds.last rfl (el_three Tryz.underlying23 (by kernel_rfl) rfl rfl rfl (c1_int Tryz.underlying3 (by kernel_rfl)) (c1_int Tryz.underlying3 (by kernel_rfl)) (c1_int Tryz.underlying3 (by kernel_rfl))))))))) (hval 0 26 v0 rfl rfl) h0
  obtain ⟨a1, rfl, rfl, rfl, w1⟩ := open_int Tryz.underlying3 (hval 1 3 v1 rfl rfl) h1
  obtain ⟨a2, rfl, rfl, rfl, w2⟩ := open_int Tryz.underlying3 (hval 2 3 v2 rfl rfl) h2
  obtain ⟨l3, es3, g3, A3, k3, m3, has3⟩ := arg_slice (el_flds Tryz.underlying48 (by kernel_rfl) (by decide) (Flds.cons rfl (el_one (c1_int Tryz.underlying3 (by kernel_rfl))) (Flds.cons rfl (el_one (c1_int Tryz.underlying3 (by kernel_rfl))) (Flds.cons rfl (el_one (c1_int Tryz.underlying3 (by kernel_rfl))) (Flds.cons rfl (el_one (c1_int Tryz.underlying3 (by kernel_rfl))) (Flds.last rfl (el_three Tryz.underlying23 (by kernel_rfl) rfl rfl rfl (c1_int Tryz.underlying3 (by kernel_rfl)) (c1_int Tryz.underlying3 (by kernel_rfl)) (c1_int Tryz.underlying3 (by kernel_rfl))))))))) Tryz.underlying24 (hval 3 24 v3 rfl rfl) h3
  clear hA0 hval0
  refine (calls_args (W := W) (.cons A0 (.cons (arg_const rfl) (.cons (arg_const rfl) (.cons A3 .nil)))) (ReplacesD_any a0 l0 _ a1 a2 l3 _ _ w0 (has0 _ _ (fun j b hb => by simpa [Nat.add_assoc] using has_at (esL := (([] : List (Gh.Loc × Gh.Blk)))) (es := es0) (esR := (([] : List (Gh.Loc × Gh.Blk)) ++ ([] : List (Gh.Loc × Gh.Blk)) ++ es3 ++ ([] : List (Gh.Loc × Gh.Blk)))) j b hb)) k0 m0 (wf_i64 w1) (wf_i64 w2) (has3 _ _ (fun j b hb => by simpa [Nat.add_assoc] using has_at (esL := (es0 ++ ([] : List (Gh.Loc × Gh.Blk)) ++ ([] : List (Gh.Loc × Gh.Blk)) ++ ([] : List (Gh.Loc × Gh.Blk)))) (es := es3) (esR := (([] : List (Gh.Loc × Gh.Blk)))) j b hb)) k3 m3)).mono fun e W' ⟨he, hg⟩ => ?_
  subst he
  exact ⟨_, rfl, post_law (tb := 4) laid hW' rfl (by kernel_rfl) rfl Tryz.underlying4 ⟨rfl, rfl, rfl⟩ hg⟩

theorem proved : Rows.DirectoryReplacesSaid :=
  OpenClaim.holds_of_wide 9 Tryz.f9 rfl rfl rfl rfl rfl rfl rfl ⟨rfl, rfl, rfl, rfl, rfl⟩ rfl rfl rfl rfl rfl (by kernel_rfl) Tryz.func9 (by kernel_rfl)
    (of_decide_eq_true (by kernel_rfl)) (by unfold Func.isWrapper; first | (rw [if_pos (by decide +kernel)]; kernel_rfl) | (rw [if_neg (by decide +kernel)]; exact ⟨rfl, rfl⟩))
    (fun os started H enc _ => lifted os started H enc)
#print axioms proved
end Go.Proofs.YtncnmfdmbfbfjaaGreat.directoryReplaces
