/- The statement of the law TopDamage: for every input it returns true, and every argument reads behind the call as it read before. No condition. -/
import Derived.Test.YteddogfolceahaaGreatZTopDamageM
import Derived.Test.YteddogfolceahaaGreatRows
namespace Go.Proofs.YteddogfolceahaaGreat.topDamage
open Go.ChangeShapes Go.WideShapes Go.ChangeAt Go.RowKit Go.Gh
open Go.ChangeMaps (open_string)
theorem own : ownKnob Tryz.prog.godebug = none := by kernel_rfl
theorem laid : laidOutB Tryz.prog = true := by kernel_rfl
set_option maxRecDepth 100000 in
theorem lifted (os : Os) (started : os.Started) (H : Type) (enc : TypeId × Value → H) :
    ReturnsInHanded {} Tryz.checked os 3 .any (Rows.topDamageSpec.pre6 enc Tryz.prog Tryz.f3 Rows.topDamageRow.domain false) (Rows.topDamageSpec.post enc Tryz.prog Tryz.f3 false true false false) := by
  refine returnsInHanded_of_change (C := Tryz.checked) own started (by kernel_rfl) Tryz.func3
    (ChangeSpec.witness6 (enc := enc) (C := Tryz.checked) false ⟨#[], #[.slice none 0 0, .int .u8 0, .int .u16 0, .int .u32 0], []⟩ 8 (by kernel_rfl) (by kernel_rfl) (by kernel_rfl) (by kernel_rfl)) ?_
  intro W base args ds gs before hval0 hW hcnd _
  have hval : ∀ (j : Nat) t v, Tryz.f3.params[j]? = some t → args[j]? = some v → Value.okWide Tryz.prog W .any base t v := hval0
  have hW' := hW
  obtain ⟨p, q, hA0, hV, rfl, hfz, hnd⟩ := hW
  have hA : DataW.TrodAll enc Tryz.prog W 0 (fun _ => true) true Tryz.f3.params.toList args.toList ds p := hA0
  rw [Tryz.params3] at hA hval
  obtain ⟨v0, vs0, d0, ds0, p0, q0, hargs, rfl, rfl, h0, r0⟩ := trodAll_cons hA
  obtain ⟨v1, vs1, d1, ds1, p1, q1, rfl, rfl, rfl, h1, r1⟩ := trodAll_cons r0
  obtain ⟨v2, vs2, d2, ds2, p2, q2, rfl, rfl, rfl, h2, r2⟩ := trodAll_cons r1
  obtain ⟨v3, vs3, d3, ds3, p3, q3, rfl, rfl, rfl, h3, r3⟩ := trodAll_cons r2
  obtain ⟨rfl, rfl, rfl⟩ := trodAll_nil r3
  obtain rfl : args = #[v0, v1, v2, v3] := by cases args; simp_all
  obtain ⟨rfl, rfl⟩ := trodVars_none hV
  obtain ⟨l0, es0, g0, A0, k0, m0, has0⟩ := arg_slice (el_two Tryz.underlying33 (by kernel_rfl) rfl rfl (c1_int Tryz.underlying3 (by kernel_rfl)) (c1_str Tryz.underlying9 (by kernel_rfl))) Tryz.underlying22 (hval 0 22 v0 rfl rfl) h0
  obtain ⟨a1, rfl, rfl, rfl, w1⟩ := open_int Tryz.underlying5 (hval 1 5 v1 rfl rfl) h1
  obtain ⟨a2, rfl, rfl, rfl, w2⟩ := open_int Tryz.underlying23 (hval 2 23 v2 rfl rfl) h2
  obtain ⟨a3, rfl, rfl, rfl, w3⟩ := open_int Tryz.underlying24 (hval 3 24 v3 rfl rfl) h3
  clear hA0 hval0
  refine (calls_args (W := W) (.cons A0 (.cons (arg_const rfl) (.cons (arg_const rfl) (.cons (arg_const rfl) .nil)))) (Dam_law l0 _ a1 a2 a3 _ (has0 _ _ (fun j b hb => by simpa [Nat.add_assoc] using has_at (esL := (([] : List (Gh.Loc × Gh.Blk)))) (es := es0) (esR := (([] : List (Gh.Loc × Gh.Blk)) ++ ([] : List (Gh.Loc × Gh.Blk)) ++ ([] : List (Gh.Loc × Gh.Blk)) ++ ([] : List (Gh.Loc × Gh.Blk)))) j b hb)) k0 m0 (wf_u8 w1) (wf_u16 w2) (wf_u32 w3))).mono fun e W' ⟨he, hg⟩ => ?_
  subst he
  exact ⟨_, rfl, post_law (tb := 4) laid hW' rfl (by kernel_rfl) rfl Tryz.underlying4 ⟨rfl, rfl, rfl⟩ hg⟩

theorem proved : Rows.TopDamageSaid :=
  OpenClaim.holds_of_wide 3 Tryz.f3 rfl rfl rfl rfl rfl rfl rfl ⟨rfl, rfl, rfl, rfl, rfl⟩ rfl rfl rfl rfl rfl (by kernel_rfl) Tryz.func3 (by kernel_rfl)
    (of_decide_eq_true (by kernel_rfl)) (by unfold Func.isWrapper; first | (rw [if_pos (by decide +kernel)]; kernel_rfl) | (rw [if_neg (by decide +kernel)]; exact ⟨rfl, rfl⟩))
    (fun os started H enc _ => lifted os started H enc)
#print axioms proved
end Go.Proofs.YteddogfolceahaaGreat.topDamage
