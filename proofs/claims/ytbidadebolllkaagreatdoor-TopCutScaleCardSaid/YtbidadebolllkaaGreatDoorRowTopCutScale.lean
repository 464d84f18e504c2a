/- The statement of the law TopCutScale: for every input it returns true, and every argument reads behind the call as it read before. No condition. -/
import Derived.Test.YtbidadebolllkaaGreatDoorZTopCutScaleM
import Derived.Test.YtbidadebolllkaaGreatDoorCards
import Derived.Test.YtbidadebolllkaaGreatDoorTie
import Derived.WalkKit
import Derived.ProofKit
import Derived.OpenShut
import Derived.Deep.DeepHandedRow
import Derived.Deep.DeepWitnessRowRef
import Derived.Stop.LaidErr
import Derived.Lib.LaidTab
import Derived.Lib.AppendIntMem
namespace Go.Proofs.YtbidadebolllkaaGreatDoor.topCutScale
open Go.ChangeShapes Go.WideShapes Go.ChangeAt Go.RowKit Go.Gh
open Go.ChangeMaps (open_string)
theorem own : ownKnob Tryz.prog.godebug = none := by kernel_rfl
theorem laid : laidOutB Tryz.prog = true := by kernel_rfl
theorem gw {W : World} (hL : laidMet Tryz.prog Rows.topCutScaleRow.laid W) : GW W.heap.size W :=
  Lib.tabBelow_of_tabIs (Lib.tabIs_of_head (g := 0) (t := 353) (e := 312) (n := 20) (by kernel_rfl) (by kernel_rfl) (by kernel_rfl) (by kernel_rfl) (by kernel_rfl) (by kernel_rfl) hL.tail.tail)
set_option maxRecDepth 100000 in
theorem contract (H : Type) (enc : TypeId × Value → H) (W : World) (base : Nat) (args : Array Value) (ds gs : List (DataW H)) (before : List MemPlace)
    (hval0 : ∀ (j : Nat) t v, Tryz.f3.params[j]? = some t → args[j]? = some v → Value.okWide Tryz.prog W .any base t v)
    (hW : DataW.Whole enc Tryz.prog Tryz.f3.params.toList Rows.topCutScaleSpec.vars false W args.toList ds gs before) (hg : GW W.heap.size W)
    (hz : (DataW.weightsEach Tryz.prog (Tryz.f3.params.toList ++ (OpenSpec.ofChange Rows.topCutScaleSpec).bare.plain.varTypes Tryz.prog) (ds ++ gs)).all (· ≤ reachBytes) = true) :
    Calls Tryz.prog 3 args W fun e W' => ∃ v, e = .returned v ∧ Rows.topCutScaleSpec.post enc Tryz.prog Tryz.f3 false true false false W args v W' := by
  have hval := hval0
  have hW' := hW
  obtain ⟨p, q, hA0, hV, rfl, hfz, hnd⟩ := hW
  have hA : DataW.TrodAll enc Tryz.prog W 0 (fun _ => true) true Tryz.f3.params.toList args.toList ds p := hA0
  rw [Tryz.params3] at hA hval
  obtain ⟨v0, vs0, d0, ds0, p0, q0, hargs, rfl, rfl, h0, r0⟩ := trodAll_cons hA
  obtain ⟨v1, vs1, d1, ds1, p1, q1, rfl, rfl, rfl, h1, r1⟩ := trodAll_cons r0
  obtain ⟨v2, vs2, d2, ds2, p2, q2, rfl, rfl, rfl, h2, r2⟩ := trodAll_cons r1
  obtain ⟨v3, vs3, d3, ds3, p3, q3, rfl, rfl, rfl, h3, r3⟩ := trodAll_cons r2
  obtain ⟨rfl, rfl, rfl⟩ := trodAll_nil r3
  obtain rfl : args = #[v0, v1, v2, v3] := by cases args; simp_all
  obtain ⟨rfl, rfl⟩ := trodVars_none hV
  have hw0 : ∀ m ∈ d0.weights Tryz.prog 27, m ≤ reachBytes := fun m hm => by simpa using List.all_eq_true.1 hz m (DataW.weights_mem_each (j := 0) (t := 27) rfl rfl m hm)
  obtain ⟨a1, rfl, rfl, rfl, w1⟩ := open_int Tryz.underlying3 (hval 1 3 v1 rfl rfl) h1
  obtain ⟨a2, rfl, rfl, rfl, w2⟩ := open_int Tryz.underlying3 (hval 2 3 v2 rfl rfl) h2
  obtain ⟨a3, rfl, rfl, rfl, w3⟩ := open_int Tryz.underlying3 (hval 3 3 v3 rfl rfl) h3
  clear hA0 hval0
  refine (law_calls (hval 0 27 v0 rfl rfl) h0 hw0 hg).mono fun e W' ⟨he, hg⟩ => ?_
  subst he
  exact ⟨_, rfl, post_law (tb := 4) laid hW' rfl (by kernel_rfl) rfl Tryz.underlying4 ⟨rfl, rfl, rfl⟩ hg⟩

noncomputable def low : Nat := (World.holding Tryz.prog default ⟨#[], #[], []⟩).heap.size
/-- A world for the witness: it holds the listed tables. -/
noncomputable def laidWorld (os : Os) : World :=
  { World.holding Tryz.prog os ⟨#[.cells #[.string ⟨#[118, 97, 108, 117, 101, 32, 111, 117, 116, 32, 111, 102, 32, 114, 97, 110, 103, 101]⟩] 399, .cells #[.string ⟨#[105, 110, 118, 97, 108, 105, 100, 32, 115, 121, 110, 116, 97, 120]⟩] 399], #[], []⟩ with heap := ((((((((World.holding Tryz.prog os ⟨#[.cells #[.string ⟨#[118, 97, 108, 117, 101, 32, 111, 117, 116, 32, 111, 102, 32, 114, 97, 110, 103, 101]⟩] 399, .cells #[.string ⟨#[105, 110, 118, 97, 108, 105, 100, 32, 115, 121, 110, 116, 97, 120]⟩] 399], #[], []⟩).heap).modify 6 (fun | .cells _ t frozen => .cells #[.int .u8 0, .int .u8 1, .int .u8 28, .int .u8 2, .int .u8 29, .int .u8 14, .int .u8 24, .int .u8 3, .int .u8 30, .int .u8 22, .int .u8 20, .int .u8 15, .int .u8 25, .int .u8 17, .int .u8 4, .int .u8 8, .int .u8 31, .int .u8 27, .int .u8 13, .int .u8 23, .int .u8 21, .int .u8 19, .int .u8 16, .int .u8 7, .int .u8 26, .int .u8 12, .int .u8 18, .int .u8 6, .int .u8 11, .int .u8 5, .int .u8 10, .int .u8 9] t frozen | o => o)).modify 7 (fun | .cells _ t frozen => .cells #[.int .u8 0, .int .u8 1, .int .u8 56, .int .u8 2, .int .u8 57, .int .u8 49, .int .u8 28, .int .u8 3, .int .u8 61, .int .u8 58, .int .u8 42, .int .u8 50, .int .u8 38, .int .u8 29, .int .u8 17, .int .u8 4, .int .u8 62, .int .u8 47, .int .u8 59, .int .u8 36, .int .u8 45, .int .u8 43, .int .u8 51, .int .u8 22, .int .u8 53, .int .u8 39, .int .u8 33, .int .u8 30, .int .u8 24, .int .u8 18, .int .u8 12, .int .u8 5, .int .u8 63, .int .u8 55, .int .u8 48, .int .u8 27, .int .u8 60, .int .u8 41, .int .u8 37, .int .u8 16, .int .u8 46, .int .u8 35, .int .u8 44, .int .u8 21, .int .u8 52, .int .u8 32, .int .u8 23, .int .u8 11, .int .u8 54, .int .u8 26, .int .u8 40, .int .u8 15, .int .u8 34, .int .u8 20, .int .u8 31, .int .u8 10, .int .u8 25, .int .u8 14, .int .u8 19, .int .u8 9, .int .u8 13, .int .u8 8, .int .u8 7, .int .u8 6] t frozen | o => o)).modify 0 (fun | .cells _ t frozen => .cells #[.int .u64 1, .int .u64 10, .int .u64 100, .int .u64 1000, .int .u64 10000, .int .u64 100000, .int .u64 1000000, .int .u64 10000000, .int .u64 100000000, .int .u64 1000000000, .int .u64 10000000000, .int .u64 100000000000, .int .u64 1000000000000, .int .u64 10000000000000, .int .u64 100000000000000, .int .u64 1000000000000000, .int .u64 10000000000000000, .int .u64 100000000000000000, .int .u64 1000000000000000000, .int .u64 10000000000000000000] t frozen | o => o)).modify 5 (fun | .cells _ t frozen => .cells #[.int .u8 128, .int .u8 191, .int .u8 160, .int .u8 191, .int .u8 128, .int .u8 159, .int .u8 144, .int .u8 191, .int .u8 128, .int .u8 143, .int .u8 0, .int .u8 0, .int .u8 0, .int .u8 0, .int .u8 0, .int .u8 0, .int .u8 0, .int .u8 0, .int .u8 0, .int .u8 0, .int .u8 0, .int .u8 0, .int .u8 0, .int .u8 0, .int .u8 0, .int .u8 0, .int .u8 0, .int .u8 0, .int .u8 0, .int .u8 0, .int .u8 0, .int .u8 0] t frozen | o => o)).modify 3 (fun | .cells _ t frozen => .cells #[.iface 397 (.pointer (some ⟨low + 0, 0, none⟩))] t frozen | o => o)).modify 2 (fun | .cells _ t frozen => .cells #[.iface 397 (.pointer (some ⟨low + 1, 0, none⟩))] t frozen | o => o)).modify 4 (fun | .cells _ t frozen => .cells ((Go.Pinned.utf8FirstZ.map fun (n : Nat) => Value.int .u8 (n : Int)).toArray) t frozen | o => o) }
theorem laid_met (os : Os) : laidMet Tryz.prog Rows.topCutScaleRow.laid ((laidWorld os).forCall (fun _ _ => 0) ⟨#[], #[.agg #[.int .i64 0, .string ⟨#[]⟩, .string ⟨#[]⟩, .string ⟨#[]⟩, .slice none 0 0, .slice none 0 0, .slice none 0 0, .slice none 0 0, .int .i64 0], .int .i64 0, .int .i64 0, .int .i64 0], []⟩).memory :=
  laidMet_of_run' 8 (by kernel_rfl) (by kernel_rfl)
theorem reads (os : Os) {H : Type} (enc : TypeId × Value → H) : ∃ places, DataW.whole enc Tryz.prog ((laidWorld os).forCall (fun _ _ => 0) ⟨#[], #[.agg #[.int .i64 0, .string ⟨#[]⟩, .string ⟨#[]⟩, .string ⟨#[]⟩, .slice none 0 0, .slice none 0 0, .slice none 0 0, .slice none 0 0, .int .i64 0], .int .i64 0, .int .i64 0, .int .i64 0], []⟩).memory Tryz.f3.params.toList Rows.topCutScaleSpec.vars false (#[.agg #[.int .i64 0, .string ⟨#[]⟩, .string ⟨#[]⟩, .string ⟨#[]⟩, .slice none 0 0, .slice none 0 0, .slice none 0 0, .slice none 0 0, .int .i64 0], .int .i64 0, .int .i64 0, .int .i64 0] : Array Value).toList 8 = some ([.agg [.lit (.int .i64 0), .lit (.string []), .lit (.string []), .lit (.string []), .nil, .nil, .nil, .nil, .lit (.int .i64 0)], .lit (.int .i64 0), .lit (.int .i64 0), .lit (.int .i64 0)], [], places) :=
  ⟨[], by kernel_rfl⟩
set_option maxRecDepth 100000 in
theorem lifted (os : Os) (started : os.Started) (H : Type) (enc : TypeId × Value → H) (F : Stop.Interp) :
    ReturnsInHanded {} Tryz.checked os 3 .any ((OpenSpec.ofChange Rows.topCutScaleSpec).preRow enc Tryz.prog Tryz.f3 Rows.topCutScaleRow.domain false Rows.topCutScaleRow.laid) (((OpenSpec.ofChange Rows.topCutScaleSpec).at F).post enc Tryz.prog Tryz.f3 false true false false) := by
  obtain ⟨places, hx⟩ := reads os enc
  refine returnsInHanded_of_row (C := Tryz.checked) (s := OpenSpec.ofChange Rows.topCutScaleSpec) own started (by kernel_rfl) Tryz.func3
    (witness_row_atRef (enc := enc) (C := Tryz.checked) false (laidWorld os) #[.agg #[.int .i64 0, .string ⟨#[]⟩, .string ⟨#[]⟩, .string ⟨#[]⟩, .slice none 0 0, .slice none 0 0, .slice none 0 0, .slice none 0 0, .int .i64 0], .int .i64 0, .int .i64 0, .int .i64 0] rfl (by kernel_rfl) (by kernel_rfl) (by kernel_rfl)
      (OpenSpec.preRow_of_cond 8 hx (by kernel_rfl) (fun k hk => by cases hk) (by kernel_rfl) (laid_met os))) ?_
  intro W base args ds gs before hval hW _ _ hz hL _ _
  exact contract H enc W base args ds gs before hval hW (gw hL) hz
noncomputable abbrev PP := Tryz.pinned.checked.prog
abbrev RR := Rows.topCutScaleRow
abbrev SS := (OpenSpec.ofChange Rows.topCutScaleSpec).bare
theorem jf1 : (RR.wf (OpenSpec.ofChange SS)) = true := by kernel_rfl
theorem jf2 : (laidOutB PP) = true := by kernel_rfl
theorem jf3 : (mapsRowed PP) = true := by kernel_rfl
theorem jf4 : (Tryz.f3.params.all (PP.readableRec ·)) = true := by kernel_rfl
theorem jf5 : (namedTie PP RR.named SS.vars) = true := by kernel_rfl
theorem jf6 : ((RR.stops == [])) = true := by kernel_rfl
theorem jf7 : ((PP.stops == [])) = true := by kernel_rfl
theorem jf8 : ((RR.knobs == [])) = true := by kernel_rfl
theorem jf9 : ((PP.stopKnobs == [])) = true := by kernel_rfl
theorem jf10 : ((RR.inPlace == PP.inPlace 3)) = true := by kernel_rfl
theorem jf11 : ((RR.unfollowed == PP.unfollowed 3)) = true := by kernel_rfl
theorem jf12 : ((RR.recurses == PP.recurses 3)) = true := by kernel_rfl
theorem jf13 : ((RR.named == PP.varsNamed 3)) = true := by kernel_rfl
theorem jf14 : ((RR.maps == (Tryz.f3.params.toList ++ SS.plain.varTypes PP).any (PP.mapsRec ·))) = true := by kernel_rfl
theorem jf15 : ((RR.ifaces == (Tryz.f3.params.toList ++ SS.plain.varTypes PP).any (PP.ifacesRec ·))) = true := by kernel_rfl
theorem jf16 : ((RR.mapsOut == PP.mapsAmong Tryz.f3.resultTypes.toList)) = true := by kernel_rfl
theorem jf17 : ((RR.loops == (Tryz.f3.params.toList ++ SS.plain.varTypes PP).any (PP.loopsFrom ·))) = true := by kernel_rfl
theorem jf18 : ((RR.wideKeys == (Tryz.f3.params.toList ++ SS.plain.varTypes PP ++ Tryz.f3.resultTypes.toList).any (PP.wideKeysFrom ·))) = true := by kernel_rfl
theorem jf19 : (SS.vars.all (PP.varReadable ·)) = true := by kernel_rfl
theorem jf20 : (Tryz.f3.resultTypes.all (fun t => PP.readableRec t && decide (t < PP.types.size))) = true := by kernel_rfl
theorem jf21 : ((RR.ifacesOut == Tryz.f3.resultTypes.toList.any (PP.ifacesRec ·))) = true := by kernel_rfl
theorem jf22 : ((RR.loopsOut == Tryz.f3.resultTypes.toList.any (PP.loopsFrom ·))) = true := by kernel_rfl
theorem jf23 : ((RR.plainKeys == PP.plainKeys)) = true := by kernel_rfl
theorem jf24 : (RR.shortTexts.isNone) = true := by kernel_rfl
theorem jf25 : (PP.stopsHeard) = true := by kernel_rfl
theorem jf26 : (PP.mayEnter) = true := by kernel_rfl
theorem jf27 : ((RR.lifted == PP.liftsFinal)) = true := by kernel_rfl
theorem jf28 : ((PP.make == some RR.make)) = true := by kernel_rfl
theorem jf29 : ((RR.kinds == (if RR.domain.isEmpty then [] else Tryz.f3.params.toList.map fun t => match PP.underlying t with | some (.int k) => some k | _ => none))) = true := by kernel_rfl
theorem jf30 : ((RR.pinned == RR.pinnedBy)) = true := by kernel_rfl
theorem jf31 : ((RR.veiled == (Tryz.f3.params.toList ++ SS.plain.varTypes PP ++ Tryz.f3.resultTypes.toList).any (PP.veiledRec ·))) = true := by kernel_rfl
theorem jf32 : (RR.veiledFits PP Tryz.f3.params.toList (Tryz.f3.params.toList ++ SS.plain.varTypes PP ++ Tryz.f3.resultTypes.toList)) = true := by kernel_rfl
theorem ba {a b : Bool} (h : a = true) (g : b = true) : (a && b) = true := by rw [h, g]; rfl
set_option maxRecDepth 100000 in
theorem closed : joinedFacts Tryz.pinned.checked.prog 3 Tryz.f3 (OpenSpec.ofChange Rows.topCutScaleSpec).bare Rows.topCutScaleRow = true := by
  unfold joinedFacts
  exact (ba (ba (ba (ba (ba (ba (ba (ba (ba (ba (ba (ba (ba (ba (ba (ba (ba (ba (ba (ba (ba (ba (ba (ba (ba (ba (ba (ba (ba (ba (ba jf1 jf2) jf3) jf4) jf5) jf6) jf7) jf8) jf9) jf10) jf11) jf12) jf13) jf14) jf15) jf16) jf17) jf18) jf19) jf20) jf21) jf22) jf23) jf24) jf25) jf26) jf27) jf28) jf29) jf30) jf31) jf32)
theorem said : Rows.TopCutScaleSaid :=
  OpenClaim.holds_of_cond 3 Tryz.f3 rfl rfl rfl rfl rfl rfl rfl ⟨rfl, rfl, rfl, rfl, rfl⟩ rfl rfl rfl rfl rfl (by kernel_rfl) Tryz.func3 closed
    (of_decide_eq_true (by kernel_rfl)) (by unfold Func.isWrapper; first | (rw [if_pos (by decide +kernel)]; kernel_rfl) | (rw [if_neg (by decide +kernel)]; exact ⟨rfl, rfl⟩))
    (fun os started H enc _ F => by rw [OpenClaim.pre_eq_preRow]; exact lifted os started H enc F)
theorem plain (f : FuncId) (fn : Func) (hf : Tryz.pinned.checked.prog.funcNamed "wavestore/wavestoretop.TopCutScale" = some f) (hfn : Tryz.pinned.checked.prog.funcs[f]? = some fn) :
    true = Tryz.pinned.checked.prog.looks [] ∧ ∀ (j : Nat) t, fn.params[j]? = some t → Tryz.pinned.checked.prog.wantsStandIn t = false := by
  obtain rfl : f = 3 := Option.some.inj ((show Tryz.prog.funcNamed "wavestore/wavestoretop.TopCutScale" = some 3 by kernel_rfl).symm.trans hf) |>.symm
  obtain rfl : fn = Tryz.f3 := (Option.some.inj (Tryz.func3.symm.trans hfn)).symm
  refine ⟨by kernel_rfl, fun j t ht => ?_⟩
  rw [Tryz.params3] at ht
  have ht2 : t = 27 ∨ t = 3 ∨ t = 3 ∨ t = 3 := by simpa using Array.mem_of_getElem? ht
  rcases ht2 with rfl | rfl | rfl | rfl
  · exact (show Tryz.prog.wantsStandIn 27 = false by kernel_rfl)
  · exact (show Tryz.prog.wantsStandIn 3 = false by kernel_rfl)
  · exact (show Tryz.prog.wantsStandIn 3 = false by kernel_rfl)
  · exact (show Tryz.prog.wantsStandIn 3 = false by kernel_rfl)
/-- The card. -/
theorem proved : Rows.TopCutScaleCardSaid :=
  Claim7.holds_tied_plain_at .later [] _ _ _ _ said (fun _ h => by cases h) (by kernel_rfl) (fun _ h => by cases h) topCutScale_row_tie rfl ⟨rfl, rfl⟩ (by kernel_rfl) rfl plain (by kernel_rfl)
#print axioms proved
end Go.Proofs.YtbidadebolllkaaGreatDoor.topCutScale
