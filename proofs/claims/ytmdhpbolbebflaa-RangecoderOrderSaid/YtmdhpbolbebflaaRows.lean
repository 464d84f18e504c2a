/-
  No cell of these rows narrows 'for every input' (looked for: loops, veiled, ifaces, maps, wideKeys, modest, calm, conditions, laid).
  DERIVED. THE GIVEN ROWS OF THIS SEAT. 6 by the template 'for every input the law returns true; each argument reads behind the call as it read before'; 0 by the template 'total and deterministic' (their statements: YtmdhpbolbebflaaTotals.lean).
  GIVEN WITH THE SEED: the statements are not yours to turn. If you find one false, say at which input.
  Laid BY PROGRAM, IN A SANDBOX (cutbox-rows.mjs): the forced cells as the released guide's own fill.sh prints them over the translation 58c69e2e02f165e8… (all of the seat's roots in one cut). By AI agents, Wed Nov 11 2026. No macro, syntax, notation, axiom, sorry.
-/
import Derived.Test.YtmdhpbolbebflaaChecked
import GoSem.Claim
import GoSem.ClaimJoined
import GoSem.ClaimMapViews
import Derived.JoinedTies
import Derived.KernelRfl
namespace Go.Proofs.Ytmdhpbolbebflaa
/- THE CELL 'sum', in the pinned program and in every row, IS THE sha256 OF THE DUMP (.gsa) THAT YtmdhpbolbebflaaProg.lean LOADS. Nothing in Lean hashes anything: it is a label: what it is worth is what the hold of that sum in a sandbox is worth. -/
noncomputable def Try.pinned : Pinned := { name := "ytmdhpbolbebflaa", sum := "58c69e2e02f165e8dbedfe6517b52838c41e803952917aca951ba37681ccb3ec", checked := Try.checked }
namespace Rows
def none {H : Type} : Left H := { results := [], args := [] }

/-- 'wavestorelaw07.RangecoderSteps': WHATEVER THE INPUT: true; the input reads as it did. -/
def rangecoderStepsSpec : ChangeSpec := { name := "rangecoderSteps", fn := fun _ => fun
  | [d1, d2, d3] => { results := [.lit (.bool true)], args := [d1, d2, d3] }
  | _ => none }
def rangecoderStepsRow : OpenClaim := { program := "ytmdhpbolbebflaa", sum := "58c69e2e02f165e8dbedfe6517b52838c41e803952917aca951ba37681ccb3ec", func := "wavestore/wavestorelaw07.RangecoderSteps", spec := "rangecoderSteps", unfollowed := true, recurses := true, apart := false }
def RangecoderStepsSaid : Prop := rangecoderStepsRow.holds Try.pinned (OpenSpec.ofChange rangecoderStepsSpec)

/-- ITS FALSE NEIGHBOUR: 'it returns false'. Refute it at one input. -/
def rangecoderStepsWrong : ChangeSpec := { name := "rangecoderSteps", fn := fun _ => fun
  | [d1, d2, d3] => { results := [.lit (.bool false)], args := [d1, d2, d3] }
  | _ => none }
def RangecoderStepsWrongFalsely : Prop := rangecoderStepsRow.holds Try.pinned (OpenSpec.ofChange rangecoderStepsWrong)

/-- 'wavestorelaw07.RangecoderStrict': WHATEVER THE INPUT: true; the input reads as it did. -/
def rangecoderStrictSpec : ChangeSpec := { name := "rangecoderStrict", fn := fun _ => fun
  | [d1, d2, d3] => { results := [.lit (.bool true)], args := [d1, d2, d3] }
  | _ => none }
def rangecoderStrictRow : OpenClaim := { program := "ytmdhpbolbebflaa", sum := "58c69e2e02f165e8dbedfe6517b52838c41e803952917aca951ba37681ccb3ec", func := "wavestore/wavestorelaw07.RangecoderStrict", spec := "rangecoderStrict", unfollowed := true, recurses := true, apart := false }
def RangecoderStrictSaid : Prop := rangecoderStrictRow.holds Try.pinned (OpenSpec.ofChange rangecoderStrictSpec)

/-- ITS FALSE NEIGHBOUR: 'it returns false'. Refute it at one input. -/
def rangecoderStrictWrong : ChangeSpec := { name := "rangecoderStrict", fn := fun _ => fun
  | [d1, d2, d3] => { results := [.lit (.bool false)], args := [d1, d2, d3] }
  | _ => none }
def RangecoderStrictWrongFalsely : Prop := rangecoderStrictRow.holds Try.pinned (OpenSpec.ofChange rangecoderStrictWrong)

/-- 'wavestorelaw07.RangecoderOrder': WHATEVER THE INPUT: true; the input reads as it did. -/
def rangecoderOrderSpec : ChangeSpec := { name := "rangecoderOrder", fn := fun _ => fun
  | [d1, d2, d3] => { results := [.lit (.bool true)], args := [d1, d2, d3] }
  | _ => none }
def rangecoderOrderRow : OpenClaim := { program := "ytmdhpbolbebflaa", sum := "58c69e2e02f165e8dbedfe6517b52838c41e803952917aca951ba37681ccb3ec", func := "wavestore/wavestorelaw07.RangecoderOrder", spec := "rangecoderOrder", unfollowed := true, recurses := true, apart := false }
def RangecoderOrderSaid : Prop := rangecoderOrderRow.holds Try.pinned (OpenSpec.ofChange rangecoderOrderSpec)

/-- ITS FALSE NEIGHBOUR: 'it returns false'. Refute it at one input. -/
def rangecoderOrderWrong : ChangeSpec := { name := "rangecoderOrder", fn := fun _ => fun
  | [d1, d2, d3] => { results := [.lit (.bool false)], args := [d1, d2, d3] }
  | _ => none }
def RangecoderOrderWrongFalsely : Prop := rangecoderOrderRow.holds Try.pinned (OpenSpec.ofChange rangecoderOrderWrong)

/-- 'wavestorelaw07.RangecoderSizes': WHATEVER THE INPUT: true; the input reads as it did. -/
def rangecoderSizesSpec : ChangeSpec := { name := "rangecoderSizes", fn := fun _ => fun
  | [d1, d2] => { results := [.lit (.bool true)], args := [d1, d2] }
  | _ => none }
def rangecoderSizesRow : OpenClaim := { program := "ytmdhpbolbebflaa", sum := "58c69e2e02f165e8dbedfe6517b52838c41e803952917aca951ba37681ccb3ec", func := "wavestore/wavestorelaw07.RangecoderSizes", spec := "rangecoderSizes", unfollowed := true, recurses := true, apart := false }
def RangecoderSizesSaid : Prop := rangecoderSizesRow.holds Try.pinned (OpenSpec.ofChange rangecoderSizesSpec)

/-- ITS FALSE NEIGHBOUR: 'it returns false'. Refute it at one input. -/
def rangecoderSizesWrong : ChangeSpec := { name := "rangecoderSizes", fn := fun _ => fun
  | [d1, d2] => { results := [.lit (.bool false)], args := [d1, d2] }
  | _ => none }
def RangecoderSizesWrongFalsely : Prop := rangecoderSizesRow.holds Try.pinned (OpenSpec.ofChange rangecoderSizesWrong)

/-- 'wavestorelaw07.RangecoderAlone': WHATEVER THE INPUT: true; the input reads as it did. -/
def rangecoderAloneSpec : ChangeSpec := { name := "rangecoderAlone", fn := fun _ => fun
  | [d1, d2] => { results := [.lit (.bool true)], args := [d1, d2] }
  | _ => none }
def rangecoderAloneRow : OpenClaim := { program := "ytmdhpbolbebflaa", sum := "58c69e2e02f165e8dbedfe6517b52838c41e803952917aca951ba37681ccb3ec", func := "wavestore/wavestorelaw07.RangecoderAlone", spec := "rangecoderAlone", unfollowed := true, recurses := true, apart := false }
def RangecoderAloneSaid : Prop := rangecoderAloneRow.holds Try.pinned (OpenSpec.ofChange rangecoderAloneSpec)

/-- ITS FALSE NEIGHBOUR: 'it returns false'. Refute it at one input. -/
def rangecoderAloneWrong : ChangeSpec := { name := "rangecoderAlone", fn := fun _ => fun
  | [d1, d2] => { results := [.lit (.bool false)], args := [d1, d2] }
  | _ => none }
def RangecoderAloneWrongFalsely : Prop := rangecoderAloneRow.holds Try.pinned (OpenSpec.ofChange rangecoderAloneWrong)

/-- 'wavestorelaw07.RangecoderInverts': WHATEVER THE INPUT: true; the input reads as it did. -/
def rangecoderInvertsSpec : ChangeSpec := { name := "rangecoderInverts", fn := fun _ => fun
  | [d] => { results := [.lit (.bool true)], args := [d] }
  | _ => none }
def rangecoderInvertsRow : OpenClaim := { program := "ytmdhpbolbebflaa", sum := "58c69e2e02f165e8dbedfe6517b52838c41e803952917aca951ba37681ccb3ec", func := "wavestore/wavestorelaw07.RangecoderInverts", spec := "rangecoderInverts", unfollowed := true, recurses := true, apart := false }
def RangecoderInvertsSaid : Prop := rangecoderInvertsRow.holds Try.pinned (OpenSpec.ofChange rangecoderInvertsSpec)

/-- ITS FALSE NEIGHBOUR: 'it returns false'. Refute it at one input. -/
def rangecoderInvertsWrong : ChangeSpec := { name := "rangecoderInverts", fn := fun _ => fun
  | [d] => { results := [.lit (.bool false)], args := [d] }
  | _ => none }
def RangecoderInvertsWrongFalsely : Prop := rangecoderInvertsRow.holds Try.pinned (OpenSpec.ofChange rangecoderInvertsWrong)

/- THE SECOND FORM. 'bulk': how many values and letters a reading holds, each counted each time it is reached (what is shared counts as often as it is met; a slice's spare places count too). A statement '..UptoSaid' is the law's where the arguments, and the package variables that the reading takes, are together of bulk at most 1048576: NARROWER than '..Said'. Prove '..Said' where nothing that the law and all that it calls make is longer than what came in: it says more and counts as full. Else prove '..UptoSaid'. A law counts once. -/
mutual
def uptoBulk {H : Type} : DataW H → Nat
  | .lit (.string bytes) => bytes.length + 1
  | .lit _ => 1
  | .nil => 1
  | .ptr d => uptoBulk d + 1
  | .slice elems spare => uptoBulkAll elems + uptoBulkAll spare + 1
  | .agg parts => uptoBulkAll parts + 1
  | .iface _ d => uptoBulk d + 1
  | .map entries => uptoBulkEntries entries + 1
  | .held _ => 1
def uptoBulkAll {H : Type} : List (DataW H) → Nat
  | [] => 0
  | d :: r => uptoBulk d + uptoBulkAll r
def uptoBulkEntries {H : Type} : List (Lit × DataW H) → Nat
  | [] => 0
  | x :: r => uptoBulkEntry x + uptoBulkEntries r
def uptoBulkEntry {H : Type} : Lit × DataW H → Nat
  | (.string bytes, d) => bytes.length + uptoBulk d + 1
  | (_, d) => uptoBulk d + 1
 end
def uptoSmall : (H : Type) → List (DataW H) → Bool := fun _ ds => decide (uptoBulkAll ds ≤ 1048576)
def OpenSpec.upto (s : _root_.Go.ChangeSpec) : _root_.Go.OpenSpec := { _root_.Go.OpenSpec.ofChange s with cond := some uptoSmall }

/-- 'wavestorelaw07.RangecoderSteps', WHERE WHAT IT READS IS OF BULK AT MOST 1048576: true; the input reads as it did. -/
def rangecoderStepsUptoRow : OpenClaim := { program := "ytmdhpbolbebflaa", sum := "58c69e2e02f165e8dbedfe6517b52838c41e803952917aca951ba37681ccb3ec", func := "wavestore/wavestorelaw07.RangecoderSteps", spec := "rangecoderSteps", unfollowed := true, recurses := true, apart := false, narrowed := true }
def RangecoderStepsUptoSaid : Prop := rangecoderStepsUptoRow.holds Try.pinned (OpenSpec.upto rangecoderStepsSpec)

/-- 'wavestorelaw07.RangecoderStrict', WHERE WHAT IT READS IS OF BULK AT MOST 1048576: true; the input reads as it did. -/
def rangecoderStrictUptoRow : OpenClaim := { program := "ytmdhpbolbebflaa", sum := "58c69e2e02f165e8dbedfe6517b52838c41e803952917aca951ba37681ccb3ec", func := "wavestore/wavestorelaw07.RangecoderStrict", spec := "rangecoderStrict", unfollowed := true, recurses := true, apart := false, narrowed := true }
def RangecoderStrictUptoSaid : Prop := rangecoderStrictUptoRow.holds Try.pinned (OpenSpec.upto rangecoderStrictSpec)

/-- 'wavestorelaw07.RangecoderOrder', WHERE WHAT IT READS IS OF BULK AT MOST 1048576: true; the input reads as it did. -/
def rangecoderOrderUptoRow : OpenClaim := { program := "ytmdhpbolbebflaa", sum := "58c69e2e02f165e8dbedfe6517b52838c41e803952917aca951ba37681ccb3ec", func := "wavestore/wavestorelaw07.RangecoderOrder", spec := "rangecoderOrder", unfollowed := true, recurses := true, apart := false, narrowed := true }
def RangecoderOrderUptoSaid : Prop := rangecoderOrderUptoRow.holds Try.pinned (OpenSpec.upto rangecoderOrderSpec)

/-- 'wavestorelaw07.RangecoderSizes', WHERE WHAT IT READS IS OF BULK AT MOST 1048576: true; the input reads as it did. -/
def rangecoderSizesUptoRow : OpenClaim := { program := "ytmdhpbolbebflaa", sum := "58c69e2e02f165e8dbedfe6517b52838c41e803952917aca951ba37681ccb3ec", func := "wavestore/wavestorelaw07.RangecoderSizes", spec := "rangecoderSizes", unfollowed := true, recurses := true, apart := false, narrowed := true }
def RangecoderSizesUptoSaid : Prop := rangecoderSizesUptoRow.holds Try.pinned (OpenSpec.upto rangecoderSizesSpec)

/-- 'wavestorelaw07.RangecoderAlone', WHERE WHAT IT READS IS OF BULK AT MOST 1048576: true; the input reads as it did. -/
def rangecoderAloneUptoRow : OpenClaim := { program := "ytmdhpbolbebflaa", sum := "58c69e2e02f165e8dbedfe6517b52838c41e803952917aca951ba37681ccb3ec", func := "wavestore/wavestorelaw07.RangecoderAlone", spec := "rangecoderAlone", unfollowed := true, recurses := true, apart := false, narrowed := true }
def RangecoderAloneUptoSaid : Prop := rangecoderAloneUptoRow.holds Try.pinned (OpenSpec.upto rangecoderAloneSpec)

/-- 'wavestorelaw07.RangecoderInverts', WHERE WHAT IT READS IS OF BULK AT MOST 1048576: true; the input reads as it did. -/
def rangecoderInvertsUptoRow : OpenClaim := { program := "ytmdhpbolbebflaa", sum := "58c69e2e02f165e8dbedfe6517b52838c41e803952917aca951ba37681ccb3ec", func := "wavestore/wavestorelaw07.RangecoderInverts", spec := "rangecoderInverts", unfollowed := true, recurses := true, apart := false, narrowed := true }
def RangecoderInvertsUptoSaid : Prop := rangecoderInvertsUptoRow.holds Try.pinned (OpenSpec.upto rangecoderInvertsSpec)

end Rows
end Go.Proofs.Ytmdhpbolbebflaa
