/-
  No cell of these rows narrows 'for every input' (looked for: loops, veiled, ifaces, maps, wideKeys, modest, calm, conditions, laid).
  DERIVED. THE GIVEN ROWS OF THIS SEAT. 7 by the template 'for every input the law returns true; each argument reads behind the call as it read before'; 0 by the template 'total and deterministic' (their statements: YtncnmfdmbfbfjaaGreatTotals.lean).
  GIVEN WITH THE SEED: the statements are not yours to turn. If you find one false, say at which input.
  Laid BY PROGRAM, IN A SANDBOX (cutbox-rows.mjs): the forced cells as the released guide's own fill.sh prints them over the translation f09cc6944c07fc46… (all of the seat's roots in one cut). By AI agents, Wed Nov 11 2026. No macro, syntax, notation, axiom, sorry.
-/
import Derived.Test.YtncnmfdmbfbfjaaGreatChecked
import GoSem.Claim
import GoSem.ClaimJoined
import GoSem.ClaimMapViews
import Derived.JoinedTies
import Derived.KernelRfl
namespace Go.Proofs.YtncnmfdmbfbfjaaGreat
/- THE CELL 'sum', in the pinned program and in every row, IS THE sha256 OF THE DUMP (.gsa) THAT YtncnmfdmbfbfjaaGreatProg.lean LOADS. Nothing in Lean hashes anything: it is a label: what it is worth is what the hold of that sum in a sandbox is worth. -/
noncomputable def Tryz.pinned : Pinned := { name := "ytncnmfdmbfbfjaagreat", sum := "f09cc6944c07fc46c63f330d00c90b1f96155a328fc5a66ca18c8c9b5577b3a9", checked := Tryz.checked }
namespace Rows
def none {H : Type} : Left H := { results := [], args := [] }

/-- 'wavestorelaw37.DirectoryForm': WHATEVER THE INPUT: true; the input reads as it did. -/
def directoryFormSpec : ChangeSpec := { name := "directoryForm", fn := fun _ => fun
  | [d] => { results := [.lit (.bool true)], args := [d] }
  | _ => none }
def directoryFormRow : OpenClaim := { program := "ytncnmfdmbfbfjaagreat", sum := "f09cc6944c07fc46c63f330d00c90b1f96155a328fc5a66ca18c8c9b5577b3a9", func := "wavestore/wavestorelaw37.DirectoryForm", spec := "directoryForm", unfollowed := true, recurses := true, apart := false }
def DirectoryFormSaid : Prop := directoryFormRow.holds Tryz.pinned (OpenSpec.ofChange directoryFormSpec)

/-- ITS FALSE NEIGHBOUR: 'it returns false'. Refute it at one input. -/
def directoryFormWrong : ChangeSpec := { name := "directoryForm", fn := fun _ => fun
  | [d] => { results := [.lit (.bool false)], args := [d] }
  | _ => none }
def DirectoryFormWrongFalsely : Prop := directoryFormRow.holds Tryz.pinned (OpenSpec.ofChange directoryFormWrong)

/-- 'wavestorelaw37.DirectoryReturns': WHATEVER THE INPUT: true; the input reads as it did. -/
def directoryReturnsSpec : ChangeSpec := { name := "directoryReturns", fn := fun _ => fun
  | [d] => { results := [.lit (.bool true)], args := [d] }
  | _ => none }
def directoryReturnsRow : OpenClaim := { program := "ytncnmfdmbfbfjaagreat", sum := "f09cc6944c07fc46c63f330d00c90b1f96155a328fc5a66ca18c8c9b5577b3a9", func := "wavestore/wavestorelaw37.DirectoryReturns", spec := "directoryReturns", unfollowed := true, recurses := true, apart := false }
def DirectoryReturnsSaid : Prop := directoryReturnsRow.holds Tryz.pinned (OpenSpec.ofChange directoryReturnsSpec)

/-- ITS FALSE NEIGHBOUR: 'it returns false'. Refute it at one input. -/
def directoryReturnsWrong : ChangeSpec := { name := "directoryReturns", fn := fun _ => fun
  | [d] => { results := [.lit (.bool false)], args := [d] }
  | _ => none }
def DirectoryReturnsWrongFalsely : Prop := directoryReturnsRow.holds Tryz.pinned (OpenSpec.ofChange directoryReturnsWrong)

/-- 'wavestorelaw37.DirectoryStrict': WHATEVER THE INPUT: true; the input reads as it did. -/
def directoryStrictSpec : ChangeSpec := { name := "directoryStrict", fn := fun _ => fun
  | [d] => { results := [.lit (.bool true)], args := [d] }
  | _ => none }
def directoryStrictRow : OpenClaim := { program := "ytncnmfdmbfbfjaagreat", sum := "f09cc6944c07fc46c63f330d00c90b1f96155a328fc5a66ca18c8c9b5577b3a9", func := "wavestore/wavestorelaw37.DirectoryStrict", spec := "directoryStrict", unfollowed := true, recurses := true, apart := false }
def DirectoryStrictSaid : Prop := directoryStrictRow.holds Tryz.pinned (OpenSpec.ofChange directoryStrictSpec)

/-- ITS FALSE NEIGHBOUR: 'it returns false'. Refute it at one input. -/
def directoryStrictWrong : ChangeSpec := { name := "directoryStrict", fn := fun _ => fun
  | [d] => { results := [.lit (.bool false)], args := [d] }
  | _ => none }
def DirectoryStrictWrongFalsely : Prop := directoryStrictRow.holds Tryz.pinned (OpenSpec.ofChange directoryStrictWrong)

/-- 'wavestorelaw37.DirectoryFinds': WHATEVER THE INPUT: true; the input reads as it did. -/
def directoryFindsSpec : ChangeSpec := { name := "directoryFinds", fn := fun _ => fun
  | [d1, d2, d3] => { results := [.lit (.bool true)], args := [d1, d2, d3] }
  | _ => none }
def directoryFindsRow : OpenClaim := { program := "ytncnmfdmbfbfjaagreat", sum := "f09cc6944c07fc46c63f330d00c90b1f96155a328fc5a66ca18c8c9b5577b3a9", func := "wavestore/wavestorelaw37.DirectoryFinds", spec := "directoryFinds", unfollowed := true, recurses := true, apart := false }
def DirectoryFindsSaid : Prop := directoryFindsRow.holds Tryz.pinned (OpenSpec.ofChange directoryFindsSpec)

/-- ITS FALSE NEIGHBOUR: 'it returns false'. Refute it at one input. -/
def directoryFindsWrong : ChangeSpec := { name := "directoryFinds", fn := fun _ => fun
  | [d1, d2, d3] => { results := [.lit (.bool false)], args := [d1, d2, d3] }
  | _ => none }
def DirectoryFindsWrongFalsely : Prop := directoryFindsRow.holds Tryz.pinned (OpenSpec.ofChange directoryFindsWrong)

/-- 'wavestorelaw37.DirectoryTimes': WHATEVER THE INPUT: true; the input reads as it did. -/
def directoryTimesSpec : ChangeSpec := { name := "directoryTimes", fn := fun _ => fun
  | [d1, d2] => { results := [.lit (.bool true)], args := [d1, d2] }
  | _ => none }
def directoryTimesRow : OpenClaim := { program := "ytncnmfdmbfbfjaagreat", sum := "f09cc6944c07fc46c63f330d00c90b1f96155a328fc5a66ca18c8c9b5577b3a9", func := "wavestore/wavestorelaw37.DirectoryTimes", spec := "directoryTimes", unfollowed := true, recurses := true, apart := false }
def DirectoryTimesSaid : Prop := directoryTimesRow.holds Tryz.pinned (OpenSpec.ofChange directoryTimesSpec)

/-- ITS FALSE NEIGHBOUR: 'it returns false'. Refute it at one input. -/
def directoryTimesWrong : ChangeSpec := { name := "directoryTimes", fn := fun _ => fun
  | [d1, d2] => { results := [.lit (.bool false)], args := [d1, d2] }
  | _ => none }
def DirectoryTimesWrongFalsely : Prop := directoryTimesRow.holds Tryz.pinned (OpenSpec.ofChange directoryTimesWrong)

/-- 'wavestorelaw37.DirectoryRegions': WHATEVER THE INPUT: true; the input reads as it did. -/
def directoryRegionsSpec : ChangeSpec := { name := "directoryRegions", fn := fun _ => fun
  | [d] => { results := [.lit (.bool true)], args := [d] }
  | _ => none }
def directoryRegionsRow : OpenClaim := { program := "ytncnmfdmbfbfjaagreat", sum := "f09cc6944c07fc46c63f330d00c90b1f96155a328fc5a66ca18c8c9b5577b3a9", func := "wavestore/wavestorelaw37.DirectoryRegions", spec := "directoryRegions", unfollowed := true, recurses := true, apart := false }
def DirectoryRegionsSaid : Prop := directoryRegionsRow.holds Tryz.pinned (OpenSpec.ofChange directoryRegionsSpec)

/-- ITS FALSE NEIGHBOUR: 'it returns false'. Refute it at one input. -/
def directoryRegionsWrong : ChangeSpec := { name := "directoryRegions", fn := fun _ => fun
  | [d] => { results := [.lit (.bool false)], args := [d] }
  | _ => none }
def DirectoryRegionsWrongFalsely : Prop := directoryRegionsRow.holds Tryz.pinned (OpenSpec.ofChange directoryRegionsWrong)

/-- 'wavestorelaw37.DirectoryReplaces': WHATEVER THE INPUT: true; the input reads as it did. -/
def directoryReplacesSpec : ChangeSpec := { name := "directoryReplaces", fn := fun _ => fun
  | [d1, d2, d3, d4] => { results := [.lit (.bool true)], args := [d1, d2, d3, d4] }
  | _ => none }
def directoryReplacesRow : OpenClaim := { program := "ytncnmfdmbfbfjaagreat", sum := "f09cc6944c07fc46c63f330d00c90b1f96155a328fc5a66ca18c8c9b5577b3a9", func := "wavestore/wavestorelaw37.DirectoryReplaces", spec := "directoryReplaces", unfollowed := true, recurses := true, apart := false }
def DirectoryReplacesSaid : Prop := directoryReplacesRow.holds Tryz.pinned (OpenSpec.ofChange directoryReplacesSpec)

/-- ITS FALSE NEIGHBOUR: 'it returns false'. Refute it at one input. -/
def directoryReplacesWrong : ChangeSpec := { name := "directoryReplaces", fn := fun _ => fun
  | [d1, d2, d3, d4] => { results := [.lit (.bool false)], args := [d1, d2, d3, d4] }
  | _ => none }
def DirectoryReplacesWrongFalsely : Prop := directoryReplacesRow.holds Tryz.pinned (OpenSpec.ofChange directoryReplacesWrong)

/- THE SECOND FORM. 'bulk': how many values and letters a reading holds, each counted each time it is reached (what is shared counts as often as it is met; a slice's spare places count too). A statement '..UptoSaid' is the law's where the arguments, and the package variables that the reading takes, are together of bulk at most 1048576: NARROWER than '..Said'. Prove '..Said' where nothing that the law and all that it calls make is longer than what came in: it says more and counts as full. Else prove '..UptoSaid'. A law counts once. -/
mutual
def uptoBulk {H : Type} : DataW H → Nat
  | .lit (.string bytes) => bytes.length + 1
  | .lit _ => 1
  | .nil => 1
  | .ptr d => uptoBulk d + 1
  | .slice elems spare => uptoBulkAll elems + uptoBulkAll spare + 1
  | .agg parts => uptoBulkAll parts + 1
  | .iface _ d => uptoBulk d + 1
  | .map entries => uptoBulkEntries entries + 1
  | .held _ => 1
def uptoBulkAll {H : Type} : List (DataW H) → Nat
  | [] => 0
  | d :: r => uptoBulk d + uptoBulkAll r
def uptoBulkEntries {H : Type} : List (Lit × DataW H) → Nat
  | [] => 0
  | x :: r => uptoBulkEntry x + uptoBulkEntries r
def uptoBulkEntry {H : Type} : Lit × DataW H → Nat
  | (.string bytes, d) => bytes.length + uptoBulk d + 1
  | (_, d) => uptoBulk d + 1
 end
def uptoSmall : (H : Type) → List (DataW H) → Bool := fun _ ds => decide (uptoBulkAll ds ≤ 1048576)
def OpenSpec.upto (s : _root_.Go.ChangeSpec) : _root_.Go.OpenSpec := { _root_.Go.OpenSpec.ofChange s with cond := some uptoSmall }

/-- 'wavestorelaw37.DirectoryForm', WHERE WHAT IT READS IS OF BULK AT MOST 1048576: true; the input reads as it did. -/
def directoryFormUptoRow : OpenClaim := { program := "ytncnmfdmbfbfjaagreat", sum := "f09cc6944c07fc46c63f330d00c90b1f96155a328fc5a66ca18c8c9b5577b3a9", func := "wavestore/wavestorelaw37.DirectoryForm", spec := "directoryForm", unfollowed := true, recurses := true, apart := false, narrowed := true }
def DirectoryFormUptoSaid : Prop := directoryFormUptoRow.holds Tryz.pinned (OpenSpec.upto directoryFormSpec)

/-- 'wavestorelaw37.DirectoryReturns', WHERE WHAT IT READS IS OF BULK AT MOST 1048576: true; the input reads as it did. -/
def directoryReturnsUptoRow : OpenClaim := { program := "ytncnmfdmbfbfjaagreat", sum := "f09cc6944c07fc46c63f330d00c90b1f96155a328fc5a66ca18c8c9b5577b3a9", func := "wavestore/wavestorelaw37.DirectoryReturns", spec := "directoryReturns", unfollowed := true, recurses := true, apart := false, narrowed := true }
def DirectoryReturnsUptoSaid : Prop := directoryReturnsUptoRow.holds Tryz.pinned (OpenSpec.upto directoryReturnsSpec)

/-- 'wavestorelaw37.DirectoryStrict', WHERE WHAT IT READS IS OF BULK AT MOST 1048576: true; the input reads as it did. -/
def directoryStrictUptoRow : OpenClaim := { program := "ytncnmfdmbfbfjaagreat", sum := "f09cc6944c07fc46c63f330d00c90b1f96155a328fc5a66ca18c8c9b5577b3a9", func := "wavestore/wavestorelaw37.DirectoryStrict", spec := "directoryStrict", unfollowed := true, recurses := true, apart := false, narrowed := true }
def DirectoryStrictUptoSaid : Prop := directoryStrictUptoRow.holds Tryz.pinned (OpenSpec.upto directoryStrictSpec)

/-- 'wavestorelaw37.DirectoryFinds', WHERE WHAT IT READS IS OF BULK AT MOST 1048576: true; the input reads as it did. -/
def directoryFindsUptoRow : OpenClaim := { program := "ytncnmfdmbfbfjaagreat", sum := "f09cc6944c07fc46c63f330d00c90b1f96155a328fc5a66ca18c8c9b5577b3a9", func := "wavestore/wavestorelaw37.DirectoryFinds", spec := "directoryFinds", unfollowed := true, recurses := true, apart := false, narrowed := true }
def DirectoryFindsUptoSaid : Prop := directoryFindsUptoRow.holds Tryz.pinned (OpenSpec.upto directoryFindsSpec)

/-- 'wavestorelaw37.DirectoryTimes', WHERE WHAT IT READS IS OF BULK AT MOST 1048576: true; the input reads as it did. -/
def directoryTimesUptoRow : OpenClaim := { program := "ytncnmfdmbfbfjaagreat", sum := "f09cc6944c07fc46c63f330d00c90b1f96155a328fc5a66ca18c8c9b5577b3a9", func := "wavestore/wavestorelaw37.DirectoryTimes", spec := "directoryTimes", unfollowed := true, recurses := true, apart := false, narrowed := true }
def DirectoryTimesUptoSaid : Prop := directoryTimesUptoRow.holds Tryz.pinned (OpenSpec.upto directoryTimesSpec)

/-- 'wavestorelaw37.DirectoryRegions', WHERE WHAT IT READS IS OF BULK AT MOST 1048576: true; the input reads as it did. -/
def directoryRegionsUptoRow : OpenClaim := { program := "ytncnmfdmbfbfjaagreat", sum := "f09cc6944c07fc46c63f330d00c90b1f96155a328fc5a66ca18c8c9b5577b3a9", func := "wavestore/wavestorelaw37.DirectoryRegions", spec := "directoryRegions", unfollowed := true, recurses := true, apart := false, narrowed := true }
def DirectoryRegionsUptoSaid : Prop := directoryRegionsUptoRow.holds Tryz.pinned (OpenSpec.upto directoryRegionsSpec)

/-- 'wavestorelaw37.DirectoryReplaces', WHERE WHAT IT READS IS OF BULK AT MOST 1048576: true; the input reads as it did. -/
def directoryReplacesUptoRow : OpenClaim := { program := "ytncnmfdmbfbfjaagreat", sum := "f09cc6944c07fc46c63f330d00c90b1f96155a328fc5a66ca18c8c9b5577b3a9", func := "wavestore/wavestorelaw37.DirectoryReplaces", spec := "directoryReplaces", unfollowed := true, recurses := true, apart := false, narrowed := true }
def DirectoryReplacesUptoSaid : Prop := directoryReplacesUptoRow.holds Tryz.pinned (OpenSpec.upto directoryReplacesSpec)

end Rows
end Go.Proofs.YtncnmfdmbfbfjaaGreat
