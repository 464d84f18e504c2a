/-
  No cell of these rows narrows 'for every input' (looked for: loops, veiled, ifaces, maps, wideKeys, modest, calm, conditions, laid).
  DERIVED. THE GIVEN ROWS OF THIS SEAT. 7 by the template 'for every input the law returns true; each argument reads behind the call as it read before'; 0 by the template 'total and deterministic' (their statements: YtcnnogoeapaaoaaTotals.lean).
  GIVEN WITH THE SEED: the statements are not yours to turn. If you find one false, say at which input.
  Laid BY PROGRAM, IN A SANDBOX (cutbox-rows.mjs): the forced cells as the released guide's own fill.sh prints them over the translation beea88fcc34362a9… (all of the seat's roots in one cut). By AI agents, Wed Nov 11 2026. No macro, syntax, notation, axiom, sorry.
-/
import Derived.Test.YtcnnogoeapaaoaaChecked
import GoSem.Claim
import GoSem.ClaimJoined
import GoSem.ClaimMapViews
import Derived.JoinedTies
import Derived.KernelRfl
namespace Go.Proofs.Ytcnnogoeapaaoaa
/- THE CELL 'sum', in the pinned program and in every row, IS THE sha256 OF THE DUMP (.gsa) THAT YtcnnogoeapaaoaaProg.lean LOADS. Nothing in Lean hashes anything: it is a label: what it is worth is what the hold of that sum in a sandbox is worth. -/
noncomputable def Try.pinned : Pinned := { name := "ytcnnogoeapaaoaa", sum := "beea88fcc34362a954a7a80d5b4cabe57e3a5e983492e320c1e610a3de48a789", checked := Try.checked }
namespace Rows
def none {H : Type} : Left H := { results := [], args := [] }

/-- 'wavestorelaw10.LzparseParts': WHATEVER THE INPUT: true; the input reads as it did. -/
def lzparsePartsSpec : ChangeSpec := { name := "lzparseParts", fn := fun _ => fun
  | [d1, d2, d3, d4, d5] => { results := [.lit (.bool true)], args := [d1, d2, d3, d4, d5] }
  | _ => none }
def lzparsePartsRow : OpenClaim := { program := "ytcnnogoeapaaoaa", sum := "beea88fcc34362a954a7a80d5b4cabe57e3a5e983492e320c1e610a3de48a789", func := "wavestore/wavestorelaw10.LzparseParts", spec := "lzparseParts", unfollowed := true, recurses := true, apart := false }
def LzparsePartsSaid : Prop := lzparsePartsRow.holds Try.pinned (OpenSpec.ofChange lzparsePartsSpec)

/-- ITS FALSE NEIGHBOUR: 'it returns false'. Refute it at one input. -/
def lzparsePartsWrong : ChangeSpec := { name := "lzparseParts", fn := fun _ => fun
  | [d1, d2, d3, d4, d5] => { results := [.lit (.bool false)], args := [d1, d2, d3, d4, d5] }
  | _ => none }
def LzparsePartsWrongFalsely : Prop := lzparsePartsRow.holds Try.pinned (OpenSpec.ofChange lzparsePartsWrong)

/-- 'wavestorelaw10.LzparseForms': WHATEVER THE INPUT: true; the input reads as it did. -/
def lzparseFormsSpec : ChangeSpec := { name := "lzparseForms", fn := fun _ => fun
  | [d1, d2] => { results := [.lit (.bool true)], args := [d1, d2] }
  | _ => none }
def lzparseFormsRow : OpenClaim := { program := "ytcnnogoeapaaoaa", sum := "beea88fcc34362a954a7a80d5b4cabe57e3a5e983492e320c1e610a3de48a789", func := "wavestore/wavestorelaw10.LzparseForms", spec := "lzparseForms", unfollowed := true, recurses := true, apart := false }
def LzparseFormsSaid : Prop := lzparseFormsRow.holds Try.pinned (OpenSpec.ofChange lzparseFormsSpec)

/-- ITS FALSE NEIGHBOUR: 'it returns false'. Refute it at one input. -/
def lzparseFormsWrong : ChangeSpec := { name := "lzparseForms", fn := fun _ => fun
  | [d1, d2] => { results := [.lit (.bool false)], args := [d1, d2] }
  | _ => none }
def LzparseFormsWrongFalsely : Prop := lzparseFormsRow.holds Try.pinned (OpenSpec.ofChange lzparseFormsWrong)

/-- 'wavestorelaw10.LzparseOptimal': WHATEVER THE INPUT: true; the input reads as it did. -/
def lzparseOptimalSpec : ChangeSpec := { name := "lzparseOptimal", fn := fun _ => fun
  | [d1, d2, d3] => { results := [.lit (.bool true)], args := [d1, d2, d3] }
  | _ => none }
def lzparseOptimalRow : OpenClaim := { program := "ytcnnogoeapaaoaa", sum := "beea88fcc34362a954a7a80d5b4cabe57e3a5e983492e320c1e610a3de48a789", func := "wavestore/wavestorelaw10.LzparseOptimal", spec := "lzparseOptimal", unfollowed := true, recurses := true, apart := false }
def LzparseOptimalSaid : Prop := lzparseOptimalRow.holds Try.pinned (OpenSpec.ofChange lzparseOptimalSpec)

/-- ITS FALSE NEIGHBOUR: 'it returns false'. Refute it at one input. -/
def lzparseOptimalWrong : ChangeSpec := { name := "lzparseOptimal", fn := fun _ => fun
  | [d1, d2, d3] => { results := [.lit (.bool false)], args := [d1, d2, d3] }
  | _ => none }
def LzparseOptimalWrongFalsely : Prop := lzparseOptimalRow.holds Try.pinned (OpenSpec.ofChange lzparseOptimalWrong)

/-- 'wavestorelaw10.LzparseChooses': WHATEVER THE INPUT: true; the input reads as it did. -/
def lzparseChoosesSpec : ChangeSpec := { name := "lzparseChooses", fn := fun _ => fun
  | [d1, d2, d3] => { results := [.lit (.bool true)], args := [d1, d2, d3] }
  | _ => none }
def lzparseChoosesRow : OpenClaim := { program := "ytcnnogoeapaaoaa", sum := "beea88fcc34362a954a7a80d5b4cabe57e3a5e983492e320c1e610a3de48a789", func := "wavestore/wavestorelaw10.LzparseChooses", spec := "lzparseChooses", unfollowed := true, recurses := true, apart := false }
def LzparseChoosesSaid : Prop := lzparseChoosesRow.holds Try.pinned (OpenSpec.ofChange lzparseChoosesSpec)

/-- ITS FALSE NEIGHBOUR: 'it returns false'. Refute it at one input. -/
def lzparseChoosesWrong : ChangeSpec := { name := "lzparseChooses", fn := fun _ => fun
  | [d1, d2, d3] => { results := [.lit (.bool false)], args := [d1, d2, d3] }
  | _ => none }
def LzparseChoosesWrongFalsely : Prop := lzparseChoosesRow.holds Try.pinned (OpenSpec.ofChange lzparseChoosesWrong)

/-- 'wavestorelaw10.LzparseExpands': WHATEVER THE INPUT: true; the input reads as it did. -/
def lzparseExpandsSpec : ChangeSpec := { name := "lzparseExpands", fn := fun _ => fun
  | [d1, d2, d3] => { results := [.lit (.bool true)], args := [d1, d2, d3] }
  | _ => none }
def lzparseExpandsRow : OpenClaim := { program := "ytcnnogoeapaaoaa", sum := "beea88fcc34362a954a7a80d5b4cabe57e3a5e983492e320c1e610a3de48a789", func := "wavestore/wavestorelaw10.LzparseExpands", spec := "lzparseExpands", unfollowed := true, recurses := true, apart := false }
def LzparseExpandsSaid : Prop := lzparseExpandsRow.holds Try.pinned (OpenSpec.ofChange lzparseExpandsSpec)

/-- ITS FALSE NEIGHBOUR: 'it returns false'. Refute it at one input. -/
def lzparseExpandsWrong : ChangeSpec := { name := "lzparseExpands", fn := fun _ => fun
  | [d1, d2, d3] => { results := [.lit (.bool false)], args := [d1, d2, d3] }
  | _ => none }
def LzparseExpandsWrongFalsely : Prop := lzparseExpandsRow.holds Try.pinned (OpenSpec.ofChange lzparseExpandsWrong)

/-- 'wavestorelaw10.LzparseBeats': WHATEVER THE INPUT: true; the input reads as it did. -/
def lzparseBeatsSpec : ChangeSpec := { name := "lzparseBeats", fn := fun _ => fun
  | [d1, d2, d3] => { results := [.lit (.bool true)], args := [d1, d2, d3] }
  | _ => none }
def lzparseBeatsRow : OpenClaim := { program := "ytcnnogoeapaaoaa", sum := "beea88fcc34362a954a7a80d5b4cabe57e3a5e983492e320c1e610a3de48a789", func := "wavestore/wavestorelaw10.LzparseBeats", spec := "lzparseBeats", unfollowed := true, recurses := true, apart := false }
def LzparseBeatsSaid : Prop := lzparseBeatsRow.holds Try.pinned (OpenSpec.ofChange lzparseBeatsSpec)

/-- ITS FALSE NEIGHBOUR: 'it returns false'. Refute it at one input. -/
def lzparseBeatsWrong : ChangeSpec := { name := "lzparseBeats", fn := fun _ => fun
  | [d1, d2, d3] => { results := [.lit (.bool false)], args := [d1, d2, d3] }
  | _ => none }
def LzparseBeatsWrongFalsely : Prop := lzparseBeatsRow.holds Try.pinned (OpenSpec.ofChange lzparseBeatsWrong)

/-- 'wavestorelaw10.LzparseSingle': WHATEVER THE INPUT: true; the input reads as it did. -/
def lzparseSingleSpec : ChangeSpec := { name := "lzparseSingle", fn := fun _ => fun
  | [d1, d2, d3] => { results := [.lit (.bool true)], args := [d1, d2, d3] }
  | _ => none }
def lzparseSingleRow : OpenClaim := { program := "ytcnnogoeapaaoaa", sum := "beea88fcc34362a954a7a80d5b4cabe57e3a5e983492e320c1e610a3de48a789", func := "wavestore/wavestorelaw10.LzparseSingle", spec := "lzparseSingle", inPlace := ["internal/abi.NoEscape", "internal/bytealg.MakeNoZero"], unfollowed := true, recurses := true, apart := false }
def LzparseSingleSaid : Prop := lzparseSingleRow.holds Try.pinned (OpenSpec.ofChange lzparseSingleSpec)

/-- ITS FALSE NEIGHBOUR: 'it returns false'. Refute it at one input. -/
def lzparseSingleWrong : ChangeSpec := { name := "lzparseSingle", fn := fun _ => fun
  | [d1, d2, d3] => { results := [.lit (.bool false)], args := [d1, d2, d3] }
  | _ => none }
def LzparseSingleWrongFalsely : Prop := lzparseSingleRow.holds Try.pinned (OpenSpec.ofChange lzparseSingleWrong)

/- THE SECOND FORM. 'bulk': how many values and letters a reading holds, each counted each time it is reached (what is shared counts as often as it is met; a slice's spare places count too). A statement '..UptoSaid' is the law's where the arguments, and the package variables that the reading takes, are together of bulk at most 1048576: NARROWER than '..Said'. Prove '..Said' where nothing that the law and all that it calls make is longer than what came in: it says more and counts as full. Else prove '..UptoSaid'. A law counts once. -/
mutual
def uptoBulk {H : Type} : DataW H → Nat
  | .lit (.string bytes) => bytes.length + 1
  | .lit _ => 1
  | .nil => 1
  | .ptr d => uptoBulk d + 1
  | .slice elems spare => uptoBulkAll elems + uptoBulkAll spare + 1
  | .agg parts => uptoBulkAll parts + 1
  | .iface _ d => uptoBulk d + 1
  | .map entries => uptoBulkEntries entries + 1
  | .held _ => 1
def uptoBulkAll {H : Type} : List (DataW H) → Nat
  | [] => 0
  | d :: r => uptoBulk d + uptoBulkAll r
def uptoBulkEntries {H : Type} : List (Lit × DataW H) → Nat
  | [] => 0
  | x :: r => uptoBulkEntry x + uptoBulkEntries r
def uptoBulkEntry {H : Type} : Lit × DataW H → Nat
  | (.string bytes, d) => bytes.length + uptoBulk d + 1
  | (_, d) => uptoBulk d + 1
 end
def uptoSmall : (H : Type) → List (DataW H) → Bool := fun _ ds => decide (uptoBulkAll ds ≤ 1048576)
def OpenSpec.upto (s : _root_.Go.ChangeSpec) : _root_.Go.OpenSpec := { _root_.Go.OpenSpec.ofChange s with cond := some uptoSmall }

/-- 'wavestorelaw10.LzparseParts', WHERE WHAT IT READS IS OF BULK AT MOST 1048576: true; the input reads as it did. -/
def lzparsePartsUptoRow : OpenClaim := { program := "ytcnnogoeapaaoaa", sum := "beea88fcc34362a954a7a80d5b4cabe57e3a5e983492e320c1e610a3de48a789", func := "wavestore/wavestorelaw10.LzparseParts", spec := "lzparseParts", unfollowed := true, recurses := true, apart := false, narrowed := true }
def LzparsePartsUptoSaid : Prop := lzparsePartsUptoRow.holds Try.pinned (OpenSpec.upto lzparsePartsSpec)

/-- 'wavestorelaw10.LzparseForms', WHERE WHAT IT READS IS OF BULK AT MOST 1048576: true; the input reads as it did. -/
def lzparseFormsUptoRow : OpenClaim := { program := "ytcnnogoeapaaoaa", sum := "beea88fcc34362a954a7a80d5b4cabe57e3a5e983492e320c1e610a3de48a789", func := "wavestore/wavestorelaw10.LzparseForms", spec := "lzparseForms", unfollowed := true, recurses := true, apart := false, narrowed := true }
def LzparseFormsUptoSaid : Prop := lzparseFormsUptoRow.holds Try.pinned (OpenSpec.upto lzparseFormsSpec)

/-- 'wavestorelaw10.LzparseOptimal', WHERE WHAT IT READS IS OF BULK AT MOST 1048576: true; the input reads as it did. -/
def lzparseOptimalUptoRow : OpenClaim := { program := "ytcnnogoeapaaoaa", sum := "beea88fcc34362a954a7a80d5b4cabe57e3a5e983492e320c1e610a3de48a789", func := "wavestore/wavestorelaw10.LzparseOptimal", spec := "lzparseOptimal", unfollowed := true, recurses := true, apart := false, narrowed := true }
def LzparseOptimalUptoSaid : Prop := lzparseOptimalUptoRow.holds Try.pinned (OpenSpec.upto lzparseOptimalSpec)

/-- 'wavestorelaw10.LzparseChooses', WHERE WHAT IT READS IS OF BULK AT MOST 1048576: true; the input reads as it did. -/
def lzparseChoosesUptoRow : OpenClaim := { program := "ytcnnogoeapaaoaa", sum := "beea88fcc34362a954a7a80d5b4cabe57e3a5e983492e320c1e610a3de48a789", func := "wavestore/wavestorelaw10.LzparseChooses", spec := "lzparseChooses", unfollowed := true, recurses := true, apart := false, narrowed := true }
def LzparseChoosesUptoSaid : Prop := lzparseChoosesUptoRow.holds Try.pinned (OpenSpec.upto lzparseChoosesSpec)

/-- 'wavestorelaw10.LzparseExpands', WHERE WHAT IT READS IS OF BULK AT MOST 1048576: true; the input reads as it did. -/
def lzparseExpandsUptoRow : OpenClaim := { program := "ytcnnogoeapaaoaa", sum := "beea88fcc34362a954a7a80d5b4cabe57e3a5e983492e320c1e610a3de48a789", func := "wavestore/wavestorelaw10.LzparseExpands", spec := "lzparseExpands", unfollowed := true, recurses := true, apart := false, narrowed := true }
def LzparseExpandsUptoSaid : Prop := lzparseExpandsUptoRow.holds Try.pinned (OpenSpec.upto lzparseExpandsSpec)

/-- 'wavestorelaw10.LzparseBeats', WHERE WHAT IT READS IS OF BULK AT MOST 1048576: true; the input reads as it did. -/
def lzparseBeatsUptoRow : OpenClaim := { program := "ytcnnogoeapaaoaa", sum := "beea88fcc34362a954a7a80d5b4cabe57e3a5e983492e320c1e610a3de48a789", func := "wavestore/wavestorelaw10.LzparseBeats", spec := "lzparseBeats", unfollowed := true, recurses := true, apart := false, narrowed := true }
def LzparseBeatsUptoSaid : Prop := lzparseBeatsUptoRow.holds Try.pinned (OpenSpec.upto lzparseBeatsSpec)

/-- 'wavestorelaw10.LzparseSingle', WHERE WHAT IT READS IS OF BULK AT MOST 1048576: true; the input reads as it did. -/
def lzparseSingleUptoRow : OpenClaim := { program := "ytcnnogoeapaaoaa", sum := "beea88fcc34362a954a7a80d5b4cabe57e3a5e983492e320c1e610a3de48a789", func := "wavestore/wavestorelaw10.LzparseSingle", spec := "lzparseSingle", inPlace := ["internal/abi.NoEscape", "internal/bytealg.MakeNoZero"], unfollowed := true, recurses := true, apart := false, narrowed := true }
def LzparseSingleUptoSaid : Prop := lzparseSingleUptoRow.holds Try.pinned (OpenSpec.upto lzparseSingleSpec)

end Rows
end Go.Proofs.Ytcnnogoeapaaoaa
