/-
  No cell of these rows narrows 'for every input' (looked for: loops, veiled, ifaces, maps, wideKeys, modest, calm, conditions, laid).
  DERIVED. THE GIVEN ROWS OF THIS SEAT. 8 by the template 'for every input the law returns true; each argument reads behind the call as it read before'; 0 by the template 'total and deterministic' (their statements: YtoachkpkbgpmjaaTotals.lean).
  GIVEN WITH THE SEED: the statements are not yours to turn. If you find one false, say at which input.
  Laid BY PROGRAM, IN A SANDBOX (cutbox-rows.mjs): the forced cells as the released guide's own fill.sh prints them over the translation d9149995dad84d56… (all of the seat's roots in one cut). By AI agents, Wed Nov 11 2026. No macro, syntax, notation, axiom, sorry.
-/
import Derived.Test.YtoachkpkbgpmjaaChecked
import GoSem.Claim
import GoSem.ClaimJoined
import GoSem.ClaimMapViews
import Derived.JoinedTies
import Derived.KernelRfl
namespace Go.Proofs.Ytoachkpkbgpmjaa
/- THE CELL 'sum', in the pinned program and in every row, IS THE sha256 OF THE DUMP (.gsa) THAT YtoachkpkbgpmjaaProg.lean LOADS. Nothing in Lean hashes anything: it is a label: what it is worth is what the hold of that sum in a sandbox is worth. -/
noncomputable def Try.pinned : Pinned := { name := "ytoachkpkbgpmjaa", sum := "d9149995dad84d56fb2e41903d7dab0a5264d750fc70590affcfd815b861666c", checked := Try.checked }
namespace Rows
def none {H : Type} : Left H := { results := [], args := [] }

/-- 'wavestorelaw02.BitvectorExtends': WHATEVER THE INPUT: true; the input reads as it did. -/
def bitvectorExtendsSpec : ChangeSpec := { name := "bitvectorExtends", fn := fun _ => fun
  | [d1, d2] => { results := [.lit (.bool true)], args := [d1, d2] }
  | _ => none }
def bitvectorExtendsRow : OpenClaim := { program := "ytoachkpkbgpmjaa", sum := "d9149995dad84d56fb2e41903d7dab0a5264d750fc70590affcfd815b861666c", func := "wavestore/wavestorelaw02.BitvectorExtends", spec := "bitvectorExtends", inPlace := ["internal/abi.NoEscape", "internal/bytealg.MakeNoZero"], unfollowed := true, recurses := true, apart := false }
def BitvectorExtendsSaid : Prop := bitvectorExtendsRow.holds Try.pinned (OpenSpec.ofChange bitvectorExtendsSpec)

/-- ITS FALSE NEIGHBOUR: 'it returns false'. Refute it at one input. -/
def bitvectorExtendsWrong : ChangeSpec := { name := "bitvectorExtends", fn := fun _ => fun
  | [d1, d2] => { results := [.lit (.bool false)], args := [d1, d2] }
  | _ => none }
def BitvectorExtendsWrongFalsely : Prop := bitvectorExtendsRow.holds Try.pinned (OpenSpec.ofChange bitvectorExtendsWrong)

/-- 'wavestorelaw02.BitvectorOpen': WHATEVER THE INPUT: true; the input reads as it did. -/
def bitvectorOpenSpec : ChangeSpec := { name := "bitvectorOpen", fn := fun _ => fun
  | [d1, d2] => { results := [.lit (.bool true)], args := [d1, d2] }
  | _ => none }
def bitvectorOpenRow : OpenClaim := { program := "ytoachkpkbgpmjaa", sum := "d9149995dad84d56fb2e41903d7dab0a5264d750fc70590affcfd815b861666c", func := "wavestore/wavestorelaw02.BitvectorOpen", spec := "bitvectorOpen", inPlace := ["internal/abi.NoEscape", "internal/bytealg.MakeNoZero"], unfollowed := true, recurses := true, apart := false }
def BitvectorOpenSaid : Prop := bitvectorOpenRow.holds Try.pinned (OpenSpec.ofChange bitvectorOpenSpec)

/-- ITS FALSE NEIGHBOUR: 'it returns false'. Refute it at one input. -/
def bitvectorOpenWrong : ChangeSpec := { name := "bitvectorOpen", fn := fun _ => fun
  | [d1, d2] => { results := [.lit (.bool false)], args := [d1, d2] }
  | _ => none }
def BitvectorOpenWrongFalsely : Prop := bitvectorOpenRow.holds Try.pinned (OpenSpec.ofChange bitvectorOpenWrong)

/-- 'wavestorelaw02.BitvectorNumbers': WHATEVER THE INPUT: true; the input reads as it did. -/
def bitvectorNumbersSpec : ChangeSpec := { name := "bitvectorNumbers", fn := fun _ => fun
  | [d1, d2, d3, d4] => { results := [.lit (.bool true)], args := [d1, d2, d3, d4] }
  | _ => none }
def bitvectorNumbersRow : OpenClaim := { program := "ytoachkpkbgpmjaa", sum := "d9149995dad84d56fb2e41903d7dab0a5264d750fc70590affcfd815b861666c", func := "wavestore/wavestorelaw02.BitvectorNumbers", spec := "bitvectorNumbers", inPlace := ["internal/abi.NoEscape", "internal/bytealg.MakeNoZero"], unfollowed := true, recurses := true, apart := false }
def BitvectorNumbersSaid : Prop := bitvectorNumbersRow.holds Try.pinned (OpenSpec.ofChange bitvectorNumbersSpec)

/-- ITS FALSE NEIGHBOUR: 'it returns false'. Refute it at one input. -/
def bitvectorNumbersWrong : ChangeSpec := { name := "bitvectorNumbers", fn := fun _ => fun
  | [d1, d2, d3, d4] => { results := [.lit (.bool false)], args := [d1, d2, d3, d4] }
  | _ => none }
def BitvectorNumbersWrongFalsely : Prop := bitvectorNumbersRow.holds Try.pinned (OpenSpec.ofChange bitvectorNumbersWrong)

/-- 'wavestorelaw02.BitvectorSums': WHATEVER THE INPUT: true; the input reads as it did. -/
def bitvectorSumsSpec : ChangeSpec := { name := "bitvectorSums", fn := fun _ => fun
  | [d1, d2, d3, d4] => { results := [.lit (.bool true)], args := [d1, d2, d3, d4] }
  | _ => none }
def bitvectorSumsRow : OpenClaim := { program := "ytoachkpkbgpmjaa", sum := "d9149995dad84d56fb2e41903d7dab0a5264d750fc70590affcfd815b861666c", func := "wavestore/wavestorelaw02.BitvectorSums", spec := "bitvectorSums", inPlace := ["internal/abi.NoEscape", "internal/bytealg.MakeNoZero"], unfollowed := true, recurses := true, apart := false }
def BitvectorSumsSaid : Prop := bitvectorSumsRow.holds Try.pinned (OpenSpec.ofChange bitvectorSumsSpec)

/-- ITS FALSE NEIGHBOUR: 'it returns false'. Refute it at one input. -/
def bitvectorSumsWrong : ChangeSpec := { name := "bitvectorSums", fn := fun _ => fun
  | [d1, d2, d3, d4] => { results := [.lit (.bool false)], args := [d1, d2, d3, d4] }
  | _ => none }
def BitvectorSumsWrongFalsely : Prop := bitvectorSumsRow.holds Try.pinned (OpenSpec.ofChange bitvectorSumsWrong)

/-- 'wavestorelaw02.BitvectorMix': WHATEVER THE INPUT: true; the input reads as it did. -/
def bitvectorMixSpec : ChangeSpec := { name := "bitvectorMix", fn := fun _ => fun
  | [d1, d2] => { results := [.lit (.bool true)], args := [d1, d2] }
  | _ => none }
def bitvectorMixRow : OpenClaim := { program := "ytoachkpkbgpmjaa", sum := "d9149995dad84d56fb2e41903d7dab0a5264d750fc70590affcfd815b861666c", func := "wavestore/wavestorelaw02.BitvectorMix", spec := "bitvectorMix", inPlace := ["internal/abi.NoEscape", "internal/bytealg.MakeNoZero"], unfollowed := true, recurses := true, apart := false }
def BitvectorMixSaid : Prop := bitvectorMixRow.holds Try.pinned (OpenSpec.ofChange bitvectorMixSpec)

/-- ITS FALSE NEIGHBOUR: 'it returns false'. Refute it at one input. -/
def bitvectorMixWrong : ChangeSpec := { name := "bitvectorMix", fn := fun _ => fun
  | [d1, d2] => { results := [.lit (.bool false)], args := [d1, d2] }
  | _ => none }
def BitvectorMixWrongFalsely : Prop := bitvectorMixRow.holds Try.pinned (OpenSpec.ofChange bitvectorMixWrong)

/-- 'wavestorelaw02.BitvectorForms': WHATEVER THE INPUT: true; the input reads as it did. -/
def bitvectorFormsSpec : ChangeSpec := { name := "bitvectorForms", fn := fun _ => fun
  | [d1, d2, d3] => { results := [.lit (.bool true)], args := [d1, d2, d3] }
  | _ => none }
def bitvectorFormsRow : OpenClaim := { program := "ytoachkpkbgpmjaa", sum := "d9149995dad84d56fb2e41903d7dab0a5264d750fc70590affcfd815b861666c", func := "wavestore/wavestorelaw02.BitvectorForms", spec := "bitvectorForms", inPlace := ["internal/abi.NoEscape", "internal/bytealg.MakeNoZero"], unfollowed := true, recurses := true, apart := false }
def BitvectorFormsSaid : Prop := bitvectorFormsRow.holds Try.pinned (OpenSpec.ofChange bitvectorFormsSpec)

/-- ITS FALSE NEIGHBOUR: 'it returns false'. Refute it at one input. -/
def bitvectorFormsWrong : ChangeSpec := { name := "bitvectorForms", fn := fun _ => fun
  | [d1, d2, d3] => { results := [.lit (.bool false)], args := [d1, d2, d3] }
  | _ => none }
def BitvectorFormsWrongFalsely : Prop := bitvectorFormsRow.holds Try.pinned (OpenSpec.ofChange bitvectorFormsWrong)

/-- 'wavestorelaw02.BitvectorParts': WHATEVER THE INPUT: true; the input reads as it did. -/
def bitvectorPartsSpec : ChangeSpec := { name := "bitvectorParts", fn := fun _ => fun
  | [d1, d2, d3, d4, d5] => { results := [.lit (.bool true)], args := [d1, d2, d3, d4, d5] }
  | _ => none }
def bitvectorPartsRow : OpenClaim := { program := "ytoachkpkbgpmjaa", sum := "d9149995dad84d56fb2e41903d7dab0a5264d750fc70590affcfd815b861666c", func := "wavestore/wavestorelaw02.BitvectorParts", spec := "bitvectorParts", inPlace := ["internal/abi.NoEscape", "internal/bytealg.MakeNoZero"], unfollowed := true, recurses := true, apart := false }
def BitvectorPartsSaid : Prop := bitvectorPartsRow.holds Try.pinned (OpenSpec.ofChange bitvectorPartsSpec)

/-- ITS FALSE NEIGHBOUR: 'it returns false'. Refute it at one input. -/
def bitvectorPartsWrong : ChangeSpec := { name := "bitvectorParts", fn := fun _ => fun
  | [d1, d2, d3, d4, d5] => { results := [.lit (.bool false)], args := [d1, d2, d3, d4, d5] }
  | _ => none }
def BitvectorPartsWrongFalsely : Prop := bitvectorPartsRow.holds Try.pinned (OpenSpec.ofChange bitvectorPartsWrong)

/-- 'wavestorelaw02.BitvectorSlices': WHATEVER THE INPUT: true; the input reads as it did. -/
def bitvectorSlicesSpec : ChangeSpec := { name := "bitvectorSlices", fn := fun _ => fun
  | [d1, d2, d3, d4] => { results := [.lit (.bool true)], args := [d1, d2, d3, d4] }
  | _ => none }
def bitvectorSlicesRow : OpenClaim := { program := "ytoachkpkbgpmjaa", sum := "d9149995dad84d56fb2e41903d7dab0a5264d750fc70590affcfd815b861666c", func := "wavestore/wavestorelaw02.BitvectorSlices", spec := "bitvectorSlices", inPlace := ["internal/abi.NoEscape", "internal/bytealg.MakeNoZero"], unfollowed := true, recurses := true, apart := false }
def BitvectorSlicesSaid : Prop := bitvectorSlicesRow.holds Try.pinned (OpenSpec.ofChange bitvectorSlicesSpec)

/-- ITS FALSE NEIGHBOUR: 'it returns false'. Refute it at one input. -/
def bitvectorSlicesWrong : ChangeSpec := { name := "bitvectorSlices", fn := fun _ => fun
  | [d1, d2, d3, d4] => { results := [.lit (.bool false)], args := [d1, d2, d3, d4] }
  | _ => none }
def BitvectorSlicesWrongFalsely : Prop := bitvectorSlicesRow.holds Try.pinned (OpenSpec.ofChange bitvectorSlicesWrong)

/- THE SECOND FORM. 'bulk': how many values and letters a reading holds, each counted each time it is reached (what is shared counts as often as it is met; a slice's spare places count too). A statement '..UptoSaid' is the law's where the arguments, and the package variables that the reading takes, are together of bulk at most 1048576: NARROWER than '..Said'. Prove '..Said' where nothing that the law and all that it calls make is longer than what came in: it says more and counts as full. Else prove '..UptoSaid'. A law counts once. -/
mutual
def uptoBulk {H : Type} : DataW H → Nat
  | .lit (.string bytes) => bytes.length + 1
  | .lit _ => 1
  | .nil => 1
  | .ptr d => uptoBulk d + 1
  | .slice elems spare => uptoBulkAll elems + uptoBulkAll spare + 1
  | .agg parts => uptoBulkAll parts + 1
  | .iface _ d => uptoBulk d + 1
  | .map entries => uptoBulkEntries entries + 1
  | .held _ => 1
def uptoBulkAll {H : Type} : List (DataW H) → Nat
  | [] => 0
  | d :: r => uptoBulk d + uptoBulkAll r
def uptoBulkEntries {H : Type} : List (Lit × DataW H) → Nat
  | [] => 0
  | x :: r => uptoBulkEntry x + uptoBulkEntries r
def uptoBulkEntry {H : Type} : Lit × DataW H → Nat
  | (.string bytes, d) => bytes.length + uptoBulk d + 1
  | (_, d) => uptoBulk d + 1
 end
def uptoSmall : (H : Type) → List (DataW H) → Bool := fun _ ds => decide (uptoBulkAll ds ≤ 1048576)
def OpenSpec.upto (s : _root_.Go.ChangeSpec) : _root_.Go.OpenSpec := { _root_.Go.OpenSpec.ofChange s with cond := some uptoSmall }

/-- 'wavestorelaw02.BitvectorExtends', WHERE WHAT IT READS IS OF BULK AT MOST 1048576: true; the input reads as it did. -/
def bitvectorExtendsUptoRow : OpenClaim := { program := "ytoachkpkbgpmjaa", sum := "d9149995dad84d56fb2e41903d7dab0a5264d750fc70590affcfd815b861666c", func := "wavestore/wavestorelaw02.BitvectorExtends", spec := "bitvectorExtends", inPlace := ["internal/abi.NoEscape", "internal/bytealg.MakeNoZero"], unfollowed := true, recurses := true, apart := false, narrowed := true }
def BitvectorExtendsUptoSaid : Prop := bitvectorExtendsUptoRow.holds Try.pinned (OpenSpec.upto bitvectorExtendsSpec)

/-- 'wavestorelaw02.BitvectorOpen', WHERE WHAT IT READS IS OF BULK AT MOST 1048576: true; the input reads as it did. -/
def bitvectorOpenUptoRow : OpenClaim := { program := "ytoachkpkbgpmjaa", sum := "d9149995dad84d56fb2e41903d7dab0a5264d750fc70590affcfd815b861666c", func := "wavestore/wavestorelaw02.BitvectorOpen", spec := "bitvectorOpen", inPlace := ["internal/abi.NoEscape", "internal/bytealg.MakeNoZero"], unfollowed := true, recurses := true, apart := false, narrowed := true }
def BitvectorOpenUptoSaid : Prop := bitvectorOpenUptoRow.holds Try.pinned (OpenSpec.upto bitvectorOpenSpec)

/-- 'wavestorelaw02.BitvectorNumbers', WHERE WHAT IT READS IS OF BULK AT MOST 1048576: true; the input reads as it did. -/
def bitvectorNumbersUptoRow : OpenClaim := { program := "ytoachkpkbgpmjaa", sum := "d9149995dad84d56fb2e41903d7dab0a5264d750fc70590affcfd815b861666c", func := "wavestore/wavestorelaw02.BitvectorNumbers", spec := "bitvectorNumbers", inPlace := ["internal/abi.NoEscape", "internal/bytealg.MakeNoZero"], unfollowed := true, recurses := true, apart := false, narrowed := true }
def BitvectorNumbersUptoSaid : Prop := bitvectorNumbersUptoRow.holds Try.pinned (OpenSpec.upto bitvectorNumbersSpec)

/-- 'wavestorelaw02.BitvectorSums', WHERE WHAT IT READS IS OF BULK AT MOST 1048576: true; the input reads as it did. -/
def bitvectorSumsUptoRow : OpenClaim := { program := "ytoachkpkbgpmjaa", sum := "d9149995dad84d56fb2e41903d7dab0a5264d750fc70590affcfd815b861666c", func := "wavestore/wavestorelaw02.BitvectorSums", spec := "bitvectorSums", inPlace := ["internal/abi.NoEscape", "internal/bytealg.MakeNoZero"], unfollowed := true, recurses := true, apart := false, narrowed := true }
def BitvectorSumsUptoSaid : Prop := bitvectorSumsUptoRow.holds Try.pinned (OpenSpec.upto bitvectorSumsSpec)

/-- 'wavestorelaw02.BitvectorMix', WHERE WHAT IT READS IS OF BULK AT MOST 1048576: true; the input reads as it did. -/
def bitvectorMixUptoRow : OpenClaim := { program := "ytoachkpkbgpmjaa", sum := "d9149995dad84d56fb2e41903d7dab0a5264d750fc70590affcfd815b861666c", func := "wavestore/wavestorelaw02.BitvectorMix", spec := "bitvectorMix", inPlace := ["internal/abi.NoEscape", "internal/bytealg.MakeNoZero"], unfollowed := true, recurses := true, apart := false, narrowed := true }
def BitvectorMixUptoSaid : Prop := bitvectorMixUptoRow.holds Try.pinned (OpenSpec.upto bitvectorMixSpec)

/-- 'wavestorelaw02.BitvectorForms', WHERE WHAT IT READS IS OF BULK AT MOST 1048576: true; the input reads as it did. -/
def bitvectorFormsUptoRow : OpenClaim := { program := "ytoachkpkbgpmjaa", sum := "d9149995dad84d56fb2e41903d7dab0a5264d750fc70590affcfd815b861666c", func := "wavestore/wavestorelaw02.BitvectorForms", spec := "bitvectorForms", inPlace := ["internal/abi.NoEscape", "internal/bytealg.MakeNoZero"], unfollowed := true, recurses := true, apart := false, narrowed := true }
def BitvectorFormsUptoSaid : Prop := bitvectorFormsUptoRow.holds Try.pinned (OpenSpec.upto bitvectorFormsSpec)

/-- 'wavestorelaw02.BitvectorParts', WHERE WHAT IT READS IS OF BULK AT MOST 1048576: true; the input reads as it did. -/
def bitvectorPartsUptoRow : OpenClaim := { program := "ytoachkpkbgpmjaa", sum := "d9149995dad84d56fb2e41903d7dab0a5264d750fc70590affcfd815b861666c", func := "wavestore/wavestorelaw02.BitvectorParts", spec := "bitvectorParts", inPlace := ["internal/abi.NoEscape", "internal/bytealg.MakeNoZero"], unfollowed := true, recurses := true, apart := false, narrowed := true }
def BitvectorPartsUptoSaid : Prop := bitvectorPartsUptoRow.holds Try.pinned (OpenSpec.upto bitvectorPartsSpec)

/-- 'wavestorelaw02.BitvectorSlices', WHERE WHAT IT READS IS OF BULK AT MOST 1048576: true; the input reads as it did. -/
def bitvectorSlicesUptoRow : OpenClaim := { program := "ytoachkpkbgpmjaa", sum := "d9149995dad84d56fb2e41903d7dab0a5264d750fc70590affcfd815b861666c", func := "wavestore/wavestorelaw02.BitvectorSlices", spec := "bitvectorSlices", inPlace := ["internal/abi.NoEscape", "internal/bytealg.MakeNoZero"], unfollowed := true, recurses := true, apart := false, narrowed := true }
def BitvectorSlicesUptoSaid : Prop := bitvectorSlicesUptoRow.holds Try.pinned (OpenSpec.upto bitvectorSlicesSpec)

end Rows
end Go.Proofs.Ytoachkpkbgpmjaa
