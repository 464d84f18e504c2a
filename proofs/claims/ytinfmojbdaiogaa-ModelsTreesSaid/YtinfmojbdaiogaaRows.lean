/-
  No cell of these rows narrows 'for every input' (looked for: loops, veiled, ifaces, maps, wideKeys, modest, calm, conditions, laid).
  DERIVED. THE GIVEN ROWS OF THIS SEAT. 8 by the template 'for every input the law returns true; each argument reads behind the call as it read before'; 0 by the template 'total and deterministic' (their statements: YtinfmojbdaiogaaTotals.lean).
  GIVEN WITH THE SEED: the statements are not yours to turn. If you find one false, say at which input.
  Laid BY PROGRAM, IN A SANDBOX (cutbox-rows.mjs): the forced cells as the released guide's own fill.sh prints them over the translation b388acf50d0dd476… (all of the seat's roots in one cut). By AI agents, Wed Nov 11 2026. No macro, syntax, notation, axiom, sorry.
-/
import Derived.Test.YtinfmojbdaiogaaChecked
import GoSem.Claim
import GoSem.ClaimJoined
import GoSem.ClaimMapViews
import Derived.JoinedTies
import Derived.KernelRfl
namespace Go.Proofs.Ytinfmojbdaiogaa
/- THE CELL 'sum', in the pinned program and in every row, IS THE sha256 OF THE DUMP (.gsa) THAT YtinfmojbdaiogaaProg.lean LOADS. Nothing in Lean hashes anything: it is a label: what it is worth is what the hold of that sum in a sandbox is worth. -/
noncomputable def Try.pinned : Pinned := { name := "ytinfmojbdaiogaa", sum := "b388acf50d0dd476072ac1c0fa890ae0925cb1952238cad306f480ffeb182de9", checked := Try.checked }
namespace Rows
def none {H : Type} : Left H := { results := [], args := [] }

/-- 'wavestorelaw08.ModelsBits': WHATEVER THE INPUT: true; the input reads as it did. -/
def modelsBitsSpec : ChangeSpec := { name := "modelsBits", fn := fun _ => fun
  | [d1, d2] => { results := [.lit (.bool true)], args := [d1, d2] }
  | _ => none }
def modelsBitsRow : OpenClaim := { program := "ytinfmojbdaiogaa", sum := "b388acf50d0dd476072ac1c0fa890ae0925cb1952238cad306f480ffeb182de9", func := "wavestore/wavestorelaw08.ModelsBits", spec := "modelsBits", unfollowed := true, recurses := true, apart := false }
def ModelsBitsSaid : Prop := modelsBitsRow.holds Try.pinned (OpenSpec.ofChange modelsBitsSpec)

/-- ITS FALSE NEIGHBOUR: 'it returns false'. Refute it at one input. -/
def modelsBitsWrong : ChangeSpec := { name := "modelsBits", fn := fun _ => fun
  | [d1, d2] => { results := [.lit (.bool false)], args := [d1, d2] }
  | _ => none }
def ModelsBitsWrongFalsely : Prop := modelsBitsRow.holds Try.pinned (OpenSpec.ofChange modelsBitsWrong)

/-- 'wavestorelaw08.ModelsTexts': WHATEVER THE INPUT: true; the input reads as it did. -/
def modelsTextsSpec : ChangeSpec := { name := "modelsTexts", fn := fun _ => fun
  | [d1, d2, d3] => { results := [.lit (.bool true)], args := [d1, d2, d3] }
  | _ => none }
def modelsTextsRow : OpenClaim := { program := "ytinfmojbdaiogaa", sum := "b388acf50d0dd476072ac1c0fa890ae0925cb1952238cad306f480ffeb182de9", func := "wavestore/wavestorelaw08.ModelsTexts", spec := "modelsTexts", unfollowed := true, recurses := true, apart := false }
def ModelsTextsSaid : Prop := modelsTextsRow.holds Try.pinned (OpenSpec.ofChange modelsTextsSpec)

/-- ITS FALSE NEIGHBOUR: 'it returns false'. Refute it at one input. -/
def modelsTextsWrong : ChangeSpec := { name := "modelsTexts", fn := fun _ => fun
  | [d1, d2, d3] => { results := [.lit (.bool false)], args := [d1, d2, d3] }
  | _ => none }
def ModelsTextsWrongFalsely : Prop := modelsTextsRow.holds Try.pinned (OpenSpec.ofChange modelsTextsWrong)

/-- 'wavestorelaw08.ModelsMixed': WHATEVER THE INPUT: true; the input reads as it did. -/
def modelsMixedSpec : ChangeSpec := { name := "modelsMixed", fn := fun _ => fun
  | [d1, d2] => { results := [.lit (.bool true)], args := [d1, d2] }
  | _ => none }
def modelsMixedRow : OpenClaim := { program := "ytinfmojbdaiogaa", sum := "b388acf50d0dd476072ac1c0fa890ae0925cb1952238cad306f480ffeb182de9", func := "wavestore/wavestorelaw08.ModelsMixed", spec := "modelsMixed", unfollowed := true, recurses := true, apart := false }
def ModelsMixedSaid : Prop := modelsMixedRow.holds Try.pinned (OpenSpec.ofChange modelsMixedSpec)

/-- ITS FALSE NEIGHBOUR: 'it returns false'. Refute it at one input. -/
def modelsMixedWrong : ChangeSpec := { name := "modelsMixed", fn := fun _ => fun
  | [d1, d2] => { results := [.lit (.bool false)], args := [d1, d2] }
  | _ => none }
def ModelsMixedWrongFalsely : Prop := modelsMixedRow.holds Try.pinned (OpenSpec.ofChange modelsMixedWrong)

/-- 'wavestorelaw08.ModelsTrees': WHATEVER THE INPUT: true; the input reads as it did. -/
def modelsTreesSpec : ChangeSpec := { name := "modelsTrees", fn := fun _ => fun
  | [d1, d2, d3] => { results := [.lit (.bool true)], args := [d1, d2, d3] }
  | _ => none }
def modelsTreesRow : OpenClaim := { program := "ytinfmojbdaiogaa", sum := "b388acf50d0dd476072ac1c0fa890ae0925cb1952238cad306f480ffeb182de9", func := "wavestore/wavestorelaw08.ModelsTrees", spec := "modelsTrees", unfollowed := true, recurses := true, apart := false }
def ModelsTreesSaid : Prop := modelsTreesRow.holds Try.pinned (OpenSpec.ofChange modelsTreesSpec)

/-- ITS FALSE NEIGHBOUR: 'it returns false'. Refute it at one input. -/
def modelsTreesWrong : ChangeSpec := { name := "modelsTrees", fn := fun _ => fun
  | [d1, d2, d3] => { results := [.lit (.bool false)], args := [d1, d2, d3] }
  | _ => none }
def ModelsTreesWrongFalsely : Prop := modelsTreesRow.holds Try.pinned (OpenSpec.ofChange modelsTreesWrong)

/-- 'wavestorelaw08.ModelsNumbers': WHATEVER THE INPUT: true; the input reads as it did. -/
def modelsNumbersSpec : ChangeSpec := { name := "modelsNumbers", fn := fun _ => fun
  | [d1, d2, d3] => { results := [.lit (.bool true)], args := [d1, d2, d3] }
  | _ => none }
def modelsNumbersRow : OpenClaim := { program := "ytinfmojbdaiogaa", sum := "b388acf50d0dd476072ac1c0fa890ae0925cb1952238cad306f480ffeb182de9", func := "wavestore/wavestorelaw08.ModelsNumbers", spec := "modelsNumbers", unfollowed := true, recurses := true, apart := false }
def ModelsNumbersSaid : Prop := modelsNumbersRow.holds Try.pinned (OpenSpec.ofChange modelsNumbersSpec)

/-- ITS FALSE NEIGHBOUR: 'it returns false'. Refute it at one input. -/
def modelsNumbersWrong : ChangeSpec := { name := "modelsNumbers", fn := fun _ => fun
  | [d1, d2, d3] => { results := [.lit (.bool false)], args := [d1, d2, d3] }
  | _ => none }
def ModelsNumbersWrongFalsely : Prop := modelsNumbersRow.holds Try.pinned (OpenSpec.ofChange modelsNumbersWrong)

/-- 'wavestorelaw08.ModelsInverts': WHATEVER THE INPUT: true; the input reads as it did. -/
def modelsInvertsSpec : ChangeSpec := { name := "modelsInverts", fn := fun _ => fun
  | [d1, d2] => { results := [.lit (.bool true)], args := [d1, d2] }
  | _ => none }
def modelsInvertsRow : OpenClaim := { program := "ytinfmojbdaiogaa", sum := "b388acf50d0dd476072ac1c0fa890ae0925cb1952238cad306f480ffeb182de9", func := "wavestore/wavestorelaw08.ModelsInverts", spec := "modelsInverts", unfollowed := true, recurses := true, apart := false }
def ModelsInvertsSaid : Prop := modelsInvertsRow.holds Try.pinned (OpenSpec.ofChange modelsInvertsSpec)

/-- ITS FALSE NEIGHBOUR: 'it returns false'. Refute it at one input. -/
def modelsInvertsWrong : ChangeSpec := { name := "modelsInverts", fn := fun _ => fun
  | [d1, d2] => { results := [.lit (.bool false)], args := [d1, d2] }
  | _ => none }
def ModelsInvertsWrongFalsely : Prop := modelsInvertsRow.holds Try.pinned (OpenSpec.ofChange modelsInvertsWrong)

/-- 'wavestorelaw08.ModelsStrict': WHATEVER THE INPUT: true; the input reads as it did. -/
def modelsStrictSpec : ChangeSpec := { name := "modelsStrict", fn := fun _ => fun
  | [d1, d2] => { results := [.lit (.bool true)], args := [d1, d2] }
  | _ => none }
def modelsStrictRow : OpenClaim := { program := "ytinfmojbdaiogaa", sum := "b388acf50d0dd476072ac1c0fa890ae0925cb1952238cad306f480ffeb182de9", func := "wavestore/wavestorelaw08.ModelsStrict", spec := "modelsStrict", unfollowed := true, recurses := true, apart := false }
def ModelsStrictSaid : Prop := modelsStrictRow.holds Try.pinned (OpenSpec.ofChange modelsStrictSpec)

/-- ITS FALSE NEIGHBOUR: 'it returns false'. Refute it at one input. -/
def modelsStrictWrong : ChangeSpec := { name := "modelsStrict", fn := fun _ => fun
  | [d1, d2] => { results := [.lit (.bool false)], args := [d1, d2] }
  | _ => none }
def ModelsStrictWrongFalsely : Prop := modelsStrictRow.holds Try.pinned (OpenSpec.ofChange modelsStrictWrong)

/-- 'wavestorelaw08.ModelsLearns': WHATEVER THE INPUT: true; the input reads as it did. -/
def modelsLearnsSpec : ChangeSpec := { name := "modelsLearns", fn := fun _ => fun
  | [d1, d2, d3] => { results := [.lit (.bool true)], args := [d1, d2, d3] }
  | _ => none }
def modelsLearnsRow : OpenClaim := { program := "ytinfmojbdaiogaa", sum := "b388acf50d0dd476072ac1c0fa890ae0925cb1952238cad306f480ffeb182de9", func := "wavestore/wavestorelaw08.ModelsLearns", spec := "modelsLearns", inPlace := ["internal/abi.NoEscape", "internal/bytealg.MakeNoZero"], unfollowed := true, recurses := true, apart := false }
def ModelsLearnsSaid : Prop := modelsLearnsRow.holds Try.pinned (OpenSpec.ofChange modelsLearnsSpec)

/-- ITS FALSE NEIGHBOUR: 'it returns false'. Refute it at one input. -/
def modelsLearnsWrong : ChangeSpec := { name := "modelsLearns", fn := fun _ => fun
  | [d1, d2, d3] => { results := [.lit (.bool false)], args := [d1, d2, d3] }
  | _ => none }
def ModelsLearnsWrongFalsely : Prop := modelsLearnsRow.holds Try.pinned (OpenSpec.ofChange modelsLearnsWrong)

/- THE SECOND FORM. 'bulk': how many values and letters a reading holds, each counted each time it is reached (what is shared counts as often as it is met; a slice's spare places count too). A statement '..UptoSaid' is the law's where the arguments, and the package variables that the reading takes, are together of bulk at most 1048576: NARROWER than '..Said'. Prove '..Said' where nothing that the law and all that it calls make is longer than what came in: it says more and counts as full. Else prove '..UptoSaid'. A law counts once. -/
mutual
def uptoBulk {H : Type} : DataW H → Nat
  | .lit (.string bytes) => bytes.length + 1
  | .lit _ => 1
  | .nil => 1
  | .ptr d => uptoBulk d + 1
  | .slice elems spare => uptoBulkAll elems + uptoBulkAll spare + 1
  | .agg parts => uptoBulkAll parts + 1
  | .iface _ d => uptoBulk d + 1
  | .map entries => uptoBulkEntries entries + 1
  | .held _ => 1
def uptoBulkAll {H : Type} : List (DataW H) → Nat
  | [] => 0
  | d :: r => uptoBulk d + uptoBulkAll r
def uptoBulkEntries {H : Type} : List (Lit × DataW H) → Nat
  | [] => 0
  | x :: r => uptoBulkEntry x + uptoBulkEntries r
def uptoBulkEntry {H : Type} : Lit × DataW H → Nat
  | (.string bytes, d) => bytes.length + uptoBulk d + 1
  | (_, d) => uptoBulk d + 1
 end
def uptoSmall : (H : Type) → List (DataW H) → Bool := fun _ ds => decide (uptoBulkAll ds ≤ 1048576)
def OpenSpec.upto (s : _root_.Go.ChangeSpec) : _root_.Go.OpenSpec := { _root_.Go.OpenSpec.ofChange s with cond := some uptoSmall }

/-- 'wavestorelaw08.ModelsBits', WHERE WHAT IT READS IS OF BULK AT MOST 1048576: true; the input reads as it did. -/
def modelsBitsUptoRow : OpenClaim := { program := "ytinfmojbdaiogaa", sum := "b388acf50d0dd476072ac1c0fa890ae0925cb1952238cad306f480ffeb182de9", func := "wavestore/wavestorelaw08.ModelsBits", spec := "modelsBits", unfollowed := true, recurses := true, apart := false, narrowed := true }
def ModelsBitsUptoSaid : Prop := modelsBitsUptoRow.holds Try.pinned (OpenSpec.upto modelsBitsSpec)

/-- 'wavestorelaw08.ModelsTexts', WHERE WHAT IT READS IS OF BULK AT MOST 1048576: true; the input reads as it did. -/
def modelsTextsUptoRow : OpenClaim := { program := "ytinfmojbdaiogaa", sum := "b388acf50d0dd476072ac1c0fa890ae0925cb1952238cad306f480ffeb182de9", func := "wavestore/wavestorelaw08.ModelsTexts", spec := "modelsTexts", unfollowed := true, recurses := true, apart := false, narrowed := true }
def ModelsTextsUptoSaid : Prop := modelsTextsUptoRow.holds Try.pinned (OpenSpec.upto modelsTextsSpec)

/-- 'wavestorelaw08.ModelsMixed', WHERE WHAT IT READS IS OF BULK AT MOST 1048576: true; the input reads as it did. -/
def modelsMixedUptoRow : OpenClaim := { program := "ytinfmojbdaiogaa", sum := "b388acf50d0dd476072ac1c0fa890ae0925cb1952238cad306f480ffeb182de9", func := "wavestore/wavestorelaw08.ModelsMixed", spec := "modelsMixed", unfollowed := true, recurses := true, apart := false, narrowed := true }
def ModelsMixedUptoSaid : Prop := modelsMixedUptoRow.holds Try.pinned (OpenSpec.upto modelsMixedSpec)

/-- 'wavestorelaw08.ModelsTrees', WHERE WHAT IT READS IS OF BULK AT MOST 1048576: true; the input reads as it did. -/
def modelsTreesUptoRow : OpenClaim := { program := "ytinfmojbdaiogaa", sum := "b388acf50d0dd476072ac1c0fa890ae0925cb1952238cad306f480ffeb182de9", func := "wavestore/wavestorelaw08.ModelsTrees", spec := "modelsTrees", unfollowed := true, recurses := true, apart := false, narrowed := true }
def ModelsTreesUptoSaid : Prop := modelsTreesUptoRow.holds Try.pinned (OpenSpec.upto modelsTreesSpec)

/-- 'wavestorelaw08.ModelsNumbers', WHERE WHAT IT READS IS OF BULK AT MOST 1048576: true; the input reads as it did. -/
def modelsNumbersUptoRow : OpenClaim := { program := "ytinfmojbdaiogaa", sum := "b388acf50d0dd476072ac1c0fa890ae0925cb1952238cad306f480ffeb182de9", func := "wavestore/wavestorelaw08.ModelsNumbers", spec := "modelsNumbers", unfollowed := true, recurses := true, apart := false, narrowed := true }
def ModelsNumbersUptoSaid : Prop := modelsNumbersUptoRow.holds Try.pinned (OpenSpec.upto modelsNumbersSpec)

/-- 'wavestorelaw08.ModelsInverts', WHERE WHAT IT READS IS OF BULK AT MOST 1048576: true; the input reads as it did. -/
def modelsInvertsUptoRow : OpenClaim := { program := "ytinfmojbdaiogaa", sum := "b388acf50d0dd476072ac1c0fa890ae0925cb1952238cad306f480ffeb182de9", func := "wavestore/wavestorelaw08.ModelsInverts", spec := "modelsInverts", unfollowed := true, recurses := true, apart := false, narrowed := true }
def ModelsInvertsUptoSaid : Prop := modelsInvertsUptoRow.holds Try.pinned (OpenSpec.upto modelsInvertsSpec)

/-- 'wavestorelaw08.ModelsStrict', WHERE WHAT IT READS IS OF BULK AT MOST 1048576: true; the input reads as it did. -/
def modelsStrictUptoRow : OpenClaim := { program := "ytinfmojbdaiogaa", sum := "b388acf50d0dd476072ac1c0fa890ae0925cb1952238cad306f480ffeb182de9", func := "wavestore/wavestorelaw08.ModelsStrict", spec := "modelsStrict", unfollowed := true, recurses := true, apart := false, narrowed := true }
def ModelsStrictUptoSaid : Prop := modelsStrictUptoRow.holds Try.pinned (OpenSpec.upto modelsStrictSpec)

/-- 'wavestorelaw08.ModelsLearns', WHERE WHAT IT READS IS OF BULK AT MOST 1048576: true; the input reads as it did. -/
def modelsLearnsUptoRow : OpenClaim := { program := "ytinfmojbdaiogaa", sum := "b388acf50d0dd476072ac1c0fa890ae0925cb1952238cad306f480ffeb182de9", func := "wavestore/wavestorelaw08.ModelsLearns", spec := "modelsLearns", inPlace := ["internal/abi.NoEscape", "internal/bytealg.MakeNoZero"], unfollowed := true, recurses := true, apart := false, narrowed := true }
def ModelsLearnsUptoSaid : Prop := modelsLearnsUptoRow.holds Try.pinned (OpenSpec.upto modelsLearnsSpec)

end Rows
end Go.Proofs.Ytinfmojbdaiogaa
