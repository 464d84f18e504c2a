/-
  No cell of these rows narrows 'for every input' (looked for: loops, veiled, ifaces, maps, wideKeys, modest, calm, conditions, laid).
  DERIVED. THE GIVEN ROWS OF THIS SEAT. 7 by the template 'for every input the law returns true; each argument reads behind the call as it read before'; 0 by the template 'total and deterministic' (their statements: YtgooffiipnkmiaaTotals.lean).
  GIVEN WITH THE SEED: the statements are not yours to turn. If you find one false, say at which input.
  Laid BY PROGRAM, IN A SANDBOX (cutbox-rows.mjs): the forced cells as the released guide's own fill.sh prints them over the translation 05f596a1bc2c60bd… (all of the seat's roots in one cut). By AI agents, Wed Nov 11 2026. No macro, syntax, notation, axiom, sorry.
-/
import Derived.Test.YtgooffiipnkmiaaChecked
import GoSem.Claim
import GoSem.ClaimJoined
import GoSem.ClaimMapViews
import Derived.JoinedTies
import Derived.KernelRfl
namespace Go.Proofs.Ytgooffiipnkmiaa
/- THE CELL 'sum', in the pinned program and in every row, IS THE sha256 OF THE DUMP (.gsa) THAT YtgooffiipnkmiaaProg.lean LOADS. Nothing in Lean hashes anything: it is a label: what it is worth is what the hold of that sum in a sandbox is worth. -/
noncomputable def Try.pinned : Pinned := { name := "ytgooffiipnkmiaa", sum := "05f596a1bc2c60bd9ffe8b50f7e50536f0a78e66632810fd16a267f18823b0cd", checked := Try.checked }
namespace Rows
def none {H : Type} : Left H := { results := [], args := [] }

/-- 'wavestorelaw11.Lz77Forms': WHATEVER THE INPUT: true; the input reads as it did. -/
def lz77FormsSpec : ChangeSpec := { name := "lz77Forms", fn := fun _ => fun
  | [d] => { results := [.lit (.bool true)], args := [d] }
  | _ => none }
def lz77FormsRow : OpenClaim := { program := "ytgooffiipnkmiaa", sum := "05f596a1bc2c60bd9ffe8b50f7e50536f0a78e66632810fd16a267f18823b0cd", func := "wavestore/wavestorelaw11.Lz77Forms", spec := "lz77Forms", unfollowed := true, recurses := true, apart := false }
def Lz77FormsSaid : Prop := lz77FormsRow.holds Try.pinned (OpenSpec.ofChange lz77FormsSpec)

/-- ITS FALSE NEIGHBOUR: 'it returns false'. Refute it at one input. -/
def lz77FormsWrong : ChangeSpec := { name := "lz77Forms", fn := fun _ => fun
  | [d] => { results := [.lit (.bool false)], args := [d] }
  | _ => none }
def Lz77FormsWrongFalsely : Prop := lz77FormsRow.holds Try.pinned (OpenSpec.ofChange lz77FormsWrong)

/-- 'wavestorelaw11.Lz77Decodes': WHATEVER THE INPUT: true; the input reads as it did. -/
def lz77DecodesSpec : ChangeSpec := { name := "lz77Decodes", fn := fun _ => fun
  | [d1, d2] => { results := [.lit (.bool true)], args := [d1, d2] }
  | _ => none }
def lz77DecodesRow : OpenClaim := { program := "ytgooffiipnkmiaa", sum := "05f596a1bc2c60bd9ffe8b50f7e50536f0a78e66632810fd16a267f18823b0cd", func := "wavestore/wavestorelaw11.Lz77Decodes", spec := "lz77Decodes", unfollowed := true, recurses := true, apart := false }
def Lz77DecodesSaid : Prop := lz77DecodesRow.holds Try.pinned (OpenSpec.ofChange lz77DecodesSpec)

/-- ITS FALSE NEIGHBOUR: 'it returns false'. Refute it at one input. -/
def lz77DecodesWrong : ChangeSpec := { name := "lz77Decodes", fn := fun _ => fun
  | [d1, d2] => { results := [.lit (.bool false)], args := [d1, d2] }
  | _ => none }
def Lz77DecodesWrongFalsely : Prop := lz77DecodesRow.holds Try.pinned (OpenSpec.ofChange lz77DecodesWrong)

/-- 'wavestorelaw11.Lz77Inverts': WHATEVER THE INPUT: true; the input reads as it did. -/
def lz77InvertsSpec : ChangeSpec := { name := "lz77Inverts", fn := fun _ => fun
  | [d1, d2] => { results := [.lit (.bool true)], args := [d1, d2] }
  | _ => none }
def lz77InvertsRow : OpenClaim := { program := "ytgooffiipnkmiaa", sum := "05f596a1bc2c60bd9ffe8b50f7e50536f0a78e66632810fd16a267f18823b0cd", func := "wavestore/wavestorelaw11.Lz77Inverts", spec := "lz77Inverts", unfollowed := true, recurses := true, apart := false }
def Lz77InvertsSaid : Prop := lz77InvertsRow.holds Try.pinned (OpenSpec.ofChange lz77InvertsSpec)

/-- ITS FALSE NEIGHBOUR: 'it returns false'. Refute it at one input. -/
def lz77InvertsWrong : ChangeSpec := { name := "lz77Inverts", fn := fun _ => fun
  | [d1, d2] => { results := [.lit (.bool false)], args := [d1, d2] }
  | _ => none }
def Lz77InvertsWrongFalsely : Prop := lz77InvertsRow.holds Try.pinned (OpenSpec.ofChange lz77InvertsWrong)

/-- 'wavestorelaw11.Lz77Strict': WHATEVER THE INPUT: true; the input reads as it did. -/
def lz77StrictSpec : ChangeSpec := { name := "lz77Strict", fn := fun _ => fun
  | [d] => { results := [.lit (.bool true)], args := [d] }
  | _ => none }
def lz77StrictRow : OpenClaim := { program := "ytgooffiipnkmiaa", sum := "05f596a1bc2c60bd9ffe8b50f7e50536f0a78e66632810fd16a267f18823b0cd", func := "wavestore/wavestorelaw11.Lz77Strict", spec := "lz77Strict", unfollowed := true, recurses := true, apart := false }
def Lz77StrictSaid : Prop := lz77StrictRow.holds Try.pinned (OpenSpec.ofChange lz77StrictSpec)

/-- ITS FALSE NEIGHBOUR: 'it returns false'. Refute it at one input. -/
def lz77StrictWrong : ChangeSpec := { name := "lz77Strict", fn := fun _ => fun
  | [d] => { results := [.lit (.bool false)], args := [d] }
  | _ => none }
def Lz77StrictWrongFalsely : Prop := lz77StrictRow.holds Try.pinned (OpenSpec.ofChange lz77StrictWrong)

/-- 'wavestorelaw11.Lz77Others': WHATEVER THE INPUT: true; the input reads as it did. -/
def lz77OthersSpec : ChangeSpec := { name := "lz77Others", fn := fun _ => fun
  | [d1, d2] => { results := [.lit (.bool true)], args := [d1, d2] }
  | _ => none }
def lz77OthersRow : OpenClaim := { program := "ytgooffiipnkmiaa", sum := "05f596a1bc2c60bd9ffe8b50f7e50536f0a78e66632810fd16a267f18823b0cd", func := "wavestore/wavestorelaw11.Lz77Others", spec := "lz77Others", unfollowed := true, recurses := true, apart := false }
def Lz77OthersSaid : Prop := lz77OthersRow.holds Try.pinned (OpenSpec.ofChange lz77OthersSpec)

/-- ITS FALSE NEIGHBOUR: 'it returns false'. Refute it at one input. -/
def lz77OthersWrong : ChangeSpec := { name := "lz77Others", fn := fun _ => fun
  | [d1, d2] => { results := [.lit (.bool false)], args := [d1, d2] }
  | _ => none }
def Lz77OthersWrongFalsely : Prop := lz77OthersRow.holds Try.pinned (OpenSpec.ofChange lz77OthersWrong)

/-- 'wavestorelaw11.Lz77Runs': WHATEVER THE INPUT: true; the input reads as it did. -/
def lz77RunsSpec : ChangeSpec := { name := "lz77Runs", fn := fun _ => fun
  | [d1, d2] => { results := [.lit (.bool true)], args := [d1, d2] }
  | _ => none }
def lz77RunsRow : OpenClaim := { program := "ytgooffiipnkmiaa", sum := "05f596a1bc2c60bd9ffe8b50f7e50536f0a78e66632810fd16a267f18823b0cd", func := "wavestore/wavestorelaw11.Lz77Runs", spec := "lz77Runs", inPlace := ["internal/abi.NoEscape", "internal/bytealg.MakeNoZero"], unfollowed := true, recurses := true, apart := false }
def Lz77RunsSaid : Prop := lz77RunsRow.holds Try.pinned (OpenSpec.ofChange lz77RunsSpec)

/-- ITS FALSE NEIGHBOUR: 'it returns false'. Refute it at one input. -/
def lz77RunsWrong : ChangeSpec := { name := "lz77Runs", fn := fun _ => fun
  | [d1, d2] => { results := [.lit (.bool false)], args := [d1, d2] }
  | _ => none }
def Lz77RunsWrongFalsely : Prop := lz77RunsRow.holds Try.pinned (OpenSpec.ofChange lz77RunsWrong)

/-- 'wavestorelaw11.Lz77Limits': WHATEVER THE INPUT: true; the input reads as it did. -/
def lz77LimitsSpec : ChangeSpec := { name := "lz77Limits", fn := fun _ => fun
  | [d1, d2] => { results := [.lit (.bool true)], args := [d1, d2] }
  | _ => none }
def lz77LimitsRow : OpenClaim := { program := "ytgooffiipnkmiaa", sum := "05f596a1bc2c60bd9ffe8b50f7e50536f0a78e66632810fd16a267f18823b0cd", func := "wavestore/wavestorelaw11.Lz77Limits", spec := "lz77Limits", inPlace := ["internal/abi.NoEscape", "internal/bytealg.MakeNoZero"], unfollowed := true, recurses := true, apart := false }
def Lz77LimitsSaid : Prop := lz77LimitsRow.holds Try.pinned (OpenSpec.ofChange lz77LimitsSpec)

/-- ITS FALSE NEIGHBOUR: 'it returns false'. Refute it at one input. -/
def lz77LimitsWrong : ChangeSpec := { name := "lz77Limits", fn := fun _ => fun
  | [d1, d2] => { results := [.lit (.bool false)], args := [d1, d2] }
  | _ => none }
def Lz77LimitsWrongFalsely : Prop := lz77LimitsRow.holds Try.pinned (OpenSpec.ofChange lz77LimitsWrong)

/- THE SECOND FORM. 'bulk': how many values and letters a reading holds, each counted each time it is reached (what is shared counts as often as it is met; a slice's spare places count too). A statement '..UptoSaid' is the law's where the arguments, and the package variables that the reading takes, are together of bulk at most 1048576: NARROWER than '..Said'. Prove '..Said' where nothing that the law and all that it calls make is longer than what came in: it says more and counts as full. Else prove '..UptoSaid'. A law counts once. -/
mutual
def uptoBulk {H : Type} : DataW H → Nat
  | .lit (.string bytes) => bytes.length + 1
  | .lit _ => 1
  | .nil => 1
  | .ptr d => uptoBulk d + 1
  | .slice elems spare => uptoBulkAll elems + uptoBulkAll spare + 1
  | .agg parts => uptoBulkAll parts + 1
  | .iface _ d => uptoBulk d + 1
  | .map entries => uptoBulkEntries entries + 1
  | .held _ => 1
def uptoBulkAll {H : Type} : List (DataW H) → Nat
  | [] => 0
  | d :: r => uptoBulk d + uptoBulkAll r
def uptoBulkEntries {H : Type} : List (Lit × DataW H) → Nat
  | [] => 0
  | x :: r => uptoBulkEntry x + uptoBulkEntries r
def uptoBulkEntry {H : Type} : Lit × DataW H → Nat
  | (.string bytes, d) => bytes.length + uptoBulk d + 1
  | (_, d) => uptoBulk d + 1
 end
def uptoSmall : (H : Type) → List (DataW H) → Bool := fun _ ds => decide (uptoBulkAll ds ≤ 1048576)
def OpenSpec.upto (s : _root_.Go.ChangeSpec) : _root_.Go.OpenSpec := { _root_.Go.OpenSpec.ofChange s with cond := some uptoSmall }

/-- 'wavestorelaw11.Lz77Forms', WHERE WHAT IT READS IS OF BULK AT MOST 1048576: true; the input reads as it did. -/
def lz77FormsUptoRow : OpenClaim := { program := "ytgooffiipnkmiaa", sum := "05f596a1bc2c60bd9ffe8b50f7e50536f0a78e66632810fd16a267f18823b0cd", func := "wavestore/wavestorelaw11.Lz77Forms", spec := "lz77Forms", unfollowed := true, recurses := true, apart := false, narrowed := true }
def Lz77FormsUptoSaid : Prop := lz77FormsUptoRow.holds Try.pinned (OpenSpec.upto lz77FormsSpec)

/-- 'wavestorelaw11.Lz77Decodes', WHERE WHAT IT READS IS OF BULK AT MOST 1048576: true; the input reads as it did. -/
def lz77DecodesUptoRow : OpenClaim := { program := "ytgooffiipnkmiaa", sum := "05f596a1bc2c60bd9ffe8b50f7e50536f0a78e66632810fd16a267f18823b0cd", func := "wavestore/wavestorelaw11.Lz77Decodes", spec := "lz77Decodes", unfollowed := true, recurses := true, apart := false, narrowed := true }
def Lz77DecodesUptoSaid : Prop := lz77DecodesUptoRow.holds Try.pinned (OpenSpec.upto lz77DecodesSpec)

/-- 'wavestorelaw11.Lz77Inverts', WHERE WHAT IT READS IS OF BULK AT MOST 1048576: true; the input reads as it did. -/
def lz77InvertsUptoRow : OpenClaim := { program := "ytgooffiipnkmiaa", sum := "05f596a1bc2c60bd9ffe8b50f7e50536f0a78e66632810fd16a267f18823b0cd", func := "wavestore/wavestorelaw11.Lz77Inverts", spec := "lz77Inverts", unfollowed := true, recurses := true, apart := false, narrowed := true }
def Lz77InvertsUptoSaid : Prop := lz77InvertsUptoRow.holds Try.pinned (OpenSpec.upto lz77InvertsSpec)

/-- 'wavestorelaw11.Lz77Strict', WHERE WHAT IT READS IS OF BULK AT MOST 1048576: true; the input reads as it did. -/
def lz77StrictUptoRow : OpenClaim := { program := "ytgooffiipnkmiaa", sum := "05f596a1bc2c60bd9ffe8b50f7e50536f0a78e66632810fd16a267f18823b0cd", func := "wavestore/wavestorelaw11.Lz77Strict", spec := "lz77Strict", unfollowed := true, recurses := true, apart := false, narrowed := true }
def Lz77StrictUptoSaid : Prop := lz77StrictUptoRow.holds Try.pinned (OpenSpec.upto lz77StrictSpec)

/-- 'wavestorelaw11.Lz77Others', WHERE WHAT IT READS IS OF BULK AT MOST 1048576: true; the input reads as it did. -/
def lz77OthersUptoRow : OpenClaim := { program := "ytgooffiipnkmiaa", sum := "05f596a1bc2c60bd9ffe8b50f7e50536f0a78e66632810fd16a267f18823b0cd", func := "wavestore/wavestorelaw11.Lz77Others", spec := "lz77Others", unfollowed := true, recurses := true, apart := false, narrowed := true }
def Lz77OthersUptoSaid : Prop := lz77OthersUptoRow.holds Try.pinned (OpenSpec.upto lz77OthersSpec)

/-- 'wavestorelaw11.Lz77Runs', WHERE WHAT IT READS IS OF BULK AT MOST 1048576: true; the input reads as it did. -/
def lz77RunsUptoRow : OpenClaim := { program := "ytgooffiipnkmiaa", sum := "05f596a1bc2c60bd9ffe8b50f7e50536f0a78e66632810fd16a267f18823b0cd", func := "wavestore/wavestorelaw11.Lz77Runs", spec := "lz77Runs", inPlace := ["internal/abi.NoEscape", "internal/bytealg.MakeNoZero"], unfollowed := true, recurses := true, apart := false, narrowed := true }
def Lz77RunsUptoSaid : Prop := lz77RunsUptoRow.holds Try.pinned (OpenSpec.upto lz77RunsSpec)

/-- 'wavestorelaw11.Lz77Limits', WHERE WHAT IT READS IS OF BULK AT MOST 1048576: true; the input reads as it did. -/
def lz77LimitsUptoRow : OpenClaim := { program := "ytgooffiipnkmiaa", sum := "05f596a1bc2c60bd9ffe8b50f7e50536f0a78e66632810fd16a267f18823b0cd", func := "wavestore/wavestorelaw11.Lz77Limits", spec := "lz77Limits", inPlace := ["internal/abi.NoEscape", "internal/bytealg.MakeNoZero"], unfollowed := true, recurses := true, apart := false, narrowed := true }
def Lz77LimitsUptoSaid : Prop := lz77LimitsUptoRow.holds Try.pinned (OpenSpec.upto lz77LimitsSpec)

end Rows
end Go.Proofs.Ytgooffiipnkmiaa
