/-
  No cell of these rows narrows 'for every input' (looked for: loops, veiled, ifaces, maps, wideKeys, modest, calm, conditions, laid).
  DERIVED. THE GIVEN ROWS OF THIS SEAT. 4 by the template 'for every input the law returns true; each argument reads behind the call as it read before'; 0 by the template 'total and deterministic' (their statements: YteaohknkhlnojaaTotals.lean).
  GIVEN WITH THE SEED: the statements are not yours to turn. If you find one false, say at which input.
  Laid BY PROGRAM, IN A SANDBOX (cutbox-rows.mjs): the forced cells as the released guide's own fill.sh prints them over the translation 8976d22964beedea… (all of the seat's roots in one cut). By AI agents, Wed Nov 11 2026. No macro, syntax, notation, axiom, sorry.
-/
import Derived.Test.YteaohknkhlnojaaChecked
import GoSem.Claim
import GoSem.ClaimJoined
import GoSem.ClaimMapViews
import Derived.JoinedTies
import Derived.KernelRfl
namespace Go.Proofs.Yteaohknkhlnojaa
/- THE CELL 'sum', in the pinned program and in every row, IS THE sha256 OF THE DUMP (.gsa) THAT YteaohknkhlnojaaProg.lean LOADS. Nothing in Lean hashes anything: it is a label: what it is worth is what the hold of that sum in a sandbox is worth. -/
noncomputable def Try.pinned : Pinned := { name := "yteaohknkhlnojaa", sum := "8976d22964beedeaf7d9a056f467e9d7cd41e8e021c1cfdca692bff3532cc184", checked := Try.checked }
namespace Rows
def none {H : Type} : Left H := { results := [], args := [] }

/-- 'wavestorelaw15.FrameDamage': WHATEVER THE INPUT: true; the input reads as it did. -/
def frameDamageSpec : ChangeSpec := { name := "frameDamage", fn := fun _ => fun
  | [d1, d2, d3] => { results := [.lit (.bool true)], args := [d1, d2, d3] }
  | _ => none }
def frameDamageRow : OpenClaim := { program := "yteaohknkhlnojaa", sum := "8976d22964beedeaf7d9a056f467e9d7cd41e8e021c1cfdca692bff3532cc184", func := "wavestore/wavestorelaw15.FrameDamage", spec := "frameDamage", inPlace := ["internal/abi.NoEscape", "internal/bytealg.MakeNoZero"], unfollowed := true, recurses := true, apart := false }
def FrameDamageSaid : Prop := frameDamageRow.holds Try.pinned (OpenSpec.ofChange frameDamageSpec)

/-- ITS FALSE NEIGHBOUR: 'it returns false'. Refute it at one input. -/
def frameDamageWrong : ChangeSpec := { name := "frameDamage", fn := fun _ => fun
  | [d1, d2, d3] => { results := [.lit (.bool false)], args := [d1, d2, d3] }
  | _ => none }
def FrameDamageWrongFalsely : Prop := frameDamageRow.holds Try.pinned (OpenSpec.ofChange frameDamageWrong)

/-- 'wavestorelaw15.FrameLimits': WHATEVER THE INPUT: true; the input reads as it did. -/
def frameLimitsSpec : ChangeSpec := { name := "frameLimits", fn := fun _ => fun
  | [d1, d2, d3] => { results := [.lit (.bool true)], args := [d1, d2, d3] }
  | _ => none }
def frameLimitsRow : OpenClaim := { program := "yteaohknkhlnojaa", sum := "8976d22964beedeaf7d9a056f467e9d7cd41e8e021c1cfdca692bff3532cc184", func := "wavestore/wavestorelaw15.FrameLimits", spec := "frameLimits", inPlace := ["internal/abi.NoEscape", "internal/bytealg.MakeNoZero"], unfollowed := true, recurses := true, apart := false }
def FrameLimitsSaid : Prop := frameLimitsRow.holds Try.pinned (OpenSpec.ofChange frameLimitsSpec)

/-- ITS FALSE NEIGHBOUR: 'it returns false'. Refute it at one input. -/
def frameLimitsWrong : ChangeSpec := { name := "frameLimits", fn := fun _ => fun
  | [d1, d2, d3] => { results := [.lit (.bool false)], args := [d1, d2, d3] }
  | _ => none }
def FrameLimitsWrongFalsely : Prop := frameLimitsRow.holds Try.pinned (OpenSpec.ofChange frameLimitsWrong)

/-- 'wavestorelaw15.FrameInverts': WHATEVER THE INPUT: true; the input reads as it did. -/
def frameInvertsSpec : ChangeSpec := { name := "frameInverts", fn := fun _ => fun
  | [d] => { results := [.lit (.bool true)], args := [d] }
  | _ => none }
def frameInvertsRow : OpenClaim := { program := "yteaohknkhlnojaa", sum := "8976d22964beedeaf7d9a056f467e9d7cd41e8e021c1cfdca692bff3532cc184", func := "wavestore/wavestorelaw15.FrameInverts", spec := "frameInverts", inPlace := ["internal/abi.NoEscape", "internal/bytealg.MakeNoZero"], unfollowed := true, recurses := true, apart := false }
def FrameInvertsSaid : Prop := frameInvertsRow.holds Try.pinned (OpenSpec.ofChange frameInvertsSpec)

/-- ITS FALSE NEIGHBOUR: 'it returns false'. Refute it at one input. -/
def frameInvertsWrong : ChangeSpec := { name := "frameInverts", fn := fun _ => fun
  | [d] => { results := [.lit (.bool false)], args := [d] }
  | _ => none }
def FrameInvertsWrongFalsely : Prop := frameInvertsRow.holds Try.pinned (OpenSpec.ofChange frameInvertsWrong)

/-- 'wavestorelaw15.FrameStrict': WHATEVER THE INPUT: true; the input reads as it did. -/
def frameStrictSpec : ChangeSpec := { name := "frameStrict", fn := fun _ => fun
  | [d1, d2, d3] => { results := [.lit (.bool true)], args := [d1, d2, d3] }
  | _ => none }
def frameStrictRow : OpenClaim := { program := "yteaohknkhlnojaa", sum := "8976d22964beedeaf7d9a056f467e9d7cd41e8e021c1cfdca692bff3532cc184", func := "wavestore/wavestorelaw15.FrameStrict", spec := "frameStrict", inPlace := ["internal/abi.NoEscape", "internal/bytealg.MakeNoZero"], unfollowed := true, recurses := true, apart := false }
def FrameStrictSaid : Prop := frameStrictRow.holds Try.pinned (OpenSpec.ofChange frameStrictSpec)

/-- ITS FALSE NEIGHBOUR: 'it returns false'. Refute it at one input. -/
def frameStrictWrong : ChangeSpec := { name := "frameStrict", fn := fun _ => fun
  | [d1, d2, d3] => { results := [.lit (.bool false)], args := [d1, d2, d3] }
  | _ => none }
def FrameStrictWrongFalsely : Prop := frameStrictRow.holds Try.pinned (OpenSpec.ofChange frameStrictWrong)

/- THE SECOND FORM. 'bulk': how many values and letters a reading holds, each counted each time it is reached (what is shared counts as often as it is met; a slice's spare places count too). A statement '..UptoSaid' is the law's where the arguments, and the package variables that the reading takes, are together of bulk at most 1048576: NARROWER than '..Said'. Prove '..Said' where nothing that the law and all that it calls make is longer than what came in: it says more and counts as full. Else prove '..UptoSaid'. A law counts once. -/
mutual
def uptoBulk {H : Type} : DataW H → Nat
  | .lit (.string bytes) => bytes.length + 1
  | .lit _ => 1
  | .nil => 1
  | .ptr d => uptoBulk d + 1
  | .slice elems spare => uptoBulkAll elems + uptoBulkAll spare + 1
  | .agg parts => uptoBulkAll parts + 1
  | .iface _ d => uptoBulk d + 1
  | .map entries => uptoBulkEntries entries + 1
  | .held _ => 1
def uptoBulkAll {H : Type} : List (DataW H) → Nat
  | [] => 0
  | d :: r => uptoBulk d + uptoBulkAll r
def uptoBulkEntries {H : Type} : List (Lit × DataW H) → Nat
  | [] => 0
  | x :: r => uptoBulkEntry x + uptoBulkEntries r
def uptoBulkEntry {H : Type} : Lit × DataW H → Nat
  | (.string bytes, d) => bytes.length + uptoBulk d + 1
  | (_, d) => uptoBulk d + 1
 end
def uptoSmall : (H : Type) → List (DataW H) → Bool := fun _ ds => decide (uptoBulkAll ds ≤ 1048576)
def OpenSpec.upto (s : _root_.Go.ChangeSpec) : _root_.Go.OpenSpec := { _root_.Go.OpenSpec.ofChange s with cond := some uptoSmall }

/-- 'wavestorelaw15.FrameDamage', WHERE WHAT IT READS IS OF BULK AT MOST 1048576: true; the input reads as it did. -/
def frameDamageUptoRow : OpenClaim := { program := "yteaohknkhlnojaa", sum := "8976d22964beedeaf7d9a056f467e9d7cd41e8e021c1cfdca692bff3532cc184", func := "wavestore/wavestorelaw15.FrameDamage", spec := "frameDamage", inPlace := ["internal/abi.NoEscape", "internal/bytealg.MakeNoZero"], unfollowed := true, recurses := true, apart := false, narrowed := true }
def FrameDamageUptoSaid : Prop := frameDamageUptoRow.holds Try.pinned (OpenSpec.upto frameDamageSpec)

/-- 'wavestorelaw15.FrameLimits', WHERE WHAT IT READS IS OF BULK AT MOST 1048576: true; the input reads as it did. -/
def frameLimitsUptoRow : OpenClaim := { program := "yteaohknkhlnojaa", sum := "8976d22964beedeaf7d9a056f467e9d7cd41e8e021c1cfdca692bff3532cc184", func := "wavestore/wavestorelaw15.FrameLimits", spec := "frameLimits", inPlace := ["internal/abi.NoEscape", "internal/bytealg.MakeNoZero"], unfollowed := true, recurses := true, apart := false, narrowed := true }
def FrameLimitsUptoSaid : Prop := frameLimitsUptoRow.holds Try.pinned (OpenSpec.upto frameLimitsSpec)

/-- 'wavestorelaw15.FrameInverts', WHERE WHAT IT READS IS OF BULK AT MOST 1048576: true; the input reads as it did. -/
def frameInvertsUptoRow : OpenClaim := { program := "yteaohknkhlnojaa", sum := "8976d22964beedeaf7d9a056f467e9d7cd41e8e021c1cfdca692bff3532cc184", func := "wavestore/wavestorelaw15.FrameInverts", spec := "frameInverts", inPlace := ["internal/abi.NoEscape", "internal/bytealg.MakeNoZero"], unfollowed := true, recurses := true, apart := false, narrowed := true }
def FrameInvertsUptoSaid : Prop := frameInvertsUptoRow.holds Try.pinned (OpenSpec.upto frameInvertsSpec)

/-- 'wavestorelaw15.FrameStrict', WHERE WHAT IT READS IS OF BULK AT MOST 1048576: true; the input reads as it did. -/
def frameStrictUptoRow : OpenClaim := { program := "yteaohknkhlnojaa", sum := "8976d22964beedeaf7d9a056f467e9d7cd41e8e021c1cfdca692bff3532cc184", func := "wavestore/wavestorelaw15.FrameStrict", spec := "frameStrict", inPlace := ["internal/abi.NoEscape", "internal/bytealg.MakeNoZero"], unfollowed := true, recurses := true, apart := false, narrowed := true }
def FrameStrictUptoSaid : Prop := frameStrictUptoRow.holds Try.pinned (OpenSpec.upto frameStrictSpec)

end Rows
end Go.Proofs.Yteaohknkhlnojaa
