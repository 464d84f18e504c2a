/-
  No cell of these rows narrows 'for every input' (looked for: loops, veiled, ifaces, maps, wideKeys, modest, calm, conditions, laid).
  DERIVED. THE GIVEN ROWS OF THIS SEAT. 7 by the template 'for every input the law returns true; each argument reads behind the call as it read before'; 0 by the template 'total and deterministic' (their statements: YtmibaepihlkpgaaTotals.lean).
  GIVEN WITH THE SEED: the statements are not yours to turn. If you find one false, say at which input.
  Laid BY PROGRAM, IN A SANDBOX (cutbox-rows.mjs): the forced cells as the released guide's own fill.sh prints them over the translation 48472b3d1eec23ea… (all of the seat's roots in one cut). By AI agents, Wed Nov 11 2026. No macro, syntax, notation, axiom, sorry.
-/
import Derived.Test.YtmibaepihlkpgaaChecked
import GoSem.Claim
import GoSem.ClaimJoined
import GoSem.ClaimMapViews
import Derived.JoinedTies
import Derived.KernelRfl
namespace Go.Proofs.Ytmibaepihlkpgaa
/- THE CELL 'sum', in the pinned program and in every row, IS THE sha256 OF THE DUMP (.gsa) THAT YtmibaepihlkpgaaProg.lean LOADS. Nothing in Lean hashes anything: it is a label: what it is worth is what the hold of that sum in a sandbox is worth. -/
noncomputable def Try.pinned : Pinned := { name := "ytmibaepihlkpgaa", sum := "48472b3d1eec23ea0442e18244e4d555e06bc0b5258dbcb66c0bf2d882fe8c24", checked := Try.checked }
namespace Rows
def none {H : Type} : Left H := { results := [], args := [] }

/-- 'wavestorelaw09.MatcherFinds': WHATEVER THE INPUT: true; the input reads as it did. -/
def matcherFindsSpec : ChangeSpec := { name := "matcherFinds", fn := fun _ => fun
  | [d1, d2, d3, d4, d5] => { results := [.lit (.bool true)], args := [d1, d2, d3, d4, d5] }
  | _ => none }
def matcherFindsRow : OpenClaim := { program := "ytmibaepihlkpgaa", sum := "48472b3d1eec23ea0442e18244e4d555e06bc0b5258dbcb66c0bf2d882fe8c24", func := "wavestore/wavestorelaw09.MatcherFinds", spec := "matcherFinds", unfollowed := true, recurses := true, apart := false }
def MatcherFindsSaid : Prop := matcherFindsRow.holds Try.pinned (OpenSpec.ofChange matcherFindsSpec)

/-- ITS FALSE NEIGHBOUR: 'it returns false'. Refute it at one input. -/
def matcherFindsWrong : ChangeSpec := { name := "matcherFinds", fn := fun _ => fun
  | [d1, d2, d3, d4, d5] => { results := [.lit (.bool false)], args := [d1, d2, d3, d4, d5] }
  | _ => none }
def MatcherFindsWrongFalsely : Prop := matcherFindsRow.holds Try.pinned (OpenSpec.ofChange matcherFindsWrong)

/-- 'wavestorelaw09.MatcherOccurs': WHATEVER THE INPUT: true; the input reads as it did. -/
def matcherOccursSpec : ChangeSpec := { name := "matcherOccurs", fn := fun _ => fun
  | [d1, d2, d3, d4] => { results := [.lit (.bool true)], args := [d1, d2, d3, d4] }
  | _ => none }
def matcherOccursRow : OpenClaim := { program := "ytmibaepihlkpgaa", sum := "48472b3d1eec23ea0442e18244e4d555e06bc0b5258dbcb66c0bf2d882fe8c24", func := "wavestore/wavestorelaw09.MatcherOccurs", spec := "matcherOccurs", unfollowed := true, recurses := true, apart := false }
def MatcherOccursSaid : Prop := matcherOccursRow.holds Try.pinned (OpenSpec.ofChange matcherOccursSpec)

/-- ITS FALSE NEIGHBOUR: 'it returns false'. Refute it at one input. -/
def matcherOccursWrong : ChangeSpec := { name := "matcherOccurs", fn := fun _ => fun
  | [d1, d2, d3, d4] => { results := [.lit (.bool false)], args := [d1, d2, d3, d4] }
  | _ => none }
def MatcherOccursWrongFalsely : Prop := matcherOccursRow.holds Try.pinned (OpenSpec.ofChange matcherOccursWrong)

/-- 'wavestorelaw09.MatcherNearest': WHATEVER THE INPUT: true; the input reads as it did. -/
def matcherNearestSpec : ChangeSpec := { name := "matcherNearest", fn := fun _ => fun
  | [d1, d2, d3, d4, d5] => { results := [.lit (.bool true)], args := [d1, d2, d3, d4, d5] }
  | _ => none }
def matcherNearestRow : OpenClaim := { program := "ytmibaepihlkpgaa", sum := "48472b3d1eec23ea0442e18244e4d555e06bc0b5258dbcb66c0bf2d882fe8c24", func := "wavestore/wavestorelaw09.MatcherNearest", spec := "matcherNearest", unfollowed := true, recurses := true, apart := false }
def MatcherNearestSaid : Prop := matcherNearestRow.holds Try.pinned (OpenSpec.ofChange matcherNearestSpec)

/-- ITS FALSE NEIGHBOUR: 'it returns false'. Refute it at one input. -/
def matcherNearestWrong : ChangeSpec := { name := "matcherNearest", fn := fun _ => fun
  | [d1, d2, d3, d4, d5] => { results := [.lit (.bool false)], args := [d1, d2, d3, d4, d5] }
  | _ => none }
def MatcherNearestWrongFalsely : Prop := matcherNearestRow.holds Try.pinned (OpenSpec.ofChange matcherNearestWrong)

/-- 'wavestorelaw09.MatcherLimits': WHATEVER THE INPUT: true; the input reads as it did. -/
def matcherLimitsSpec : ChangeSpec := { name := "matcherLimits", fn := fun _ => fun
  | [d1, d2, d3, d4, d5, d6] => { results := [.lit (.bool true)], args := [d1, d2, d3, d4, d5, d6] }
  | _ => none }
def matcherLimitsRow : OpenClaim := { program := "ytmibaepihlkpgaa", sum := "48472b3d1eec23ea0442e18244e4d555e06bc0b5258dbcb66c0bf2d882fe8c24", func := "wavestore/wavestorelaw09.MatcherLimits", spec := "matcherLimits", unfollowed := true, recurses := true, apart := false }
def MatcherLimitsSaid : Prop := matcherLimitsRow.holds Try.pinned (OpenSpec.ofChange matcherLimitsSpec)

/-- ITS FALSE NEIGHBOUR: 'it returns false'. Refute it at one input. -/
def matcherLimitsWrong : ChangeSpec := { name := "matcherLimits", fn := fun _ => fun
  | [d1, d2, d3, d4, d5, d6] => { results := [.lit (.bool false)], args := [d1, d2, d3, d4, d5, d6] }
  | _ => none }
def MatcherLimitsWrongFalsely : Prop := matcherLimitsRow.holds Try.pinned (OpenSpec.ofChange matcherLimitsWrong)

/-- 'wavestorelaw09.MatcherTables': WHATEVER THE INPUT: true; the input reads as it did. -/
def matcherTablesSpec : ChangeSpec := { name := "matcherTables", fn := fun _ => fun
  | [d1, d2, d3] => { results := [.lit (.bool true)], args := [d1, d2, d3] }
  | _ => none }
def matcherTablesRow : OpenClaim := { program := "ytmibaepihlkpgaa", sum := "48472b3d1eec23ea0442e18244e4d555e06bc0b5258dbcb66c0bf2d882fe8c24", func := "wavestore/wavestorelaw09.MatcherTables", spec := "matcherTables", unfollowed := true, recurses := true, apart := false }
def MatcherTablesSaid : Prop := matcherTablesRow.holds Try.pinned (OpenSpec.ofChange matcherTablesSpec)

/-- ITS FALSE NEIGHBOUR: 'it returns false'. Refute it at one input. -/
def matcherTablesWrong : ChangeSpec := { name := "matcherTables", fn := fun _ => fun
  | [d1, d2, d3] => { results := [.lit (.bool false)], args := [d1, d2, d3] }
  | _ => none }
def MatcherTablesWrongFalsely : Prop := matcherTablesRow.holds Try.pinned (OpenSpec.ofChange matcherTablesWrong)

/-- 'wavestorelaw09.MatcherPeriods': WHATEVER THE INPUT: true; the input reads as it did. -/
def matcherPeriodsSpec : ChangeSpec := { name := "matcherPeriods", fn := fun _ => fun
  | [d1, d2, d3] => { results := [.lit (.bool true)], args := [d1, d2, d3] }
  | _ => none }
def matcherPeriodsRow : OpenClaim := { program := "ytmibaepihlkpgaa", sum := "48472b3d1eec23ea0442e18244e4d555e06bc0b5258dbcb66c0bf2d882fe8c24", func := "wavestore/wavestorelaw09.MatcherPeriods", spec := "matcherPeriods", inPlace := ["internal/abi.NoEscape", "internal/bytealg.MakeNoZero"], unfollowed := true, recurses := true, apart := false }
def MatcherPeriodsSaid : Prop := matcherPeriodsRow.holds Try.pinned (OpenSpec.ofChange matcherPeriodsSpec)

/-- ITS FALSE NEIGHBOUR: 'it returns false'. Refute it at one input. -/
def matcherPeriodsWrong : ChangeSpec := { name := "matcherPeriods", fn := fun _ => fun
  | [d1, d2, d3] => { results := [.lit (.bool false)], args := [d1, d2, d3] }
  | _ => none }
def MatcherPeriodsWrongFalsely : Prop := matcherPeriodsRow.holds Try.pinned (OpenSpec.ofChange matcherPeriodsWrong)

/-- 'wavestorelaw09.MatcherLong': WHATEVER THE INPUT: true; the input reads as it did. -/
def matcherLongSpec : ChangeSpec := { name := "matcherLong", fn := fun _ => fun
  | [d1, d2] => { results := [.lit (.bool true)], args := [d1, d2] }
  | _ => none }
def matcherLongRow : OpenClaim := { program := "ytmibaepihlkpgaa", sum := "48472b3d1eec23ea0442e18244e4d555e06bc0b5258dbcb66c0bf2d882fe8c24", func := "wavestore/wavestorelaw09.MatcherLong", spec := "matcherLong", inPlace := ["internal/abi.NoEscape", "internal/bytealg.MakeNoZero"], unfollowed := true, recurses := true, apart := false }
def MatcherLongSaid : Prop := matcherLongRow.holds Try.pinned (OpenSpec.ofChange matcherLongSpec)

/-- ITS FALSE NEIGHBOUR: 'it returns false'. Refute it at one input. -/
def matcherLongWrong : ChangeSpec := { name := "matcherLong", fn := fun _ => fun
  | [d1, d2] => { results := [.lit (.bool false)], args := [d1, d2] }
  | _ => none }
def MatcherLongWrongFalsely : Prop := matcherLongRow.holds Try.pinned (OpenSpec.ofChange matcherLongWrong)

/- THE SECOND FORM. 'bulk': how many values and letters a reading holds, each counted each time it is reached (what is shared counts as often as it is met; a slice's spare places count too). A statement '..UptoSaid' is the law's where the arguments, and the package variables that the reading takes, are together of bulk at most 1048576: NARROWER than '..Said'. Prove '..Said' where nothing that the law and all that it calls make is longer than what came in: it says more and counts as full. Else prove '..UptoSaid'. A law counts once. -/
mutual
def uptoBulk {H : Type} : DataW H → Nat
  | .lit (.string bytes) => bytes.length + 1
  | .lit _ => 1
  | .nil => 1
  | .ptr d => uptoBulk d + 1
  | .slice elems spare => uptoBulkAll elems + uptoBulkAll spare + 1
  | .agg parts => uptoBulkAll parts + 1
  | .iface _ d => uptoBulk d + 1
  | .map entries => uptoBulkEntries entries + 1
  | .held _ => 1
def uptoBulkAll {H : Type} : List (DataW H) → Nat
  | [] => 0
  | d :: r => uptoBulk d + uptoBulkAll r
def uptoBulkEntries {H : Type} : List (Lit × DataW H) → Nat
  | [] => 0
  | x :: r => uptoBulkEntry x + uptoBulkEntries r
def uptoBulkEntry {H : Type} : Lit × DataW H → Nat
  | (.string bytes, d) => bytes.length + uptoBulk d + 1
  | (_, d) => uptoBulk d + 1
 end
def uptoSmall : (H : Type) → List (DataW H) → Bool := fun _ ds => decide (uptoBulkAll ds ≤ 1048576)
def OpenSpec.upto (s : _root_.Go.ChangeSpec) : _root_.Go.OpenSpec := { _root_.Go.OpenSpec.ofChange s with cond := some uptoSmall }

/-- 'wavestorelaw09.MatcherFinds', WHERE WHAT IT READS IS OF BULK AT MOST 1048576: true; the input reads as it did. -/
def matcherFindsUptoRow : OpenClaim := { program := "ytmibaepihlkpgaa", sum := "48472b3d1eec23ea0442e18244e4d555e06bc0b5258dbcb66c0bf2d882fe8c24", func := "wavestore/wavestorelaw09.MatcherFinds", spec := "matcherFinds", unfollowed := true, recurses := true, apart := false, narrowed := true }
def MatcherFindsUptoSaid : Prop := matcherFindsUptoRow.holds Try.pinned (OpenSpec.upto matcherFindsSpec)

/-- 'wavestorelaw09.MatcherOccurs', WHERE WHAT IT READS IS OF BULK AT MOST 1048576: true; the input reads as it did. -/
def matcherOccursUptoRow : OpenClaim := { program := "ytmibaepihlkpgaa", sum := "48472b3d1eec23ea0442e18244e4d555e06bc0b5258dbcb66c0bf2d882fe8c24", func := "wavestore/wavestorelaw09.MatcherOccurs", spec := "matcherOccurs", unfollowed := true, recurses := true, apart := false, narrowed := true }
def MatcherOccursUptoSaid : Prop := matcherOccursUptoRow.holds Try.pinned (OpenSpec.upto matcherOccursSpec)

/-- 'wavestorelaw09.MatcherNearest', WHERE WHAT IT READS IS OF BULK AT MOST 1048576: true; the input reads as it did. -/
def matcherNearestUptoRow : OpenClaim := { program := "ytmibaepihlkpgaa", sum := "48472b3d1eec23ea0442e18244e4d555e06bc0b5258dbcb66c0bf2d882fe8c24", func := "wavestore/wavestorelaw09.MatcherNearest", spec := "matcherNearest", unfollowed := true, recurses := true, apart := false, narrowed := true }
def MatcherNearestUptoSaid : Prop := matcherNearestUptoRow.holds Try.pinned (OpenSpec.upto matcherNearestSpec)

/-- 'wavestorelaw09.MatcherLimits', WHERE WHAT IT READS IS OF BULK AT MOST 1048576: true; the input reads as it did. -/
def matcherLimitsUptoRow : OpenClaim := { program := "ytmibaepihlkpgaa", sum := "48472b3d1eec23ea0442e18244e4d555e06bc0b5258dbcb66c0bf2d882fe8c24", func := "wavestore/wavestorelaw09.MatcherLimits", spec := "matcherLimits", unfollowed := true, recurses := true, apart := false, narrowed := true }
def MatcherLimitsUptoSaid : Prop := matcherLimitsUptoRow.holds Try.pinned (OpenSpec.upto matcherLimitsSpec)

/-- 'wavestorelaw09.MatcherTables', WHERE WHAT IT READS IS OF BULK AT MOST 1048576: true; the input reads as it did. -/
def matcherTablesUptoRow : OpenClaim := { program := "ytmibaepihlkpgaa", sum := "48472b3d1eec23ea0442e18244e4d555e06bc0b5258dbcb66c0bf2d882fe8c24", func := "wavestore/wavestorelaw09.MatcherTables", spec := "matcherTables", unfollowed := true, recurses := true, apart := false, narrowed := true }
def MatcherTablesUptoSaid : Prop := matcherTablesUptoRow.holds Try.pinned (OpenSpec.upto matcherTablesSpec)

/-- 'wavestorelaw09.MatcherPeriods', WHERE WHAT IT READS IS OF BULK AT MOST 1048576: true; the input reads as it did. -/
def matcherPeriodsUptoRow : OpenClaim := { program := "ytmibaepihlkpgaa", sum := "48472b3d1eec23ea0442e18244e4d555e06bc0b5258dbcb66c0bf2d882fe8c24", func := "wavestore/wavestorelaw09.MatcherPeriods", spec := "matcherPeriods", inPlace := ["internal/abi.NoEscape", "internal/bytealg.MakeNoZero"], unfollowed := true, recurses := true, apart := false, narrowed := true }
def MatcherPeriodsUptoSaid : Prop := matcherPeriodsUptoRow.holds Try.pinned (OpenSpec.upto matcherPeriodsSpec)

/-- 'wavestorelaw09.MatcherLong', WHERE WHAT IT READS IS OF BULK AT MOST 1048576: true; the input reads as it did. -/
def matcherLongUptoRow : OpenClaim := { program := "ytmibaepihlkpgaa", sum := "48472b3d1eec23ea0442e18244e4d555e06bc0b5258dbcb66c0bf2d882fe8c24", func := "wavestore/wavestorelaw09.MatcherLong", spec := "matcherLong", inPlace := ["internal/abi.NoEscape", "internal/bytealg.MakeNoZero"], unfollowed := true, recurses := true, apart := false, narrowed := true }
def MatcherLongUptoSaid : Prop := matcherLongUptoRow.holds Try.pinned (OpenSpec.upto matcherLongSpec)

end Rows
end Go.Proofs.Ytmibaepihlkpgaa
