/-
  No cell of these rows narrows 'for every input' (looked for: loops, veiled, ifaces, maps, wideKeys, modest, calm, conditions, laid).
  DERIVED. THE GIVEN ROWS OF THIS SEAT. 6 by the template 'for every input the law returns true; each argument reads behind the call as it read before'; 0 by the template 'total and deterministic' (their statements: YtbgnoeagajokeaaTotals.lean).
  GIVEN WITH THE SEED: the statements are not yours to turn. If you find one false, say at which input.
  Laid BY PROGRAM, IN A SANDBOX (cutbox-rows.mjs): the forced cells as the released guide's own fill.sh prints them over the translation c37a21e56eb93294… (all of the seat's roots in one cut). By AI agents, Wed Nov 11 2026. No macro, syntax, notation, axiom, sorry.
-/
import Derived.Test.YtbgnoeagajokeaaChecked
import GoSem.Claim
import GoSem.ClaimJoined
import GoSem.ClaimMapViews
import Derived.JoinedTies
import Derived.KernelRfl
namespace Go.Proofs.Ytbgnoeagajokeaa
/- THE CELL 'sum', in the pinned program and in every row, IS THE sha256 OF THE DUMP (.gsa) THAT YtbgnoeagajokeaaProg.lean LOADS. Nothing in Lean hashes anything: it is a label: what it is worth is what the hold of that sum in a sandbox is worth. -/
noncomputable def Try.pinned : Pinned := { name := "ytbgnoeagajokeaa", sum := "c37a21e56eb93294d9f6ca9fbd8a0314875ee7835d59937bd56376d9caf79ee3", checked := Try.checked }
namespace Rows
def none {H : Type} : Left H := { results := [], args := [] }

/-- 'wavestorelaw32.SpaceAllocates': WHATEVER THE INPUT: true; the input reads as it did. -/
def spaceAllocatesSpec : ChangeSpec := { name := "spaceAllocates", fn := fun _ => fun
  | [d1, d2, d3] => { results := [.lit (.bool true)], args := [d1, d2, d3] }
  | _ => none }
def spaceAllocatesRow : OpenClaim := { program := "ytbgnoeagajokeaa", sum := "c37a21e56eb93294d9f6ca9fbd8a0314875ee7835d59937bd56376d9caf79ee3", func := "wavestore/wavestorelaw32.SpaceAllocates", spec := "spaceAllocates", unfollowed := true, recurses := true, apart := false }
def SpaceAllocatesSaid : Prop := spaceAllocatesRow.holds Try.pinned (OpenSpec.ofChange spaceAllocatesSpec)

/-- ITS FALSE NEIGHBOUR: 'it returns false'. Refute it at one input. -/
def spaceAllocatesWrong : ChangeSpec := { name := "spaceAllocates", fn := fun _ => fun
  | [d1, d2, d3] => { results := [.lit (.bool false)], args := [d1, d2, d3] }
  | _ => none }
def SpaceAllocatesWrongFalsely : Prop := spaceAllocatesRow.holds Try.pinned (OpenSpec.ofChange spaceAllocatesWrong)

/-- 'wavestorelaw32.SpacePairs': WHATEVER THE INPUT: true; the input reads as it did. -/
def spacePairsSpec : ChangeSpec := { name := "spacePairs", fn := fun _ => fun
  | [d1, d2, d3] => { results := [.lit (.bool true)], args := [d1, d2, d3] }
  | _ => none }
def spacePairsRow : OpenClaim := { program := "ytbgnoeagajokeaa", sum := "c37a21e56eb93294d9f6ca9fbd8a0314875ee7835d59937bd56376d9caf79ee3", func := "wavestore/wavestorelaw32.SpacePairs", spec := "spacePairs", unfollowed := true, recurses := true, apart := false }
def SpacePairsSaid : Prop := spacePairsRow.holds Try.pinned (OpenSpec.ofChange spacePairsSpec)

/-- ITS FALSE NEIGHBOUR: 'it returns false'. Refute it at one input. -/
def spacePairsWrong : ChangeSpec := { name := "spacePairs", fn := fun _ => fun
  | [d1, d2, d3] => { results := [.lit (.bool false)], args := [d1, d2, d3] }
  | _ => none }
def SpacePairsWrongFalsely : Prop := spacePairsRow.holds Try.pinned (OpenSpec.ofChange spacePairsWrong)

/-- 'wavestorelaw32.SpaceKeeps': WHATEVER THE INPUT: true; the input reads as it did. -/
def spaceKeepsSpec : ChangeSpec := { name := "spaceKeeps", fn := fun _ => fun
  | [d1, d2, d3] => { results := [.lit (.bool true)], args := [d1, d2, d3] }
  | _ => none }
def spaceKeepsRow : OpenClaim := { program := "ytbgnoeagajokeaa", sum := "c37a21e56eb93294d9f6ca9fbd8a0314875ee7835d59937bd56376d9caf79ee3", func := "wavestore/wavestorelaw32.SpaceKeeps", spec := "spaceKeeps", unfollowed := true, recurses := true, apart := false }
def SpaceKeepsSaid : Prop := spaceKeepsRow.holds Try.pinned (OpenSpec.ofChange spaceKeepsSpec)

/-- ITS FALSE NEIGHBOUR: 'it returns false'. Refute it at one input. -/
def spaceKeepsWrong : ChangeSpec := { name := "spaceKeeps", fn := fun _ => fun
  | [d1, d2, d3] => { results := [.lit (.bool false)], args := [d1, d2, d3] }
  | _ => none }
def SpaceKeepsWrongFalsely : Prop := spaceKeepsRow.holds Try.pinned (OpenSpec.ofChange spaceKeepsWrong)

/-- 'wavestorelaw32.SpaceReleases': WHATEVER THE INPUT: true; the input reads as it did. -/
def spaceReleasesSpec : ChangeSpec := { name := "spaceReleases", fn := fun _ => fun
  | [d1, d2, d3] => { results := [.lit (.bool true)], args := [d1, d2, d3] }
  | _ => none }
def spaceReleasesRow : OpenClaim := { program := "ytbgnoeagajokeaa", sum := "c37a21e56eb93294d9f6ca9fbd8a0314875ee7835d59937bd56376d9caf79ee3", func := "wavestore/wavestorelaw32.SpaceReleases", spec := "spaceReleases", unfollowed := true, recurses := true, apart := false }
def SpaceReleasesSaid : Prop := spaceReleasesRow.holds Try.pinned (OpenSpec.ofChange spaceReleasesSpec)

/-- ITS FALSE NEIGHBOUR: 'it returns false'. Refute it at one input. -/
def spaceReleasesWrong : ChangeSpec := { name := "spaceReleases", fn := fun _ => fun
  | [d1, d2, d3] => { results := [.lit (.bool false)], args := [d1, d2, d3] }
  | _ => none }
def SpaceReleasesWrongFalsely : Prop := spaceReleasesRow.holds Try.pinned (OpenSpec.ofChange spaceReleasesWrong)

/-- 'wavestorelaw32.SpaceViews': WHATEVER THE INPUT: true; the input reads as it did. -/
def spaceViewsSpec : ChangeSpec := { name := "spaceViews", fn := fun _ => fun
  | [d1, d2] => { results := [.lit (.bool true)], args := [d1, d2] }
  | _ => none }
def spaceViewsRow : OpenClaim := { program := "ytbgnoeagajokeaa", sum := "c37a21e56eb93294d9f6ca9fbd8a0314875ee7835d59937bd56376d9caf79ee3", func := "wavestore/wavestorelaw32.SpaceViews", spec := "spaceViews", unfollowed := true, recurses := true, apart := false }
def SpaceViewsSaid : Prop := spaceViewsRow.holds Try.pinned (OpenSpec.ofChange spaceViewsSpec)

/-- ITS FALSE NEIGHBOUR: 'it returns false'. Refute it at one input. -/
def spaceViewsWrong : ChangeSpec := { name := "spaceViews", fn := fun _ => fun
  | [d1, d2] => { results := [.lit (.bool false)], args := [d1, d2] }
  | _ => none }
def SpaceViewsWrongFalsely : Prop := spaceViewsRow.holds Try.pinned (OpenSpec.ofChange spaceViewsWrong)

/-- 'wavestorelaw32.SpaceSeveral': WHATEVER THE INPUT: true; the input reads as it did. -/
def spaceSeveralSpec : ChangeSpec := { name := "spaceSeveral", fn := fun _ => fun
  | [d1, d2, d3] => { results := [.lit (.bool true)], args := [d1, d2, d3] }
  | _ => none }
def spaceSeveralRow : OpenClaim := { program := "ytbgnoeagajokeaa", sum := "c37a21e56eb93294d9f6ca9fbd8a0314875ee7835d59937bd56376d9caf79ee3", func := "wavestore/wavestorelaw32.SpaceSeveral", spec := "spaceSeveral", unfollowed := true, recurses := true, apart := false }
def SpaceSeveralSaid : Prop := spaceSeveralRow.holds Try.pinned (OpenSpec.ofChange spaceSeveralSpec)

/-- ITS FALSE NEIGHBOUR: 'it returns false'. Refute it at one input. -/
def spaceSeveralWrong : ChangeSpec := { name := "spaceSeveral", fn := fun _ => fun
  | [d1, d2, d3] => { results := [.lit (.bool false)], args := [d1, d2, d3] }
  | _ => none }
def SpaceSeveralWrongFalsely : Prop := spaceSeveralRow.holds Try.pinned (OpenSpec.ofChange spaceSeveralWrong)

/- THE SECOND FORM. 'bulk': how many values and letters a reading holds, each counted each time it is reached (what is shared counts as often as it is met; a slice's spare places count too). A statement '..UptoSaid' is the law's where the arguments, and the package variables that the reading takes, are together of bulk at most 1048576: NARROWER than '..Said'. Prove '..Said' where nothing that the law and all that it calls make is longer than what came in: it says more and counts as full. Else prove '..UptoSaid'. A law counts once. -/
mutual
def uptoBulk {H : Type} : DataW H → Nat
  | .lit (.string bytes) => bytes.length + 1
  | .lit _ => 1
  | .nil => 1
  | .ptr d => uptoBulk d + 1
  | .slice elems spare => uptoBulkAll elems + uptoBulkAll spare + 1
  | .agg parts => uptoBulkAll parts + 1
  | .iface _ d => uptoBulk d + 1
  | .map entries => uptoBulkEntries entries + 1
  | .held _ => 1
def uptoBulkAll {H : Type} : List (DataW H) → Nat
  | [] => 0
  | d :: r => uptoBulk d + uptoBulkAll r
def uptoBulkEntries {H : Type} : List (Lit × DataW H) → Nat
  | [] => 0
  | x :: r => uptoBulkEntry x + uptoBulkEntries r
def uptoBulkEntry {H : Type} : Lit × DataW H → Nat
  | (.string bytes, d) => bytes.length + uptoBulk d + 1
  | (_, d) => uptoBulk d + 1
 end
def uptoSmall : (H : Type) → List (DataW H) → Bool := fun _ ds => decide (uptoBulkAll ds ≤ 1048576)
def OpenSpec.upto (s : _root_.Go.ChangeSpec) : _root_.Go.OpenSpec := { _root_.Go.OpenSpec.ofChange s with cond := some uptoSmall }

/-- 'wavestorelaw32.SpaceAllocates', WHERE WHAT IT READS IS OF BULK AT MOST 1048576: true; the input reads as it did. -/
def spaceAllocatesUptoRow : OpenClaim := { program := "ytbgnoeagajokeaa", sum := "c37a21e56eb93294d9f6ca9fbd8a0314875ee7835d59937bd56376d9caf79ee3", func := "wavestore/wavestorelaw32.SpaceAllocates", spec := "spaceAllocates", unfollowed := true, recurses := true, apart := false, narrowed := true }
def SpaceAllocatesUptoSaid : Prop := spaceAllocatesUptoRow.holds Try.pinned (OpenSpec.upto spaceAllocatesSpec)

/-- 'wavestorelaw32.SpacePairs', WHERE WHAT IT READS IS OF BULK AT MOST 1048576: true; the input reads as it did. -/
def spacePairsUptoRow : OpenClaim := { program := "ytbgnoeagajokeaa", sum := "c37a21e56eb93294d9f6ca9fbd8a0314875ee7835d59937bd56376d9caf79ee3", func := "wavestore/wavestorelaw32.SpacePairs", spec := "spacePairs", unfollowed := true, recurses := true, apart := false, narrowed := true }
def SpacePairsUptoSaid : Prop := spacePairsUptoRow.holds Try.pinned (OpenSpec.upto spacePairsSpec)

/-- 'wavestorelaw32.SpaceKeeps', WHERE WHAT IT READS IS OF BULK AT MOST 1048576: true; the input reads as it did. -/
def spaceKeepsUptoRow : OpenClaim := { program := "ytbgnoeagajokeaa", sum := "c37a21e56eb93294d9f6ca9fbd8a0314875ee7835d59937bd56376d9caf79ee3", func := "wavestore/wavestorelaw32.SpaceKeeps", spec := "spaceKeeps", unfollowed := true, recurses := true, apart := false, narrowed := true }
def SpaceKeepsUptoSaid : Prop := spaceKeepsUptoRow.holds Try.pinned (OpenSpec.upto spaceKeepsSpec)

/-- 'wavestorelaw32.SpaceReleases', WHERE WHAT IT READS IS OF BULK AT MOST 1048576: true; the input reads as it did. -/
def spaceReleasesUptoRow : OpenClaim := { program := "ytbgnoeagajokeaa", sum := "c37a21e56eb93294d9f6ca9fbd8a0314875ee7835d59937bd56376d9caf79ee3", func := "wavestore/wavestorelaw32.SpaceReleases", spec := "spaceReleases", unfollowed := true, recurses := true, apart := false, narrowed := true }
def SpaceReleasesUptoSaid : Prop := spaceReleasesUptoRow.holds Try.pinned (OpenSpec.upto spaceReleasesSpec)

/-- 'wavestorelaw32.SpaceViews', WHERE WHAT IT READS IS OF BULK AT MOST 1048576: true; the input reads as it did. -/
def spaceViewsUptoRow : OpenClaim := { program := "ytbgnoeagajokeaa", sum := "c37a21e56eb93294d9f6ca9fbd8a0314875ee7835d59937bd56376d9caf79ee3", func := "wavestore/wavestorelaw32.SpaceViews", spec := "spaceViews", unfollowed := true, recurses := true, apart := false, narrowed := true }
def SpaceViewsUptoSaid : Prop := spaceViewsUptoRow.holds Try.pinned (OpenSpec.upto spaceViewsSpec)

/-- 'wavestorelaw32.SpaceSeveral', WHERE WHAT IT READS IS OF BULK AT MOST 1048576: true; the input reads as it did. -/
def spaceSeveralUptoRow : OpenClaim := { program := "ytbgnoeagajokeaa", sum := "c37a21e56eb93294d9f6ca9fbd8a0314875ee7835d59937bd56376d9caf79ee3", func := "wavestore/wavestorelaw32.SpaceSeveral", spec := "spaceSeveral", unfollowed := true, recurses := true, apart := false, narrowed := true }
def SpaceSeveralUptoSaid : Prop := spaceSeveralUptoRow.holds Try.pinned (OpenSpec.upto spaceSeveralSpec)

end Rows
end Go.Proofs.Ytbgnoeagajokeaa
