/-
  DERIVED. GIVEN WITH THE SEED: THE CARDS: each row of YteaohknkhlnojaaGreatDoorRows.lean that lists a variable, with what it lists TIED to the program's text (the seventh form; the later family's looks); each row that meets fmt, with fmt's text TOLD by the authors' own Lean function (tested against real Go, not proved from fmt's source: count such statements apart). THE CARD IS WHAT COUNTS. Prove the row's statement (the work); the ties are given (YteaohknkhlnojaaGreatDoorTie.lean); close each card by the builder's one call (the guide's Derived/Test/ToyasCard.lean, 'card_holds'). Laid BY PROGRAM, IN A SANDBOX (cutbox-door.mjs). By AI agents, Wed Nov 11 2026. No macro, syntax, notation, axiom, sorry.
-/
import Derived.Test.YteaohknkhlnojaaGreatDoorRows
import GoSem.ClaimSeven
namespace Go.Proofs.YteaohknkhlnojaaGreatDoor
namespace Rows

/-- THE TIED CARD OF 'wavestorelaw15.FrameWalks'. -/
def frameWalksCard : Claim7 := { stood := { row := frameWalksRow, standIns := [], harness := (true, "1c5e2a4a222ab4df8076607b96e36dad3dfb0d3dbec7e5b028c8e4620deb1250"), looks := false }, kinds := [], alts := [], laidByText := true, laidKinds := [.data, .pinned], laidTests := true, laidLooks := .later }
def FrameWalksCardSaid : Prop := Claim7.holds Tryz.pinned (.plain (OpenSpec.ofChange frameWalksSpec)) frameWalksCard

/-- THE SECOND FORM's CARD OF 'wavestorelaw15.FrameWalks'. -/
def frameWalksUptoCard : Claim7 := { stood := { row := frameWalksUptoRow, standIns := [], harness := (true, "1c5e2a4a222ab4df8076607b96e36dad3dfb0d3dbec7e5b028c8e4620deb1250"), looks := false }, kinds := [], alts := [], laidByText := true, laidKinds := [.data, .pinned], laidTests := true, laidLooks := .later }
def FrameWalksUptoCardSaid : Prop := Claim7.holds Tryz.pinned (.plain (OpenSpec.upto frameWalksSpec)) frameWalksUptoCard
end Rows
end Go.Proofs.YteaohknkhlnojaaGreatDoor
