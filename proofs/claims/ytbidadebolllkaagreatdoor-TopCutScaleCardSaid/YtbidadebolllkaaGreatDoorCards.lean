/-
  DERIVED. GIVEN WITH THE SEED: THE CARDS: each row of YtbidadebolllkaaGreatDoorRows.lean that lists a variable, with what it lists TIED to the program's text (the seventh form; the later family's looks); each row that meets fmt, with fmt's text TOLD by the authors' own Lean function (tested against real Go, not proved from fmt's source: count such statements apart). THE CARD IS WHAT COUNTS. Prove the row's statement (the work); the ties are given (YtbidadebolllkaaGreatDoorTie.lean); close each card by the builder's one call (the guide's Derived/Test/ToyasCard.lean, 'card_holds'). Laid BY PROGRAM, IN A SANDBOX (cutbox-door.mjs). By AI agents, Wed Nov 11 2026. No macro, syntax, notation, axiom, sorry.
-/
import Derived.Test.YtbidadebolllkaaGreatDoorRows
import GoSem.ClaimSeven
namespace Go.Proofs.YtbidadebolllkaaGreatDoor
namespace Rows

/-- THE TIED CARD OF 'wavestoretop.TopCutScale'. -/
def topCutScaleCard : Claim7 := { stood := { row := topCutScaleRow, standIns := [], harness := (true, "fabcfa91ee39181df44624330743ac49b57fa89f5d1e3a531b9a128a8fb29d45"), looks := true }, kinds := [], alts := [], laidByText := true, laidKinds := [.data, .data, .data, .data, .sentinel, .sentinel, .pinned], laidTests := true, laidLooks := .later }
def TopCutScaleCardSaid : Prop := Claim7.holds Tryz.pinned (.plain (OpenSpec.ofChange topCutScaleSpec)) topCutScaleCard

/-- THE SECOND FORM's CARD OF 'wavestoretop.TopCutScale'. -/
def topCutScaleUptoCard : Claim7 := { stood := { row := topCutScaleUptoRow, standIns := [], harness := (true, "fabcfa91ee39181df44624330743ac49b57fa89f5d1e3a531b9a128a8fb29d45"), looks := true }, kinds := [], alts := [], laidByText := true, laidKinds := [.data, .data, .data, .data, .sentinel, .sentinel, .pinned], laidTests := true, laidLooks := .later }
def TopCutScaleUptoCardSaid : Prop := Claim7.holds Tryz.pinned (.plain (OpenSpec.upto topCutScaleSpec)) topCutScaleUptoCard
end Rows
end Go.Proofs.YtbidadebolllkaaGreatDoor
