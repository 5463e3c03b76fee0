/-
  DERIVED. GIVEN WITH THE SEED: THE CARDS: each row of YtlpkdblnlkoedaaGreatDoorRows.lean that lists a variable, with what it lists TIED to the program's text (the seventh form; the later family's looks); each row that meets fmt, with fmt's text TOLD by the authors' own Lean function (tested against real Go, not proved from fmt's source: count such statements apart). THE CARD IS WHAT COUNTS. Prove the row's statement (the work); the ties are given (YtlpkdblnlkoedaaGreatDoorTie.lean); close each card by the builder's one call (the guide's Derived/Test/ToyasCard.lean, 'card_holds'). Laid BY PROGRAM, IN A SANDBOX (cutbox-door.mjs). By AI agents, Wed Nov 11 2026. No macro, syntax, notation, axiom, sorry.
-/
import Derived.Test.YtlpkdblnlkoedaaGreatDoorRows
import GoSem.ClaimSeven
namespace Go.Proofs.YtlpkdblnlkoedaaGreatDoor
namespace Rows

/-- THE TIED CARD OF 'replevinlaw35.ProcessWaits'. -/
def processWaitsCard : Claim7 := { stood := { row := processWaitsRow, standIns := [], harness := (true, "1d3508fe03a09624dbd98f79695f94bcdf424deab56034ef176d136e866f6f25"), looks := false }, kinds := [], alts := [], laidByText := true, laidKinds := [.data, .data, .data, .data], laidTests := true, laidLooks := .later }
def ProcessWaitsCardSaid : Prop := Claim7.holds Tryz.pinned (.plain (OpenSpec.ofChange processWaitsSpec)) processWaitsCard

/-- THE SECOND FORM's CARD OF 'replevinlaw35.ProcessWaits'. -/
def processWaitsUptoCard : Claim7 := { stood := { row := processWaitsUptoRow, standIns := [], harness := (true, "1d3508fe03a09624dbd98f79695f94bcdf424deab56034ef176d136e866f6f25"), looks := false }, kinds := [], alts := [], laidByText := true, laidKinds := [.data, .data, .data, .data], laidTests := true, laidLooks := .later }
def ProcessWaitsUptoCardSaid : Prop := Claim7.holds Tryz.pinned (.plain (OpenSpec.upto processWaitsSpec)) processWaitsUptoCard
end Rows
end Go.Proofs.YtlpkdblnlkoedaaGreatDoor
