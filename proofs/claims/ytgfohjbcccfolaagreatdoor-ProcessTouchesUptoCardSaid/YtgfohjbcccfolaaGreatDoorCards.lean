/-
  DERIVED. GIVEN WITH THE SEED: THE CARDS: each row of YtgfohjbcccfolaaGreatDoorRows.lean that lists a variable, with what it lists TIED to the program's text (the seventh form; the later family's looks); each row that meets fmt, with fmt's text TOLD by the authors' own Lean function (tested against real Go, not proved from fmt's source: count such statements apart). THE CARD IS WHAT COUNTS. Prove the row's statement (the work); the ties are given (YtgfohjbcccfolaaGreatDoorTie.lean); close each card by the builder's one call (the guide's Derived/Test/ToyasCard.lean, 'card_holds'). Laid BY PROGRAM, IN A SANDBOX (cutbox-door.mjs). By AI agents, Wed Nov 11 2026. No macro, syntax, notation, axiom, sorry.
-/
import Derived.Test.YtgfohjbcccfolaaGreatDoorRows
import GoSem.ClaimSeven
namespace Go.Proofs.YtgfohjbcccfolaaGreatDoor
namespace Rows

/-- THE TIED CARD OF 'replevinlaw35.ProcessWaits'. -/
def processWaitsCard : Claim7 := { stood := { row := processWaitsRow, standIns := [], harness := (true, "01c43724824fd83e380916152085772c5b93110bc61af89eef0ff0d66f539b55"), looks := false }, kinds := [], alts := [], laidByText := true, laidKinds := [.data, .data, .data, .data], laidTests := true, laidLooks := .later }
def ProcessWaitsCardSaid : Prop := Claim7.holds Tryz.pinned (.plain (OpenSpec.ofChange processWaitsSpec)) processWaitsCard

/-- THE TIED CARD OF 'replevinlaw35.ProcessChecks'. -/
def processChecksCard : Claim7 := { stood := { row := processChecksRow, standIns := [], harness := (true, "01c43724824fd83e380916152085772c5b93110bc61af89eef0ff0d66f539b55"), looks := false }, kinds := [], alts := [], laidByText := true, laidKinds := [.data, .data, .data, .data], laidTests := true, laidLooks := .later }
def ProcessChecksCardSaid : Prop := Claim7.holds Tryz.pinned (.plain (OpenSpec.ofChange processChecksSpec)) processChecksCard

/-- THE TIED CARD OF 'replevinlaw35.ProcessForks'. -/
def processForksCard : Claim7 := { stood := { row := processForksRow, standIns := [], harness := (true, "01c43724824fd83e380916152085772c5b93110bc61af89eef0ff0d66f539b55"), looks := false }, kinds := [], alts := [], laidByText := true, laidKinds := [.data, .data, .data, .data], laidTests := true, laidLooks := .later }
def ProcessForksCardSaid : Prop := Claim7.holds Tryz.pinned (.plain (OpenSpec.ofChange processForksSpec)) processForksCard

/-- THE TIED CARD OF 'replevinlaw35.ProcessThreads'. -/
def processThreadsCard : Claim7 := { stood := { row := processThreadsRow, standIns := [], harness := (true, "01c43724824fd83e380916152085772c5b93110bc61af89eef0ff0d66f539b55"), looks := false }, kinds := [], alts := [], laidByText := true, laidKinds := [.data, .data, .data, .data], laidTests := true, laidLooks := .later }
def ProcessThreadsCardSaid : Prop := Claim7.holds Tryz.pinned (.plain (OpenSpec.ofChange processThreadsSpec)) processThreadsCard

/-- THE TIED CARD OF 'replevinlaw35.ProcessErrors'. -/
def processErrorsCard : Claim7 := { stood := { row := processErrorsRow, standIns := [], harness := (true, "01c43724824fd83e380916152085772c5b93110bc61af89eef0ff0d66f539b55"), looks := false }, kinds := [], alts := [], laidByText := true, laidKinds := [.data, .data, .data, .data], laidTests := true, laidLooks := .later }
def ProcessErrorsCardSaid : Prop := Claim7.holds Tryz.pinned (.plain (OpenSpec.ofChange processErrorsSpec)) processErrorsCard

/-- THE TIED CARD OF 'replevinlaw35.ProcessTouches'. -/
def processTouchesCard : Claim7 := { stood := { row := processTouchesRow, standIns := [], harness := (true, "01c43724824fd83e380916152085772c5b93110bc61af89eef0ff0d66f539b55"), looks := false }, kinds := [], alts := [], laidByText := true, laidKinds := [.data, .data, .data, .data], laidTests := true, laidLooks := .later }
def ProcessTouchesCardSaid : Prop := Claim7.holds Tryz.pinned (.plain (OpenSpec.ofChange processTouchesSpec)) processTouchesCard

/-- THE SECOND FORM's CARD OF 'replevinlaw35.ProcessWaits'. -/
def processWaitsUptoCard : Claim7 := { stood := { row := processWaitsUptoRow, standIns := [], harness := (true, "01c43724824fd83e380916152085772c5b93110bc61af89eef0ff0d66f539b55"), looks := false }, kinds := [], alts := [], laidByText := true, laidKinds := [.data, .data, .data, .data], laidTests := true, laidLooks := .later }
def ProcessWaitsUptoCardSaid : Prop := Claim7.holds Tryz.pinned (.plain (OpenSpec.upto processWaitsSpec)) processWaitsUptoCard

/-- THE SECOND FORM's CARD OF 'replevinlaw35.ProcessChecks'. -/
def processChecksUptoCard : Claim7 := { stood := { row := processChecksUptoRow, standIns := [], harness := (true, "01c43724824fd83e380916152085772c5b93110bc61af89eef0ff0d66f539b55"), looks := false }, kinds := [], alts := [], laidByText := true, laidKinds := [.data, .data, .data, .data], laidTests := true, laidLooks := .later }
def ProcessChecksUptoCardSaid : Prop := Claim7.holds Tryz.pinned (.plain (OpenSpec.upto processChecksSpec)) processChecksUptoCard

/-- THE SECOND FORM's CARD OF 'replevinlaw35.ProcessForks'. -/
def processForksUptoCard : Claim7 := { stood := { row := processForksUptoRow, standIns := [], harness := (true, "01c43724824fd83e380916152085772c5b93110bc61af89eef0ff0d66f539b55"), looks := false }, kinds := [], alts := [], laidByText := true, laidKinds := [.data, .data, .data, .data], laidTests := true, laidLooks := .later }
def ProcessForksUptoCardSaid : Prop := Claim7.holds Tryz.pinned (.plain (OpenSpec.upto processForksSpec)) processForksUptoCard

/-- THE SECOND FORM's CARD OF 'replevinlaw35.ProcessThreads'. -/
def processThreadsUptoCard : Claim7 := { stood := { row := processThreadsUptoRow, standIns := [], harness := (true, "01c43724824fd83e380916152085772c5b93110bc61af89eef0ff0d66f539b55"), looks := false }, kinds := [], alts := [], laidByText := true, laidKinds := [.data, .data, .data, .data], laidTests := true, laidLooks := .later }
def ProcessThreadsUptoCardSaid : Prop := Claim7.holds Tryz.pinned (.plain (OpenSpec.upto processThreadsSpec)) processThreadsUptoCard

/-- THE SECOND FORM's CARD OF 'replevinlaw35.ProcessErrors'. -/
def processErrorsUptoCard : Claim7 := { stood := { row := processErrorsUptoRow, standIns := [], harness := (true, "01c43724824fd83e380916152085772c5b93110bc61af89eef0ff0d66f539b55"), looks := false }, kinds := [], alts := [], laidByText := true, laidKinds := [.data, .data, .data, .data], laidTests := true, laidLooks := .later }
def ProcessErrorsUptoCardSaid : Prop := Claim7.holds Tryz.pinned (.plain (OpenSpec.upto processErrorsSpec)) processErrorsUptoCard

/-- THE SECOND FORM's CARD OF 'replevinlaw35.ProcessTouches'. -/
def processTouchesUptoCard : Claim7 := { stood := { row := processTouchesUptoRow, standIns := [], harness := (true, "01c43724824fd83e380916152085772c5b93110bc61af89eef0ff0d66f539b55"), looks := false }, kinds := [], alts := [], laidByText := true, laidKinds := [.data, .data, .data, .data], laidTests := true, laidLooks := .later }
def ProcessTouchesUptoCardSaid : Prop := Claim7.holds Tryz.pinned (.plain (OpenSpec.upto processTouchesSpec)) processTouchesUptoCard
end Rows
end Go.Proofs.YtgfohjbcccfolaaGreatDoor
