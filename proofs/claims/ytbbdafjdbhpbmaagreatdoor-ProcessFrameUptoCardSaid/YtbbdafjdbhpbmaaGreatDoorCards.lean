/-
  DERIVED. GIVEN WITH THE SEED: THE CARDS: each row of YtbbdafjdbhpbmaaGreatDoorRows.lean that lists a variable, with what it lists TIED to the program's text (the seventh form; the later family's looks); each row that meets fmt, with fmt's text TOLD by the authors' own Lean function (tested against real Go, not proved from fmt's source: count such statements apart). THE CARD IS WHAT COUNTS. Prove the row's statement (the work); the ties are given (YtbbdafjdbhpbmaaGreatDoorTie.lean); close each card by the builder's one call (the guide's Derived/Test/ToyasCard.lean, 'card_holds'). Laid BY PROGRAM, IN A SANDBOX (cutbox-door.mjs). By AI agents, Wed Nov 11 2026. No macro, syntax, notation, axiom, sorry.
-/
import Derived.Test.YtbbdafjdbhpbmaaGreatDoorRows
import GoSem.ClaimSeven
namespace Go.Proofs.YtbbdafjdbhpbmaaGreatDoor
namespace Rows

/-- THE TIED CARD OF 'replevinlaw35.ProcessBoots'. -/
def processBootsCard : Claim7 := { stood := { row := processBootsRow, standIns := [], harness := (true, "ebb5abaf261fdc3f5d1b5b9887c80c88c769ebd0d1a7ef52c95319800e4af9b9"), looks := false }, kinds := [], alts := [], laidByText := true, laidKinds := [.data, .data, .data, .data], laidTests := true, laidLooks := .later }
def ProcessBootsCardSaid : Prop := Claim7.holds Tryz.pinned (.plain (OpenSpec.ofChange processBootsSpec)) processBootsCard

/-- THE TIED CARD OF 'replevinlaw35.ProcessMemories'. -/
def processMemoriesCard : Claim7 := { stood := { row := processMemoriesRow, standIns := [], harness := (true, "ebb5abaf261fdc3f5d1b5b9887c80c88c769ebd0d1a7ef52c95319800e4af9b9"), looks := false }, kinds := [], alts := [], laidByText := true, laidKinds := [.data, .data, .data, .data], laidTests := true, laidLooks := .later }
def ProcessMemoriesCardSaid : Prop := Claim7.holds Tryz.pinned (.plain (OpenSpec.ofChange processMemoriesSpec)) processMemoriesCard

/-- THE TIED CARD OF 'replevinlaw35.ProcessFrame'. -/
def processFrameCard : Claim7 := { stood := { row := processFrameRow, standIns := [], harness := (true, "ebb5abaf261fdc3f5d1b5b9887c80c88c769ebd0d1a7ef52c95319800e4af9b9"), looks := false }, kinds := [], alts := [], laidByText := true, laidKinds := [.data, .data, .data, .data], laidTests := true, laidLooks := .later }
def ProcessFrameCardSaid : Prop := Claim7.holds Tryz.pinned (.plain (OpenSpec.ofChange processFrameSpec)) processFrameCard

/-- THE TIED CARD OF 'replevinlaw35.ProcessOperations'. -/
def processOperationsCard : Claim7 := { stood := { row := processOperationsRow, standIns := [], harness := (true, "ebb5abaf261fdc3f5d1b5b9887c80c88c769ebd0d1a7ef52c95319800e4af9b9"), looks := false }, kinds := [], alts := [], laidByText := true, laidKinds := [.data, .data, .data, .data], laidTests := true, laidLooks := .later }
def ProcessOperationsCardSaid : Prop := Claim7.holds Tryz.pinned (.plain (OpenSpec.ofChange processOperationsSpec)) processOperationsCard

/-- THE TIED CARD OF 'replevinlaw35.ProcessTouches'. -/
def processTouchesCard : Claim7 := { stood := { row := processTouchesRow, standIns := [], harness := (true, "ebb5abaf261fdc3f5d1b5b9887c80c88c769ebd0d1a7ef52c95319800e4af9b9"), looks := false }, kinds := [], alts := [], laidByText := true, laidKinds := [.data, .data, .data, .data], laidTests := true, laidLooks := .later }
def ProcessTouchesCardSaid : Prop := Claim7.holds Tryz.pinned (.plain (OpenSpec.ofChange processTouchesSpec)) processTouchesCard

/-- THE TIED CARD OF 'replevinlaw35.ProcessExecutes'. -/
def processExecutesCard : Claim7 := { stood := { row := processExecutesRow, standIns := [], harness := (true, "ebb5abaf261fdc3f5d1b5b9887c80c88c769ebd0d1a7ef52c95319800e4af9b9"), looks := false }, kinds := [], alts := [], laidByText := true, laidKinds := [.data, .data, .data, .data, .data], laidTests := true, laidLooks := .later }
def ProcessExecutesCardSaid : Prop := Claim7.holds Tryz.pinned (.plain (OpenSpec.ofChange processExecutesSpec)) processExecutesCard

/-- THE SECOND FORM's CARD OF 'replevinlaw35.ProcessBoots'. -/
def processBootsUptoCard : Claim7 := { stood := { row := processBootsUptoRow, standIns := [], harness := (true, "ebb5abaf261fdc3f5d1b5b9887c80c88c769ebd0d1a7ef52c95319800e4af9b9"), looks := false }, kinds := [], alts := [], laidByText := true, laidKinds := [.data, .data, .data, .data], laidTests := true, laidLooks := .later }
def ProcessBootsUptoCardSaid : Prop := Claim7.holds Tryz.pinned (.plain (OpenSpec.upto processBootsSpec)) processBootsUptoCard

/-- THE SECOND FORM's CARD OF 'replevinlaw35.ProcessMemories'. -/
def processMemoriesUptoCard : Claim7 := { stood := { row := processMemoriesUptoRow, standIns := [], harness := (true, "ebb5abaf261fdc3f5d1b5b9887c80c88c769ebd0d1a7ef52c95319800e4af9b9"), looks := false }, kinds := [], alts := [], laidByText := true, laidKinds := [.data, .data, .data, .data], laidTests := true, laidLooks := .later }
def ProcessMemoriesUptoCardSaid : Prop := Claim7.holds Tryz.pinned (.plain (OpenSpec.upto processMemoriesSpec)) processMemoriesUptoCard

/-- THE SECOND FORM's CARD OF 'replevinlaw35.ProcessFrame'. -/
def processFrameUptoCard : Claim7 := { stood := { row := processFrameUptoRow, standIns := [], harness := (true, "ebb5abaf261fdc3f5d1b5b9887c80c88c769ebd0d1a7ef52c95319800e4af9b9"), looks := false }, kinds := [], alts := [], laidByText := true, laidKinds := [.data, .data, .data, .data], laidTests := true, laidLooks := .later }
def ProcessFrameUptoCardSaid : Prop := Claim7.holds Tryz.pinned (.plain (OpenSpec.upto processFrameSpec)) processFrameUptoCard

/-- THE SECOND FORM's CARD OF 'replevinlaw35.ProcessOperations'. -/
def processOperationsUptoCard : Claim7 := { stood := { row := processOperationsUptoRow, standIns := [], harness := (true, "ebb5abaf261fdc3f5d1b5b9887c80c88c769ebd0d1a7ef52c95319800e4af9b9"), looks := false }, kinds := [], alts := [], laidByText := true, laidKinds := [.data, .data, .data, .data], laidTests := true, laidLooks := .later }
def ProcessOperationsUptoCardSaid : Prop := Claim7.holds Tryz.pinned (.plain (OpenSpec.upto processOperationsSpec)) processOperationsUptoCard

/-- THE SECOND FORM's CARD OF 'replevinlaw35.ProcessTouches'. -/
def processTouchesUptoCard : Claim7 := { stood := { row := processTouchesUptoRow, standIns := [], harness := (true, "ebb5abaf261fdc3f5d1b5b9887c80c88c769ebd0d1a7ef52c95319800e4af9b9"), looks := false }, kinds := [], alts := [], laidByText := true, laidKinds := [.data, .data, .data, .data], laidTests := true, laidLooks := .later }
def ProcessTouchesUptoCardSaid : Prop := Claim7.holds Tryz.pinned (.plain (OpenSpec.upto processTouchesSpec)) processTouchesUptoCard

/-- THE SECOND FORM's CARD OF 'replevinlaw35.ProcessExecutes'. -/
def processExecutesUptoCard : Claim7 := { stood := { row := processExecutesUptoRow, standIns := [], harness := (true, "ebb5abaf261fdc3f5d1b5b9887c80c88c769ebd0d1a7ef52c95319800e4af9b9"), looks := false }, kinds := [], alts := [], laidByText := true, laidKinds := [.data, .data, .data, .data, .data], laidTests := true, laidLooks := .later }
def ProcessExecutesUptoCardSaid : Prop := Claim7.holds Tryz.pinned (.plain (OpenSpec.upto processExecutesSpec)) processExecutesUptoCard
end Rows
end Go.Proofs.YtbbdafjdbhpbmaaGreatDoor
