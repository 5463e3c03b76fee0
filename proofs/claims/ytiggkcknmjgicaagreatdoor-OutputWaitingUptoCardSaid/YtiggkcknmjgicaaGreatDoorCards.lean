/-
  DERIVED. GIVEN WITH THE SEED: THE CARDS: each row of YtiggkcknmjgicaaGreatDoorRows.lean that lists a variable, with what it lists TIED to the program's text (the seventh form; the later family's looks); each row that meets fmt, with fmt's text TOLD by the authors' own Lean function (tested against real Go, not proved from fmt's source: count such statements apart). THE CARD IS WHAT COUNTS. Prove the row's statement (the work); the ties are given (YtiggkcknmjgicaaGreatDoorTie.lean); close each card by the builder's one call (the guide's Derived/Test/ToyasCard.lean, 'card_holds'). Laid BY PROGRAM, IN A SANDBOX (cutbox-door.mjs). By AI agents, Wed Nov 11 2026. No macro, syntax, notation, axiom, sorry.
-/
import Derived.Test.YtiggkcknmjgicaaGreatDoorRows
import GoSem.ClaimSeven
namespace Go.Proofs.YtiggkcknmjgicaaGreatDoor
namespace Rows

/-- THE TIED CARD OF 'replevinlaw27.InodeOperations'. -/
def inodeOperationsCard : Claim7 := { stood := { row := inodeOperationsRow, standIns := [], harness := (true, "1cff10b2a93a3b5c6c0dab272cf3686bceafbccf5480ea070b266460e43122d9"), looks := false }, kinds := [], alts := [], laidByText := true, laidKinds := [.data], laidTests := true, laidLooks := .later }
def InodeOperationsCardSaid : Prop := Claim7.holds Tryz.pinned (.plain (OpenSpec.ofChange inodeOperationsSpec)) inodeOperationsCard

/-- THE TIED CARD OF 'replevinlaw27.InodeFrame'. -/
def inodeFrameCard : Claim7 := { stood := { row := inodeFrameRow, standIns := [], harness := (true, "1cff10b2a93a3b5c6c0dab272cf3686bceafbccf5480ea070b266460e43122d9"), looks := false }, kinds := [], alts := [], laidByText := true, laidKinds := [.data], laidTests := true, laidLooks := .later }
def InodeFrameCardSaid : Prop := Claim7.holds Tryz.pinned (.plain (OpenSpec.ofChange inodeFrameSpec)) inodeFrameCard

/-- THE TIED CARD OF 'replevinlaw27.InodeTouches'. -/
def inodeTouchesCard : Claim7 := { stood := { row := inodeTouchesRow, standIns := [], harness := (true, "1cff10b2a93a3b5c6c0dab272cf3686bceafbccf5480ea070b266460e43122d9"), looks := false }, kinds := [], alts := [], laidByText := true, laidKinds := [.data], laidTests := true, laidLooks := .later }
def InodeTouchesCardSaid : Prop := Claim7.holds Tryz.pinned (.plain (OpenSpec.ofChange inodeTouchesSpec)) inodeTouchesCard

/-- THE TIED CARD OF 'replevinlaw39.OutputSends'. -/
def outputSendsCard : Claim7 := { stood := { row := outputSendsRow, standIns := [], harness := (true, "1cff10b2a93a3b5c6c0dab272cf3686bceafbccf5480ea070b266460e43122d9"), looks := false }, kinds := [], alts := [], laidByText := true, laidKinds := [.data], laidTests := true, laidLooks := .later }
def OutputSendsCardSaid : Prop := Claim7.holds Tryz.pinned (.plain (OpenSpec.ofChange outputSendsSpec)) outputSendsCard

/-- THE TIED CARD OF 'replevinlaw39.OutputWaiting'. -/
def outputWaitingCard : Claim7 := { stood := { row := outputWaitingRow, standIns := [], harness := (true, "1cff10b2a93a3b5c6c0dab272cf3686bceafbccf5480ea070b266460e43122d9"), looks := false }, kinds := [], alts := [], laidByText := true, laidKinds := [.data], laidTests := true, laidLooks := .later }
def OutputWaitingCardSaid : Prop := Claim7.holds Tryz.pinned (.plain (OpenSpec.ofChange outputWaitingSpec)) outputWaitingCard

/-- THE SECOND FORM's CARD OF 'replevinlaw27.InodeOperations'. -/
def inodeOperationsUptoCard : Claim7 := { stood := { row := inodeOperationsUptoRow, standIns := [], harness := (true, "1cff10b2a93a3b5c6c0dab272cf3686bceafbccf5480ea070b266460e43122d9"), looks := false }, kinds := [], alts := [], laidByText := true, laidKinds := [.data], laidTests := true, laidLooks := .later }
def InodeOperationsUptoCardSaid : Prop := Claim7.holds Tryz.pinned (.plain (OpenSpec.upto inodeOperationsSpec)) inodeOperationsUptoCard

/-- THE SECOND FORM's CARD OF 'replevinlaw27.InodeFrame'. -/
def inodeFrameUptoCard : Claim7 := { stood := { row := inodeFrameUptoRow, standIns := [], harness := (true, "1cff10b2a93a3b5c6c0dab272cf3686bceafbccf5480ea070b266460e43122d9"), looks := false }, kinds := [], alts := [], laidByText := true, laidKinds := [.data], laidTests := true, laidLooks := .later }
def InodeFrameUptoCardSaid : Prop := Claim7.holds Tryz.pinned (.plain (OpenSpec.upto inodeFrameSpec)) inodeFrameUptoCard

/-- THE SECOND FORM's CARD OF 'replevinlaw27.InodeTouches'. -/
def inodeTouchesUptoCard : Claim7 := { stood := { row := inodeTouchesUptoRow, standIns := [], harness := (true, "1cff10b2a93a3b5c6c0dab272cf3686bceafbccf5480ea070b266460e43122d9"), looks := false }, kinds := [], alts := [], laidByText := true, laidKinds := [.data], laidTests := true, laidLooks := .later }
def InodeTouchesUptoCardSaid : Prop := Claim7.holds Tryz.pinned (.plain (OpenSpec.upto inodeTouchesSpec)) inodeTouchesUptoCard

/-- THE SECOND FORM's CARD OF 'replevinlaw39.OutputSends'. -/
def outputSendsUptoCard : Claim7 := { stood := { row := outputSendsUptoRow, standIns := [], harness := (true, "1cff10b2a93a3b5c6c0dab272cf3686bceafbccf5480ea070b266460e43122d9"), looks := false }, kinds := [], alts := [], laidByText := true, laidKinds := [.data], laidTests := true, laidLooks := .later }
def OutputSendsUptoCardSaid : Prop := Claim7.holds Tryz.pinned (.plain (OpenSpec.upto outputSendsSpec)) outputSendsUptoCard

/-- THE SECOND FORM's CARD OF 'replevinlaw39.OutputWaiting'. -/
def outputWaitingUptoCard : Claim7 := { stood := { row := outputWaitingUptoRow, standIns := [], harness := (true, "1cff10b2a93a3b5c6c0dab272cf3686bceafbccf5480ea070b266460e43122d9"), looks := false }, kinds := [], alts := [], laidByText := true, laidKinds := [.data], laidTests := true, laidLooks := .later }
def OutputWaitingUptoCardSaid : Prop := Claim7.holds Tryz.pinned (.plain (OpenSpec.upto outputWaitingSpec)) outputWaitingUptoCard
end Rows
end Go.Proofs.YtiggkcknmjgicaaGreatDoor
