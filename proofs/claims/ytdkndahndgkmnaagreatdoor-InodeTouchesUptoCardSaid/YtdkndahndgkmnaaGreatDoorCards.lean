/-
  DERIVED. GIVEN WITH THE SEED: THE CARDS: each row of YtdkndahndgkmnaaGreatDoorRows.lean that lists a variable, with what it lists TIED to the program's text (the seventh form; the later family's looks); each row that meets fmt, with fmt's text TOLD by the authors' own Lean function (tested against real Go, not proved from fmt's source: count such statements apart). THE CARD IS WHAT COUNTS. Prove the row's statement (the work); the ties are given (YtdkndahndgkmnaaGreatDoorTie.lean); close each card by the builder's one call (the guide's Derived/Test/ToyasCard.lean, 'card_holds'). Laid BY PROGRAM, IN A SANDBOX (cutbox-door.mjs). By AI agents, Wed Nov 11 2026. No macro, syntax, notation, axiom, sorry.
-/
import Derived.Test.YtdkndahndgkmnaaGreatDoorRows
import GoSem.ClaimSeven
namespace Go.Proofs.YtdkndahndgkmnaaGreatDoor
namespace Rows

/-- THE TIED CARD OF 'replevinlaw50.ConsequenceChains'. -/
def consequenceChainsCard : Claim7 := { stood := { row := consequenceChainsRow, standIns := [], harness := (true, "b0b29dd5b685d41ccb0ad8222fdb28ef9ad3a3db5beb4ba4305090758f4bd149"), looks := false }, kinds := [], alts := [], laidByText := true, laidKinds := [.data], laidTests := true, laidLooks := .later }
def ConsequenceChainsCardSaid : Prop := Claim7.holds Tryz.pinned (.plain (OpenSpec.ofChange consequenceChainsSpec)) consequenceChainsCard

/-- THE TIED CARD OF 'replevinlaw27.InodeOperations'. -/
def inodeOperationsCard : Claim7 := { stood := { row := inodeOperationsRow, standIns := [], harness := (true, "b0b29dd5b685d41ccb0ad8222fdb28ef9ad3a3db5beb4ba4305090758f4bd149"), looks := false }, kinds := [], alts := [], laidByText := true, laidKinds := [.data], laidTests := true, laidLooks := .later }
def InodeOperationsCardSaid : Prop := Claim7.holds Tryz.pinned (.plain (OpenSpec.ofChange inodeOperationsSpec)) inodeOperationsCard

/-- THE TIED CARD OF 'replevinlaw27.InodeFrame'. -/
def inodeFrameCard : Claim7 := { stood := { row := inodeFrameRow, standIns := [], harness := (true, "b0b29dd5b685d41ccb0ad8222fdb28ef9ad3a3db5beb4ba4305090758f4bd149"), looks := false }, kinds := [], alts := [], laidByText := true, laidKinds := [.data], laidTests := true, laidLooks := .later }
def InodeFrameCardSaid : Prop := Claim7.holds Tryz.pinned (.plain (OpenSpec.ofChange inodeFrameSpec)) inodeFrameCard

/-- THE TIED CARD OF 'replevinlaw27.InodeTouches'. -/
def inodeTouchesCard : Claim7 := { stood := { row := inodeTouchesRow, standIns := [], harness := (true, "b0b29dd5b685d41ccb0ad8222fdb28ef9ad3a3db5beb4ba4305090758f4bd149"), looks := false }, kinds := [], alts := [], laidByText := true, laidKinds := [.data], laidTests := true, laidLooks := .later }
def InodeTouchesCardSaid : Prop := Claim7.holds Tryz.pinned (.plain (OpenSpec.ofChange inodeTouchesSpec)) inodeTouchesCard

/-- THE SECOND FORM's CARD OF 'replevinlaw50.ConsequenceChains'. -/
def consequenceChainsUptoCard : Claim7 := { stood := { row := consequenceChainsUptoRow, standIns := [], harness := (true, "b0b29dd5b685d41ccb0ad8222fdb28ef9ad3a3db5beb4ba4305090758f4bd149"), looks := false }, kinds := [], alts := [], laidByText := true, laidKinds := [.data], laidTests := true, laidLooks := .later }
def ConsequenceChainsUptoCardSaid : Prop := Claim7.holds Tryz.pinned (.plain (OpenSpec.upto consequenceChainsSpec)) consequenceChainsUptoCard

/-- THE SECOND FORM's CARD OF 'replevinlaw27.InodeOperations'. -/
def inodeOperationsUptoCard : Claim7 := { stood := { row := inodeOperationsUptoRow, standIns := [], harness := (true, "b0b29dd5b685d41ccb0ad8222fdb28ef9ad3a3db5beb4ba4305090758f4bd149"), looks := false }, kinds := [], alts := [], laidByText := true, laidKinds := [.data], laidTests := true, laidLooks := .later }
def InodeOperationsUptoCardSaid : Prop := Claim7.holds Tryz.pinned (.plain (OpenSpec.upto inodeOperationsSpec)) inodeOperationsUptoCard

/-- THE SECOND FORM's CARD OF 'replevinlaw27.InodeFrame'. -/
def inodeFrameUptoCard : Claim7 := { stood := { row := inodeFrameUptoRow, standIns := [], harness := (true, "b0b29dd5b685d41ccb0ad8222fdb28ef9ad3a3db5beb4ba4305090758f4bd149"), looks := false }, kinds := [], alts := [], laidByText := true, laidKinds := [.data], laidTests := true, laidLooks := .later }
def InodeFrameUptoCardSaid : Prop := Claim7.holds Tryz.pinned (.plain (OpenSpec.upto inodeFrameSpec)) inodeFrameUptoCard

/-- THE SECOND FORM's CARD OF 'replevinlaw27.InodeTouches'. -/
def inodeTouchesUptoCard : Claim7 := { stood := { row := inodeTouchesUptoRow, standIns := [], harness := (true, "b0b29dd5b685d41ccb0ad8222fdb28ef9ad3a3db5beb4ba4305090758f4bd149"), looks := false }, kinds := [], alts := [], laidByText := true, laidKinds := [.data], laidTests := true, laidLooks := .later }
def InodeTouchesUptoCardSaid : Prop := Claim7.holds Tryz.pinned (.plain (OpenSpec.upto inodeTouchesSpec)) inodeTouchesUptoCard
end Rows
end Go.Proofs.YtdkndahndgkmnaaGreatDoor
