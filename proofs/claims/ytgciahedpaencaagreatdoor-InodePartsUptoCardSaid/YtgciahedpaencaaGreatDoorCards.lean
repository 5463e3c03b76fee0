/-
  DERIVED. GIVEN WITH THE SEED: THE CARDS: each row of YtgciahedpaencaaGreatDoorRows.lean that lists a variable, with what it lists TIED to the program's text (the seventh form; the later family's looks); each row that meets fmt, with fmt's text TOLD by the authors' own Lean function (tested against real Go, not proved from fmt's source: count such statements apart). THE CARD IS WHAT COUNTS. Prove the row's statement (the work); the ties are given (YtgciahedpaencaaGreatDoorTie.lean); close each card by the builder's one call (the guide's Derived/Test/ToyasCard.lean, 'card_holds'). Laid BY PROGRAM, IN A SANDBOX (cutbox-door.mjs). By AI agents, Wed Nov 11 2026. No macro, syntax, notation, axiom, sorry.
-/
import Derived.Test.YtgciahedpaencaaGreatDoorRows
import GoSem.ClaimSeven
namespace Go.Proofs.YtgciahedpaencaaGreatDoor
namespace Rows

/-- THE TIED CARD OF 'replevinlaw27.InodeBirths'. -/
def inodeBirthsCard : Claim7 := { stood := { row := inodeBirthsRow, standIns := [], harness := (true, "e276d0a9b42bfb62c18a93841ebb86195286e913bb620ca1b2402ae55f5521f2"), looks := false }, kinds := [], alts := [], laidByText := true, laidKinds := [.data], laidTests := true, laidLooks := .later }
def InodeBirthsCardSaid : Prop := Claim7.holds Tryz.pinned (.plain (OpenSpec.ofChange inodeBirthsSpec)) inodeBirthsCard

/-- THE TIED CARD OF 'replevinlaw27.InodeCounts'. -/
def inodeCountsCard : Claim7 := { stood := { row := inodeCountsRow, standIns := [], harness := (true, "e276d0a9b42bfb62c18a93841ebb86195286e913bb620ca1b2402ae55f5521f2"), looks := false }, kinds := [], alts := [], laidByText := true, laidKinds := [.data], laidTests := true, laidLooks := .later }
def InodeCountsCardSaid : Prop := Claim7.holds Tryz.pinned (.plain (OpenSpec.ofChange inodeCountsSpec)) inodeCountsCard

/-- THE TIED CARD OF 'replevinlaw27.InodeErrors'. -/
def inodeErrorsCard : Claim7 := { stood := { row := inodeErrorsRow, standIns := [], harness := (true, "e276d0a9b42bfb62c18a93841ebb86195286e913bb620ca1b2402ae55f5521f2"), looks := false }, kinds := [], alts := [], laidByText := true, laidKinds := [.data], laidTests := true, laidLooks := .later }
def InodeErrorsCardSaid : Prop := Claim7.holds Tryz.pinned (.plain (OpenSpec.ofChange inodeErrorsSpec)) inodeErrorsCard

/-- THE TIED CARD OF 'replevinlaw27.InodeParts'. -/
def inodePartsCard : Claim7 := { stood := { row := inodePartsRow, standIns := [], harness := (true, "e276d0a9b42bfb62c18a93841ebb86195286e913bb620ca1b2402ae55f5521f2"), looks := false }, kinds := [], alts := [], laidByText := true, laidKinds := [.data], laidTests := true, laidLooks := .later }
def InodePartsCardSaid : Prop := Claim7.holds Tryz.pinned (.plain (OpenSpec.ofChange inodePartsSpec)) inodePartsCard

/-- THE TIED CARD OF 'replevinlaw27.InodeSizes'. -/
def inodeSizesCard : Claim7 := { stood := { row := inodeSizesRow, standIns := [], harness := (true, "e276d0a9b42bfb62c18a93841ebb86195286e913bb620ca1b2402ae55f5521f2"), looks := false }, kinds := [], alts := [], laidByText := true, laidKinds := [.data], laidTests := true, laidLooks := .later }
def InodeSizesCardSaid : Prop := Claim7.holds Tryz.pinned (.plain (OpenSpec.ofChange inodeSizesSpec)) inodeSizesCard

/-- THE TIED CARD OF 'replevinlaw35.ProcessChecks'. -/
def processChecksCard : Claim7 := { stood := { row := processChecksRow, standIns := [], harness := (true, "e276d0a9b42bfb62c18a93841ebb86195286e913bb620ca1b2402ae55f5521f2"), looks := false }, kinds := [], alts := [], laidByText := true, laidKinds := [.data, .data, .data, .data], laidTests := true, laidLooks := .later }
def ProcessChecksCardSaid : Prop := Claim7.holds Tryz.pinned (.plain (OpenSpec.ofChange processChecksSpec)) processChecksCard

/-- THE SECOND FORM's CARD OF 'replevinlaw27.InodeBirths'. -/
def inodeBirthsUptoCard : Claim7 := { stood := { row := inodeBirthsUptoRow, standIns := [], harness := (true, "e276d0a9b42bfb62c18a93841ebb86195286e913bb620ca1b2402ae55f5521f2"), looks := false }, kinds := [], alts := [], laidByText := true, laidKinds := [.data], laidTests := true, laidLooks := .later }
def InodeBirthsUptoCardSaid : Prop := Claim7.holds Tryz.pinned (.plain (OpenSpec.upto inodeBirthsSpec)) inodeBirthsUptoCard

/-- THE SECOND FORM's CARD OF 'replevinlaw27.InodeCounts'. -/
def inodeCountsUptoCard : Claim7 := { stood := { row := inodeCountsUptoRow, standIns := [], harness := (true, "e276d0a9b42bfb62c18a93841ebb86195286e913bb620ca1b2402ae55f5521f2"), looks := false }, kinds := [], alts := [], laidByText := true, laidKinds := [.data], laidTests := true, laidLooks := .later }
def InodeCountsUptoCardSaid : Prop := Claim7.holds Tryz.pinned (.plain (OpenSpec.upto inodeCountsSpec)) inodeCountsUptoCard

/-- THE SECOND FORM's CARD OF 'replevinlaw27.InodeErrors'. -/
def inodeErrorsUptoCard : Claim7 := { stood := { row := inodeErrorsUptoRow, standIns := [], harness := (true, "e276d0a9b42bfb62c18a93841ebb86195286e913bb620ca1b2402ae55f5521f2"), looks := false }, kinds := [], alts := [], laidByText := true, laidKinds := [.data], laidTests := true, laidLooks := .later }
def InodeErrorsUptoCardSaid : Prop := Claim7.holds Tryz.pinned (.plain (OpenSpec.upto inodeErrorsSpec)) inodeErrorsUptoCard

/-- THE SECOND FORM's CARD OF 'replevinlaw27.InodeParts'. -/
def inodePartsUptoCard : Claim7 := { stood := { row := inodePartsUptoRow, standIns := [], harness := (true, "e276d0a9b42bfb62c18a93841ebb86195286e913bb620ca1b2402ae55f5521f2"), looks := false }, kinds := [], alts := [], laidByText := true, laidKinds := [.data], laidTests := true, laidLooks := .later }
def InodePartsUptoCardSaid : Prop := Claim7.holds Tryz.pinned (.plain (OpenSpec.upto inodePartsSpec)) inodePartsUptoCard

/-- THE SECOND FORM's CARD OF 'replevinlaw27.InodeSizes'. -/
def inodeSizesUptoCard : Claim7 := { stood := { row := inodeSizesUptoRow, standIns := [], harness := (true, "e276d0a9b42bfb62c18a93841ebb86195286e913bb620ca1b2402ae55f5521f2"), looks := false }, kinds := [], alts := [], laidByText := true, laidKinds := [.data], laidTests := true, laidLooks := .later }
def InodeSizesUptoCardSaid : Prop := Claim7.holds Tryz.pinned (.plain (OpenSpec.upto inodeSizesSpec)) inodeSizesUptoCard

/-- THE SECOND FORM's CARD OF 'replevinlaw35.ProcessChecks'. -/
def processChecksUptoCard : Claim7 := { stood := { row := processChecksUptoRow, standIns := [], harness := (true, "e276d0a9b42bfb62c18a93841ebb86195286e913bb620ca1b2402ae55f5521f2"), looks := false }, kinds := [], alts := [], laidByText := true, laidKinds := [.data, .data, .data, .data], laidTests := true, laidLooks := .later }
def ProcessChecksUptoCardSaid : Prop := Claim7.holds Tryz.pinned (.plain (OpenSpec.upto processChecksSpec)) processChecksUptoCard
end Rows
end Go.Proofs.YtgciahedpaencaaGreatDoor
