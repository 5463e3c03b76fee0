/-
  DERIVED. GIVEN WITH THE SEED: THE CARDS: each row of YtijaglinajfplaaGreatDoorRows.lean that lists a variable, with what it lists TIED to the program's text (the seventh form; the later family's looks); each row that meets fmt, with fmt's text TOLD by the authors' own Lean function (tested against real Go, not proved from fmt's source: count such statements apart). THE CARD IS WHAT COUNTS. Prove the row's statement (the work); the ties are given (YtijaglinajfplaaGreatDoorTie.lean); close each card by the builder's one call (the guide's Derived/Test/ToyasCard.lean, 'card_holds'). Laid BY PROGRAM, IN A SANDBOX (cutbox-door.mjs). By AI agents, Wed Nov 11 2026. No macro, syntax, notation, axiom, sorry.
-/
import Derived.Test.YtijaglinajfplaaGreatDoorRows
import GoSem.ClaimSeven
namespace Go.Proofs.YtijaglinajfplaaGreatDoor
namespace Rows

/-- THE TIED CARD OF 'replevinlaw50.ConsequenceTexts'. -/
def consequenceTextsCard : Claim7 := { stood := { row := consequenceTextsRow, standIns := [], harness := (true, "e198687c6c62cd49ab15f19c31a22628166b9188fea8bc8339b81f2f258bb18f"), looks := false }, kinds := [], alts := [], laidByText := true, laidKinds := [.data, .data, .data, .data], laidTests := true, laidLooks := .later }
def ConsequenceTextsCardSaid : Prop := Claim7.holds Tryz.pinned (.plain (OpenSpec.ofChange consequenceTextsSpec)) consequenceTextsCard

/-- THE TIED CARD OF 'replevinlaw50.ConsequenceMakers'. -/
def consequenceMakersCard : Claim7 := { stood := { row := consequenceMakersRow, standIns := [], harness := (true, "e198687c6c62cd49ab15f19c31a22628166b9188fea8bc8339b81f2f258bb18f"), looks := false }, kinds := [], alts := [], laidByText := true, laidKinds := [.data], laidTests := true, laidLooks := .later }
def ConsequenceMakersCardSaid : Prop := Claim7.holds Tryz.pinned (.plain (OpenSpec.ofChange consequenceMakersSpec)) consequenceMakersCard

/-- THE TIED CARD OF 'replevinlaw35.ProcessChecks'. -/
def processChecksCard : Claim7 := { stood := { row := processChecksRow, standIns := [], harness := (true, "e198687c6c62cd49ab15f19c31a22628166b9188fea8bc8339b81f2f258bb18f"), looks := false }, kinds := [], alts := [], laidByText := true, laidKinds := [.data, .data, .data, .data], laidTests := true, laidLooks := .later }
def ProcessChecksCardSaid : Prop := Claim7.holds Tryz.pinned (.plain (OpenSpec.ofChange processChecksSpec)) processChecksCard

/-- THE TIED CARD OF 'replevinlaw27.InodeNodes'. -/
def inodeNodesCard : Claim7 := { stood := { row := inodeNodesRow, standIns := [], harness := (true, "e198687c6c62cd49ab15f19c31a22628166b9188fea8bc8339b81f2f258bb18f"), looks := false }, kinds := [], alts := [], laidByText := true, laidKinds := [.data], laidTests := true, laidLooks := .later }
def InodeNodesCardSaid : Prop := Claim7.holds Tryz.pinned (.plain (OpenSpec.ofChange inodeNodesSpec)) inodeNodesCard

/-- THE TIED CARD OF 'replevinlaw39.OutputChecks'. -/
def outputChecksCard : Claim7 := { stood := { row := outputChecksRow, standIns := [], harness := (true, "e198687c6c62cd49ab15f19c31a22628166b9188fea8bc8339b81f2f258bb18f"), looks := false }, kinds := [], alts := [], laidByText := true, laidKinds := [.data], laidTests := true, laidLooks := .later }
def OutputChecksCardSaid : Prop := Claim7.holds Tryz.pinned (.plain (OpenSpec.ofChange outputChecksSpec)) outputChecksCard

/-- THE TIED CARD OF 'replevinlaw39.OutputLedgers'. -/
def outputLedgersCard : Claim7 := { stood := { row := outputLedgersRow, standIns := [], harness := (true, "e198687c6c62cd49ab15f19c31a22628166b9188fea8bc8339b81f2f258bb18f"), looks := false }, kinds := [], alts := [], laidByText := true, laidKinds := [.data], laidTests := true, laidLooks := .later }
def OutputLedgersCardSaid : Prop := Claim7.holds Tryz.pinned (.plain (OpenSpec.ofChange outputLedgersSpec)) outputLedgersCard

/-- THE TIED CARD OF 'replevinlaw39.OutputGrows'. -/
def outputGrowsCard : Claim7 := { stood := { row := outputGrowsRow, standIns := [], harness := (true, "e198687c6c62cd49ab15f19c31a22628166b9188fea8bc8339b81f2f258bb18f"), looks := false }, kinds := [], alts := [], laidByText := true, laidKinds := [.data], laidTests := true, laidLooks := .later }
def OutputGrowsCardSaid : Prop := Claim7.holds Tryz.pinned (.plain (OpenSpec.ofChange outputGrowsSpec)) outputGrowsCard

/-- THE TIED CARD OF 'replevinlaw39.OutputSends'. -/
def outputSendsCard : Claim7 := { stood := { row := outputSendsRow, standIns := [], harness := (true, "e198687c6c62cd49ab15f19c31a22628166b9188fea8bc8339b81f2f258bb18f"), looks := false }, kinds := [], alts := [], laidByText := true, laidKinds := [.data], laidTests := true, laidLooks := .later }
def OutputSendsCardSaid : Prop := Claim7.holds Tryz.pinned (.plain (OpenSpec.ofChange outputSendsSpec)) outputSendsCard

/-- THE TIED CARD OF 'replevinlaw39.OutputWaiting'. -/
def outputWaitingCard : Claim7 := { stood := { row := outputWaitingRow, standIns := [], harness := (true, "e198687c6c62cd49ab15f19c31a22628166b9188fea8bc8339b81f2f258bb18f"), looks := false }, kinds := [], alts := [], laidByText := true, laidKinds := [.data], laidTests := true, laidLooks := .later }
def OutputWaitingCardSaid : Prop := Claim7.holds Tryz.pinned (.plain (OpenSpec.ofChange outputWaitingSpec)) outputWaitingCard

/-- THE TIED CARD OF 'replevinlaw39.OutputDecodes'. -/
def outputDecodesCard : Claim7 := { stood := { row := outputDecodesRow, standIns := [], harness := (true, "e198687c6c62cd49ab15f19c31a22628166b9188fea8bc8339b81f2f258bb18f"), looks := false }, kinds := [], alts := [], laidByText := true, laidKinds := [.data], laidTests := true, laidLooks := .later }
def OutputDecodesCardSaid : Prop := Claim7.holds Tryz.pinned (.plain (OpenSpec.ofChange outputDecodesSpec)) outputDecodesCard

/-- THE TIED CARD OF 'replevinlaw39.OutputEncodes'. -/
def outputEncodesCard : Claim7 := { stood := { row := outputEncodesRow, standIns := [], harness := (true, "e198687c6c62cd49ab15f19c31a22628166b9188fea8bc8339b81f2f258bb18f"), looks := false }, kinds := [], alts := [], laidByText := true, laidKinds := [.data], laidTests := true, laidLooks := .later }
def OutputEncodesCardSaid : Prop := Claim7.holds Tryz.pinned (.plain (OpenSpec.ofChange outputEncodesSpec)) outputEncodesCard

/-- THE TIED CARD OF 'replevinlaw39.OutputNil'. -/
def outputNilCard : Claim7 := { stood := { row := outputNilRow, standIns := [], harness := (true, "e198687c6c62cd49ab15f19c31a22628166b9188fea8bc8339b81f2f258bb18f"), looks := false }, kinds := [], alts := [], laidByText := true, laidKinds := [.data], laidTests := true, laidLooks := .later }
def OutputNilCardSaid : Prop := Claim7.holds Tryz.pinned (.plain (OpenSpec.ofChange outputNilSpec)) outputNilCard

/-- THE SECOND FORM's CARD OF 'replevinlaw50.ConsequenceTexts'. -/
def consequenceTextsUptoCard : Claim7 := { stood := { row := consequenceTextsUptoRow, standIns := [], harness := (true, "e198687c6c62cd49ab15f19c31a22628166b9188fea8bc8339b81f2f258bb18f"), looks := false }, kinds := [], alts := [], laidByText := true, laidKinds := [.data, .data, .data, .data], laidTests := true, laidLooks := .later }
def ConsequenceTextsUptoCardSaid : Prop := Claim7.holds Tryz.pinned (.plain (OpenSpec.upto consequenceTextsSpec)) consequenceTextsUptoCard

/-- THE SECOND FORM's CARD OF 'replevinlaw50.ConsequenceMakers'. -/
def consequenceMakersUptoCard : Claim7 := { stood := { row := consequenceMakersUptoRow, standIns := [], harness := (true, "e198687c6c62cd49ab15f19c31a22628166b9188fea8bc8339b81f2f258bb18f"), looks := false }, kinds := [], alts := [], laidByText := true, laidKinds := [.data], laidTests := true, laidLooks := .later }
def ConsequenceMakersUptoCardSaid : Prop := Claim7.holds Tryz.pinned (.plain (OpenSpec.upto consequenceMakersSpec)) consequenceMakersUptoCard

/-- THE SECOND FORM's CARD OF 'replevinlaw35.ProcessChecks'. -/
def processChecksUptoCard : Claim7 := { stood := { row := processChecksUptoRow, standIns := [], harness := (true, "e198687c6c62cd49ab15f19c31a22628166b9188fea8bc8339b81f2f258bb18f"), looks := false }, kinds := [], alts := [], laidByText := true, laidKinds := [.data, .data, .data, .data], laidTests := true, laidLooks := .later }
def ProcessChecksUptoCardSaid : Prop := Claim7.holds Tryz.pinned (.plain (OpenSpec.upto processChecksSpec)) processChecksUptoCard

/-- THE SECOND FORM's CARD OF 'replevinlaw27.InodeNodes'. -/
def inodeNodesUptoCard : Claim7 := { stood := { row := inodeNodesUptoRow, standIns := [], harness := (true, "e198687c6c62cd49ab15f19c31a22628166b9188fea8bc8339b81f2f258bb18f"), looks := false }, kinds := [], alts := [], laidByText := true, laidKinds := [.data], laidTests := true, laidLooks := .later }
def InodeNodesUptoCardSaid : Prop := Claim7.holds Tryz.pinned (.plain (OpenSpec.upto inodeNodesSpec)) inodeNodesUptoCard

/-- THE SECOND FORM's CARD OF 'replevinlaw39.OutputChecks'. -/
def outputChecksUptoCard : Claim7 := { stood := { row := outputChecksUptoRow, standIns := [], harness := (true, "e198687c6c62cd49ab15f19c31a22628166b9188fea8bc8339b81f2f258bb18f"), looks := false }, kinds := [], alts := [], laidByText := true, laidKinds := [.data], laidTests := true, laidLooks := .later }
def OutputChecksUptoCardSaid : Prop := Claim7.holds Tryz.pinned (.plain (OpenSpec.upto outputChecksSpec)) outputChecksUptoCard

/-- THE SECOND FORM's CARD OF 'replevinlaw39.OutputLedgers'. -/
def outputLedgersUptoCard : Claim7 := { stood := { row := outputLedgersUptoRow, standIns := [], harness := (true, "e198687c6c62cd49ab15f19c31a22628166b9188fea8bc8339b81f2f258bb18f"), looks := false }, kinds := [], alts := [], laidByText := true, laidKinds := [.data], laidTests := true, laidLooks := .later }
def OutputLedgersUptoCardSaid : Prop := Claim7.holds Tryz.pinned (.plain (OpenSpec.upto outputLedgersSpec)) outputLedgersUptoCard

/-- THE SECOND FORM's CARD OF 'replevinlaw39.OutputGrows'. -/
def outputGrowsUptoCard : Claim7 := { stood := { row := outputGrowsUptoRow, standIns := [], harness := (true, "e198687c6c62cd49ab15f19c31a22628166b9188fea8bc8339b81f2f258bb18f"), looks := false }, kinds := [], alts := [], laidByText := true, laidKinds := [.data], laidTests := true, laidLooks := .later }
def OutputGrowsUptoCardSaid : Prop := Claim7.holds Tryz.pinned (.plain (OpenSpec.upto outputGrowsSpec)) outputGrowsUptoCard

/-- THE SECOND FORM's CARD OF 'replevinlaw39.OutputSends'. -/
def outputSendsUptoCard : Claim7 := { stood := { row := outputSendsUptoRow, standIns := [], harness := (true, "e198687c6c62cd49ab15f19c31a22628166b9188fea8bc8339b81f2f258bb18f"), looks := false }, kinds := [], alts := [], laidByText := true, laidKinds := [.data], laidTests := true, laidLooks := .later }
def OutputSendsUptoCardSaid : Prop := Claim7.holds Tryz.pinned (.plain (OpenSpec.upto outputSendsSpec)) outputSendsUptoCard

/-- THE SECOND FORM's CARD OF 'replevinlaw39.OutputWaiting'. -/
def outputWaitingUptoCard : Claim7 := { stood := { row := outputWaitingUptoRow, standIns := [], harness := (true, "e198687c6c62cd49ab15f19c31a22628166b9188fea8bc8339b81f2f258bb18f"), looks := false }, kinds := [], alts := [], laidByText := true, laidKinds := [.data], laidTests := true, laidLooks := .later }
def OutputWaitingUptoCardSaid : Prop := Claim7.holds Tryz.pinned (.plain (OpenSpec.upto outputWaitingSpec)) outputWaitingUptoCard

/-- THE SECOND FORM's CARD OF 'replevinlaw39.OutputDecodes'. -/
def outputDecodesUptoCard : Claim7 := { stood := { row := outputDecodesUptoRow, standIns := [], harness := (true, "e198687c6c62cd49ab15f19c31a22628166b9188fea8bc8339b81f2f258bb18f"), looks := false }, kinds := [], alts := [], laidByText := true, laidKinds := [.data], laidTests := true, laidLooks := .later }
def OutputDecodesUptoCardSaid : Prop := Claim7.holds Tryz.pinned (.plain (OpenSpec.upto outputDecodesSpec)) outputDecodesUptoCard

/-- THE SECOND FORM's CARD OF 'replevinlaw39.OutputEncodes'. -/
def outputEncodesUptoCard : Claim7 := { stood := { row := outputEncodesUptoRow, standIns := [], harness := (true, "e198687c6c62cd49ab15f19c31a22628166b9188fea8bc8339b81f2f258bb18f"), looks := false }, kinds := [], alts := [], laidByText := true, laidKinds := [.data], laidTests := true, laidLooks := .later }
def OutputEncodesUptoCardSaid : Prop := Claim7.holds Tryz.pinned (.plain (OpenSpec.upto outputEncodesSpec)) outputEncodesUptoCard

/-- THE SECOND FORM's CARD OF 'replevinlaw39.OutputNil'. -/
def outputNilUptoCard : Claim7 := { stood := { row := outputNilUptoRow, standIns := [], harness := (true, "e198687c6c62cd49ab15f19c31a22628166b9188fea8bc8339b81f2f258bb18f"), looks := false }, kinds := [], alts := [], laidByText := true, laidKinds := [.data], laidTests := true, laidLooks := .later }
def OutputNilUptoCardSaid : Prop := Claim7.holds Tryz.pinned (.plain (OpenSpec.upto outputNilSpec)) outputNilUptoCard
end Rows
end Go.Proofs.YtijaglinajfplaaGreatDoor
