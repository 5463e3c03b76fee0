/-
  DERIVED. GIVEN WITH THE SEED: THE CARDS: each row of YtfcnicnekddliaaGreatDoorRows.lean that lists a variable, with what it lists TIED to the program's text (the seventh form; the later family's looks); each row that meets fmt, with fmt's text TOLD by the authors' own Lean function (tested against real Go, not proved from fmt's source: count such statements apart). THE CARD IS WHAT COUNTS. Prove the row's statement (the work); the ties are given (YtfcnicnekddliaaGreatDoorTie.lean); close each card by the builder's one call (the guide's Derived/Test/ToyasCard.lean, 'card_holds'). Laid BY PROGRAM, IN A SANDBOX (cutbox-door.mjs). By AI agents, Wed Nov 11 2026. No macro, syntax, notation, axiom, sorry.
-/
import Derived.Test.YtfcnicnekddliaaGreatDoorRows
import GoSem.ClaimSeven
namespace Go.Proofs.YtfcnicnekddliaaGreatDoor
namespace Rows

/-- THE TIED CARD OF 'replevinlaw50.ConsequenceTexts'. -/
def consequenceTextsCard : Claim7 := { stood := { row := consequenceTextsRow, standIns := [], harness := (true, "520c65f05f3c9df35c02a4369c339b7130673e2c94ede17aeee0ff7b36d62531"), looks := false }, kinds := [], alts := [], laidByText := true, laidKinds := [.data, .data, .data, .data], laidTests := true, laidLooks := .later }
def ConsequenceTextsCardSaid : Prop := Claim7.holds Tryz.pinned (.plain (OpenSpec.ofChange consequenceTextsSpec)) consequenceTextsCard

/-- THE TIED CARD OF 'replevinlaw50.ConsequenceMakers'. -/
def consequenceMakersCard : Claim7 := { stood := { row := consequenceMakersRow, standIns := [], harness := (true, "520c65f05f3c9df35c02a4369c339b7130673e2c94ede17aeee0ff7b36d62531"), looks := false }, kinds := [], alts := [], laidByText := true, laidKinds := [.data], laidTests := true, laidLooks := .later }
def ConsequenceMakersCardSaid : Prop := Claim7.holds Tryz.pinned (.plain (OpenSpec.ofChange consequenceMakersSpec)) consequenceMakersCard

/-- THE TIED CARD OF 'replevinlaw50.ConsequenceChains'. -/
def consequenceChainsCard : Claim7 := { stood := { row := consequenceChainsRow, standIns := [], harness := (true, "520c65f05f3c9df35c02a4369c339b7130673e2c94ede17aeee0ff7b36d62531"), looks := false }, kinds := [], alts := [], laidByText := true, laidKinds := [.data], laidTests := true, laidLooks := .later }
def ConsequenceChainsCardSaid : Prop := Claim7.holds Tryz.pinned (.plain (OpenSpec.ofChange consequenceChainsSpec)) consequenceChainsCard

/-- THE SECOND FORM's CARD OF 'replevinlaw50.ConsequenceTexts'. -/
def consequenceTextsUptoCard : Claim7 := { stood := { row := consequenceTextsUptoRow, standIns := [], harness := (true, "520c65f05f3c9df35c02a4369c339b7130673e2c94ede17aeee0ff7b36d62531"), looks := false }, kinds := [], alts := [], laidByText := true, laidKinds := [.data, .data, .data, .data], laidTests := true, laidLooks := .later }
def ConsequenceTextsUptoCardSaid : Prop := Claim7.holds Tryz.pinned (.plain (OpenSpec.upto consequenceTextsSpec)) consequenceTextsUptoCard

/-- THE SECOND FORM's CARD OF 'replevinlaw50.ConsequenceMakers'. -/
def consequenceMakersUptoCard : Claim7 := { stood := { row := consequenceMakersUptoRow, standIns := [], harness := (true, "520c65f05f3c9df35c02a4369c339b7130673e2c94ede17aeee0ff7b36d62531"), looks := false }, kinds := [], alts := [], laidByText := true, laidKinds := [.data], laidTests := true, laidLooks := .later }
def ConsequenceMakersUptoCardSaid : Prop := Claim7.holds Tryz.pinned (.plain (OpenSpec.upto consequenceMakersSpec)) consequenceMakersUptoCard

/-- THE SECOND FORM's CARD OF 'replevinlaw50.ConsequenceChains'. -/
def consequenceChainsUptoCard : Claim7 := { stood := { row := consequenceChainsUptoRow, standIns := [], harness := (true, "520c65f05f3c9df35c02a4369c339b7130673e2c94ede17aeee0ff7b36d62531"), looks := false }, kinds := [], alts := [], laidByText := true, laidKinds := [.data], laidTests := true, laidLooks := .later }
def ConsequenceChainsUptoCardSaid : Prop := Claim7.holds Tryz.pinned (.plain (OpenSpec.upto consequenceChainsSpec)) consequenceChainsUptoCard
end Rows
end Go.Proofs.YtfcnicnekddliaaGreatDoor
