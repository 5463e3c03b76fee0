/-
  DERIVED. GIVEN WITH THE SEED: THE CARDS: each row of YtdmbnkmcdhmccaaDoorRows.lean that lists a variable, with what it lists TIED to the program's text (the seventh form; the later family's looks); each row that meets fmt, with fmt's text TOLD by the authors' own Lean function (tested against real Go, not proved from fmt's source: count such statements apart). THE CARD IS WHAT COUNTS. Prove the row's statement (the work); the ties are given (YtdmbnkmcdhmccaaDoorTie.lean); close each card by the builder's one call (the guide's Derived/Test/ToyasCard.lean, 'card_holds'). Laid BY PROGRAM, IN A SANDBOX (cutbox-door.mjs). By AI agents, Wed Nov 11 2026. No macro, syntax, notation, axiom, sorry.
-/
import Derived.Test.YtdmbnkmcdhmccaaDoorRows
import GoSem.ClaimSeven
namespace Go.Proofs.YtdmbnkmcdhmccaaDoor
namespace Rows

/-- THE TIED CARD OF 'replevinlaw50.ConsequencePlaces'. -/
def consequencePlacesCard : Claim7 := { stood := { row := consequencePlacesRow, standIns := [], harness := (true, "23ed47f67a781e3290a218b4cf5257448dc387194f6e61ed2278caaecdfe55b2"), looks := false }, kinds := [], alts := [], laidByText := true, laidKinds := [.data], laidTests := true, laidLooks := .later }
def ConsequencePlacesCardSaid : Prop := Claim7.holds Tryd.pinned (.plain (OpenSpec.ofChange consequencePlacesSpec)) consequencePlacesCard

/-- THE TIED CARD OF 'replevinlaw50.ConsequenceCompares'. -/
def consequenceComparesCard : Claim7 := { stood := { row := consequenceComparesRow, standIns := [], harness := (true, "23ed47f67a781e3290a218b4cf5257448dc387194f6e61ed2278caaecdfe55b2"), looks := false }, kinds := [], alts := [], laidByText := true, laidKinds := [.data], laidTests := true, laidLooks := .later }
def ConsequenceComparesCardSaid : Prop := Claim7.holds Tryd.pinned (.plain (OpenSpec.ofChange consequenceComparesSpec)) consequenceComparesCard

/-- THE TIED CARD OF 'replevinlaw50.ConsequenceEquals'. -/
def consequenceEqualsCard : Claim7 := { stood := { row := consequenceEqualsRow, standIns := [], harness := (true, "23ed47f67a781e3290a218b4cf5257448dc387194f6e61ed2278caaecdfe55b2"), looks := false }, kinds := [], alts := [], laidByText := true, laidKinds := [.data], laidTests := true, laidLooks := .later }
def ConsequenceEqualsCardSaid : Prop := Claim7.holds Tryd.pinned (.plain (OpenSpec.ofChange consequenceEqualsSpec)) consequenceEqualsCard

/-- THE TIED CARD OF 'replevinlaw50.ConsequenceNothing'. -/
def consequenceNothingCard : Claim7 := { stood := { row := consequenceNothingRow, standIns := [], harness := (true, "23ed47f67a781e3290a218b4cf5257448dc387194f6e61ed2278caaecdfe55b2"), looks := false }, kinds := [], alts := [], laidByText := true, laidKinds := [.data], laidTests := true, laidLooks := .later }
def ConsequenceNothingCardSaid : Prop := Claim7.holds Tryd.pinned (.plain (OpenSpec.ofChange consequenceNothingSpec)) consequenceNothingCard

/-- THE TIED CARD OF 'replevinlaw50.ConsequenceCounts'. -/
def consequenceCountsCard : Claim7 := { stood := { row := consequenceCountsRow, standIns := [], harness := (true, "23ed47f67a781e3290a218b4cf5257448dc387194f6e61ed2278caaecdfe55b2"), looks := false }, kinds := [], alts := [], laidByText := true, laidKinds := [.data], laidTests := true, laidLooks := .later }
def ConsequenceCountsCardSaid : Prop := Claim7.holds Tryd.pinned (.plain (OpenSpec.ofChange consequenceCountsSpec)) consequenceCountsCard

/-- THE TIED CARD OF 'replevinlaw50.ConsequenceErrors'. -/
def consequenceErrorsCard : Claim7 := { stood := { row := consequenceErrorsRow, standIns := [], harness := (true, "23ed47f67a781e3290a218b4cf5257448dc387194f6e61ed2278caaecdfe55b2"), looks := false }, kinds := [], alts := [], laidByText := true, laidKinds := [.data], laidTests := true, laidLooks := .later }
def ConsequenceErrorsCardSaid : Prop := Claim7.holds Tryd.pinned (.plain (OpenSpec.ofChange consequenceErrorsSpec)) consequenceErrorsCard

/-- THE SECOND FORM's CARD OF 'replevinlaw50.ConsequencePlaces'. -/
def consequencePlacesUptoCard : Claim7 := { stood := { row := consequencePlacesUptoRow, standIns := [], harness := (true, "23ed47f67a781e3290a218b4cf5257448dc387194f6e61ed2278caaecdfe55b2"), looks := false }, kinds := [], alts := [], laidByText := true, laidKinds := [.data], laidTests := true, laidLooks := .later }
def ConsequencePlacesUptoCardSaid : Prop := Claim7.holds Tryd.pinned (.plain (OpenSpec.upto consequencePlacesSpec)) consequencePlacesUptoCard

/-- THE SECOND FORM's CARD OF 'replevinlaw50.ConsequenceCompares'. -/
def consequenceComparesUptoCard : Claim7 := { stood := { row := consequenceComparesUptoRow, standIns := [], harness := (true, "23ed47f67a781e3290a218b4cf5257448dc387194f6e61ed2278caaecdfe55b2"), looks := false }, kinds := [], alts := [], laidByText := true, laidKinds := [.data], laidTests := true, laidLooks := .later }
def ConsequenceComparesUptoCardSaid : Prop := Claim7.holds Tryd.pinned (.plain (OpenSpec.upto consequenceComparesSpec)) consequenceComparesUptoCard

/-- THE SECOND FORM's CARD OF 'replevinlaw50.ConsequenceEquals'. -/
def consequenceEqualsUptoCard : Claim7 := { stood := { row := consequenceEqualsUptoRow, standIns := [], harness := (true, "23ed47f67a781e3290a218b4cf5257448dc387194f6e61ed2278caaecdfe55b2"), looks := false }, kinds := [], alts := [], laidByText := true, laidKinds := [.data], laidTests := true, laidLooks := .later }
def ConsequenceEqualsUptoCardSaid : Prop := Claim7.holds Tryd.pinned (.plain (OpenSpec.upto consequenceEqualsSpec)) consequenceEqualsUptoCard

/-- THE SECOND FORM's CARD OF 'replevinlaw50.ConsequenceNothing'. -/
def consequenceNothingUptoCard : Claim7 := { stood := { row := consequenceNothingUptoRow, standIns := [], harness := (true, "23ed47f67a781e3290a218b4cf5257448dc387194f6e61ed2278caaecdfe55b2"), looks := false }, kinds := [], alts := [], laidByText := true, laidKinds := [.data], laidTests := true, laidLooks := .later }
def ConsequenceNothingUptoCardSaid : Prop := Claim7.holds Tryd.pinned (.plain (OpenSpec.upto consequenceNothingSpec)) consequenceNothingUptoCard

/-- THE SECOND FORM's CARD OF 'replevinlaw50.ConsequenceCounts'. -/
def consequenceCountsUptoCard : Claim7 := { stood := { row := consequenceCountsUptoRow, standIns := [], harness := (true, "23ed47f67a781e3290a218b4cf5257448dc387194f6e61ed2278caaecdfe55b2"), looks := false }, kinds := [], alts := [], laidByText := true, laidKinds := [.data], laidTests := true, laidLooks := .later }
def ConsequenceCountsUptoCardSaid : Prop := Claim7.holds Tryd.pinned (.plain (OpenSpec.upto consequenceCountsSpec)) consequenceCountsUptoCard

/-- THE SECOND FORM's CARD OF 'replevinlaw50.ConsequenceErrors'. -/
def consequenceErrorsUptoCard : Claim7 := { stood := { row := consequenceErrorsUptoRow, standIns := [], harness := (true, "23ed47f67a781e3290a218b4cf5257448dc387194f6e61ed2278caaecdfe55b2"), looks := false }, kinds := [], alts := [], laidByText := true, laidKinds := [.data], laidTests := true, laidLooks := .later }
def ConsequenceErrorsUptoCardSaid : Prop := Claim7.holds Tryd.pinned (.plain (OpenSpec.upto consequenceErrorsSpec)) consequenceErrorsUptoCard
end Rows
end Go.Proofs.YtdmbnkmcdhmccaaDoor
