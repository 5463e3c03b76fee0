/-
  DERIVED. GIVEN WITH THE SEED: THE CARDS: each row of YtodkipbnefngkaaGreatDoorRows.lean that lists a variable, with what it lists TIED to the program's text (the seventh form; the later family's looks); each row that meets fmt, with fmt's text TOLD by the authors' own Lean function (tested against real Go, not proved from fmt's source: count such statements apart). THE CARD IS WHAT COUNTS. Prove the row's statement (the work); the ties are given (YtodkipbnefngkaaGreatDoorTie.lean); close each card by the builder's one call (the guide's Derived/Test/ToyasCard.lean, 'card_holds'). Laid BY PROGRAM, IN A SANDBOX (cutbox-door.mjs). By AI agents, Wed Nov 11 2026. No macro, syntax, notation, axiom, sorry.
-/
import Derived.Test.YtodkipbnefngkaaGreatDoorRows
import GoSem.ClaimSeven
namespace Go.Proofs.YtodkipbnefngkaaGreatDoor
namespace Rows

/-- THE TIED CARD OF 'replevinlaw51.RuleTemplates'. -/
def ruleTemplatesCard : Claim7 := { stood := { row := ruleTemplatesRow, standIns := [], harness := (true, "b11dbb478b003fa39ac687b77684bb26d51a11a96afad6fb5e6703c7faaf2853"), looks := true }, kinds := [], alts := [], laidByText := true, laidKinds := [.data, .data, .data, .data, .sentinel, .sentinel, .pinned], laidTests := true, laidLooks := .later }
def RuleTemplatesCardSaid : Prop := Claim7.holds Tryz.pinned (.plain (OpenSpec.ofChange ruleTemplatesSpec)) ruleTemplatesCard

/-- THE TIED CARD OF 'replevinlaw51.RulePossible'. -/
def rulePossibleCard : Claim7 := { stood := { row := rulePossibleRow, standIns := [], harness := (true, "b11dbb478b003fa39ac687b77684bb26d51a11a96afad6fb5e6703c7faaf2853"), looks := true }, kinds := [], alts := [], laidByText := true, laidKinds := [.data, .data, .data, .data, .sentinel, .sentinel, .pinned], laidTests := true, laidLooks := .later }
def RulePossibleCardSaid : Prop := Claim7.holds Tryz.pinned (.plain (OpenSpec.ofChange rulePossibleSpec)) rulePossibleCard

/-- THE TIED CARD OF 'replevinlaw51.RuleLogic'. -/
def ruleLogicCard : Claim7 := { stood := { row := ruleLogicRow, standIns := [], harness := (true, "b11dbb478b003fa39ac687b77684bb26d51a11a96afad6fb5e6703c7faaf2853"), looks := true }, kinds := [], alts := [], laidByText := true, laidKinds := [.data, .data, .data, .data, .sentinel, .sentinel, .pinned], laidTests := true, laidLooks := .later }
def RuleLogicCardSaid : Prop := Claim7.holds Tryz.pinned (.plain (OpenSpec.ofChange ruleLogicSpec)) ruleLogicCard

/-- THE TIED CARD OF 'replevinlaw51.RuleDecides'. -/
def ruleDecidesCard : Claim7 := { stood := { row := ruleDecidesRow, standIns := [], harness := (true, "b11dbb478b003fa39ac687b77684bb26d51a11a96afad6fb5e6703c7faaf2853"), looks := true }, kinds := [], alts := [], laidByText := true, laidKinds := [.data, .data, .data, .data, .sentinel, .sentinel, .pinned], laidTests := true, laidLooks := .later }
def RuleDecidesCardSaid : Prop := Claim7.holds Tryz.pinned (.plain (OpenSpec.ofChange ruleDecidesSpec)) ruleDecidesCard

/-- THE TIED CARD OF 'replevinlaw51.RuleFirst'. -/
def ruleFirstCard : Claim7 := { stood := { row := ruleFirstRow, standIns := [], harness := (true, "b11dbb478b003fa39ac687b77684bb26d51a11a96afad6fb5e6703c7faaf2853"), looks := true }, kinds := [], alts := [], laidByText := true, laidKinds := [.data, .data, .data, .data, .sentinel, .sentinel, .pinned], laidTests := true, laidLooks := .later }
def RuleFirstCardSaid : Prop := Claim7.holds Tryz.pinned (.plain (OpenSpec.ofChange ruleFirstSpec)) ruleFirstCard

/-- THE TIED CARD OF 'replevinlaw51.RuleHolds'. -/
def ruleHoldsCard : Claim7 := { stood := { row := ruleHoldsRow, standIns := [], harness := (true, "b11dbb478b003fa39ac687b77684bb26d51a11a96afad6fb5e6703c7faaf2853"), looks := true }, kinds := [], alts := [], laidByText := true, laidKinds := [.data, .data, .data, .data, .sentinel, .sentinel, .pinned], laidTests := true, laidLooks := .later }
def RuleHoldsCardSaid : Prop := Claim7.holds Tryz.pinned (.plain (OpenSpec.ofChange ruleHoldsSpec)) ruleHoldsCard

/-- THE TIED CARD OF 'replevinlaw51.RuleLong'. -/
def ruleLongCard : Claim7 := { stood := { row := ruleLongRow, standIns := [], harness := (true, "b11dbb478b003fa39ac687b77684bb26d51a11a96afad6fb5e6703c7faaf2853"), looks := true }, kinds := [], alts := [], laidByText := true, laidKinds := [.data, .data, .data, .data, .sentinel, .sentinel, .pinned], laidTests := true, laidLooks := .later }
def RuleLongCardSaid : Prop := Claim7.holds Tryz.pinned (.plain (OpenSpec.ofChange ruleLongSpec)) ruleLongCard

/-- THE TIED CARD OF 'replevinlaw51.RuleLimits'. -/
def ruleLimitsCard : Claim7 := { stood := { row := ruleLimitsRow, standIns := [], harness := (true, "b11dbb478b003fa39ac687b77684bb26d51a11a96afad6fb5e6703c7faaf2853"), looks := true }, kinds := [], alts := [], laidByText := true, laidKinds := [.data, .data, .data, .data, .sentinel, .sentinel, .pinned], laidTests := true, laidLooks := .later }
def RuleLimitsCardSaid : Prop := Claim7.holds Tryz.pinned (.plain (OpenSpec.ofChange ruleLimitsSpec)) ruleLimitsCard

/-- THE TIED CARD OF 'replevinlaw51.RuleNil'. -/
def ruleNilCard : Claim7 := { stood := { row := ruleNilRow, standIns := [], harness := (true, "b11dbb478b003fa39ac687b77684bb26d51a11a96afad6fb5e6703c7faaf2853"), looks := true }, kinds := [], alts := [], laidByText := true, laidKinds := [.data, .data, .data, .data, .sentinel, .sentinel, .pinned], laidTests := true, laidLooks := .later }
def RuleNilCardSaid : Prop := Claim7.holds Tryz.pinned (.plain (OpenSpec.ofChange ruleNilSpec)) ruleNilCard

/-- THE TIED CARD OF 'replevinlaw51.RuleParses'. -/
def ruleParsesCard : Claim7 := { stood := { row := ruleParsesRow, standIns := [], harness := (true, "b11dbb478b003fa39ac687b77684bb26d51a11a96afad6fb5e6703c7faaf2853"), looks := true }, kinds := [], alts := [], laidByText := true, laidKinds := [.data, .data, .data, .data, .sentinel, .sentinel, .pinned], laidTests := true, laidLooks := .later }
def RuleParsesCardSaid : Prop := Claim7.holds Tryz.pinned (.plain (OpenSpec.ofChange ruleParsesSpec)) ruleParsesCard

/-- THE SECOND FORM's CARD OF 'replevinlaw51.RuleTemplates'. -/
def ruleTemplatesUptoCard : Claim7 := { stood := { row := ruleTemplatesUptoRow, standIns := [], harness := (true, "b11dbb478b003fa39ac687b77684bb26d51a11a96afad6fb5e6703c7faaf2853"), looks := true }, kinds := [], alts := [], laidByText := true, laidKinds := [.data, .data, .data, .data, .sentinel, .sentinel, .pinned], laidTests := true, laidLooks := .later }
def RuleTemplatesUptoCardSaid : Prop := Claim7.holds Tryz.pinned (.plain (OpenSpec.upto ruleTemplatesSpec)) ruleTemplatesUptoCard

/-- THE SECOND FORM's CARD OF 'replevinlaw51.RulePossible'. -/
def rulePossibleUptoCard : Claim7 := { stood := { row := rulePossibleUptoRow, standIns := [], harness := (true, "b11dbb478b003fa39ac687b77684bb26d51a11a96afad6fb5e6703c7faaf2853"), looks := true }, kinds := [], alts := [], laidByText := true, laidKinds := [.data, .data, .data, .data, .sentinel, .sentinel, .pinned], laidTests := true, laidLooks := .later }
def RulePossibleUptoCardSaid : Prop := Claim7.holds Tryz.pinned (.plain (OpenSpec.upto rulePossibleSpec)) rulePossibleUptoCard

/-- THE SECOND FORM's CARD OF 'replevinlaw51.RuleLogic'. -/
def ruleLogicUptoCard : Claim7 := { stood := { row := ruleLogicUptoRow, standIns := [], harness := (true, "b11dbb478b003fa39ac687b77684bb26d51a11a96afad6fb5e6703c7faaf2853"), looks := true }, kinds := [], alts := [], laidByText := true, laidKinds := [.data, .data, .data, .data, .sentinel, .sentinel, .pinned], laidTests := true, laidLooks := .later }
def RuleLogicUptoCardSaid : Prop := Claim7.holds Tryz.pinned (.plain (OpenSpec.upto ruleLogicSpec)) ruleLogicUptoCard

/-- THE SECOND FORM's CARD OF 'replevinlaw51.RuleDecides'. -/
def ruleDecidesUptoCard : Claim7 := { stood := { row := ruleDecidesUptoRow, standIns := [], harness := (true, "b11dbb478b003fa39ac687b77684bb26d51a11a96afad6fb5e6703c7faaf2853"), looks := true }, kinds := [], alts := [], laidByText := true, laidKinds := [.data, .data, .data, .data, .sentinel, .sentinel, .pinned], laidTests := true, laidLooks := .later }
def RuleDecidesUptoCardSaid : Prop := Claim7.holds Tryz.pinned (.plain (OpenSpec.upto ruleDecidesSpec)) ruleDecidesUptoCard

/-- THE SECOND FORM's CARD OF 'replevinlaw51.RuleFirst'. -/
def ruleFirstUptoCard : Claim7 := { stood := { row := ruleFirstUptoRow, standIns := [], harness := (true, "b11dbb478b003fa39ac687b77684bb26d51a11a96afad6fb5e6703c7faaf2853"), looks := true }, kinds := [], alts := [], laidByText := true, laidKinds := [.data, .data, .data, .data, .sentinel, .sentinel, .pinned], laidTests := true, laidLooks := .later }
def RuleFirstUptoCardSaid : Prop := Claim7.holds Tryz.pinned (.plain (OpenSpec.upto ruleFirstSpec)) ruleFirstUptoCard

/-- THE SECOND FORM's CARD OF 'replevinlaw51.RuleHolds'. -/
def ruleHoldsUptoCard : Claim7 := { stood := { row := ruleHoldsUptoRow, standIns := [], harness := (true, "b11dbb478b003fa39ac687b77684bb26d51a11a96afad6fb5e6703c7faaf2853"), looks := true }, kinds := [], alts := [], laidByText := true, laidKinds := [.data, .data, .data, .data, .sentinel, .sentinel, .pinned], laidTests := true, laidLooks := .later }
def RuleHoldsUptoCardSaid : Prop := Claim7.holds Tryz.pinned (.plain (OpenSpec.upto ruleHoldsSpec)) ruleHoldsUptoCard

/-- THE SECOND FORM's CARD OF 'replevinlaw51.RuleLong'. -/
def ruleLongUptoCard : Claim7 := { stood := { row := ruleLongUptoRow, standIns := [], harness := (true, "b11dbb478b003fa39ac687b77684bb26d51a11a96afad6fb5e6703c7faaf2853"), looks := true }, kinds := [], alts := [], laidByText := true, laidKinds := [.data, .data, .data, .data, .sentinel, .sentinel, .pinned], laidTests := true, laidLooks := .later }
def RuleLongUptoCardSaid : Prop := Claim7.holds Tryz.pinned (.plain (OpenSpec.upto ruleLongSpec)) ruleLongUptoCard

/-- THE SECOND FORM's CARD OF 'replevinlaw51.RuleLimits'. -/
def ruleLimitsUptoCard : Claim7 := { stood := { row := ruleLimitsUptoRow, standIns := [], harness := (true, "b11dbb478b003fa39ac687b77684bb26d51a11a96afad6fb5e6703c7faaf2853"), looks := true }, kinds := [], alts := [], laidByText := true, laidKinds := [.data, .data, .data, .data, .sentinel, .sentinel, .pinned], laidTests := true, laidLooks := .later }
def RuleLimitsUptoCardSaid : Prop := Claim7.holds Tryz.pinned (.plain (OpenSpec.upto ruleLimitsSpec)) ruleLimitsUptoCard

/-- THE SECOND FORM's CARD OF 'replevinlaw51.RuleNil'. -/
def ruleNilUptoCard : Claim7 := { stood := { row := ruleNilUptoRow, standIns := [], harness := (true, "b11dbb478b003fa39ac687b77684bb26d51a11a96afad6fb5e6703c7faaf2853"), looks := true }, kinds := [], alts := [], laidByText := true, laidKinds := [.data, .data, .data, .data, .sentinel, .sentinel, .pinned], laidTests := true, laidLooks := .later }
def RuleNilUptoCardSaid : Prop := Claim7.holds Tryz.pinned (.plain (OpenSpec.upto ruleNilSpec)) ruleNilUptoCard

/-- THE SECOND FORM's CARD OF 'replevinlaw51.RuleParses'. -/
def ruleParsesUptoCard : Claim7 := { stood := { row := ruleParsesUptoRow, standIns := [], harness := (true, "b11dbb478b003fa39ac687b77684bb26d51a11a96afad6fb5e6703c7faaf2853"), looks := true }, kinds := [], alts := [], laidByText := true, laidKinds := [.data, .data, .data, .data, .sentinel, .sentinel, .pinned], laidTests := true, laidLooks := .later }
def RuleParsesUptoCardSaid : Prop := Claim7.holds Tryz.pinned (.plain (OpenSpec.upto ruleParsesSpec)) ruleParsesUptoCard
end Rows
end Go.Proofs.YtodkipbnefngkaaGreatDoor
