/-
  DERIVED. GIVEN WITH THE SEED: THE CARDS: each row of YtcjfciifhdfjkaaGreatDoorRows.lean that lists a variable, with what it lists TIED to the program's text (the seventh form; the later family's looks); each row that meets fmt, with fmt's text TOLD by the authors' own Lean function (tested against real Go, not proved from fmt's source: count such statements apart). THE CARD IS WHAT COUNTS. Prove the row's statement (the work); the ties are given (YtcjfciifhdfjkaaGreatDoorTie.lean); close each card by the builder's one call (the guide's Derived/Test/ToyasCard.lean, 'card_holds'). Laid BY PROGRAM, IN A SANDBOX (cutbox-door.mjs). By AI agents, Wed Nov 11 2026. No macro, syntax, notation, axiom, sorry.
-/
import Derived.Test.YtcjfciifhdfjkaaGreatDoorRows
import GoSem.ClaimSeven
namespace Go.Proofs.YtcjfciifhdfjkaaGreatDoor
namespace Rows

/-- THE TIED CARD OF 'replevinlaw52.DecideOnce'. -/
def decideOnceCard : Claim7 := { stood := { row := decideOnceRow, standIns := [], harness := (true, "51ced84ddaa887a9ecff914c1483cc992746e48d9182048e1bfec5ba08f959f4"), looks := true }, kinds := [], alts := [], laidByText := true, laidKinds := [.data, .data, .data, .data, .sentinel, .sentinel, .data, .pinned], laidTests := true, laidLooks := .later }
def DecideOnceCardSaid : Prop := Claim7.holds Tryz.pinned (.plain (OpenSpec.ofChange decideOnceSpec)) decideOnceCard

/-- THE TIED CARD OF 'replevinlaw52.DecideSends'. -/
def decideSendsCard : Claim7 := { stood := { row := decideSendsRow, standIns := [], harness := (true, "51ced84ddaa887a9ecff914c1483cc992746e48d9182048e1bfec5ba08f959f4"), looks := true }, kinds := [], alts := [], laidByText := true, laidKinds := [.data, .data, .data, .data, .sentinel, .sentinel, .data, .pinned], laidTests := true, laidLooks := .later }
def DecideSendsCardSaid : Prop := Claim7.holds Tryz.pinned (.plain (OpenSpec.ofChange decideSendsSpec)) decideSendsCard

/-- THE TIED CARD OF 'replevinlaw52.DecidePlays'. -/
def decidePlaysCard : Claim7 := { stood := { row := decidePlaysRow, standIns := [], harness := (true, "51ced84ddaa887a9ecff914c1483cc992746e48d9182048e1bfec5ba08f959f4"), looks := true }, kinds := [], alts := [], laidByText := true, laidKinds := [.data, .data, .data, .data, .sentinel, .sentinel, .data, .pinned], laidTests := true, laidLooks := .later }
def DecidePlaysCardSaid : Prop := Claim7.holds Tryz.pinned (.plain (OpenSpec.ofChange decidePlaysSpec)) decidePlaysCard

/-- THE SECOND FORM's CARD OF 'replevinlaw52.DecideOnce'. -/
def decideOnceUptoCard : Claim7 := { stood := { row := decideOnceUptoRow, standIns := [], harness := (true, "51ced84ddaa887a9ecff914c1483cc992746e48d9182048e1bfec5ba08f959f4"), looks := true }, kinds := [], alts := [], laidByText := true, laidKinds := [.data, .data, .data, .data, .sentinel, .sentinel, .data, .pinned], laidTests := true, laidLooks := .later }
def DecideOnceUptoCardSaid : Prop := Claim7.holds Tryz.pinned (.plain (OpenSpec.upto decideOnceSpec)) decideOnceUptoCard

/-- THE SECOND FORM's CARD OF 'replevinlaw52.DecideSends'. -/
def decideSendsUptoCard : Claim7 := { stood := { row := decideSendsUptoRow, standIns := [], harness := (true, "51ced84ddaa887a9ecff914c1483cc992746e48d9182048e1bfec5ba08f959f4"), looks := true }, kinds := [], alts := [], laidByText := true, laidKinds := [.data, .data, .data, .data, .sentinel, .sentinel, .data, .pinned], laidTests := true, laidLooks := .later }
def DecideSendsUptoCardSaid : Prop := Claim7.holds Tryz.pinned (.plain (OpenSpec.upto decideSendsSpec)) decideSendsUptoCard

/-- THE SECOND FORM's CARD OF 'replevinlaw52.DecidePlays'. -/
def decidePlaysUptoCard : Claim7 := { stood := { row := decidePlaysUptoRow, standIns := [], harness := (true, "51ced84ddaa887a9ecff914c1483cc992746e48d9182048e1bfec5ba08f959f4"), looks := true }, kinds := [], alts := [], laidByText := true, laidKinds := [.data, .data, .data, .data, .sentinel, .sentinel, .data, .pinned], laidTests := true, laidLooks := .later }
def DecidePlaysUptoCardSaid : Prop := Claim7.holds Tryz.pinned (.plain (OpenSpec.upto decidePlaysSpec)) decidePlaysUptoCard
end Rows
end Go.Proofs.YtcjfciifhdfjkaaGreatDoor
