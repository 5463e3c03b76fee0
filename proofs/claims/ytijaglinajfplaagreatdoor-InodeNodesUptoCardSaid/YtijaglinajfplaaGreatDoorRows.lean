/-
  NARROWER THAN 'FOR EVERY INPUT', by the rows' own cells (each row's printed sentence says how): ConsequenceTexts: laid · ConsequenceMakers: laid · ProcessChecks: laid · InodeNodes: laid · OutputChecks: laid · OutputLedgers: laid · OutputGrows: laid · OutputSends: laid · OutputWaiting: laid · OutputDecodes: laid · OutputEncodes: laid · OutputNil: laid.
  DERIVED. THE GIVEN ROWS OF THIS SEAT. 12 by the template 'for every input the law returns true; each argument reads behind the call as it read before'; 0 by the template 'total and deterministic' (their statements: YtijaglinajfplaaGreatDoorTotals.lean).
  GIVEN WITH THE SEED: the statements are not yours to turn. If you find one false, say at which input.
  Laid BY PROGRAM, IN A SANDBOX (cutbox-rows.mjs): the forced cells as the released guide's own fill.sh prints them over the translation 19d880f6e793d3ba… (all of the seat's roots in one cut). By AI agents, Wed Nov 11 2026. No macro, syntax, notation, axiom, sorry.
-/
import Derived.Test.YtijaglinajfplaaGreatDoorChecked
import GoSem.Claim
import GoSem.ClaimJoined
import GoSem.ClaimMapViews
import Derived.JoinedTies
import Derived.KernelRfl
namespace Go.Proofs.YtijaglinajfplaaGreatDoor
/- THE CELL 'sum', in the pinned program and in every row, IS THE sha256 OF THE DUMP (.gsa) THAT YtijaglinajfplaaGreatDoorProg.lean LOADS. Nothing in Lean hashes anything: it is a label: what it is worth is what the hold of that sum in a sandbox is worth. -/
noncomputable def Tryz.pinned : Pinned := { name := "ytijaglinajfplaagreatdoor", sum := "19d880f6e793d3ba7cd94ac60b6bbd369ca5895b1702de49695c0a94b84ccc15", checked := Tryz.checked }
namespace Rows
def none {H : Type} : Left H := { results := [], args := [] }

/- WHAT THE LISTED PACKAGE-LEVEL VARIABLES READ AS WHEN THE CALL BEGINS. Each datum BY PROGRAM (the guide's laid-datum.mjs) off the statement by which the dump's own 'gosem.cut.vars' lays the variable. In a bare row this is a premise. The card (YtijaglinajfplaaGreatDoorCards.lean) ties it to the program's text. -/
def laid_math_bits_deBruijn32tab {H : Type} : DataW H := .agg [.lit (.int .u8 0), .lit (.int .u8 1), .lit (.int .u8 28), .lit (.int .u8 2), .lit (.int .u8 29), .lit (.int .u8 14), .lit (.int .u8 24), .lit (.int .u8 3), .lit (.int .u8 30), .lit (.int .u8 22), .lit (.int .u8 20), .lit (.int .u8 15), .lit (.int .u8 25), .lit (.int .u8 17), .lit (.int .u8 4), .lit (.int .u8 8), .lit (.int .u8 31), .lit (.int .u8 27), .lit (.int .u8 13), .lit (.int .u8 23), .lit (.int .u8 21), .lit (.int .u8 19), .lit (.int .u8 16), .lit (.int .u8 7), .lit (.int .u8 26), .lit (.int .u8 12), .lit (.int .u8 18), .lit (.int .u8 6), .lit (.int .u8 11), .lit (.int .u8 5), .lit (.int .u8 10), .lit (.int .u8 9)]
def laid_math_bits_deBruijn64tab {H : Type} : DataW H := .agg [.lit (.int .u8 0), .lit (.int .u8 1), .lit (.int .u8 56), .lit (.int .u8 2), .lit (.int .u8 57), .lit (.int .u8 49), .lit (.int .u8 28), .lit (.int .u8 3), .lit (.int .u8 61), .lit (.int .u8 58), .lit (.int .u8 42), .lit (.int .u8 50), .lit (.int .u8 38), .lit (.int .u8 29), .lit (.int .u8 17), .lit (.int .u8 4), .lit (.int .u8 62), .lit (.int .u8 47), .lit (.int .u8 59), .lit (.int .u8 36), .lit (.int .u8 45), .lit (.int .u8 43), .lit (.int .u8 51), .lit (.int .u8 22), .lit (.int .u8 53), .lit (.int .u8 39), .lit (.int .u8 33), .lit (.int .u8 30), .lit (.int .u8 24), .lit (.int .u8 18), .lit (.int .u8 12), .lit (.int .u8 5), .lit (.int .u8 63), .lit (.int .u8 55), .lit (.int .u8 48), .lit (.int .u8 27), .lit (.int .u8 60), .lit (.int .u8 41), .lit (.int .u8 37), .lit (.int .u8 16), .lit (.int .u8 46), .lit (.int .u8 35), .lit (.int .u8 44), .lit (.int .u8 21), .lit (.int .u8 52), .lit (.int .u8 32), .lit (.int .u8 23), .lit (.int .u8 11), .lit (.int .u8 54), .lit (.int .u8 26), .lit (.int .u8 40), .lit (.int .u8 15), .lit (.int .u8 34), .lit (.int .u8 20), .lit (.int .u8 31), .lit (.int .u8 10), .lit (.int .u8 25), .lit (.int .u8 14), .lit (.int .u8 19), .lit (.int .u8 9), .lit (.int .u8 13), .lit (.int .u8 8), .lit (.int .u8 7), .lit (.int .u8 6)]
def laid_internal_strconv_uint64pow10 {H : Type} : DataW H := .agg [.lit (.int .u64 1), .lit (.int .u64 10), .lit (.int .u64 100), .lit (.int .u64 1000), .lit (.int .u64 10000), .lit (.int .u64 100000), .lit (.int .u64 1000000), .lit (.int .u64 10000000), .lit (.int .u64 100000000), .lit (.int .u64 1000000000), .lit (.int .u64 10000000000), .lit (.int .u64 100000000000), .lit (.int .u64 1000000000000), .lit (.int .u64 10000000000000), .lit (.int .u64 100000000000000), .lit (.int .u64 1000000000000000), .lit (.int .u64 10000000000000000), .lit (.int .u64 100000000000000000), .lit (.int .u64 1000000000000000000), .lit (.int .u64 10000000000000000000)]
def laid_replevin_object_usages {H : Type} : DataW H := .agg [.agg [.lit (.string []), .lit (.bool false), .lit (.bool false), .lit (.bool false), .lit (.bool false), .lit (.int .i64 0)], .agg [.lit (.string [112, 114, 111, 99, 101, 115, 115]), .lit (.bool true), .lit (.bool false), .lit (.bool false), .lit (.bool false), .lit (.int .i64 0)], .agg [.lit (.string [114, 101, 103, 105, 115, 116, 101, 114, 115]), .lit (.bool true), .lit (.bool false), .lit (.bool false), .lit (.bool false), .lit (.int .i64 0)], .agg [.lit (.string [112, 97, 103, 101]), .lit (.bool true), .lit (.bool false), .lit (.bool true), .lit (.bool false), .lit (.int .i64 63)], .agg [.lit (.string [116, 97, 98, 108, 101]), .lit (.bool true), .lit (.bool false), .lit (.bool false), .lit (.bool false), .lit (.int .i64 0)], .agg [.lit (.string [99, 111, 117, 110, 116, 101, 114]), .lit (.bool true), .lit (.bool false), .lit (.bool false), .lit (.bool false), .lit (.int .i64 0)], .agg [.lit (.string [112, 101, 110, 100, 105, 110, 103]), .lit (.bool true), .lit (.bool false), .lit (.bool false), .lit (.bool false), .lit (.int .i64 0)], .agg [.lit (.string [110, 111, 100, 101]), .lit (.bool true), .lit (.bool true), .lit (.bool false), .lit (.bool false), .lit (.int .i64 0)], .agg [.lit (.string [98, 108, 111, 99, 107]), .lit (.bool true), .lit (.bool true), .lit (.bool true), .lit (.bool false), .lit (.int .i64 63)], .agg [.lit (.string [101, 110, 116, 114, 121]), .lit (.bool true), .lit (.bool true), .lit (.bool false), .lit (.bool true), .lit (.int .i64 0)], .agg [.lit (.string [108, 105, 115, 116, 105, 110, 103]), .lit (.bool true), .lit (.bool true), .lit (.bool false), .lit (.bool false), .lit (.int .i64 0)], .agg [.lit (.string [112, 105, 112, 101]), .lit (.bool true), .lit (.bool true), .lit (.bool false), .lit (.bool false), .lit (.int .i64 0)], .agg [.lit (.string [108, 111, 99, 107]), .lit (.bool true), .lit (.bool true), .lit (.bool false), .lit (.bool false), .lit (.int .i64 0)], .agg [.lit (.string [116, 101, 114, 109, 105, 110, 97, 108]), .lit (.bool false), .lit (.bool true), .lit (.bool false), .lit (.bool false), .lit (.int .i64 0)], .agg [.lit (.string [97, 99, 99, 111, 117, 110, 116]), .lit (.bool false), .lit (.bool false), .lit (.bool false), .lit (.bool true), .lit (.int .i64 0)], .agg [.lit (.string [99, 108, 111, 99, 107]), .lit (.bool false), .lit (.bool false), .lit (.bool false), .lit (.bool false), .lit (.int .i64 0)], .agg [.lit (.string [112, 111, 114, 116]), .lit (.bool false), .lit (.bool true), .lit (.bool false), .lit (.bool false), .lit (.int .i64 0)], .agg [.lit (.string [98, 111, 120]), .lit (.bool false), .lit (.bool false), .lit (.bool false), .lit (.bool true), .lit (.int .i64 0)], .agg [.lit (.string [111, 117, 116]), .lit (.bool true), .lit (.bool true), .lit (.bool true), .lit (.bool false), .lit (.int .i64 1073741824)], .agg [.lit (.string [115, 104, 101, 108, 108]), .lit (.bool true), .lit (.bool false), .lit (.bool false), .lit (.bool false), .lit (.int .i64 0)], .agg [.lit (.string [101, 112, 111, 99, 104]), .lit (.bool false), .lit (.bool false), .lit (.bool false), .lit (.bool false), .lit (.int .i64 0)]]

/-- 'replevinlaw50.ConsequenceTexts': WHATEVER THE INPUT: true; the input reads as it did. -/
def consequenceTextsSpec : ChangeSpec := { name := "consequenceTexts", fn := fun _ => fun
  | [d] => { results := [.lit (.bool true)], args := [d] }
  | _ => none }
def consequenceTextsRow : OpenClaim := { program := "ytijaglinajfplaagreatdoor", sum := "19d880f6e793d3ba7cd94ac60b6bbd369ca5895b1702de49695c0a94b84ccc15", func := "replevin/replevinlaw50.ConsequenceTexts", spec := "consequenceTexts", inPlace := ["internal/abi.NoEscape", "internal/bytealg.MakeNoZero"], unfollowed := true, recurses := true, named := ["replevin/object.usages", "internal/strconv.uint64pow10", "math/bits.deBruijn32tab", "math/bits.deBruijn64tab"], plainKeys := false, apart := false, laid := [("math/bits.deBruijn32tab", laid_math_bits_deBruijn32tab), ("math/bits.deBruijn64tab", laid_math_bits_deBruijn64tab), ("internal/strconv.uint64pow10", laid_internal_strconv_uint64pow10), ("replevin/object.usages", laid_replevin_object_usages)] }
def ConsequenceTextsSaid : Prop := consequenceTextsRow.holds Tryz.pinned (OpenSpec.ofChange consequenceTextsSpec)

/-- ITS FALSE NEIGHBOUR: 'it returns false'. Refute it at one input. -/
def consequenceTextsWrong : ChangeSpec := { name := "consequenceTexts", fn := fun _ => fun
  | [d] => { results := [.lit (.bool false)], args := [d] }
  | _ => none }
def ConsequenceTextsWrongFalsely : Prop := consequenceTextsRow.holds Tryz.pinned (OpenSpec.ofChange consequenceTextsWrong)

/-- 'replevinlaw50.ConsequenceMakers': WHATEVER THE INPUT: true; the input reads as it did. -/
def consequenceMakersSpec : ChangeSpec := { name := "consequenceMakers", fn := fun _ => fun
  | [d1, d2, d3] => { results := [.lit (.bool true)], args := [d1, d2, d3] }
  | _ => none }
def consequenceMakersRow : OpenClaim := { program := "ytijaglinajfplaagreatdoor", sum := "19d880f6e793d3ba7cd94ac60b6bbd369ca5895b1702de49695c0a94b84ccc15", func := "replevin/replevinlaw50.ConsequenceMakers", spec := "consequenceMakers", unfollowed := true, recurses := true, named := ["replevin/object.usages"], plainKeys := false, apart := false, laid := [("replevin/object.usages", laid_replevin_object_usages)] }
def ConsequenceMakersSaid : Prop := consequenceMakersRow.holds Tryz.pinned (OpenSpec.ofChange consequenceMakersSpec)

/-- ITS FALSE NEIGHBOUR: 'it returns false'. Refute it at one input. -/
def consequenceMakersWrong : ChangeSpec := { name := "consequenceMakers", fn := fun _ => fun
  | [d1, d2, d3] => { results := [.lit (.bool false)], args := [d1, d2, d3] }
  | _ => none }
def ConsequenceMakersWrongFalsely : Prop := consequenceMakersRow.holds Tryz.pinned (OpenSpec.ofChange consequenceMakersWrong)

/-- 'replevinlaw35.ProcessChecks': WHATEVER THE INPUT: true; the input reads as it did. -/
def processChecksSpec : ChangeSpec := { name := "processChecks", fn := fun _ => fun
  | [d1, d2, d3] => { results := [.lit (.bool true)], args := [d1, d2, d3] }
  | _ => none }
def processChecksRow : OpenClaim := { program := "ytijaglinajfplaagreatdoor", sum := "19d880f6e793d3ba7cd94ac60b6bbd369ca5895b1702de49695c0a94b84ccc15", func := "replevin/replevinlaw35.ProcessChecks", spec := "processChecks", unfollowed := true, recurses := true, named := ["replevin/object.usages", "internal/strconv.uint64pow10", "math/bits.deBruijn32tab", "math/bits.deBruijn64tab"], plainKeys := false, apart := false, laid := [("math/bits.deBruijn32tab", laid_math_bits_deBruijn32tab), ("math/bits.deBruijn64tab", laid_math_bits_deBruijn64tab), ("internal/strconv.uint64pow10", laid_internal_strconv_uint64pow10), ("replevin/object.usages", laid_replevin_object_usages)] }
def ProcessChecksSaid : Prop := processChecksRow.holds Tryz.pinned (OpenSpec.ofChange processChecksSpec)

/-- ITS FALSE NEIGHBOUR: 'it returns false'. Refute it at one input. -/
def processChecksWrong : ChangeSpec := { name := "processChecks", fn := fun _ => fun
  | [d1, d2, d3] => { results := [.lit (.bool false)], args := [d1, d2, d3] }
  | _ => none }
def ProcessChecksWrongFalsely : Prop := processChecksRow.holds Tryz.pinned (OpenSpec.ofChange processChecksWrong)

/-- 'replevinlaw27.InodeNodes': WHATEVER THE INPUT: true; the input reads as it did. -/
def inodeNodesSpec : ChangeSpec := { name := "inodeNodes", fn := fun _ => fun
  | [d1, d2] => { results := [.lit (.bool true)], args := [d1, d2] }
  | _ => none }
def inodeNodesRow : OpenClaim := { program := "ytijaglinajfplaagreatdoor", sum := "19d880f6e793d3ba7cd94ac60b6bbd369ca5895b1702de49695c0a94b84ccc15", func := "replevin/replevinlaw27.InodeNodes", spec := "inodeNodes", unfollowed := true, recurses := true, named := ["replevin/object.usages"], plainKeys := false, apart := false, laid := [("replevin/object.usages", laid_replevin_object_usages)] }
def InodeNodesSaid : Prop := inodeNodesRow.holds Tryz.pinned (OpenSpec.ofChange inodeNodesSpec)

/-- ITS FALSE NEIGHBOUR: 'it returns false'. Refute it at one input. -/
def inodeNodesWrong : ChangeSpec := { name := "inodeNodes", fn := fun _ => fun
  | [d1, d2] => { results := [.lit (.bool false)], args := [d1, d2] }
  | _ => none }
def InodeNodesWrongFalsely : Prop := inodeNodesRow.holds Tryz.pinned (OpenSpec.ofChange inodeNodesWrong)

/-- 'replevinlaw39.OutputChecks': WHATEVER THE INPUT: true; the input reads as it did. -/
def outputChecksSpec : ChangeSpec := { name := "outputChecks", fn := fun _ => fun
  | [d1, d2, d3] => { results := [.lit (.bool true)], args := [d1, d2, d3] }
  | _ => none }
def outputChecksRow : OpenClaim := { program := "ytijaglinajfplaagreatdoor", sum := "19d880f6e793d3ba7cd94ac60b6bbd369ca5895b1702de49695c0a94b84ccc15", func := "replevin/replevinlaw39.OutputChecks", spec := "outputChecks", unfollowed := true, recurses := true, named := ["replevin/object.usages"], plainKeys := false, apart := false, laid := [("replevin/object.usages", laid_replevin_object_usages)] }
def OutputChecksSaid : Prop := outputChecksRow.holds Tryz.pinned (OpenSpec.ofChange outputChecksSpec)

/-- ITS FALSE NEIGHBOUR: 'it returns false'. Refute it at one input. -/
def outputChecksWrong : ChangeSpec := { name := "outputChecks", fn := fun _ => fun
  | [d1, d2, d3] => { results := [.lit (.bool false)], args := [d1, d2, d3] }
  | _ => none }
def OutputChecksWrongFalsely : Prop := outputChecksRow.holds Tryz.pinned (OpenSpec.ofChange outputChecksWrong)

/-- 'replevinlaw39.OutputLedgers': WHATEVER THE INPUT: true; the input reads as it did. -/
def outputLedgersSpec : ChangeSpec := { name := "outputLedgers", fn := fun _ => fun
  | [d1, d2, d3] => { results := [.lit (.bool true)], args := [d1, d2, d3] }
  | _ => none }
def outputLedgersRow : OpenClaim := { program := "ytijaglinajfplaagreatdoor", sum := "19d880f6e793d3ba7cd94ac60b6bbd369ca5895b1702de49695c0a94b84ccc15", func := "replevin/replevinlaw39.OutputLedgers", spec := "outputLedgers", unfollowed := true, recurses := true, named := ["replevin/object.usages"], plainKeys := false, apart := false, laid := [("replevin/object.usages", laid_replevin_object_usages)] }
def OutputLedgersSaid : Prop := outputLedgersRow.holds Tryz.pinned (OpenSpec.ofChange outputLedgersSpec)

/-- ITS FALSE NEIGHBOUR: 'it returns false'. Refute it at one input. -/
def outputLedgersWrong : ChangeSpec := { name := "outputLedgers", fn := fun _ => fun
  | [d1, d2, d3] => { results := [.lit (.bool false)], args := [d1, d2, d3] }
  | _ => none }
def OutputLedgersWrongFalsely : Prop := outputLedgersRow.holds Tryz.pinned (OpenSpec.ofChange outputLedgersWrong)

/-- 'replevinlaw39.OutputGrows': WHATEVER THE INPUT: true; the input reads as it did. -/
def outputGrowsSpec : ChangeSpec := { name := "outputGrows", fn := fun _ => fun
  | [d1, d2] => { results := [.lit (.bool true)], args := [d1, d2] }
  | _ => none }
def outputGrowsRow : OpenClaim := { program := "ytijaglinajfplaagreatdoor", sum := "19d880f6e793d3ba7cd94ac60b6bbd369ca5895b1702de49695c0a94b84ccc15", func := "replevin/replevinlaw39.OutputGrows", spec := "outputGrows", unfollowed := true, recurses := true, named := ["replevin/object.usages"], plainKeys := false, apart := false, laid := [("replevin/object.usages", laid_replevin_object_usages)] }
def OutputGrowsSaid : Prop := outputGrowsRow.holds Tryz.pinned (OpenSpec.ofChange outputGrowsSpec)

/-- ITS FALSE NEIGHBOUR: 'it returns false'. Refute it at one input. -/
def outputGrowsWrong : ChangeSpec := { name := "outputGrows", fn := fun _ => fun
  | [d1, d2] => { results := [.lit (.bool false)], args := [d1, d2] }
  | _ => none }
def OutputGrowsWrongFalsely : Prop := outputGrowsRow.holds Tryz.pinned (OpenSpec.ofChange outputGrowsWrong)

/-- 'replevinlaw39.OutputSends': WHATEVER THE INPUT: true; the input reads as it did. -/
def outputSendsSpec : ChangeSpec := { name := "outputSends", fn := fun _ => fun
  | [d1, d2] => { results := [.lit (.bool true)], args := [d1, d2] }
  | _ => none }
def outputSendsRow : OpenClaim := { program := "ytijaglinajfplaagreatdoor", sum := "19d880f6e793d3ba7cd94ac60b6bbd369ca5895b1702de49695c0a94b84ccc15", func := "replevin/replevinlaw39.OutputSends", spec := "outputSends", unfollowed := true, recurses := true, named := ["replevin/object.usages"], plainKeys := false, apart := false, laid := [("replevin/object.usages", laid_replevin_object_usages)] }
def OutputSendsSaid : Prop := outputSendsRow.holds Tryz.pinned (OpenSpec.ofChange outputSendsSpec)

/-- ITS FALSE NEIGHBOUR: 'it returns false'. Refute it at one input. -/
def outputSendsWrong : ChangeSpec := { name := "outputSends", fn := fun _ => fun
  | [d1, d2] => { results := [.lit (.bool false)], args := [d1, d2] }
  | _ => none }
def OutputSendsWrongFalsely : Prop := outputSendsRow.holds Tryz.pinned (OpenSpec.ofChange outputSendsWrong)

/-- 'replevinlaw39.OutputWaiting': WHATEVER THE INPUT: true; the input reads as it did. -/
def outputWaitingSpec : ChangeSpec := { name := "outputWaiting", fn := fun _ => fun
  | [d1, d2, d3] => { results := [.lit (.bool true)], args := [d1, d2, d3] }
  | _ => none }
def outputWaitingRow : OpenClaim := { program := "ytijaglinajfplaagreatdoor", sum := "19d880f6e793d3ba7cd94ac60b6bbd369ca5895b1702de49695c0a94b84ccc15", func := "replevin/replevinlaw39.OutputWaiting", spec := "outputWaiting", unfollowed := true, recurses := true, named := ["replevin/object.usages"], plainKeys := false, apart := false, laid := [("replevin/object.usages", laid_replevin_object_usages)] }
def OutputWaitingSaid : Prop := outputWaitingRow.holds Tryz.pinned (OpenSpec.ofChange outputWaitingSpec)

/-- ITS FALSE NEIGHBOUR: 'it returns false'. Refute it at one input. -/
def outputWaitingWrong : ChangeSpec := { name := "outputWaiting", fn := fun _ => fun
  | [d1, d2, d3] => { results := [.lit (.bool false)], args := [d1, d2, d3] }
  | _ => none }
def OutputWaitingWrongFalsely : Prop := outputWaitingRow.holds Tryz.pinned (OpenSpec.ofChange outputWaitingWrong)

/-- 'replevinlaw39.OutputDecodes': WHATEVER THE INPUT: true; the input reads as it did. -/
def outputDecodesSpec : ChangeSpec := { name := "outputDecodes", fn := fun _ => fun
  | [d] => { results := [.lit (.bool true)], args := [d] }
  | _ => none }
def outputDecodesRow : OpenClaim := { program := "ytijaglinajfplaagreatdoor", sum := "19d880f6e793d3ba7cd94ac60b6bbd369ca5895b1702de49695c0a94b84ccc15", func := "replevin/replevinlaw39.OutputDecodes", spec := "outputDecodes", unfollowed := true, recurses := true, named := ["replevin/object.usages"], plainKeys := false, apart := false, laid := [("replevin/object.usages", laid_replevin_object_usages)] }
def OutputDecodesSaid : Prop := outputDecodesRow.holds Tryz.pinned (OpenSpec.ofChange outputDecodesSpec)

/-- ITS FALSE NEIGHBOUR: 'it returns false'. Refute it at one input. -/
def outputDecodesWrong : ChangeSpec := { name := "outputDecodes", fn := fun _ => fun
  | [d] => { results := [.lit (.bool false)], args := [d] }
  | _ => none }
def OutputDecodesWrongFalsely : Prop := outputDecodesRow.holds Tryz.pinned (OpenSpec.ofChange outputDecodesWrong)

/-- 'replevinlaw39.OutputEncodes': WHATEVER THE INPUT: true; the input reads as it did. -/
def outputEncodesSpec : ChangeSpec := { name := "outputEncodes", fn := fun _ => fun
  | [d] => { results := [.lit (.bool true)], args := [d] }
  | _ => none }
def outputEncodesRow : OpenClaim := { program := "ytijaglinajfplaagreatdoor", sum := "19d880f6e793d3ba7cd94ac60b6bbd369ca5895b1702de49695c0a94b84ccc15", func := "replevin/replevinlaw39.OutputEncodes", spec := "outputEncodes", unfollowed := true, recurses := true, named := ["replevin/object.usages"], plainKeys := false, apart := false, laid := [("replevin/object.usages", laid_replevin_object_usages)] }
def OutputEncodesSaid : Prop := outputEncodesRow.holds Tryz.pinned (OpenSpec.ofChange outputEncodesSpec)

/-- ITS FALSE NEIGHBOUR: 'it returns false'. Refute it at one input. -/
def outputEncodesWrong : ChangeSpec := { name := "outputEncodes", fn := fun _ => fun
  | [d] => { results := [.lit (.bool false)], args := [d] }
  | _ => none }
def OutputEncodesWrongFalsely : Prop := outputEncodesRow.holds Tryz.pinned (OpenSpec.ofChange outputEncodesWrong)

/-- 'replevinlaw39.OutputNil': WHATEVER THE INPUT: true; the input reads as it did. -/
def outputNilSpec : ChangeSpec := { name := "outputNil", fn := fun _ => fun
  | [d1, d2, d3] => { results := [.lit (.bool true)], args := [d1, d2, d3] }
  | _ => none }
def outputNilRow : OpenClaim := { program := "ytijaglinajfplaagreatdoor", sum := "19d880f6e793d3ba7cd94ac60b6bbd369ca5895b1702de49695c0a94b84ccc15", func := "replevin/replevinlaw39.OutputNil", spec := "outputNil", unfollowed := true, recurses := true, named := ["replevin/object.usages"], plainKeys := false, apart := false, laid := [("replevin/object.usages", laid_replevin_object_usages)] }
def OutputNilSaid : Prop := outputNilRow.holds Tryz.pinned (OpenSpec.ofChange outputNilSpec)

/-- ITS FALSE NEIGHBOUR: 'it returns false'. Refute it at one input. -/
def outputNilWrong : ChangeSpec := { name := "outputNil", fn := fun _ => fun
  | [d1, d2, d3] => { results := [.lit (.bool false)], args := [d1, d2, d3] }
  | _ => none }
def OutputNilWrongFalsely : Prop := outputNilRow.holds Tryz.pinned (OpenSpec.ofChange outputNilWrong)

/- THE SECOND FORM. 'bulk': how many values and letters a reading holds, each counted each time it is reached (what is shared counts as often as it is met; a slice's spare places count too). A statement '..UptoSaid' is the law's where the arguments, and the package variables that the reading takes, are together of bulk at most 1048576: NARROWER than '..Said'. Prove '..Said' where nothing that the law and all that it calls make is longer than what came in: it says more and counts as full. Else prove '..UptoSaid'. A law counts once. -/
mutual
def uptoBulk {H : Type} : DataW H → Nat
  | .lit (.string bytes) => bytes.length + 1
  | .lit _ => 1
  | .nil => 1
  | .ptr d => uptoBulk d + 1
  | .slice elems spare => uptoBulkAll elems + uptoBulkAll spare + 1
  | .agg parts => uptoBulkAll parts + 1
  | .iface _ d => uptoBulk d + 1
  | .map entries => uptoBulkEntries entries + 1
  | .held _ => 1
def uptoBulkAll {H : Type} : List (DataW H) → Nat
  | [] => 0
  | d :: r => uptoBulk d + uptoBulkAll r
def uptoBulkEntries {H : Type} : List (Lit × DataW H) → Nat
  | [] => 0
  | x :: r => uptoBulkEntry x + uptoBulkEntries r
def uptoBulkEntry {H : Type} : Lit × DataW H → Nat
  | (.string bytes, d) => bytes.length + uptoBulk d + 1
  | (_, d) => uptoBulk d + 1
 end
def uptoSmall : (H : Type) → List (DataW H) → Bool := fun _ ds => decide (uptoBulkAll ds ≤ 1048576)
def OpenSpec.upto (s : _root_.Go.ChangeSpec) : _root_.Go.OpenSpec := { _root_.Go.OpenSpec.ofChange s with cond := some uptoSmall }

/-- 'replevinlaw50.ConsequenceTexts', WHERE WHAT IT READS IS OF BULK AT MOST 1048576: true; the input reads as it did. -/
def consequenceTextsUptoRow : OpenClaim := { program := "ytijaglinajfplaagreatdoor", sum := "19d880f6e793d3ba7cd94ac60b6bbd369ca5895b1702de49695c0a94b84ccc15", func := "replevin/replevinlaw50.ConsequenceTexts", spec := "consequenceTexts", inPlace := ["internal/abi.NoEscape", "internal/bytealg.MakeNoZero"], unfollowed := true, recurses := true, named := ["replevin/object.usages", "internal/strconv.uint64pow10", "math/bits.deBruijn32tab", "math/bits.deBruijn64tab"], plainKeys := false, apart := false, laid := [("math/bits.deBruijn32tab", laid_math_bits_deBruijn32tab), ("math/bits.deBruijn64tab", laid_math_bits_deBruijn64tab), ("internal/strconv.uint64pow10", laid_internal_strconv_uint64pow10), ("replevin/object.usages", laid_replevin_object_usages)], narrowed := true }
def ConsequenceTextsUptoSaid : Prop := consequenceTextsUptoRow.holds Tryz.pinned (OpenSpec.upto consequenceTextsSpec)

/-- 'replevinlaw50.ConsequenceMakers', WHERE WHAT IT READS IS OF BULK AT MOST 1048576: true; the input reads as it did. -/
def consequenceMakersUptoRow : OpenClaim := { program := "ytijaglinajfplaagreatdoor", sum := "19d880f6e793d3ba7cd94ac60b6bbd369ca5895b1702de49695c0a94b84ccc15", func := "replevin/replevinlaw50.ConsequenceMakers", spec := "consequenceMakers", unfollowed := true, recurses := true, named := ["replevin/object.usages"], plainKeys := false, apart := false, laid := [("replevin/object.usages", laid_replevin_object_usages)], narrowed := true }
def ConsequenceMakersUptoSaid : Prop := consequenceMakersUptoRow.holds Tryz.pinned (OpenSpec.upto consequenceMakersSpec)

/-- 'replevinlaw35.ProcessChecks', WHERE WHAT IT READS IS OF BULK AT MOST 1048576: true; the input reads as it did. -/
def processChecksUptoRow : OpenClaim := { program := "ytijaglinajfplaagreatdoor", sum := "19d880f6e793d3ba7cd94ac60b6bbd369ca5895b1702de49695c0a94b84ccc15", func := "replevin/replevinlaw35.ProcessChecks", spec := "processChecks", unfollowed := true, recurses := true, named := ["replevin/object.usages", "internal/strconv.uint64pow10", "math/bits.deBruijn32tab", "math/bits.deBruijn64tab"], plainKeys := false, apart := false, laid := [("math/bits.deBruijn32tab", laid_math_bits_deBruijn32tab), ("math/bits.deBruijn64tab", laid_math_bits_deBruijn64tab), ("internal/strconv.uint64pow10", laid_internal_strconv_uint64pow10), ("replevin/object.usages", laid_replevin_object_usages)], narrowed := true }
def ProcessChecksUptoSaid : Prop := processChecksUptoRow.holds Tryz.pinned (OpenSpec.upto processChecksSpec)

/-- 'replevinlaw27.InodeNodes', WHERE WHAT IT READS IS OF BULK AT MOST 1048576: true; the input reads as it did. -/
def inodeNodesUptoRow : OpenClaim := { program := "ytijaglinajfplaagreatdoor", sum := "19d880f6e793d3ba7cd94ac60b6bbd369ca5895b1702de49695c0a94b84ccc15", func := "replevin/replevinlaw27.InodeNodes", spec := "inodeNodes", unfollowed := true, recurses := true, named := ["replevin/object.usages"], plainKeys := false, apart := false, laid := [("replevin/object.usages", laid_replevin_object_usages)], narrowed := true }
def InodeNodesUptoSaid : Prop := inodeNodesUptoRow.holds Tryz.pinned (OpenSpec.upto inodeNodesSpec)

/-- 'replevinlaw39.OutputChecks', WHERE WHAT IT READS IS OF BULK AT MOST 1048576: true; the input reads as it did. -/
def outputChecksUptoRow : OpenClaim := { program := "ytijaglinajfplaagreatdoor", sum := "19d880f6e793d3ba7cd94ac60b6bbd369ca5895b1702de49695c0a94b84ccc15", func := "replevin/replevinlaw39.OutputChecks", spec := "outputChecks", unfollowed := true, recurses := true, named := ["replevin/object.usages"], plainKeys := false, apart := false, laid := [("replevin/object.usages", laid_replevin_object_usages)], narrowed := true }
def OutputChecksUptoSaid : Prop := outputChecksUptoRow.holds Tryz.pinned (OpenSpec.upto outputChecksSpec)

/-- 'replevinlaw39.OutputLedgers', WHERE WHAT IT READS IS OF BULK AT MOST 1048576: true; the input reads as it did. -/
def outputLedgersUptoRow : OpenClaim := { program := "ytijaglinajfplaagreatdoor", sum := "19d880f6e793d3ba7cd94ac60b6bbd369ca5895b1702de49695c0a94b84ccc15", func := "replevin/replevinlaw39.OutputLedgers", spec := "outputLedgers", unfollowed := true, recurses := true, named := ["replevin/object.usages"], plainKeys := false, apart := false, laid := [("replevin/object.usages", laid_replevin_object_usages)], narrowed := true }
def OutputLedgersUptoSaid : Prop := outputLedgersUptoRow.holds Tryz.pinned (OpenSpec.upto outputLedgersSpec)

/-- 'replevinlaw39.OutputGrows', WHERE WHAT IT READS IS OF BULK AT MOST 1048576: true; the input reads as it did. -/
def outputGrowsUptoRow : OpenClaim := { program := "ytijaglinajfplaagreatdoor", sum := "19d880f6e793d3ba7cd94ac60b6bbd369ca5895b1702de49695c0a94b84ccc15", func := "replevin/replevinlaw39.OutputGrows", spec := "outputGrows", unfollowed := true, recurses := true, named := ["replevin/object.usages"], plainKeys := false, apart := false, laid := [("replevin/object.usages", laid_replevin_object_usages)], narrowed := true }
def OutputGrowsUptoSaid : Prop := outputGrowsUptoRow.holds Tryz.pinned (OpenSpec.upto outputGrowsSpec)

/-- 'replevinlaw39.OutputSends', WHERE WHAT IT READS IS OF BULK AT MOST 1048576: true; the input reads as it did. -/
def outputSendsUptoRow : OpenClaim := { program := "ytijaglinajfplaagreatdoor", sum := "19d880f6e793d3ba7cd94ac60b6bbd369ca5895b1702de49695c0a94b84ccc15", func := "replevin/replevinlaw39.OutputSends", spec := "outputSends", unfollowed := true, recurses := true, named := ["replevin/object.usages"], plainKeys := false, apart := false, laid := [("replevin/object.usages", laid_replevin_object_usages)], narrowed := true }
def OutputSendsUptoSaid : Prop := outputSendsUptoRow.holds Tryz.pinned (OpenSpec.upto outputSendsSpec)

/-- 'replevinlaw39.OutputWaiting', WHERE WHAT IT READS IS OF BULK AT MOST 1048576: true; the input reads as it did. -/
def outputWaitingUptoRow : OpenClaim := { program := "ytijaglinajfplaagreatdoor", sum := "19d880f6e793d3ba7cd94ac60b6bbd369ca5895b1702de49695c0a94b84ccc15", func := "replevin/replevinlaw39.OutputWaiting", spec := "outputWaiting", unfollowed := true, recurses := true, named := ["replevin/object.usages"], plainKeys := false, apart := false, laid := [("replevin/object.usages", laid_replevin_object_usages)], narrowed := true }
def OutputWaitingUptoSaid : Prop := outputWaitingUptoRow.holds Tryz.pinned (OpenSpec.upto outputWaitingSpec)

/-- 'replevinlaw39.OutputDecodes', WHERE WHAT IT READS IS OF BULK AT MOST 1048576: true; the input reads as it did. -/
def outputDecodesUptoRow : OpenClaim := { program := "ytijaglinajfplaagreatdoor", sum := "19d880f6e793d3ba7cd94ac60b6bbd369ca5895b1702de49695c0a94b84ccc15", func := "replevin/replevinlaw39.OutputDecodes", spec := "outputDecodes", unfollowed := true, recurses := true, named := ["replevin/object.usages"], plainKeys := false, apart := false, laid := [("replevin/object.usages", laid_replevin_object_usages)], narrowed := true }
def OutputDecodesUptoSaid : Prop := outputDecodesUptoRow.holds Tryz.pinned (OpenSpec.upto outputDecodesSpec)

/-- 'replevinlaw39.OutputEncodes', WHERE WHAT IT READS IS OF BULK AT MOST 1048576: true; the input reads as it did. -/
def outputEncodesUptoRow : OpenClaim := { program := "ytijaglinajfplaagreatdoor", sum := "19d880f6e793d3ba7cd94ac60b6bbd369ca5895b1702de49695c0a94b84ccc15", func := "replevin/replevinlaw39.OutputEncodes", spec := "outputEncodes", unfollowed := true, recurses := true, named := ["replevin/object.usages"], plainKeys := false, apart := false, laid := [("replevin/object.usages", laid_replevin_object_usages)], narrowed := true }
def OutputEncodesUptoSaid : Prop := outputEncodesUptoRow.holds Tryz.pinned (OpenSpec.upto outputEncodesSpec)

/-- 'replevinlaw39.OutputNil', WHERE WHAT IT READS IS OF BULK AT MOST 1048576: true; the input reads as it did. -/
def outputNilUptoRow : OpenClaim := { program := "ytijaglinajfplaagreatdoor", sum := "19d880f6e793d3ba7cd94ac60b6bbd369ca5895b1702de49695c0a94b84ccc15", func := "replevin/replevinlaw39.OutputNil", spec := "outputNil", unfollowed := true, recurses := true, named := ["replevin/object.usages"], plainKeys := false, apart := false, laid := [("replevin/object.usages", laid_replevin_object_usages)], narrowed := true }
def OutputNilUptoSaid : Prop := outputNilUptoRow.holds Tryz.pinned (OpenSpec.upto outputNilSpec)

end Rows
end Go.Proofs.YtijaglinajfplaaGreatDoor
