/-
  NARROWER THAN 'FOR EVERY INPUT', by the rows' own cells (each row's printed sentence says how): ProcessBoots: laid · ProcessMemories: laid · ProcessFrame: laid · ProcessOperations: laid · ProcessTouches: laid · ProcessExecutes: laid.
  DERIVED. THE GIVEN ROWS OF THIS SEAT. 6 by the template 'for every input the law returns true; each argument reads behind the call as it read before'; 0 by the template 'total and deterministic' (their statements: YtbbdafjdbhpbmaaGreatDoorTotals.lean).
  GIVEN WITH THE SEED: the statements are not yours to turn. If you find one false, say at which input.
  Laid BY PROGRAM, IN A SANDBOX (cutbox-rows.mjs): the forced cells as the released guide's own fill.sh prints them over the translation e815a5306934d203… (all of the seat's roots in one cut). By AI agents, Wed Nov 11 2026. No macro, syntax, notation, axiom, sorry.
-/
import Derived.Test.YtbbdafjdbhpbmaaGreatDoorChecked
import GoSem.Claim
import GoSem.ClaimJoined
import GoSem.ClaimMapViews
import Derived.JoinedTies
import Derived.KernelRfl
namespace Go.Proofs.YtbbdafjdbhpbmaaGreatDoor
/- THE CELL 'sum', in the pinned program and in every row, IS THE sha256 OF THE DUMP (.gsa) THAT YtbbdafjdbhpbmaaGreatDoorProg.lean LOADS. Nothing in Lean hashes anything: it is a label: what it is worth is what the hold of that sum in a sandbox is worth. -/
noncomputable def Tryz.pinned : Pinned := { name := "ytbbdafjdbhpbmaagreatdoor", sum := "e815a5306934d203858ab488cd1d3fc1079d72c421f570c9fb73741585210582", checked := Tryz.checked }
namespace Rows
def none {H : Type} : Left H := { results := [], args := [] }

/- WHAT THE LISTED PACKAGE-LEVEL VARIABLES READ AS WHEN THE CALL BEGINS. Each datum BY PROGRAM (the guide's laid-datum.mjs) off the statement by which the dump's own 'gosem.cut.vars' lays the variable. In a bare row this is a premise. The card (YtbbdafjdbhpbmaaGreatDoorCards.lean) ties it to the program's text. -/
def laid_math_bits_deBruijn32tab {H : Type} : DataW H := .agg [.lit (.int .u8 0), .lit (.int .u8 1), .lit (.int .u8 28), .lit (.int .u8 2), .lit (.int .u8 29), .lit (.int .u8 14), .lit (.int .u8 24), .lit (.int .u8 3), .lit (.int .u8 30), .lit (.int .u8 22), .lit (.int .u8 20), .lit (.int .u8 15), .lit (.int .u8 25), .lit (.int .u8 17), .lit (.int .u8 4), .lit (.int .u8 8), .lit (.int .u8 31), .lit (.int .u8 27), .lit (.int .u8 13), .lit (.int .u8 23), .lit (.int .u8 21), .lit (.int .u8 19), .lit (.int .u8 16), .lit (.int .u8 7), .lit (.int .u8 26), .lit (.int .u8 12), .lit (.int .u8 18), .lit (.int .u8 6), .lit (.int .u8 11), .lit (.int .u8 5), .lit (.int .u8 10), .lit (.int .u8 9)]
def laid_math_bits_deBruijn64tab {H : Type} : DataW H := .agg [.lit (.int .u8 0), .lit (.int .u8 1), .lit (.int .u8 56), .lit (.int .u8 2), .lit (.int .u8 57), .lit (.int .u8 49), .lit (.int .u8 28), .lit (.int .u8 3), .lit (.int .u8 61), .lit (.int .u8 58), .lit (.int .u8 42), .lit (.int .u8 50), .lit (.int .u8 38), .lit (.int .u8 29), .lit (.int .u8 17), .lit (.int .u8 4), .lit (.int .u8 62), .lit (.int .u8 47), .lit (.int .u8 59), .lit (.int .u8 36), .lit (.int .u8 45), .lit (.int .u8 43), .lit (.int .u8 51), .lit (.int .u8 22), .lit (.int .u8 53), .lit (.int .u8 39), .lit (.int .u8 33), .lit (.int .u8 30), .lit (.int .u8 24), .lit (.int .u8 18), .lit (.int .u8 12), .lit (.int .u8 5), .lit (.int .u8 63), .lit (.int .u8 55), .lit (.int .u8 48), .lit (.int .u8 27), .lit (.int .u8 60), .lit (.int .u8 41), .lit (.int .u8 37), .lit (.int .u8 16), .lit (.int .u8 46), .lit (.int .u8 35), .lit (.int .u8 44), .lit (.int .u8 21), .lit (.int .u8 52), .lit (.int .u8 32), .lit (.int .u8 23), .lit (.int .u8 11), .lit (.int .u8 54), .lit (.int .u8 26), .lit (.int .u8 40), .lit (.int .u8 15), .lit (.int .u8 34), .lit (.int .u8 20), .lit (.int .u8 31), .lit (.int .u8 10), .lit (.int .u8 25), .lit (.int .u8 14), .lit (.int .u8 19), .lit (.int .u8 9), .lit (.int .u8 13), .lit (.int .u8 8), .lit (.int .u8 7), .lit (.int .u8 6)]
def laid_internal_strconv_uint64pow10 {H : Type} : DataW H := .agg [.lit (.int .u64 1), .lit (.int .u64 10), .lit (.int .u64 100), .lit (.int .u64 1000), .lit (.int .u64 10000), .lit (.int .u64 100000), .lit (.int .u64 1000000), .lit (.int .u64 10000000), .lit (.int .u64 100000000), .lit (.int .u64 1000000000), .lit (.int .u64 10000000000), .lit (.int .u64 100000000000), .lit (.int .u64 1000000000000), .lit (.int .u64 10000000000000), .lit (.int .u64 100000000000000), .lit (.int .u64 1000000000000000), .lit (.int .u64 10000000000000000), .lit (.int .u64 100000000000000000), .lit (.int .u64 1000000000000000000), .lit (.int .u64 10000000000000000000)]
def laid_replevin_object_usages {H : Type} : DataW H := .agg [.agg [.lit (.string []), .lit (.bool false), .lit (.bool false), .lit (.bool false), .lit (.bool false), .lit (.int .i64 0)], .agg [.lit (.string [112, 114, 111, 99, 101, 115, 115]), .lit (.bool true), .lit (.bool false), .lit (.bool false), .lit (.bool false), .lit (.int .i64 0)], .agg [.lit (.string [114, 101, 103, 105, 115, 116, 101, 114, 115]), .lit (.bool true), .lit (.bool false), .lit (.bool false), .lit (.bool false), .lit (.int .i64 0)], .agg [.lit (.string [112, 97, 103, 101]), .lit (.bool true), .lit (.bool false), .lit (.bool true), .lit (.bool false), .lit (.int .i64 63)], .agg [.lit (.string [116, 97, 98, 108, 101]), .lit (.bool true), .lit (.bool false), .lit (.bool false), .lit (.bool false), .lit (.int .i64 0)], .agg [.lit (.string [99, 111, 117, 110, 116, 101, 114]), .lit (.bool true), .lit (.bool false), .lit (.bool false), .lit (.bool false), .lit (.int .i64 0)], .agg [.lit (.string [112, 101, 110, 100, 105, 110, 103]), .lit (.bool true), .lit (.bool false), .lit (.bool false), .lit (.bool false), .lit (.int .i64 0)], .agg [.lit (.string [110, 111, 100, 101]), .lit (.bool true), .lit (.bool true), .lit (.bool false), .lit (.bool false), .lit (.int .i64 0)], .agg [.lit (.string [98, 108, 111, 99, 107]), .lit (.bool true), .lit (.bool true), .lit (.bool true), .lit (.bool false), .lit (.int .i64 63)], .agg [.lit (.string [101, 110, 116, 114, 121]), .lit (.bool true), .lit (.bool true), .lit (.bool false), .lit (.bool true), .lit (.int .i64 0)], .agg [.lit (.string [108, 105, 115, 116, 105, 110, 103]), .lit (.bool true), .lit (.bool true), .lit (.bool false), .lit (.bool false), .lit (.int .i64 0)], .agg [.lit (.string [112, 105, 112, 101]), .lit (.bool true), .lit (.bool true), .lit (.bool false), .lit (.bool false), .lit (.int .i64 0)], .agg [.lit (.string [108, 111, 99, 107]), .lit (.bool true), .lit (.bool true), .lit (.bool false), .lit (.bool false), .lit (.int .i64 0)], .agg [.lit (.string [116, 101, 114, 109, 105, 110, 97, 108]), .lit (.bool false), .lit (.bool true), .lit (.bool false), .lit (.bool false), .lit (.int .i64 0)], .agg [.lit (.string [97, 99, 99, 111, 117, 110, 116]), .lit (.bool false), .lit (.bool false), .lit (.bool false), .lit (.bool true), .lit (.int .i64 0)], .agg [.lit (.string [99, 108, 111, 99, 107]), .lit (.bool false), .lit (.bool false), .lit (.bool false), .lit (.bool false), .lit (.int .i64 0)], .agg [.lit (.string [112, 111, 114, 116]), .lit (.bool false), .lit (.bool true), .lit (.bool false), .lit (.bool false), .lit (.int .i64 0)], .agg [.lit (.string [98, 111, 120]), .lit (.bool false), .lit (.bool false), .lit (.bool false), .lit (.bool true), .lit (.int .i64 0)], .agg [.lit (.string [111, 117, 116]), .lit (.bool true), .lit (.bool true), .lit (.bool true), .lit (.bool false), .lit (.int .i64 1073741824)], .agg [.lit (.string [115, 104, 101, 108, 108]), .lit (.bool true), .lit (.bool false), .lit (.bool false), .lit (.bool false), .lit (.int .i64 0)], .agg [.lit (.string [101, 112, 111, 99, 104]), .lit (.bool false), .lit (.bool false), .lit (.bool false), .lit (.bool false), .lit (.int .i64 0)]]
def laid_replevin_instr_operations {H : Type} : DataW H := .agg [.agg [.lit (.string [104, 97, 108, 116]), .lit (.int .i64 0), .lit (.int .i64 0), .lit (.int .i64 0), .lit (.bool false), .lit (.bool false)], .agg [.lit (.string [109, 111, 118, 101]), .lit (.int .i64 2), .lit (.int .i64 0), .lit (.int .i64 0), .lit (.bool false), .lit (.bool true)], .agg [.lit (.string [115, 101, 116]), .lit (.int .i64 4), .lit (.int .i64 (-32768)), .lit (.int .i64 32767), .lit (.bool false), .lit (.bool true)], .agg [.lit (.string [104, 105, 103, 104]), .lit (.int .i64 4), .lit (.int .i64 0), .lit (.int .i64 65535), .lit (.bool true), .lit (.bool true)], .agg [.lit (.string [97, 100, 100]), .lit (.int .i64 3), .lit (.int .i64 0), .lit (.int .i64 0), .lit (.bool false), .lit (.bool true)], .agg [.lit (.string [115, 117, 98]), .lit (.int .i64 3), .lit (.int .i64 0), .lit (.int .i64 0), .lit (.bool false), .lit (.bool true)], .agg [.lit (.string [109, 117, 108]), .lit (.int .i64 3), .lit (.int .i64 0), .lit (.int .i64 0), .lit (.bool false), .lit (.bool true)], .agg [.lit (.string [100, 105, 118]), .lit (.int .i64 3), .lit (.int .i64 0), .lit (.int .i64 0), .lit (.bool false), .lit (.bool true)], .agg [.lit (.string [109, 111, 100]), .lit (.int .i64 3), .lit (.int .i64 0), .lit (.int .i64 0), .lit (.bool false), .lit (.bool true)], .agg [.lit (.string [97, 110, 100]), .lit (.int .i64 3), .lit (.int .i64 0), .lit (.int .i64 0), .lit (.bool false), .lit (.bool true)], .agg [.lit (.string [111, 114]), .lit (.int .i64 3), .lit (.int .i64 0), .lit (.int .i64 0), .lit (.bool false), .lit (.bool true)], .agg [.lit (.string [120, 111, 114]), .lit (.int .i64 3), .lit (.int .i64 0), .lit (.int .i64 0), .lit (.bool false), .lit (.bool true)], .agg [.lit (.string [115, 104, 108]), .lit (.int .i64 3), .lit (.int .i64 0), .lit (.int .i64 0), .lit (.bool false), .lit (.bool true)], .agg [.lit (.string [115, 104, 114]), .lit (.int .i64 3), .lit (.int .i64 0), .lit (.int .i64 0), .lit (.bool false), .lit (.bool true)], .agg [.lit (.string [108, 101, 115, 115]), .lit (.int .i64 3), .lit (.int .i64 0), .lit (.int .i64 0), .lit (.bool false), .lit (.bool true)], .agg [.lit (.string [101, 113, 117, 97, 108]), .lit (.int .i64 3), .lit (.int .i64 0), .lit (.int .i64 0), .lit (.bool false), .lit (.bool true)], .agg [.lit (.string [97, 100, 100, 105]), .lit (.int .i64 5), .lit (.int .i64 (-32768)), .lit (.int .i64 32767), .lit (.bool false), .lit (.bool true)], .agg [.lit (.string [108, 111, 97, 100]), .lit (.int .i64 5), .lit (.int .i64 (-32768)), .lit (.int .i64 32767), .lit (.bool false), .lit (.bool true)], .agg [.lit (.string [115, 116, 111, 114, 101]), .lit (.int .i64 5), .lit (.int .i64 (-32768)), .lit (.int .i64 32767), .lit (.bool true), .lit (.bool false)], .agg [.lit (.string [108, 111, 97, 100, 98]), .lit (.int .i64 5), .lit (.int .i64 (-32768)), .lit (.int .i64 32767), .lit (.bool false), .lit (.bool true)], .agg [.lit (.string [115, 116, 111, 114, 101, 98]), .lit (.int .i64 5), .lit (.int .i64 (-32768)), .lit (.int .i64 32767), .lit (.bool true), .lit (.bool false)], .agg [.lit (.string [106, 117, 109, 112]), .lit (.int .i64 6), .lit (.int .i64 0), .lit (.int .i64 4095), .lit (.bool false), .lit (.bool false)], .agg [.lit (.string [106, 117, 109, 112, 122]), .lit (.int .i64 4), .lit (.int .i64 0), .lit (.int .i64 4095), .lit (.bool true), .lit (.bool false)], .agg [.lit (.string [106, 117, 109, 112, 110, 122]), .lit (.int .i64 4), .lit (.int .i64 0), .lit (.int .i64 4095), .lit (.bool true), .lit (.bool false)], .agg [.lit (.string [99, 97, 108, 108]), .lit (.int .i64 4), .lit (.int .i64 0), .lit (.int .i64 4095), .lit (.bool false), .lit (.bool true)], .agg [.lit (.string [98, 97, 99, 107]), .lit (.int .i64 1), .lit (.int .i64 0), .lit (.int .i64 0), .lit (.bool true), .lit (.bool false)], .agg [.lit (.string [116, 114, 97, 112]), .lit (.int .i64 6), .lit (.int .i64 0), .lit (.int .i64 255), .lit (.bool false), .lit (.bool false)]]

/-- 'replevinlaw35.ProcessBoots': WHATEVER THE INPUT: true; the input reads as it did. -/
def processBootsSpec : ChangeSpec := { name := "processBoots", fn := fun _ => fun
  | [d] => { results := [.lit (.bool true)], args := [d] }
  | _ => none }
def processBootsRow : OpenClaim := { program := "ytbbdafjdbhpbmaagreatdoor", sum := "e815a5306934d203858ab488cd1d3fc1079d72c421f570c9fb73741585210582", func := "replevin/replevinlaw35.ProcessBoots", spec := "processBoots", inPlace := ["internal/abi.NoEscape", "internal/bytealg.MakeNoZero"], unfollowed := true, recurses := true, named := ["replevin/object.usages", "internal/strconv.uint64pow10", "math/bits.deBruijn32tab", "math/bits.deBruijn64tab"], plainKeys := false, apart := false, laid := [("math/bits.deBruijn32tab", laid_math_bits_deBruijn32tab), ("math/bits.deBruijn64tab", laid_math_bits_deBruijn64tab), ("internal/strconv.uint64pow10", laid_internal_strconv_uint64pow10), ("replevin/object.usages", laid_replevin_object_usages)] }
def ProcessBootsSaid : Prop := processBootsRow.holds Tryz.pinned (OpenSpec.ofChange processBootsSpec)

/-- ITS FALSE NEIGHBOUR: 'it returns false'. Refute it at one input. -/
def processBootsWrong : ChangeSpec := { name := "processBoots", fn := fun _ => fun
  | [d] => { results := [.lit (.bool false)], args := [d] }
  | _ => none }
def ProcessBootsWrongFalsely : Prop := processBootsRow.holds Tryz.pinned (OpenSpec.ofChange processBootsWrong)

/-- 'replevinlaw35.ProcessMemories': WHATEVER THE INPUT: true; the input reads as it did. -/
def processMemoriesSpec : ChangeSpec := { name := "processMemories", fn := fun _ => fun
  | [d] => { results := [.lit (.bool true)], args := [d] }
  | _ => none }
def processMemoriesRow : OpenClaim := { program := "ytbbdafjdbhpbmaagreatdoor", sum := "e815a5306934d203858ab488cd1d3fc1079d72c421f570c9fb73741585210582", func := "replevin/replevinlaw35.ProcessMemories", spec := "processMemories", inPlace := ["internal/abi.NoEscape", "internal/bytealg.MakeNoZero"], unfollowed := true, recurses := true, named := ["replevin/object.usages", "internal/strconv.uint64pow10", "math/bits.deBruijn32tab", "math/bits.deBruijn64tab"], plainKeys := false, apart := false, laid := [("math/bits.deBruijn32tab", laid_math_bits_deBruijn32tab), ("math/bits.deBruijn64tab", laid_math_bits_deBruijn64tab), ("internal/strconv.uint64pow10", laid_internal_strconv_uint64pow10), ("replevin/object.usages", laid_replevin_object_usages)] }
def ProcessMemoriesSaid : Prop := processMemoriesRow.holds Tryz.pinned (OpenSpec.ofChange processMemoriesSpec)

/-- ITS FALSE NEIGHBOUR: 'it returns false'. Refute it at one input. -/
def processMemoriesWrong : ChangeSpec := { name := "processMemories", fn := fun _ => fun
  | [d] => { results := [.lit (.bool false)], args := [d] }
  | _ => none }
def ProcessMemoriesWrongFalsely : Prop := processMemoriesRow.holds Tryz.pinned (OpenSpec.ofChange processMemoriesWrong)

/-- 'replevinlaw35.ProcessFrame': WHATEVER THE INPUT: true; the input reads as it did. -/
def processFrameSpec : ChangeSpec := { name := "processFrame", fn := fun _ => fun
  | [d1, d2] => { results := [.lit (.bool true)], args := [d1, d2] }
  | _ => none }
def processFrameRow : OpenClaim := { program := "ytbbdafjdbhpbmaagreatdoor", sum := "e815a5306934d203858ab488cd1d3fc1079d72c421f570c9fb73741585210582", func := "replevin/replevinlaw35.ProcessFrame", spec := "processFrame", inPlace := ["internal/abi.NoEscape", "internal/bytealg.MakeNoZero"], unfollowed := true, recurses := true, named := ["replevin/object.usages", "internal/strconv.uint64pow10", "math/bits.deBruijn32tab", "math/bits.deBruijn64tab"], plainKeys := false, apart := false, laid := [("math/bits.deBruijn32tab", laid_math_bits_deBruijn32tab), ("math/bits.deBruijn64tab", laid_math_bits_deBruijn64tab), ("internal/strconv.uint64pow10", laid_internal_strconv_uint64pow10), ("replevin/object.usages", laid_replevin_object_usages)] }
def ProcessFrameSaid : Prop := processFrameRow.holds Tryz.pinned (OpenSpec.ofChange processFrameSpec)

/-- ITS FALSE NEIGHBOUR: 'it returns false'. Refute it at one input. -/
def processFrameWrong : ChangeSpec := { name := "processFrame", fn := fun _ => fun
  | [d1, d2] => { results := [.lit (.bool false)], args := [d1, d2] }
  | _ => none }
def ProcessFrameWrongFalsely : Prop := processFrameRow.holds Tryz.pinned (OpenSpec.ofChange processFrameWrong)

/-- 'replevinlaw35.ProcessOperations': WHATEVER THE INPUT: true; the input reads as it did. -/
def processOperationsSpec : ChangeSpec := { name := "processOperations", fn := fun _ => fun
  | [d] => { results := [.lit (.bool true)], args := [d] }
  | _ => none }
def processOperationsRow : OpenClaim := { program := "ytbbdafjdbhpbmaagreatdoor", sum := "e815a5306934d203858ab488cd1d3fc1079d72c421f570c9fb73741585210582", func := "replevin/replevinlaw35.ProcessOperations", spec := "processOperations", inPlace := ["internal/abi.NoEscape", "internal/bytealg.MakeNoZero"], unfollowed := true, recurses := true, named := ["replevin/object.usages", "internal/strconv.uint64pow10", "math/bits.deBruijn32tab", "math/bits.deBruijn64tab"], plainKeys := false, apart := false, laid := [("math/bits.deBruijn32tab", laid_math_bits_deBruijn32tab), ("math/bits.deBruijn64tab", laid_math_bits_deBruijn64tab), ("internal/strconv.uint64pow10", laid_internal_strconv_uint64pow10), ("replevin/object.usages", laid_replevin_object_usages)] }
def ProcessOperationsSaid : Prop := processOperationsRow.holds Tryz.pinned (OpenSpec.ofChange processOperationsSpec)

/-- ITS FALSE NEIGHBOUR: 'it returns false'. Refute it at one input. -/
def processOperationsWrong : ChangeSpec := { name := "processOperations", fn := fun _ => fun
  | [d] => { results := [.lit (.bool false)], args := [d] }
  | _ => none }
def ProcessOperationsWrongFalsely : Prop := processOperationsRow.holds Tryz.pinned (OpenSpec.ofChange processOperationsWrong)

/-- 'replevinlaw35.ProcessTouches': WHATEVER THE INPUT: true; the input reads as it did. -/
def processTouchesSpec : ChangeSpec := { name := "processTouches", fn := fun _ => fun
  | [d1, d2] => { results := [.lit (.bool true)], args := [d1, d2] }
  | _ => none }
def processTouchesRow : OpenClaim := { program := "ytbbdafjdbhpbmaagreatdoor", sum := "e815a5306934d203858ab488cd1d3fc1079d72c421f570c9fb73741585210582", func := "replevin/replevinlaw35.ProcessTouches", spec := "processTouches", inPlace := ["internal/abi.NoEscape", "internal/bytealg.MakeNoZero"], unfollowed := true, recurses := true, named := ["replevin/object.usages", "internal/strconv.uint64pow10", "math/bits.deBruijn32tab", "math/bits.deBruijn64tab"], plainKeys := false, apart := false, laid := [("math/bits.deBruijn32tab", laid_math_bits_deBruijn32tab), ("math/bits.deBruijn64tab", laid_math_bits_deBruijn64tab), ("internal/strconv.uint64pow10", laid_internal_strconv_uint64pow10), ("replevin/object.usages", laid_replevin_object_usages)] }
def ProcessTouchesSaid : Prop := processTouchesRow.holds Tryz.pinned (OpenSpec.ofChange processTouchesSpec)

/-- ITS FALSE NEIGHBOUR: 'it returns false'. Refute it at one input. -/
def processTouchesWrong : ChangeSpec := { name := "processTouches", fn := fun _ => fun
  | [d1, d2] => { results := [.lit (.bool false)], args := [d1, d2] }
  | _ => none }
def ProcessTouchesWrongFalsely : Prop := processTouchesRow.holds Tryz.pinned (OpenSpec.ofChange processTouchesWrong)

/-- 'replevinlaw35.ProcessExecutes': WHATEVER THE INPUT: true; the input reads as it did. -/
def processExecutesSpec : ChangeSpec := { name := "processExecutes", fn := fun _ => fun
  | [d1, d2] => { results := [.lit (.bool true)], args := [d1, d2] }
  | _ => none }
def processExecutesRow : OpenClaim := { program := "ytbbdafjdbhpbmaagreatdoor", sum := "e815a5306934d203858ab488cd1d3fc1079d72c421f570c9fb73741585210582", func := "replevin/replevinlaw35.ProcessExecutes", spec := "processExecutes", inPlace := ["internal/abi.NoEscape", "internal/bytealg.MakeNoZero"], unfollowed := true, recurses := true, named := ["replevin/object.usages", "internal/strconv.uint64pow10", "math/bits.deBruijn32tab", "math/bits.deBruijn64tab", "replevin/instr.operations"], plainKeys := false, apart := false, laid := [("math/bits.deBruijn32tab", laid_math_bits_deBruijn32tab), ("math/bits.deBruijn64tab", laid_math_bits_deBruijn64tab), ("internal/strconv.uint64pow10", laid_internal_strconv_uint64pow10), ("replevin/instr.operations", laid_replevin_instr_operations), ("replevin/object.usages", laid_replevin_object_usages)] }
def ProcessExecutesSaid : Prop := processExecutesRow.holds Tryz.pinned (OpenSpec.ofChange processExecutesSpec)

/-- ITS FALSE NEIGHBOUR: 'it returns false'. Refute it at one input. -/
def processExecutesWrong : ChangeSpec := { name := "processExecutes", fn := fun _ => fun
  | [d1, d2] => { results := [.lit (.bool false)], args := [d1, d2] }
  | _ => none }
def ProcessExecutesWrongFalsely : Prop := processExecutesRow.holds Tryz.pinned (OpenSpec.ofChange processExecutesWrong)

/- THE SECOND FORM. 'bulk': how many values and letters a reading holds, each counted each time it is reached (what is shared counts as often as it is met; a slice's spare places count too). A statement '..UptoSaid' is the law's where the arguments, and the package variables that the reading takes, are together of bulk at most 1048576: NARROWER than '..Said'. Prove '..Said' where nothing that the law and all that it calls make is longer than what came in: it says more and counts as full. Else prove '..UptoSaid'. A law counts once. -/
mutual
def uptoBulk {H : Type} : DataW H → Nat
  | .lit (.string bytes) => bytes.length + 1
  | .lit _ => 1
  | .nil => 1
  | .ptr d => uptoBulk d + 1
  | .slice elems spare => uptoBulkAll elems + uptoBulkAll spare + 1
  | .agg parts => uptoBulkAll parts + 1
  | .iface _ d => uptoBulk d + 1
  | .map entries => uptoBulkEntries entries + 1
  | .held _ => 1
def uptoBulkAll {H : Type} : List (DataW H) → Nat
  | [] => 0
  | d :: r => uptoBulk d + uptoBulkAll r
def uptoBulkEntries {H : Type} : List (Lit × DataW H) → Nat
  | [] => 0
  | x :: r => uptoBulkEntry x + uptoBulkEntries r
def uptoBulkEntry {H : Type} : Lit × DataW H → Nat
  | (.string bytes, d) => bytes.length + uptoBulk d + 1
  | (_, d) => uptoBulk d + 1
 end
def uptoSmall : (H : Type) → List (DataW H) → Bool := fun _ ds => decide (uptoBulkAll ds ≤ 1048576)
def OpenSpec.upto (s : _root_.Go.ChangeSpec) : _root_.Go.OpenSpec := { _root_.Go.OpenSpec.ofChange s with cond := some uptoSmall }

/-- 'replevinlaw35.ProcessBoots', WHERE WHAT IT READS IS OF BULK AT MOST 1048576: true; the input reads as it did. -/
def processBootsUptoRow : OpenClaim := { program := "ytbbdafjdbhpbmaagreatdoor", sum := "e815a5306934d203858ab488cd1d3fc1079d72c421f570c9fb73741585210582", func := "replevin/replevinlaw35.ProcessBoots", spec := "processBoots", inPlace := ["internal/abi.NoEscape", "internal/bytealg.MakeNoZero"], unfollowed := true, recurses := true, named := ["replevin/object.usages", "internal/strconv.uint64pow10", "math/bits.deBruijn32tab", "math/bits.deBruijn64tab"], plainKeys := false, apart := false, laid := [("math/bits.deBruijn32tab", laid_math_bits_deBruijn32tab), ("math/bits.deBruijn64tab", laid_math_bits_deBruijn64tab), ("internal/strconv.uint64pow10", laid_internal_strconv_uint64pow10), ("replevin/object.usages", laid_replevin_object_usages)], narrowed := true }
def ProcessBootsUptoSaid : Prop := processBootsUptoRow.holds Tryz.pinned (OpenSpec.upto processBootsSpec)

/-- 'replevinlaw35.ProcessMemories', WHERE WHAT IT READS IS OF BULK AT MOST 1048576: true; the input reads as it did. -/
def processMemoriesUptoRow : OpenClaim := { program := "ytbbdafjdbhpbmaagreatdoor", sum := "e815a5306934d203858ab488cd1d3fc1079d72c421f570c9fb73741585210582", func := "replevin/replevinlaw35.ProcessMemories", spec := "processMemories", inPlace := ["internal/abi.NoEscape", "internal/bytealg.MakeNoZero"], unfollowed := true, recurses := true, named := ["replevin/object.usages", "internal/strconv.uint64pow10", "math/bits.deBruijn32tab", "math/bits.deBruijn64tab"], plainKeys := false, apart := false, laid := [("math/bits.deBruijn32tab", laid_math_bits_deBruijn32tab), ("math/bits.deBruijn64tab", laid_math_bits_deBruijn64tab), ("internal/strconv.uint64pow10", laid_internal_strconv_uint64pow10), ("replevin/object.usages", laid_replevin_object_usages)], narrowed := true }
def ProcessMemoriesUptoSaid : Prop := processMemoriesUptoRow.holds Tryz.pinned (OpenSpec.upto processMemoriesSpec)

/-- 'replevinlaw35.ProcessFrame', WHERE WHAT IT READS IS OF BULK AT MOST 1048576: true; the input reads as it did. -/
def processFrameUptoRow : OpenClaim := { program := "ytbbdafjdbhpbmaagreatdoor", sum := "e815a5306934d203858ab488cd1d3fc1079d72c421f570c9fb73741585210582", func := "replevin/replevinlaw35.ProcessFrame", spec := "processFrame", inPlace := ["internal/abi.NoEscape", "internal/bytealg.MakeNoZero"], unfollowed := true, recurses := true, named := ["replevin/object.usages", "internal/strconv.uint64pow10", "math/bits.deBruijn32tab", "math/bits.deBruijn64tab"], plainKeys := false, apart := false, laid := [("math/bits.deBruijn32tab", laid_math_bits_deBruijn32tab), ("math/bits.deBruijn64tab", laid_math_bits_deBruijn64tab), ("internal/strconv.uint64pow10", laid_internal_strconv_uint64pow10), ("replevin/object.usages", laid_replevin_object_usages)], narrowed := true }
def ProcessFrameUptoSaid : Prop := processFrameUptoRow.holds Tryz.pinned (OpenSpec.upto processFrameSpec)

/-- 'replevinlaw35.ProcessOperations', WHERE WHAT IT READS IS OF BULK AT MOST 1048576: true; the input reads as it did. -/
def processOperationsUptoRow : OpenClaim := { program := "ytbbdafjdbhpbmaagreatdoor", sum := "e815a5306934d203858ab488cd1d3fc1079d72c421f570c9fb73741585210582", func := "replevin/replevinlaw35.ProcessOperations", spec := "processOperations", inPlace := ["internal/abi.NoEscape", "internal/bytealg.MakeNoZero"], unfollowed := true, recurses := true, named := ["replevin/object.usages", "internal/strconv.uint64pow10", "math/bits.deBruijn32tab", "math/bits.deBruijn64tab"], plainKeys := false, apart := false, laid := [("math/bits.deBruijn32tab", laid_math_bits_deBruijn32tab), ("math/bits.deBruijn64tab", laid_math_bits_deBruijn64tab), ("internal/strconv.uint64pow10", laid_internal_strconv_uint64pow10), ("replevin/object.usages", laid_replevin_object_usages)], narrowed := true }
def ProcessOperationsUptoSaid : Prop := processOperationsUptoRow.holds Tryz.pinned (OpenSpec.upto processOperationsSpec)

/-- 'replevinlaw35.ProcessTouches', WHERE WHAT IT READS IS OF BULK AT MOST 1048576: true; the input reads as it did. -/
def processTouchesUptoRow : OpenClaim := { program := "ytbbdafjdbhpbmaagreatdoor", sum := "e815a5306934d203858ab488cd1d3fc1079d72c421f570c9fb73741585210582", func := "replevin/replevinlaw35.ProcessTouches", spec := "processTouches", inPlace := ["internal/abi.NoEscape", "internal/bytealg.MakeNoZero"], unfollowed := true, recurses := true, named := ["replevin/object.usages", "internal/strconv.uint64pow10", "math/bits.deBruijn32tab", "math/bits.deBruijn64tab"], plainKeys := false, apart := false, laid := [("math/bits.deBruijn32tab", laid_math_bits_deBruijn32tab), ("math/bits.deBruijn64tab", laid_math_bits_deBruijn64tab), ("internal/strconv.uint64pow10", laid_internal_strconv_uint64pow10), ("replevin/object.usages", laid_replevin_object_usages)], narrowed := true }
def ProcessTouchesUptoSaid : Prop := processTouchesUptoRow.holds Tryz.pinned (OpenSpec.upto processTouchesSpec)

/-- 'replevinlaw35.ProcessExecutes', WHERE WHAT IT READS IS OF BULK AT MOST 1048576: true; the input reads as it did. -/
def processExecutesUptoRow : OpenClaim := { program := "ytbbdafjdbhpbmaagreatdoor", sum := "e815a5306934d203858ab488cd1d3fc1079d72c421f570c9fb73741585210582", func := "replevin/replevinlaw35.ProcessExecutes", spec := "processExecutes", inPlace := ["internal/abi.NoEscape", "internal/bytealg.MakeNoZero"], unfollowed := true, recurses := true, named := ["replevin/object.usages", "internal/strconv.uint64pow10", "math/bits.deBruijn32tab", "math/bits.deBruijn64tab", "replevin/instr.operations"], plainKeys := false, apart := false, laid := [("math/bits.deBruijn32tab", laid_math_bits_deBruijn32tab), ("math/bits.deBruijn64tab", laid_math_bits_deBruijn64tab), ("internal/strconv.uint64pow10", laid_internal_strconv_uint64pow10), ("replevin/instr.operations", laid_replevin_instr_operations), ("replevin/object.usages", laid_replevin_object_usages)], narrowed := true }
def ProcessExecutesUptoSaid : Prop := processExecutesUptoRow.holds Tryz.pinned (OpenSpec.upto processExecutesSpec)

end Rows
end Go.Proofs.YtbbdafjdbhpbmaaGreatDoor
