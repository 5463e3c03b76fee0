/-
  NARROWER THAN 'FOR EVERY INPUT', by the rows' own cells (each row's printed sentence says how): InodeBirths: laid · InodeCounts: laid · InodeErrors: laid · InodeParts: laid · InodeSizes: laid · ProcessChecks: laid.
  DERIVED. THE GIVEN ROWS OF THIS SEAT. 6 by the template 'for every input the law returns true; each argument reads behind the call as it read before'; 0 by the template 'total and deterministic' (their statements: YtgciahedpaencaaGreatDoorTotals.lean).
  GIVEN WITH THE SEED: the statements are not yours to turn. If you find one false, say at which input.
  Laid BY PROGRAM, IN A SANDBOX (cutbox-rows.mjs): the forced cells as the released guide's own fill.sh prints them over the translation 273e7b940bde52f8… (all of the seat's roots in one cut). By AI agents, Wed Nov 11 2026. No macro, syntax, notation, axiom, sorry.
-/
import Derived.Test.YtgciahedpaencaaGreatDoorChecked
import GoSem.Claim
import GoSem.ClaimJoined
import GoSem.ClaimMapViews
import Derived.JoinedTies
import Derived.KernelRfl
namespace Go.Proofs.YtgciahedpaencaaGreatDoor
/- THE CELL 'sum', in the pinned program and in every row, IS THE sha256 OF THE DUMP (.gsa) THAT YtgciahedpaencaaGreatDoorProg.lean LOADS. Nothing in Lean hashes anything: it is a label: what it is worth is what the hold of that sum in a sandbox is worth. -/
noncomputable def Tryz.pinned : Pinned := { name := "ytgciahedpaencaagreatdoor", sum := "273e7b940bde52f80d15872c9dd55ed19573adf3ac8727c482f7f7851c7ad1a0", checked := Tryz.checked }
namespace Rows
def none {H : Type} : Left H := { results := [], args := [] }

/- WHAT THE LISTED PACKAGE-LEVEL VARIABLES READ AS WHEN THE CALL BEGINS. Each datum BY PROGRAM (the guide's laid-datum.mjs) off the statement by which the dump's own 'gosem.cut.vars' lays the variable. In a bare row this is a premise. The card (YtgciahedpaencaaGreatDoorCards.lean) ties it to the program's text. -/
def laid_replevin_object_usages {H : Type} : DataW H := .agg [.agg [.lit (.string []), .lit (.bool false), .lit (.bool false), .lit (.bool false), .lit (.bool false), .lit (.int .i64 0)], .agg [.lit (.string [112, 114, 111, 99, 101, 115, 115]), .lit (.bool true), .lit (.bool false), .lit (.bool false), .lit (.bool false), .lit (.int .i64 0)], .agg [.lit (.string [114, 101, 103, 105, 115, 116, 101, 114, 115]), .lit (.bool true), .lit (.bool false), .lit (.bool false), .lit (.bool false), .lit (.int .i64 0)], .agg [.lit (.string [112, 97, 103, 101]), .lit (.bool true), .lit (.bool false), .lit (.bool true), .lit (.bool false), .lit (.int .i64 63)], .agg [.lit (.string [116, 97, 98, 108, 101]), .lit (.bool true), .lit (.bool false), .lit (.bool false), .lit (.bool false), .lit (.int .i64 0)], .agg [.lit (.string [99, 111, 117, 110, 116, 101, 114]), .lit (.bool true), .lit (.bool false), .lit (.bool false), .lit (.bool false), .lit (.int .i64 0)], .agg [.lit (.string [112, 101, 110, 100, 105, 110, 103]), .lit (.bool true), .lit (.bool false), .lit (.bool false), .lit (.bool false), .lit (.int .i64 0)], .agg [.lit (.string [110, 111, 100, 101]), .lit (.bool true), .lit (.bool true), .lit (.bool false), .lit (.bool false), .lit (.int .i64 0)], .agg [.lit (.string [98, 108, 111, 99, 107]), .lit (.bool true), .lit (.bool true), .lit (.bool true), .lit (.bool false), .lit (.int .i64 63)], .agg [.lit (.string [101, 110, 116, 114, 121]), .lit (.bool true), .lit (.bool true), .lit (.bool false), .lit (.bool true), .lit (.int .i64 0)], .agg [.lit (.string [108, 105, 115, 116, 105, 110, 103]), .lit (.bool true), .lit (.bool true), .lit (.bool false), .lit (.bool false), .lit (.int .i64 0)], .agg [.lit (.string [112, 105, 112, 101]), .lit (.bool true), .lit (.bool true), .lit (.bool false), .lit (.bool false), .lit (.int .i64 0)], .agg [.lit (.string [108, 111, 99, 107]), .lit (.bool true), .lit (.bool true), .lit (.bool false), .lit (.bool false), .lit (.int .i64 0)], .agg [.lit (.string [116, 101, 114, 109, 105, 110, 97, 108]), .lit (.bool false), .lit (.bool true), .lit (.bool false), .lit (.bool false), .lit (.int .i64 0)], .agg [.lit (.string [97, 99, 99, 111, 117, 110, 116]), .lit (.bool false), .lit (.bool false), .lit (.bool false), .lit (.bool true), .lit (.int .i64 0)], .agg [.lit (.string [99, 108, 111, 99, 107]), .lit (.bool false), .lit (.bool false), .lit (.bool false), .lit (.bool false), .lit (.int .i64 0)], .agg [.lit (.string [112, 111, 114, 116]), .lit (.bool false), .lit (.bool true), .lit (.bool false), .lit (.bool false), .lit (.int .i64 0)], .agg [.lit (.string [98, 111, 120]), .lit (.bool false), .lit (.bool false), .lit (.bool false), .lit (.bool true), .lit (.int .i64 0)], .agg [.lit (.string [111, 117, 116]), .lit (.bool true), .lit (.bool true), .lit (.bool true), .lit (.bool false), .lit (.int .i64 1073741824)], .agg [.lit (.string [115, 104, 101, 108, 108]), .lit (.bool true), .lit (.bool false), .lit (.bool false), .lit (.bool false), .lit (.int .i64 0)], .agg [.lit (.string [101, 112, 111, 99, 104]), .lit (.bool false), .lit (.bool false), .lit (.bool false), .lit (.bool false), .lit (.int .i64 0)]]
def laid_math_bits_deBruijn32tab {H : Type} : DataW H := .agg [.lit (.int .u8 0), .lit (.int .u8 1), .lit (.int .u8 28), .lit (.int .u8 2), .lit (.int .u8 29), .lit (.int .u8 14), .lit (.int .u8 24), .lit (.int .u8 3), .lit (.int .u8 30), .lit (.int .u8 22), .lit (.int .u8 20), .lit (.int .u8 15), .lit (.int .u8 25), .lit (.int .u8 17), .lit (.int .u8 4), .lit (.int .u8 8), .lit (.int .u8 31), .lit (.int .u8 27), .lit (.int .u8 13), .lit (.int .u8 23), .lit (.int .u8 21), .lit (.int .u8 19), .lit (.int .u8 16), .lit (.int .u8 7), .lit (.int .u8 26), .lit (.int .u8 12), .lit (.int .u8 18), .lit (.int .u8 6), .lit (.int .u8 11), .lit (.int .u8 5), .lit (.int .u8 10), .lit (.int .u8 9)]
def laid_math_bits_deBruijn64tab {H : Type} : DataW H := .agg [.lit (.int .u8 0), .lit (.int .u8 1), .lit (.int .u8 56), .lit (.int .u8 2), .lit (.int .u8 57), .lit (.int .u8 49), .lit (.int .u8 28), .lit (.int .u8 3), .lit (.int .u8 61), .lit (.int .u8 58), .lit (.int .u8 42), .lit (.int .u8 50), .lit (.int .u8 38), .lit (.int .u8 29), .lit (.int .u8 17), .lit (.int .u8 4), .lit (.int .u8 62), .lit (.int .u8 47), .lit (.int .u8 59), .lit (.int .u8 36), .lit (.int .u8 45), .lit (.int .u8 43), .lit (.int .u8 51), .lit (.int .u8 22), .lit (.int .u8 53), .lit (.int .u8 39), .lit (.int .u8 33), .lit (.int .u8 30), .lit (.int .u8 24), .lit (.int .u8 18), .lit (.int .u8 12), .lit (.int .u8 5), .lit (.int .u8 63), .lit (.int .u8 55), .lit (.int .u8 48), .lit (.int .u8 27), .lit (.int .u8 60), .lit (.int .u8 41), .lit (.int .u8 37), .lit (.int .u8 16), .lit (.int .u8 46), .lit (.int .u8 35), .lit (.int .u8 44), .lit (.int .u8 21), .lit (.int .u8 52), .lit (.int .u8 32), .lit (.int .u8 23), .lit (.int .u8 11), .lit (.int .u8 54), .lit (.int .u8 26), .lit (.int .u8 40), .lit (.int .u8 15), .lit (.int .u8 34), .lit (.int .u8 20), .lit (.int .u8 31), .lit (.int .u8 10), .lit (.int .u8 25), .lit (.int .u8 14), .lit (.int .u8 19), .lit (.int .u8 9), .lit (.int .u8 13), .lit (.int .u8 8), .lit (.int .u8 7), .lit (.int .u8 6)]
def laid_internal_strconv_uint64pow10 {H : Type} : DataW H := .agg [.lit (.int .u64 1), .lit (.int .u64 10), .lit (.int .u64 100), .lit (.int .u64 1000), .lit (.int .u64 10000), .lit (.int .u64 100000), .lit (.int .u64 1000000), .lit (.int .u64 10000000), .lit (.int .u64 100000000), .lit (.int .u64 1000000000), .lit (.int .u64 10000000000), .lit (.int .u64 100000000000), .lit (.int .u64 1000000000000), .lit (.int .u64 10000000000000), .lit (.int .u64 100000000000000), .lit (.int .u64 1000000000000000), .lit (.int .u64 10000000000000000), .lit (.int .u64 100000000000000000), .lit (.int .u64 1000000000000000000), .lit (.int .u64 10000000000000000000)]

/-- 'replevinlaw27.InodeBirths': WHATEVER THE INPUT: true; the input reads as it did. -/
def inodeBirthsSpec : ChangeSpec := { name := "inodeBirths", fn := fun _ => fun
  | [d] => { results := [.lit (.bool true)], args := [d] }
  | _ => none }
def inodeBirthsRow : OpenClaim := { program := "ytgciahedpaencaagreatdoor", sum := "273e7b940bde52f80d15872c9dd55ed19573adf3ac8727c482f7f7851c7ad1a0", func := "replevin/replevinlaw27.InodeBirths", spec := "inodeBirths", unfollowed := true, recurses := true, named := ["replevin/object.usages"], plainKeys := false, apart := false, laid := [("replevin/object.usages", laid_replevin_object_usages)] }
def InodeBirthsSaid : Prop := inodeBirthsRow.holds Tryz.pinned (OpenSpec.ofChange inodeBirthsSpec)

/-- ITS FALSE NEIGHBOUR: 'it returns false'. Refute it at one input. -/
def inodeBirthsWrong : ChangeSpec := { name := "inodeBirths", fn := fun _ => fun
  | [d] => { results := [.lit (.bool false)], args := [d] }
  | _ => none }
def InodeBirthsWrongFalsely : Prop := inodeBirthsRow.holds Tryz.pinned (OpenSpec.ofChange inodeBirthsWrong)

/-- 'replevinlaw27.InodeCounts': WHATEVER THE INPUT: true; the input reads as it did. -/
def inodeCountsSpec : ChangeSpec := { name := "inodeCounts", fn := fun _ => fun
  | [d1, d2, d3] => { results := [.lit (.bool true)], args := [d1, d2, d3] }
  | _ => none }
def inodeCountsRow : OpenClaim := { program := "ytgciahedpaencaagreatdoor", sum := "273e7b940bde52f80d15872c9dd55ed19573adf3ac8727c482f7f7851c7ad1a0", func := "replevin/replevinlaw27.InodeCounts", spec := "inodeCounts", unfollowed := true, recurses := true, named := ["replevin/object.usages"], plainKeys := false, apart := false, laid := [("replevin/object.usages", laid_replevin_object_usages)] }
def InodeCountsSaid : Prop := inodeCountsRow.holds Tryz.pinned (OpenSpec.ofChange inodeCountsSpec)

/-- ITS FALSE NEIGHBOUR: 'it returns false'. Refute it at one input. -/
def inodeCountsWrong : ChangeSpec := { name := "inodeCounts", fn := fun _ => fun
  | [d1, d2, d3] => { results := [.lit (.bool false)], args := [d1, d2, d3] }
  | _ => none }
def InodeCountsWrongFalsely : Prop := inodeCountsRow.holds Tryz.pinned (OpenSpec.ofChange inodeCountsWrong)

/-- 'replevinlaw27.InodeErrors': WHATEVER THE INPUT: true; the input reads as it did. -/
def inodeErrorsSpec : ChangeSpec := { name := "inodeErrors", fn := fun _ => fun
  | [d1, d2, d3] => { results := [.lit (.bool true)], args := [d1, d2, d3] }
  | _ => none }
def inodeErrorsRow : OpenClaim := { program := "ytgciahedpaencaagreatdoor", sum := "273e7b940bde52f80d15872c9dd55ed19573adf3ac8727c482f7f7851c7ad1a0", func := "replevin/replevinlaw27.InodeErrors", spec := "inodeErrors", inPlace := ["internal/abi.NoEscape"], unfollowed := true, recurses := true, named := ["replevin/object.usages"], plainKeys := false, apart := false, laid := [("replevin/object.usages", laid_replevin_object_usages)] }
def InodeErrorsSaid : Prop := inodeErrorsRow.holds Tryz.pinned (OpenSpec.ofChange inodeErrorsSpec)

/-- ITS FALSE NEIGHBOUR: 'it returns false'. Refute it at one input. -/
def inodeErrorsWrong : ChangeSpec := { name := "inodeErrors", fn := fun _ => fun
  | [d1, d2, d3] => { results := [.lit (.bool false)], args := [d1, d2, d3] }
  | _ => none }
def InodeErrorsWrongFalsely : Prop := inodeErrorsRow.holds Tryz.pinned (OpenSpec.ofChange inodeErrorsWrong)

/-- 'replevinlaw27.InodeParts': WHATEVER THE INPUT: true; the input reads as it did. -/
def inodePartsSpec : ChangeSpec := { name := "inodeParts", fn := fun _ => fun
  | [d1, d2, d3] => { results := [.lit (.bool true)], args := [d1, d2, d3] }
  | _ => none }
def inodePartsRow : OpenClaim := { program := "ytgciahedpaencaagreatdoor", sum := "273e7b940bde52f80d15872c9dd55ed19573adf3ac8727c482f7f7851c7ad1a0", func := "replevin/replevinlaw27.InodeParts", spec := "inodeParts", inPlace := ["internal/abi.NoEscape"], unfollowed := true, recurses := true, named := ["replevin/object.usages"], plainKeys := false, apart := false, laid := [("replevin/object.usages", laid_replevin_object_usages)] }
def InodePartsSaid : Prop := inodePartsRow.holds Tryz.pinned (OpenSpec.ofChange inodePartsSpec)

/-- ITS FALSE NEIGHBOUR: 'it returns false'. Refute it at one input. -/
def inodePartsWrong : ChangeSpec := { name := "inodeParts", fn := fun _ => fun
  | [d1, d2, d3] => { results := [.lit (.bool false)], args := [d1, d2, d3] }
  | _ => none }
def InodePartsWrongFalsely : Prop := inodePartsRow.holds Tryz.pinned (OpenSpec.ofChange inodePartsWrong)

/-- 'replevinlaw27.InodeSizes': WHATEVER THE INPUT: true; the input reads as it did. -/
def inodeSizesSpec : ChangeSpec := { name := "inodeSizes", fn := fun _ => fun
  | [d1, d2] => { results := [.lit (.bool true)], args := [d1, d2] }
  | _ => none }
def inodeSizesRow : OpenClaim := { program := "ytgciahedpaencaagreatdoor", sum := "273e7b940bde52f80d15872c9dd55ed19573adf3ac8727c482f7f7851c7ad1a0", func := "replevin/replevinlaw27.InodeSizes", spec := "inodeSizes", inPlace := ["internal/abi.NoEscape"], unfollowed := true, recurses := true, named := ["replevin/object.usages"], plainKeys := false, apart := false, laid := [("replevin/object.usages", laid_replevin_object_usages)] }
def InodeSizesSaid : Prop := inodeSizesRow.holds Tryz.pinned (OpenSpec.ofChange inodeSizesSpec)

/-- ITS FALSE NEIGHBOUR: 'it returns false'. Refute it at one input. -/
def inodeSizesWrong : ChangeSpec := { name := "inodeSizes", fn := fun _ => fun
  | [d1, d2] => { results := [.lit (.bool false)], args := [d1, d2] }
  | _ => none }
def InodeSizesWrongFalsely : Prop := inodeSizesRow.holds Tryz.pinned (OpenSpec.ofChange inodeSizesWrong)

/-- 'replevinlaw35.ProcessChecks': WHATEVER THE INPUT: true; the input reads as it did. -/
def processChecksSpec : ChangeSpec := { name := "processChecks", fn := fun _ => fun
  | [d1, d2, d3] => { results := [.lit (.bool true)], args := [d1, d2, d3] }
  | _ => none }
def processChecksRow : OpenClaim := { program := "ytgciahedpaencaagreatdoor", sum := "273e7b940bde52f80d15872c9dd55ed19573adf3ac8727c482f7f7851c7ad1a0", func := "replevin/replevinlaw35.ProcessChecks", spec := "processChecks", unfollowed := true, recurses := true, named := ["replevin/object.usages", "internal/strconv.uint64pow10", "math/bits.deBruijn32tab", "math/bits.deBruijn64tab"], plainKeys := false, apart := false, laid := [("math/bits.deBruijn32tab", laid_math_bits_deBruijn32tab), ("math/bits.deBruijn64tab", laid_math_bits_deBruijn64tab), ("internal/strconv.uint64pow10", laid_internal_strconv_uint64pow10), ("replevin/object.usages", laid_replevin_object_usages)] }
def ProcessChecksSaid : Prop := processChecksRow.holds Tryz.pinned (OpenSpec.ofChange processChecksSpec)

/-- ITS FALSE NEIGHBOUR: 'it returns false'. Refute it at one input. -/
def processChecksWrong : ChangeSpec := { name := "processChecks", fn := fun _ => fun
  | [d1, d2, d3] => { results := [.lit (.bool false)], args := [d1, d2, d3] }
  | _ => none }
def ProcessChecksWrongFalsely : Prop := processChecksRow.holds Tryz.pinned (OpenSpec.ofChange processChecksWrong)

/- THE SECOND FORM. 'bulk': how many values and letters a reading holds, each counted each time it is reached (what is shared counts as often as it is met; a slice's spare places count too). A statement '..UptoSaid' is the law's where the arguments, and the package variables that the reading takes, are together of bulk at most 1048576: NARROWER than '..Said'. Prove '..Said' where nothing that the law and all that it calls make is longer than what came in: it says more and counts as full. Else prove '..UptoSaid'. A law counts once. -/
mutual
def uptoBulk {H : Type} : DataW H → Nat
  | .lit (.string bytes) => bytes.length + 1
  | .lit _ => 1
  | .nil => 1
  | .ptr d => uptoBulk d + 1
  | .slice elems spare => uptoBulkAll elems + uptoBulkAll spare + 1
  | .agg parts => uptoBulkAll parts + 1
  | .iface _ d => uptoBulk d + 1
  | .map entries => uptoBulkEntries entries + 1
  | .held _ => 1
def uptoBulkAll {H : Type} : List (DataW H) → Nat
  | [] => 0
  | d :: r => uptoBulk d + uptoBulkAll r
def uptoBulkEntries {H : Type} : List (Lit × DataW H) → Nat
  | [] => 0
  | x :: r => uptoBulkEntry x + uptoBulkEntries r
def uptoBulkEntry {H : Type} : Lit × DataW H → Nat
  | (.string bytes, d) => bytes.length + uptoBulk d + 1
  | (_, d) => uptoBulk d + 1
 end
def uptoSmall : (H : Type) → List (DataW H) → Bool := fun _ ds => decide (uptoBulkAll ds ≤ 1048576)
def OpenSpec.upto (s : _root_.Go.ChangeSpec) : _root_.Go.OpenSpec := { _root_.Go.OpenSpec.ofChange s with cond := some uptoSmall }

/-- 'replevinlaw27.InodeBirths', WHERE WHAT IT READS IS OF BULK AT MOST 1048576: true; the input reads as it did. -/
def inodeBirthsUptoRow : OpenClaim := { program := "ytgciahedpaencaagreatdoor", sum := "273e7b940bde52f80d15872c9dd55ed19573adf3ac8727c482f7f7851c7ad1a0", func := "replevin/replevinlaw27.InodeBirths", spec := "inodeBirths", unfollowed := true, recurses := true, named := ["replevin/object.usages"], plainKeys := false, apart := false, laid := [("replevin/object.usages", laid_replevin_object_usages)], narrowed := true }
def InodeBirthsUptoSaid : Prop := inodeBirthsUptoRow.holds Tryz.pinned (OpenSpec.upto inodeBirthsSpec)

/-- 'replevinlaw27.InodeCounts', WHERE WHAT IT READS IS OF BULK AT MOST 1048576: true; the input reads as it did. -/
def inodeCountsUptoRow : OpenClaim := { program := "ytgciahedpaencaagreatdoor", sum := "273e7b940bde52f80d15872c9dd55ed19573adf3ac8727c482f7f7851c7ad1a0", func := "replevin/replevinlaw27.InodeCounts", spec := "inodeCounts", unfollowed := true, recurses := true, named := ["replevin/object.usages"], plainKeys := false, apart := false, laid := [("replevin/object.usages", laid_replevin_object_usages)], narrowed := true }
def InodeCountsUptoSaid : Prop := inodeCountsUptoRow.holds Tryz.pinned (OpenSpec.upto inodeCountsSpec)

/-- 'replevinlaw27.InodeErrors', WHERE WHAT IT READS IS OF BULK AT MOST 1048576: true; the input reads as it did. -/
def inodeErrorsUptoRow : OpenClaim := { program := "ytgciahedpaencaagreatdoor", sum := "273e7b940bde52f80d15872c9dd55ed19573adf3ac8727c482f7f7851c7ad1a0", func := "replevin/replevinlaw27.InodeErrors", spec := "inodeErrors", inPlace := ["internal/abi.NoEscape"], unfollowed := true, recurses := true, named := ["replevin/object.usages"], plainKeys := false, apart := false, laid := [("replevin/object.usages", laid_replevin_object_usages)], narrowed := true }
def InodeErrorsUptoSaid : Prop := inodeErrorsUptoRow.holds Tryz.pinned (OpenSpec.upto inodeErrorsSpec)

/-- 'replevinlaw27.InodeParts', WHERE WHAT IT READS IS OF BULK AT MOST 1048576: true; the input reads as it did. -/
def inodePartsUptoRow : OpenClaim := { program := "ytgciahedpaencaagreatdoor", sum := "273e7b940bde52f80d15872c9dd55ed19573adf3ac8727c482f7f7851c7ad1a0", func := "replevin/replevinlaw27.InodeParts", spec := "inodeParts", inPlace := ["internal/abi.NoEscape"], unfollowed := true, recurses := true, named := ["replevin/object.usages"], plainKeys := false, apart := false, laid := [("replevin/object.usages", laid_replevin_object_usages)], narrowed := true }
def InodePartsUptoSaid : Prop := inodePartsUptoRow.holds Tryz.pinned (OpenSpec.upto inodePartsSpec)

/-- 'replevinlaw27.InodeSizes', WHERE WHAT IT READS IS OF BULK AT MOST 1048576: true; the input reads as it did. -/
def inodeSizesUptoRow : OpenClaim := { program := "ytgciahedpaencaagreatdoor", sum := "273e7b940bde52f80d15872c9dd55ed19573adf3ac8727c482f7f7851c7ad1a0", func := "replevin/replevinlaw27.InodeSizes", spec := "inodeSizes", inPlace := ["internal/abi.NoEscape"], unfollowed := true, recurses := true, named := ["replevin/object.usages"], plainKeys := false, apart := false, laid := [("replevin/object.usages", laid_replevin_object_usages)], narrowed := true }
def InodeSizesUptoSaid : Prop := inodeSizesUptoRow.holds Tryz.pinned (OpenSpec.upto inodeSizesSpec)

/-- 'replevinlaw35.ProcessChecks', WHERE WHAT IT READS IS OF BULK AT MOST 1048576: true; the input reads as it did. -/
def processChecksUptoRow : OpenClaim := { program := "ytgciahedpaencaagreatdoor", sum := "273e7b940bde52f80d15872c9dd55ed19573adf3ac8727c482f7f7851c7ad1a0", func := "replevin/replevinlaw35.ProcessChecks", spec := "processChecks", unfollowed := true, recurses := true, named := ["replevin/object.usages", "internal/strconv.uint64pow10", "math/bits.deBruijn32tab", "math/bits.deBruijn64tab"], plainKeys := false, apart := false, laid := [("math/bits.deBruijn32tab", laid_math_bits_deBruijn32tab), ("math/bits.deBruijn64tab", laid_math_bits_deBruijn64tab), ("internal/strconv.uint64pow10", laid_internal_strconv_uint64pow10), ("replevin/object.usages", laid_replevin_object_usages)], narrowed := true }
def ProcessChecksUptoSaid : Prop := processChecksUptoRow.holds Tryz.pinned (OpenSpec.upto processChecksSpec)

end Rows
end Go.Proofs.YtgciahedpaencaaGreatDoor
