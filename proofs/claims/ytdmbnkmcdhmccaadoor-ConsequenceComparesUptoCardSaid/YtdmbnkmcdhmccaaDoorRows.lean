/-
  NARROWER THAN 'FOR EVERY INPUT', by the rows' own cells (each row's printed sentence says how): ConsequencePlaces: laid · ConsequenceCompares: laid · ConsequenceEquals: laid · ConsequenceNothing: laid · ConsequenceCounts: laid · ConsequenceErrors: laid.
  DERIVED. THE GIVEN ROWS OF THIS SEAT. 6 by the template 'for every input the law returns true; each argument reads behind the call as it read before'; 0 by the template 'total and deterministic' (their statements: YtdmbnkmcdhmccaaDoorTotals.lean).
  GIVEN WITH THE SEED: the statements are not yours to turn. If you find one false, say at which input.
  Laid BY PROGRAM, IN A SANDBOX (cutbox-rows.mjs): the forced cells as the released guide's own fill.sh prints them over the translation 865296ed028e3e96… (all of the seat's roots in one cut). By AI agents, Wed Nov 11 2026. No macro, syntax, notation, axiom, sorry.
-/
import Derived.Test.YtdmbnkmcdhmccaaDoorChecked
import GoSem.Claim
import GoSem.ClaimJoined
import GoSem.ClaimMapViews
import Derived.JoinedTies
import Derived.KernelRfl
namespace Go.Proofs.YtdmbnkmcdhmccaaDoor
/- THE CELL 'sum', in the pinned program and in every row, IS THE sha256 OF THE DUMP (.gsa) THAT YtdmbnkmcdhmccaaDoorProg.lean LOADS. Nothing in Lean hashes anything: it is a label: what it is worth is what the hold of that sum in a sandbox is worth. -/
noncomputable def Tryd.pinned : Pinned := { name := "ytdmbnkmcdhmccaadoor", sum := "865296ed028e3e9687015a111453def3fcd4a1c6af8fb9a4997d9babfa629c74", checked := Tryd.checked }
namespace Rows
def none {H : Type} : Left H := { results := [], args := [] }

/- WHAT THE LISTED PACKAGE-LEVEL VARIABLES READ AS WHEN THE CALL BEGINS. Each datum BY PROGRAM (the guide's laid-datum.mjs) off the statement by which the dump's own 'gosem.cut.vars' lays the variable. In a bare row this is a premise. The card (YtdmbnkmcdhmccaaDoorCards.lean) ties it to the program's text. -/
def laid_replevin_object_usages {H : Type} : DataW H := .agg [.agg [.lit (.string []), .lit (.bool false), .lit (.bool false), .lit (.bool false), .lit (.bool false), .lit (.int .i64 0)], .agg [.lit (.string [112, 114, 111, 99, 101, 115, 115]), .lit (.bool true), .lit (.bool false), .lit (.bool false), .lit (.bool false), .lit (.int .i64 0)], .agg [.lit (.string [114, 101, 103, 105, 115, 116, 101, 114, 115]), .lit (.bool true), .lit (.bool false), .lit (.bool false), .lit (.bool false), .lit (.int .i64 0)], .agg [.lit (.string [112, 97, 103, 101]), .lit (.bool true), .lit (.bool false), .lit (.bool true), .lit (.bool false), .lit (.int .i64 63)], .agg [.lit (.string [116, 97, 98, 108, 101]), .lit (.bool true), .lit (.bool false), .lit (.bool false), .lit (.bool false), .lit (.int .i64 0)], .agg [.lit (.string [99, 111, 117, 110, 116, 101, 114]), .lit (.bool true), .lit (.bool false), .lit (.bool false), .lit (.bool false), .lit (.int .i64 0)], .agg [.lit (.string [112, 101, 110, 100, 105, 110, 103]), .lit (.bool true), .lit (.bool false), .lit (.bool false), .lit (.bool false), .lit (.int .i64 0)], .agg [.lit (.string [110, 111, 100, 101]), .lit (.bool true), .lit (.bool true), .lit (.bool false), .lit (.bool false), .lit (.int .i64 0)], .agg [.lit (.string [98, 108, 111, 99, 107]), .lit (.bool true), .lit (.bool true), .lit (.bool true), .lit (.bool false), .lit (.int .i64 63)], .agg [.lit (.string [101, 110, 116, 114, 121]), .lit (.bool true), .lit (.bool true), .lit (.bool false), .lit (.bool true), .lit (.int .i64 0)], .agg [.lit (.string [108, 105, 115, 116, 105, 110, 103]), .lit (.bool true), .lit (.bool true), .lit (.bool false), .lit (.bool false), .lit (.int .i64 0)], .agg [.lit (.string [112, 105, 112, 101]), .lit (.bool true), .lit (.bool true), .lit (.bool false), .lit (.bool false), .lit (.int .i64 0)], .agg [.lit (.string [108, 111, 99, 107]), .lit (.bool true), .lit (.bool true), .lit (.bool false), .lit (.bool false), .lit (.int .i64 0)], .agg [.lit (.string [116, 101, 114, 109, 105, 110, 97, 108]), .lit (.bool false), .lit (.bool true), .lit (.bool false), .lit (.bool false), .lit (.int .i64 0)], .agg [.lit (.string [97, 99, 99, 111, 117, 110, 116]), .lit (.bool false), .lit (.bool false), .lit (.bool false), .lit (.bool true), .lit (.int .i64 0)], .agg [.lit (.string [99, 108, 111, 99, 107]), .lit (.bool false), .lit (.bool false), .lit (.bool false), .lit (.bool false), .lit (.int .i64 0)], .agg [.lit (.string [112, 111, 114, 116]), .lit (.bool false), .lit (.bool true), .lit (.bool false), .lit (.bool false), .lit (.int .i64 0)], .agg [.lit (.string [98, 111, 120]), .lit (.bool false), .lit (.bool false), .lit (.bool false), .lit (.bool true), .lit (.int .i64 0)], .agg [.lit (.string [111, 117, 116]), .lit (.bool true), .lit (.bool true), .lit (.bool true), .lit (.bool false), .lit (.int .i64 1073741824)], .agg [.lit (.string [115, 104, 101, 108, 108]), .lit (.bool true), .lit (.bool false), .lit (.bool false), .lit (.bool false), .lit (.int .i64 0)], .agg [.lit (.string [101, 112, 111, 99, 104]), .lit (.bool false), .lit (.bool false), .lit (.bool false), .lit (.bool false), .lit (.int .i64 0)]]

/-- 'replevinlaw50.ConsequencePlaces': WHATEVER THE INPUT: true; the input reads as it did. -/
def consequencePlacesSpec : ChangeSpec := { name := "consequencePlaces", fn := fun _ => fun
  | [d1, d2] => { results := [.lit (.bool true)], args := [d1, d2] }
  | _ => none }
def consequencePlacesRow : OpenClaim := { program := "ytdmbnkmcdhmccaadoor", sum := "865296ed028e3e9687015a111453def3fcd4a1c6af8fb9a4997d9babfa629c74", func := "replevin/replevinlaw50.ConsequencePlaces", spec := "consequencePlaces", unfollowed := true, recurses := true, named := ["replevin/object.usages"], plainKeys := false, apart := false, laid := [("replevin/object.usages", laid_replevin_object_usages)] }
def ConsequencePlacesSaid : Prop := consequencePlacesRow.holds Tryd.pinned (OpenSpec.ofChange consequencePlacesSpec)

/-- ITS FALSE NEIGHBOUR: 'it returns false'. Refute it at one input. -/
def consequencePlacesWrong : ChangeSpec := { name := "consequencePlaces", fn := fun _ => fun
  | [d1, d2] => { results := [.lit (.bool false)], args := [d1, d2] }
  | _ => none }
def ConsequencePlacesWrongFalsely : Prop := consequencePlacesRow.holds Tryd.pinned (OpenSpec.ofChange consequencePlacesWrong)

/-- 'replevinlaw50.ConsequenceCompares': WHATEVER THE INPUT: true; the input reads as it did. -/
def consequenceComparesSpec : ChangeSpec := { name := "consequenceCompares", fn := fun _ => fun
  | [d1, d2] => { results := [.lit (.bool true)], args := [d1, d2] }
  | _ => none }
def consequenceComparesRow : OpenClaim := { program := "ytdmbnkmcdhmccaadoor", sum := "865296ed028e3e9687015a111453def3fcd4a1c6af8fb9a4997d9babfa629c74", func := "replevin/replevinlaw50.ConsequenceCompares", spec := "consequenceCompares", unfollowed := true, recurses := true, named := ["replevin/object.usages"], plainKeys := false, apart := false, laid := [("replevin/object.usages", laid_replevin_object_usages)] }
def ConsequenceComparesSaid : Prop := consequenceComparesRow.holds Tryd.pinned (OpenSpec.ofChange consequenceComparesSpec)

/-- ITS FALSE NEIGHBOUR: 'it returns false'. Refute it at one input. -/
def consequenceComparesWrong : ChangeSpec := { name := "consequenceCompares", fn := fun _ => fun
  | [d1, d2] => { results := [.lit (.bool false)], args := [d1, d2] }
  | _ => none }
def ConsequenceComparesWrongFalsely : Prop := consequenceComparesRow.holds Tryd.pinned (OpenSpec.ofChange consequenceComparesWrong)

/-- 'replevinlaw50.ConsequenceEquals': WHATEVER THE INPUT: true; the input reads as it did. -/
def consequenceEqualsSpec : ChangeSpec := { name := "consequenceEquals", fn := fun _ => fun
  | [d1, d2, d3] => { results := [.lit (.bool true)], args := [d1, d2, d3] }
  | _ => none }
def consequenceEqualsRow : OpenClaim := { program := "ytdmbnkmcdhmccaadoor", sum := "865296ed028e3e9687015a111453def3fcd4a1c6af8fb9a4997d9babfa629c74", func := "replevin/replevinlaw50.ConsequenceEquals", spec := "consequenceEquals", unfollowed := true, recurses := true, named := ["replevin/object.usages"], plainKeys := false, apart := false, laid := [("replevin/object.usages", laid_replevin_object_usages)] }
def ConsequenceEqualsSaid : Prop := consequenceEqualsRow.holds Tryd.pinned (OpenSpec.ofChange consequenceEqualsSpec)

/-- ITS FALSE NEIGHBOUR: 'it returns false'. Refute it at one input. -/
def consequenceEqualsWrong : ChangeSpec := { name := "consequenceEquals", fn := fun _ => fun
  | [d1, d2, d3] => { results := [.lit (.bool false)], args := [d1, d2, d3] }
  | _ => none }
def ConsequenceEqualsWrongFalsely : Prop := consequenceEqualsRow.holds Tryd.pinned (OpenSpec.ofChange consequenceEqualsWrong)

/-- 'replevinlaw50.ConsequenceNothing': WHATEVER THE INPUT: true; the input reads as it did. -/
def consequenceNothingSpec : ChangeSpec := { name := "consequenceNothing", fn := fun _ => fun
  | [d1, d2] => { results := [.lit (.bool true)], args := [d1, d2] }
  | _ => none }
def consequenceNothingRow : OpenClaim := { program := "ytdmbnkmcdhmccaadoor", sum := "865296ed028e3e9687015a111453def3fcd4a1c6af8fb9a4997d9babfa629c74", func := "replevin/replevinlaw50.ConsequenceNothing", spec := "consequenceNothing", unfollowed := true, recurses := true, named := ["replevin/object.usages"], plainKeys := false, apart := false, laid := [("replevin/object.usages", laid_replevin_object_usages)] }
def ConsequenceNothingSaid : Prop := consequenceNothingRow.holds Tryd.pinned (OpenSpec.ofChange consequenceNothingSpec)

/-- ITS FALSE NEIGHBOUR: 'it returns false'. Refute it at one input. -/
def consequenceNothingWrong : ChangeSpec := { name := "consequenceNothing", fn := fun _ => fun
  | [d1, d2] => { results := [.lit (.bool false)], args := [d1, d2] }
  | _ => none }
def ConsequenceNothingWrongFalsely : Prop := consequenceNothingRow.holds Tryd.pinned (OpenSpec.ofChange consequenceNothingWrong)

/-- 'replevinlaw50.ConsequenceCounts': WHATEVER THE INPUT: true; the input reads as it did. -/
def consequenceCountsSpec : ChangeSpec := { name := "consequenceCounts", fn := fun _ => fun
  | [d1, d2] => { results := [.lit (.bool true)], args := [d1, d2] }
  | _ => none }
def consequenceCountsRow : OpenClaim := { program := "ytdmbnkmcdhmccaadoor", sum := "865296ed028e3e9687015a111453def3fcd4a1c6af8fb9a4997d9babfa629c74", func := "replevin/replevinlaw50.ConsequenceCounts", spec := "consequenceCounts", unfollowed := true, recurses := true, named := ["replevin/object.usages"], plainKeys := false, apart := false, laid := [("replevin/object.usages", laid_replevin_object_usages)] }
def ConsequenceCountsSaid : Prop := consequenceCountsRow.holds Tryd.pinned (OpenSpec.ofChange consequenceCountsSpec)

/-- ITS FALSE NEIGHBOUR: 'it returns false'. Refute it at one input. -/
def consequenceCountsWrong : ChangeSpec := { name := "consequenceCounts", fn := fun _ => fun
  | [d1, d2] => { results := [.lit (.bool false)], args := [d1, d2] }
  | _ => none }
def ConsequenceCountsWrongFalsely : Prop := consequenceCountsRow.holds Tryd.pinned (OpenSpec.ofChange consequenceCountsWrong)

/-- 'replevinlaw50.ConsequenceErrors': WHATEVER THE INPUT: true; the input reads as it did. -/
def consequenceErrorsSpec : ChangeSpec := { name := "consequenceErrors", fn := fun _ => fun
  | [d1, d2] => { results := [.lit (.bool true)], args := [d1, d2] }
  | _ => none }
def consequenceErrorsRow : OpenClaim := { program := "ytdmbnkmcdhmccaadoor", sum := "865296ed028e3e9687015a111453def3fcd4a1c6af8fb9a4997d9babfa629c74", func := "replevin/replevinlaw50.ConsequenceErrors", spec := "consequenceErrors", unfollowed := true, recurses := true, named := ["replevin/object.usages"], plainKeys := false, apart := false, laid := [("replevin/object.usages", laid_replevin_object_usages)] }
def ConsequenceErrorsSaid : Prop := consequenceErrorsRow.holds Tryd.pinned (OpenSpec.ofChange consequenceErrorsSpec)

/-- ITS FALSE NEIGHBOUR: 'it returns false'. Refute it at one input. -/
def consequenceErrorsWrong : ChangeSpec := { name := "consequenceErrors", fn := fun _ => fun
  | [d1, d2] => { results := [.lit (.bool false)], args := [d1, d2] }
  | _ => none }
def ConsequenceErrorsWrongFalsely : Prop := consequenceErrorsRow.holds Tryd.pinned (OpenSpec.ofChange consequenceErrorsWrong)

/- THE SECOND FORM. 'bulk': how many values and letters a reading holds, each counted each time it is reached (what is shared counts as often as it is met; a slice's spare places count too). A statement '..UptoSaid' is the law's where the arguments, and the package variables that the reading takes, are together of bulk at most 1048576: NARROWER than '..Said'. Prove '..Said' where nothing that the law and all that it calls make is longer than what came in: it says more and counts as full. Else prove '..UptoSaid'. A law counts once. -/
mutual
def uptoBulk {H : Type} : DataW H → Nat
  | .lit (.string bytes) => bytes.length + 1
  | .lit _ => 1
  | .nil => 1
  | .ptr d => uptoBulk d + 1
  | .slice elems spare => uptoBulkAll elems + uptoBulkAll spare + 1
  | .agg parts => uptoBulkAll parts + 1
  | .iface _ d => uptoBulk d + 1
  | .map entries => uptoBulkEntries entries + 1
  | .held _ => 1
def uptoBulkAll {H : Type} : List (DataW H) → Nat
  | [] => 0
  | d :: r => uptoBulk d + uptoBulkAll r
def uptoBulkEntries {H : Type} : List (Lit × DataW H) → Nat
  | [] => 0
  | x :: r => uptoBulkEntry x + uptoBulkEntries r
def uptoBulkEntry {H : Type} : Lit × DataW H → Nat
  | (.string bytes, d) => bytes.length + uptoBulk d + 1
  | (_, d) => uptoBulk d + 1
 end
def uptoSmall : (H : Type) → List (DataW H) → Bool := fun _ ds => decide (uptoBulkAll ds ≤ 1048576)
def OpenSpec.upto (s : _root_.Go.ChangeSpec) : _root_.Go.OpenSpec := { _root_.Go.OpenSpec.ofChange s with cond := some uptoSmall }

/-- 'replevinlaw50.ConsequencePlaces', WHERE WHAT IT READS IS OF BULK AT MOST 1048576: true; the input reads as it did. -/
def consequencePlacesUptoRow : OpenClaim := { program := "ytdmbnkmcdhmccaadoor", sum := "865296ed028e3e9687015a111453def3fcd4a1c6af8fb9a4997d9babfa629c74", func := "replevin/replevinlaw50.ConsequencePlaces", spec := "consequencePlaces", unfollowed := true, recurses := true, named := ["replevin/object.usages"], plainKeys := false, apart := false, laid := [("replevin/object.usages", laid_replevin_object_usages)], narrowed := true }
def ConsequencePlacesUptoSaid : Prop := consequencePlacesUptoRow.holds Tryd.pinned (OpenSpec.upto consequencePlacesSpec)

/-- 'replevinlaw50.ConsequenceCompares', WHERE WHAT IT READS IS OF BULK AT MOST 1048576: true; the input reads as it did. -/
def consequenceComparesUptoRow : OpenClaim := { program := "ytdmbnkmcdhmccaadoor", sum := "865296ed028e3e9687015a111453def3fcd4a1c6af8fb9a4997d9babfa629c74", func := "replevin/replevinlaw50.ConsequenceCompares", spec := "consequenceCompares", unfollowed := true, recurses := true, named := ["replevin/object.usages"], plainKeys := false, apart := false, laid := [("replevin/object.usages", laid_replevin_object_usages)], narrowed := true }
def ConsequenceComparesUptoSaid : Prop := consequenceComparesUptoRow.holds Tryd.pinned (OpenSpec.upto consequenceComparesSpec)

/-- 'replevinlaw50.ConsequenceEquals', WHERE WHAT IT READS IS OF BULK AT MOST 1048576: true; the input reads as it did. -/
def consequenceEqualsUptoRow : OpenClaim := { program := "ytdmbnkmcdhmccaadoor", sum := "865296ed028e3e9687015a111453def3fcd4a1c6af8fb9a4997d9babfa629c74", func := "replevin/replevinlaw50.ConsequenceEquals", spec := "consequenceEquals", unfollowed := true, recurses := true, named := ["replevin/object.usages"], plainKeys := false, apart := false, laid := [("replevin/object.usages", laid_replevin_object_usages)], narrowed := true }
def ConsequenceEqualsUptoSaid : Prop := consequenceEqualsUptoRow.holds Tryd.pinned (OpenSpec.upto consequenceEqualsSpec)

/-- 'replevinlaw50.ConsequenceNothing', WHERE WHAT IT READS IS OF BULK AT MOST 1048576: true; the input reads as it did. -/
def consequenceNothingUptoRow : OpenClaim := { program := "ytdmbnkmcdhmccaadoor", sum := "865296ed028e3e9687015a111453def3fcd4a1c6af8fb9a4997d9babfa629c74", func := "replevin/replevinlaw50.ConsequenceNothing", spec := "consequenceNothing", unfollowed := true, recurses := true, named := ["replevin/object.usages"], plainKeys := false, apart := false, laid := [("replevin/object.usages", laid_replevin_object_usages)], narrowed := true }
def ConsequenceNothingUptoSaid : Prop := consequenceNothingUptoRow.holds Tryd.pinned (OpenSpec.upto consequenceNothingSpec)

/-- 'replevinlaw50.ConsequenceCounts', WHERE WHAT IT READS IS OF BULK AT MOST 1048576: true; the input reads as it did. -/
def consequenceCountsUptoRow : OpenClaim := { program := "ytdmbnkmcdhmccaadoor", sum := "865296ed028e3e9687015a111453def3fcd4a1c6af8fb9a4997d9babfa629c74", func := "replevin/replevinlaw50.ConsequenceCounts", spec := "consequenceCounts", unfollowed := true, recurses := true, named := ["replevin/object.usages"], plainKeys := false, apart := false, laid := [("replevin/object.usages", laid_replevin_object_usages)], narrowed := true }
def ConsequenceCountsUptoSaid : Prop := consequenceCountsUptoRow.holds Tryd.pinned (OpenSpec.upto consequenceCountsSpec)

/-- 'replevinlaw50.ConsequenceErrors', WHERE WHAT IT READS IS OF BULK AT MOST 1048576: true; the input reads as it did. -/
def consequenceErrorsUptoRow : OpenClaim := { program := "ytdmbnkmcdhmccaadoor", sum := "865296ed028e3e9687015a111453def3fcd4a1c6af8fb9a4997d9babfa629c74", func := "replevin/replevinlaw50.ConsequenceErrors", spec := "consequenceErrors", unfollowed := true, recurses := true, named := ["replevin/object.usages"], plainKeys := false, apart := false, laid := [("replevin/object.usages", laid_replevin_object_usages)], narrowed := true }
def ConsequenceErrorsUptoSaid : Prop := consequenceErrorsUptoRow.holds Tryd.pinned (OpenSpec.upto consequenceErrorsSpec)

end Rows
end Go.Proofs.YtdmbnkmcdhmccaaDoor
