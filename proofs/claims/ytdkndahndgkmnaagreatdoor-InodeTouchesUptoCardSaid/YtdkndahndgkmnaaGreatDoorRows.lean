/-
  NARROWER THAN 'FOR EVERY INPUT', by the rows' own cells (each row's printed sentence says how): ConsequenceChains: laid · InodeOperations: laid · InodeFrame: laid · InodeTouches: laid.
  DERIVED. THE GIVEN ROWS OF THIS SEAT. 4 by the template 'for every input the law returns true; each argument reads behind the call as it read before'; 0 by the template 'total and deterministic' (their statements: YtdkndahndgkmnaaGreatDoorTotals.lean).
  GIVEN WITH THE SEED: the statements are not yours to turn. If you find one false, say at which input.
  Laid BY PROGRAM, IN A SANDBOX (cutbox-rows.mjs): the forced cells as the released guide's own fill.sh prints them over the translation 751d5162fcd37de7… (all of the seat's roots in one cut). By AI agents, Wed Nov 11 2026. No macro, syntax, notation, axiom, sorry.
-/
import Derived.Test.YtdkndahndgkmnaaGreatDoorChecked
import GoSem.Claim
import GoSem.ClaimJoined
import GoSem.ClaimMapViews
import Derived.JoinedTies
import Derived.KernelRfl
namespace Go.Proofs.YtdkndahndgkmnaaGreatDoor
/- THE CELL 'sum', in the pinned program and in every row, IS THE sha256 OF THE DUMP (.gsa) THAT YtdkndahndgkmnaaGreatDoorProg.lean LOADS. Nothing in Lean hashes anything: it is a label: what it is worth is what the hold of that sum in a sandbox is worth. -/
noncomputable def Tryz.pinned : Pinned := { name := "ytdkndahndgkmnaagreatdoor", sum := "751d5162fcd37de7b056303485b38ad73102fd457bda01ceba84a16d0e353438", checked := Tryz.checked }
namespace Rows
def none {H : Type} : Left H := { results := [], args := [] }

/- WHAT THE LISTED PACKAGE-LEVEL VARIABLES READ AS WHEN THE CALL BEGINS. Each datum BY PROGRAM (the guide's laid-datum.mjs) off the statement by which the dump's own 'gosem.cut.vars' lays the variable. In a bare row this is a premise. The card (YtdkndahndgkmnaaGreatDoorCards.lean) ties it to the program's text. -/
def laid_replevin_object_usages {H : Type} : DataW H := .agg [.agg [.lit (.string []), .lit (.bool false), .lit (.bool false), .lit (.bool false), .lit (.bool false), .lit (.int .i64 0)], .agg [.lit (.string [112, 114, 111, 99, 101, 115, 115]), .lit (.bool true), .lit (.bool false), .lit (.bool false), .lit (.bool false), .lit (.int .i64 0)], .agg [.lit (.string [114, 101, 103, 105, 115, 116, 101, 114, 115]), .lit (.bool true), .lit (.bool false), .lit (.bool false), .lit (.bool false), .lit (.int .i64 0)], .agg [.lit (.string [112, 97, 103, 101]), .lit (.bool true), .lit (.bool false), .lit (.bool true), .lit (.bool false), .lit (.int .i64 63)], .agg [.lit (.string [116, 97, 98, 108, 101]), .lit (.bool true), .lit (.bool false), .lit (.bool false), .lit (.bool false), .lit (.int .i64 0)], .agg [.lit (.string [99, 111, 117, 110, 116, 101, 114]), .lit (.bool true), .lit (.bool false), .lit (.bool false), .lit (.bool false), .lit (.int .i64 0)], .agg [.lit (.string [112, 101, 110, 100, 105, 110, 103]), .lit (.bool true), .lit (.bool false), .lit (.bool false), .lit (.bool false), .lit (.int .i64 0)], .agg [.lit (.string [110, 111, 100, 101]), .lit (.bool true), .lit (.bool true), .lit (.bool false), .lit (.bool false), .lit (.int .i64 0)], .agg [.lit (.string [98, 108, 111, 99, 107]), .lit (.bool true), .lit (.bool true), .lit (.bool true), .lit (.bool false), .lit (.int .i64 63)], .agg [.lit (.string [101, 110, 116, 114, 121]), .lit (.bool true), .lit (.bool true), .lit (.bool false), .lit (.bool true), .lit (.int .i64 0)], .agg [.lit (.string [108, 105, 115, 116, 105, 110, 103]), .lit (.bool true), .lit (.bool true), .lit (.bool false), .lit (.bool false), .lit (.int .i64 0)], .agg [.lit (.string [112, 105, 112, 101]), .lit (.bool true), .lit (.bool true), .lit (.bool false), .lit (.bool false), .lit (.int .i64 0)], .agg [.lit (.string [108, 111, 99, 107]), .lit (.bool true), .lit (.bool true), .lit (.bool false), .lit (.bool false), .lit (.int .i64 0)], .agg [.lit (.string [116, 101, 114, 109, 105, 110, 97, 108]), .lit (.bool false), .lit (.bool true), .lit (.bool false), .lit (.bool false), .lit (.int .i64 0)], .agg [.lit (.string [97, 99, 99, 111, 117, 110, 116]), .lit (.bool false), .lit (.bool false), .lit (.bool false), .lit (.bool true), .lit (.int .i64 0)], .agg [.lit (.string [99, 108, 111, 99, 107]), .lit (.bool false), .lit (.bool false), .lit (.bool false), .lit (.bool false), .lit (.int .i64 0)], .agg [.lit (.string [112, 111, 114, 116]), .lit (.bool false), .lit (.bool true), .lit (.bool false), .lit (.bool false), .lit (.int .i64 0)], .agg [.lit (.string [98, 111, 120]), .lit (.bool false), .lit (.bool false), .lit (.bool false), .lit (.bool true), .lit (.int .i64 0)], .agg [.lit (.string [111, 117, 116]), .lit (.bool true), .lit (.bool true), .lit (.bool true), .lit (.bool false), .lit (.int .i64 1073741824)], .agg [.lit (.string [115, 104, 101, 108, 108]), .lit (.bool true), .lit (.bool false), .lit (.bool false), .lit (.bool false), .lit (.int .i64 0)], .agg [.lit (.string [101, 112, 111, 99, 104]), .lit (.bool false), .lit (.bool false), .lit (.bool false), .lit (.bool false), .lit (.int .i64 0)]]

/-- 'replevinlaw50.ConsequenceChains': WHATEVER THE INPUT: true; the input reads as it did. -/
def consequenceChainsSpec : ChangeSpec := { name := "consequenceChains", fn := fun _ => fun
  | [d1, d2, d3] => { results := [.lit (.bool true)], args := [d1, d2, d3] }
  | _ => none }
def consequenceChainsRow : OpenClaim := { program := "ytdkndahndgkmnaagreatdoor", sum := "751d5162fcd37de7b056303485b38ad73102fd457bda01ceba84a16d0e353438", func := "replevin/replevinlaw50.ConsequenceChains", spec := "consequenceChains", unfollowed := true, recurses := true, named := ["replevin/object.usages"], plainKeys := false, apart := false, laid := [("replevin/object.usages", laid_replevin_object_usages)] }
def ConsequenceChainsSaid : Prop := consequenceChainsRow.holds Tryz.pinned (OpenSpec.ofChange consequenceChainsSpec)

/-- ITS FALSE NEIGHBOUR: 'it returns false'. Refute it at one input. -/
def consequenceChainsWrong : ChangeSpec := { name := "consequenceChains", fn := fun _ => fun
  | [d1, d2, d3] => { results := [.lit (.bool false)], args := [d1, d2, d3] }
  | _ => none }
def ConsequenceChainsWrongFalsely : Prop := consequenceChainsRow.holds Tryz.pinned (OpenSpec.ofChange consequenceChainsWrong)

/-- 'replevinlaw27.InodeOperations': WHATEVER THE INPUT: true; the input reads as it did. -/
def inodeOperationsSpec : ChangeSpec := { name := "inodeOperations", fn := fun _ => fun
  | [d] => { results := [.lit (.bool true)], args := [d] }
  | _ => none }
def inodeOperationsRow : OpenClaim := { program := "ytdkndahndgkmnaagreatdoor", sum := "751d5162fcd37de7b056303485b38ad73102fd457bda01ceba84a16d0e353438", func := "replevin/replevinlaw27.InodeOperations", spec := "inodeOperations", inPlace := ["internal/abi.NoEscape"], unfollowed := true, recurses := true, named := ["replevin/object.usages"], plainKeys := false, apart := false, laid := [("replevin/object.usages", laid_replevin_object_usages)] }
def InodeOperationsSaid : Prop := inodeOperationsRow.holds Tryz.pinned (OpenSpec.ofChange inodeOperationsSpec)

/-- ITS FALSE NEIGHBOUR: 'it returns false'. Refute it at one input. -/
def inodeOperationsWrong : ChangeSpec := { name := "inodeOperations", fn := fun _ => fun
  | [d] => { results := [.lit (.bool false)], args := [d] }
  | _ => none }
def InodeOperationsWrongFalsely : Prop := inodeOperationsRow.holds Tryz.pinned (OpenSpec.ofChange inodeOperationsWrong)

/-- 'replevinlaw27.InodeFrame': WHATEVER THE INPUT: true; the input reads as it did. -/
def inodeFrameSpec : ChangeSpec := { name := "inodeFrame", fn := fun _ => fun
  | [d1, d2] => { results := [.lit (.bool true)], args := [d1, d2] }
  | _ => none }
def inodeFrameRow : OpenClaim := { program := "ytdkndahndgkmnaagreatdoor", sum := "751d5162fcd37de7b056303485b38ad73102fd457bda01ceba84a16d0e353438", func := "replevin/replevinlaw27.InodeFrame", spec := "inodeFrame", inPlace := ["internal/abi.NoEscape"], unfollowed := true, recurses := true, named := ["replevin/object.usages"], plainKeys := false, apart := false, laid := [("replevin/object.usages", laid_replevin_object_usages)] }
def InodeFrameSaid : Prop := inodeFrameRow.holds Tryz.pinned (OpenSpec.ofChange inodeFrameSpec)

/-- ITS FALSE NEIGHBOUR: 'it returns false'. Refute it at one input. -/
def inodeFrameWrong : ChangeSpec := { name := "inodeFrame", fn := fun _ => fun
  | [d1, d2] => { results := [.lit (.bool false)], args := [d1, d2] }
  | _ => none }
def InodeFrameWrongFalsely : Prop := inodeFrameRow.holds Tryz.pinned (OpenSpec.ofChange inodeFrameWrong)

/-- 'replevinlaw27.InodeTouches': WHATEVER THE INPUT: true; the input reads as it did. -/
def inodeTouchesSpec : ChangeSpec := { name := "inodeTouches", fn := fun _ => fun
  | [d1, d2] => { results := [.lit (.bool true)], args := [d1, d2] }
  | _ => none }
def inodeTouchesRow : OpenClaim := { program := "ytdkndahndgkmnaagreatdoor", sum := "751d5162fcd37de7b056303485b38ad73102fd457bda01ceba84a16d0e353438", func := "replevin/replevinlaw27.InodeTouches", spec := "inodeTouches", inPlace := ["internal/abi.NoEscape"], unfollowed := true, recurses := true, named := ["replevin/object.usages"], plainKeys := false, apart := false, laid := [("replevin/object.usages", laid_replevin_object_usages)] }
def InodeTouchesSaid : Prop := inodeTouchesRow.holds Tryz.pinned (OpenSpec.ofChange inodeTouchesSpec)

/-- ITS FALSE NEIGHBOUR: 'it returns false'. Refute it at one input. -/
def inodeTouchesWrong : ChangeSpec := { name := "inodeTouches", fn := fun _ => fun
  | [d1, d2] => { results := [.lit (.bool false)], args := [d1, d2] }
  | _ => none }
def InodeTouchesWrongFalsely : Prop := inodeTouchesRow.holds Tryz.pinned (OpenSpec.ofChange inodeTouchesWrong)

/- THE SECOND FORM. 'bulk': how many values and letters a reading holds, each counted each time it is reached (what is shared counts as often as it is met; a slice's spare places count too). A statement '..UptoSaid' is the law's where the arguments, and the package variables that the reading takes, are together of bulk at most 1048576: NARROWER than '..Said'. Prove '..Said' where nothing that the law and all that it calls make is longer than what came in: it says more and counts as full. Else prove '..UptoSaid'. A law counts once. -/
mutual
def uptoBulk {H : Type} : DataW H → Nat
  | .lit (.string bytes) => bytes.length + 1
  | .lit _ => 1
  | .nil => 1
  | .ptr d => uptoBulk d + 1
  | .slice elems spare => uptoBulkAll elems + uptoBulkAll spare + 1
  | .agg parts => uptoBulkAll parts + 1
  | .iface _ d => uptoBulk d + 1
  | .map entries => uptoBulkEntries entries + 1
  | .held _ => 1
def uptoBulkAll {H : Type} : List (DataW H) → Nat
  | [] => 0
  | d :: r => uptoBulk d + uptoBulkAll r
def uptoBulkEntries {H : Type} : List (Lit × DataW H) → Nat
  | [] => 0
  | x :: r => uptoBulkEntry x + uptoBulkEntries r
def uptoBulkEntry {H : Type} : Lit × DataW H → Nat
  | (.string bytes, d) => bytes.length + uptoBulk d + 1
  | (_, d) => uptoBulk d + 1
 end
def uptoSmall : (H : Type) → List (DataW H) → Bool := fun _ ds => decide (uptoBulkAll ds ≤ 1048576)
def OpenSpec.upto (s : _root_.Go.ChangeSpec) : _root_.Go.OpenSpec := { _root_.Go.OpenSpec.ofChange s with cond := some uptoSmall }

/-- 'replevinlaw50.ConsequenceChains', WHERE WHAT IT READS IS OF BULK AT MOST 1048576: true; the input reads as it did. -/
def consequenceChainsUptoRow : OpenClaim := { program := "ytdkndahndgkmnaagreatdoor", sum := "751d5162fcd37de7b056303485b38ad73102fd457bda01ceba84a16d0e353438", func := "replevin/replevinlaw50.ConsequenceChains", spec := "consequenceChains", unfollowed := true, recurses := true, named := ["replevin/object.usages"], plainKeys := false, apart := false, laid := [("replevin/object.usages", laid_replevin_object_usages)], narrowed := true }
def ConsequenceChainsUptoSaid : Prop := consequenceChainsUptoRow.holds Tryz.pinned (OpenSpec.upto consequenceChainsSpec)

/-- 'replevinlaw27.InodeOperations', WHERE WHAT IT READS IS OF BULK AT MOST 1048576: true; the input reads as it did. -/
def inodeOperationsUptoRow : OpenClaim := { program := "ytdkndahndgkmnaagreatdoor", sum := "751d5162fcd37de7b056303485b38ad73102fd457bda01ceba84a16d0e353438", func := "replevin/replevinlaw27.InodeOperations", spec := "inodeOperations", inPlace := ["internal/abi.NoEscape"], unfollowed := true, recurses := true, named := ["replevin/object.usages"], plainKeys := false, apart := false, laid := [("replevin/object.usages", laid_replevin_object_usages)], narrowed := true }
def InodeOperationsUptoSaid : Prop := inodeOperationsUptoRow.holds Tryz.pinned (OpenSpec.upto inodeOperationsSpec)

/-- 'replevinlaw27.InodeFrame', WHERE WHAT IT READS IS OF BULK AT MOST 1048576: true; the input reads as it did. -/
def inodeFrameUptoRow : OpenClaim := { program := "ytdkndahndgkmnaagreatdoor", sum := "751d5162fcd37de7b056303485b38ad73102fd457bda01ceba84a16d0e353438", func := "replevin/replevinlaw27.InodeFrame", spec := "inodeFrame", inPlace := ["internal/abi.NoEscape"], unfollowed := true, recurses := true, named := ["replevin/object.usages"], plainKeys := false, apart := false, laid := [("replevin/object.usages", laid_replevin_object_usages)], narrowed := true }
def InodeFrameUptoSaid : Prop := inodeFrameUptoRow.holds Tryz.pinned (OpenSpec.upto inodeFrameSpec)

/-- 'replevinlaw27.InodeTouches', WHERE WHAT IT READS IS OF BULK AT MOST 1048576: true; the input reads as it did. -/
def inodeTouchesUptoRow : OpenClaim := { program := "ytdkndahndgkmnaagreatdoor", sum := "751d5162fcd37de7b056303485b38ad73102fd457bda01ceba84a16d0e353438", func := "replevin/replevinlaw27.InodeTouches", spec := "inodeTouches", inPlace := ["internal/abi.NoEscape"], unfollowed := true, recurses := true, named := ["replevin/object.usages"], plainKeys := false, apart := false, laid := [("replevin/object.usages", laid_replevin_object_usages)], narrowed := true }
def InodeTouchesUptoSaid : Prop := inodeTouchesUptoRow.holds Tryz.pinned (OpenSpec.upto inodeTouchesSpec)

end Rows
end Go.Proofs.YtdkndahndgkmnaaGreatDoor
