/-
  The statements' arguments, opened: items, bytes.
  Conditions: none beyond those that each theorem states.
-/
import Derived.Test.YtgaipgbgppdfeaaGreatDoorMH
import Derived.Test.YtgaipgbgppdfeaaGreatDoorLaw
set_option maxRecDepth 10000
namespace Go.Proofs.YtgaipgbgppdfeaaGreatDoor
open Go.RowKit Go.ChangeShapes Go.WideShapes Go.ChangeAt


end Go.Proofs.YtgaipgbgppdfeaaGreatDoor
