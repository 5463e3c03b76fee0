/-
  Contracts of the package process: Encode of what does not fit; the statements' own value.
  Conditions: those that each theorem states.
-/
import Derived.Test.YtgaipgbgppdfeaaGreatDoorPro2
set_option maxRecDepth 10000
namespace Go.Proofs.YtgaipgbgppdfeaaGreatDoor
open Go.RowKit


end Go.Proofs.YtgaipgbgppdfeaaGreatDoor
