/-
  Partitions. (replevin/state.Change)
  Insertion that gives up. (replevin/state.Change)
  pdqsort, whole. (replevin/state.Change)
  The contract of slices.SortFunc at replevin/state.Change, for at most 200 elements.
  Conditions: those that each theorem states.
-/
import Derived.Test.YtgaipgbgppdfeaaGreatDoorMP
import Derived.Test.YtgaipgbgppdfeaaGreatDoorMD
set_option maxRecDepth 10000
namespace Go.Proofs.YtgaipgbgppdfeaaGreatDoor
open Go.RowKit

section
variable (bk cap : Nat) (q : List Value × (Nat × Nat)) (fv : FuncId) (Fc : Pf) (c : Ch → Ch → Int) (W : Wk0 c) (U : Ch → Prop) (hcmp : ∀ x y, U x → U y → Enters fv ∧ Spec Tryz.prog fv #[x.v, y.v] [Fc] [] (RetV (.int .i64 (c x y))))


end
end Go.Proofs.YtgaipgbgppdfeaaGreatDoor

set_option maxRecDepth 10000
namespace Go.Proofs.YtgaipgbgppdfeaaGreatDoor
open Go.RowKit

section
variable (bk cap : Nat) (q : List Value × (Nat × Nat)) (fv : FuncId) (Fc : Pf) (c : Ch → Ch → Int) (W : Wk0 c) (U : Ch → Prop) (hcmp : ∀ x y, U x → U y → Enters fv ∧ Spec Tryz.prog fv #[x.v, y.v] [Fc] [] (RetV (.int .i64 (c x y))))

end
end Go.Proofs.YtgaipgbgppdfeaaGreatDoor

set_option maxRecDepth 10000
namespace Go.Proofs.YtgaipgbgppdfeaaGreatDoor
open Go.RowKit

section
variable (bk cap : Nat) (q : List Value × (Nat × Nat)) (fv : FuncId) (Fc : Pf) (c : Ch → Ch → Int) (W : Wk0 c) (U : Ch → Prop) (hcmp : ∀ x y, U x → U y → Enters fv ∧ Spec Tryz.prog fv #[x.v, y.v] [Fc] [] (RetV (.int .i64 (c x y))))

end
end Go.Proofs.YtgaipgbgppdfeaaGreatDoor

set_option maxRecDepth 10000
namespace Go.Proofs.YtgaipgbgppdfeaaGreatDoor
open Go.RowKit


end Go.Proofs.YtgaipgbgppdfeaaGreatDoor
