/-
  A cut behind the first statements of a function: the rest is walked once.
  Conditions: none beyond those that each theorem states.
-/
import Derived.Test.YtaijnpkdlopomaaGreatDoorMB
set_option maxRecDepth 10000
namespace Go.Proofs.YtaijnpkdlopomaaGreatDoor
open Go.RowKit

/-- The code behind the first statements. -/
def drpS : Nat → List Fr → List Fr
  | m + 1, .c (.seq _ b) :: k => drpS m (.c b :: k)
  | _, k => k
section
variable {n : Nat} {C : Cx} {Q : Exit → Act → World → Prop} {E : List (Nat × Value)} {F : List Pf} {R : List HP} {k : List Fr}
/-- What holds behind the first m statements: the rest is walked once. -/
theorem k_cutd {Y : Type} {c2 : Code} {k2 : List Fr} (m : Nat) (mE : Y → List (Nat × Value)) (mF : Y → List Pf) (mR : Y → List HP) (t2 : ∀ y, Wk n C (.c c2 :: k2) Q (mE y) (mF y) (mR y)) (t : (∀ y, Wk n C (.c c2 :: k2) Q (mE y) (mF y) (mR y)) → Wk n C k Q E F R) (_h : drpS m k = .c c2 :: k2 := by rfl) : Wk n C k Q E F R := t t2
theorem k_skp (t : Wk n C k Q E F R) : Wk n C (.c .skip :: k) Q E F R := fun a w ha hs => nf_ok 1 (.c .skip :: k) (t a w ha hs)
theorem k_nf (t : Wk n C (nf 1000 k) Q E F R) : Wk n C k Q E F R := fun a w ha hs => nf_ok 1000 k (t a w ha hs)
/-- The same, where the first statements may end in several ways that all reach what stands behind them. -/
theorem k_cutN {Y : Type} (m : Nat) (mE : Y → List (Nat × Value)) (mF : Y → List Pf) (mR : Y → List HP) (t2 : ∀ y, Wk n C (nf 1000 (drpS m k)) Q (mE y) (mF y) (mR y)) (t : (∀ y, Wk n C (nf 1000 (drpS m k)) Q (mE y) (mF y) (mR y)) → Wk n C k Q E F R) : Wk n C k Q E F R := t t2
end
end Go.Proofs.YtaijnpkdlopomaaGreatDoor
