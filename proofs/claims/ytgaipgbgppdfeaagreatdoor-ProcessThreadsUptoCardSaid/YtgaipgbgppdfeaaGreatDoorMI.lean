/-
  Slices that stay: the beginning of one, and one appended to another.
  Contracts of ledgers: Encode, and the statements' own encoding.
  Conditions: those that each theorem states.
-/
import Derived.Test.YtgaipgbgppdfeaaGreatDoorMB
import Derived.Test.YtgaipgbgppdfeaaGreatDoorMG
set_option maxRecDepth 10000
namespace Go.Proofs.YtgaipgbgppdfeaaGreatDoor
open Go.RowKit

section
variable {n : Nat} {C : Cx} {Q : Exit → Act → World → Prop} {E : List (Nat × Value)} {F F0 : List Pf} {R R0 : List HP} {k : List Fr} {ops l : List Oper}
  {d : Nat} {t ty0 : TypeId} {x y : Operand} {pos : String} {aft : Array Edge} {gd : Option (Nat × Bool)}
end
end Go.Proofs.YtgaipgbgppdfeaaGreatDoor

set_option maxRecDepth 10000
namespace Go.Proofs.YtgaipgbgppdfeaaGreatDoor
open Go.RowKit

section
variable {n : Nat} {C : Cx} {Q : Exit → Act → World → Prop} {E : List (Nat × Value)} {F : List Pf} {R R0 : List HP} {k : List Fr}
/-- What a writer holds, written otherwise. -/
theorem k_wtc {b : Nat} {xs ys : List UInt8} (h : xs = ys) (t : Wk n C k Q E F (Wtr b ys :: R0)) (hs : Sel (Wtr b xs) R R0 := by (repeat (first | exact Sel.here | apply Sel.there)); first | done | fail) : Wk n C k Q E F R := by
  subst h; exact fun a w ha hsat => t a w ha (hsat.sel hs)
end
/-- An entry that may be written. -/
def EncOK (x : Lf) : Prop := lchk x = 0 ∧ x.e.who.size ≤ 1000
def lencsS (ls : List Lf) : ByteArray := ⟨(lencs ls).toArray⟩

end Go.Proofs.YtgaipgbgppdfeaaGreatDoor
