/-
  copy between parts of an owned slice.
  Conditions: none beyond those that each theorem states.
-/
import Derived.Test.YtgaipgbgppdfeaaGreatDoorME
set_option maxRecDepth 10000
namespace Go.Proofs.YtgaipgbgppdfeaaGreatDoor
open Go.RowKit

/-- What copy leaves: n elements from s on, laid from d on. -/
def cpL {α : Type} (es : List α) (d s n : Nat) : List α := es.take d ++ ((es.drop s).take n ++ es.drop (d + n))

section
variable {n : Nat} {C : Cx} {Q : Exit → Act → World → Prop} {E E' : List (Nat × Value)} {F F' F1 Fs F0 : List Pf} {R R' R0 Rs N N' A : List HP} {k k' : List Fr} {ops l : List Oper} {L L' : List (Nat × Nat)} {Tl : List Nat}
  {i d : Nat} {t t2 ty0 : TypeId} {x y : Operand} {pos : String} {aft : Array Edge} {gd : Option (Nat × Bool)} {α : Type} {f : α → List Value} {es : List α} {q : List Value × (Nat × Nat)}
end
end Go.Proofs.YtgaipgbgppdfeaaGreatDoor
