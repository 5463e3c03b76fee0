/-
  Contracts of cpu.Encode and process.SetRegisters.
  Conditions: those that each theorem states.
-/
import Derived.Test.YtgaipgbgppdfeaaGreatDoorReg
import Derived.Test.YtgaipgbgppdfeaaGreatDoorSpc6
set_option maxRecDepth 10000
namespace Go.Proofs.YtgaipgbgppdfeaaGreatDoor
open Go.RowKit

section
variable {n : Nat} {C : Cx} {Q : Exit → Act → World → Prop} {E E' : List (Nat × Value)} {F F' F1 Fs F0 : List Pf} {R R' R0 Rs N N' A : List HP} {k k' : List Fr} {ops l : List Oper} {L L' : List (Nat × Nat)} {Tl : List Nat}
  {i d b : Nat} {t ty0 : TypeId} {x y : Operand} {pos : String} {aft : Array Edge} {gd : Option (Nat × Bool)} {v : Value}
end
/-- The bytes of a word. -/
def encW (a : Int) : List UInt8 := [UInt8.ofNat (a.toNat % 256), UInt8.ofNat (a.toNat / 256 % 256), UInt8.ofNat (a.toNat / 65536 % 256), UInt8.ofNat (a.toNat / 16777216 % 256)]
def encR (g : List Int) : List UInt8 := g.flatMap encW
end Go.Proofs.YtgaipgbgppdfeaaGreatDoor
