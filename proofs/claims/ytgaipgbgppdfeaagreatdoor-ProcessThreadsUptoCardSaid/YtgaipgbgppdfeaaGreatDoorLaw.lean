/-
  Contracts of the statements' own functions: names, out, build.
  Conditions: those that each theorem states.
-/
import Derived.Test.YtgaipgbgppdfeaaGreatDoorCons
set_option maxRecDepth 10000
namespace Go.Proofs.YtgaipgbgppdfeaaGreatDoor
open Go.RowKit

section
variable {n : Nat} {C : Cx} {Q : Exit → Act → World → Prop} {E E' : List (Nat × Value)} {F F' F1 Fs F0 : List Pf} {R R' R0 Rs N N' A : List HP} {k k' : List Fr} {ops l : List Oper} {L L' : List (Nat × Nat)} {Tl : List Nat}
  {i d : Nat} {t ty0 : TypeId} {x y : Operand} {pos : String} {aft : Array Edge} {gd : Option (Nat × Bool)} {v : Value}

end

/-- An item of a statement's input. -/
structure It where
  who : UInt8
  nu : UInt8
  tk : UInt8
  ch : UInt8
  tx : ByteArray
def itf (x : It) : List Value := [.int .u8 x.who.toNat, .int .u8 x.nu.toNat, .int .u8 x.tk.toNat, .int .u8 x.ch.toNat, .string x.tx]
def It.v (x : It) : Value := .agg #[.int .u8 x.who.toNat, .int .u8 x.nu.toNat, .int .u8 x.tk.toNat, .int .u8 x.ch.toNat, .string x.tx]
def nm0 : ByteArray := ⟨#[49]⟩
def nm1 : ByteArray := ⟨#[49, 46, 50]⟩
def nm2 : ByteArray := ⟨#[51]⟩
def who3 (j : Nat) : ByteArray := if j = 0 then nm0 else if j = 1 then nm1 else nm2
def ito (x : It) : Ou := ⟨1 + (x.ch.toNat % 4 : Nat), ⟨#[116]⟩, x.tx.extract 0 (min x.tx.size 20), 5⟩
def itn (x : It) : Nm := ⟨18, who3 (x.who.toNat % 3), (x.nu.toNat % 4 : Nat), (x.tk.toNat % 8 : Nat), ⟨#[]⟩⟩
def itl (x : It) (p : Nat) : Lf := ⟨⟨who3 (x.who.toNat % 3), (x.nu.toNat % 4 : Nat), (x.tk.toNat % 8 : Nat), ito x⟩, (9 + p : Nat), (p / 5 : Nat)⟩





/-- The state of items. -/
def stF (es : Al) (l : List It) : Al := l.foldl (fun es x => insO (itn x) (oencS (ito x)) es) es
/-- The ledger of items. -/
def ldF (l : List It) : List Lf := l.mapIdx fun p x => itl x p


structure B1 (now : List It) where
  i : Nat
  q : Option Addr
  es : Al
  h1 : i ≤ now.length ∧ i ≤ 20
  h2 : es = stF [] (now.take i)
  h3 : es.length ≤ i
structure B2 (left : List It) where
  i : Nat
  h1 : i ≤ left.length ∧ i ≤ 20

end Go.Proofs.YtgaipgbgppdfeaaGreatDoor
