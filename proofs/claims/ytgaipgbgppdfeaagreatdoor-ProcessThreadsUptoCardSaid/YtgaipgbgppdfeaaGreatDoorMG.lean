/-
  Contracts of the statements' own functions of layer 39: shortO, short, check, put, value, leave, find, encoding.
  Conditions: those that each theorem states.
-/
import Derived.Test.YtgaipgbgppdfeaaGreatDoorME
set_option maxRecDepth 10000
namespace Go.Proofs.YtgaipgbgppdfeaaGreatDoor
open Go.RowKit

def shO (o : Ou) : Ou := ⟨o.ch, cutS o.tg 80, cutS o.tx 4200, o.us⟩
def shL (x : Lf) : Lf := ⟨⟨cutS x.e.who 80, x.e.nu, x.e.tk, shO x.e.o⟩, x.tm, x.rd⟩
/-! The list's own Leave. -/
def mleaveE (ls : List Lf) (x : Lf) : Int := if lchk x ≠ 0 then lchk x else if late ls x then 32 else 0


/-! find, encoding: of a list that stays. -/
def idq (x : Lf) (w : ByteArray) (nu tk : Int) : Bool := decide (x.e.who = w) && (decide (x.e.nu = nu) && decide (x.e.tk = tk))
/-- The greatest place, of the first m. -/
def lfind (ls : List Lf) (w : ByteArray) (nu tk : Int) : Nat → Option Nat
  | 0 => none
  | m + 1 => match ls[m]? with | some x => if idq x w nu tk then some m else lfind ls w nu tk m | none => lfind ls w nu tk m
def fndv (r : Option Nat) : Int := match r with | some j => (j : Int) | none => -1

def lenc (x : Lf) : List UInt8 := venc x.e.who.size ++ x.e.who.data.toList ++ venc x.e.nu.toNat ++ venc x.e.tk.toNat ++ oenc x.e.o ++ venc x.tm.toNat ++ venc x.rd.toNat
def lencs (ls : List Lf) : List UInt8 := venc ls.length ++ ls.flatMap lenc
end Go.Proofs.YtgaipgbgppdfeaaGreatDoor
