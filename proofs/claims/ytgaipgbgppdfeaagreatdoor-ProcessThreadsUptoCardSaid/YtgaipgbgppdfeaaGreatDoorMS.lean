/-
  Entries as values, and their identities.
  Conditions: those that each theorem states.
-/
import Derived.Test.YtgaipgbgppdfeaaGreatDoorME
set_option maxRecDepth 10000
namespace Go.Proofs.YtgaipgbgppdfeaaGreatDoor
open Go.RowKit

def En.w (e : En) : Value := .agg #[.string e.who, .int .i64 e.nu, .int .i64 e.tk, .int .i64 e.o.ch, .string e.o.tg, .string e.o.tx, .int .i64 e.o.us]
/-- What tells an output apart. -/
structure Idn where
  who : ByteArray
  nu : Int
  tk : Int
  deriving DecidableEq
def Idn.v (i : Idn) : Value := .agg #[.string i.who, .int .i64 i.nu, .int .i64 i.tk]
def En.id (e : En) : Idn := ⟨e.who, e.nu, e.tk⟩
def cmpT (a b : En) : Int := cmpI a.tk b.tk
end Go.Proofs.YtgaipgbgppdfeaaGreatDoor
