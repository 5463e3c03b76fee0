/-
  The contract of consequence.Compare.
  Conditions: those that the theorem states.
-/
import Derived.Test.YtgaipgbgppdfeaaGreatDoorME
set_option maxRecDepth 10000
namespace Go.Proofs.YtgaipgbgppdfeaaGreatDoor
open Go.RowKit

section
variable {n : Nat} {C : Cx} {Q : Exit → Act → World → Prop} {E E' : List (Nat × Value)} {F F' F1 Fs F0 : List Pf} {R R' R0 Rs N N' A : List HP} {k k' : List Fr} {ops l : List Oper}
  {i d : Nat} {t ty0 : TypeId} {x y z : Operand} {pos : String} {aft : Array Edge} {gd : Option (Nat × Bool)} {α β : Type} [DecidableEq α] {K : α → Value} {V : β → Value}
end

def En.v (e : En) : Value := .agg #[.string e.who, .int .i64 e.nu, .int .i64 e.tk, .int .i64 e.o.ch, .string e.o.tg, .string e.o.tx, .int .i64 e.o.us]
/-- The sender of an output. -/
abbrev Sd := ByteArray × Int
def sdv (s : Sd) : Value := .agg #[.string s.1, .int .i64 s.2]
def En.sd (e : En) : Sd := (e.who, e.nu)
def bv (b : Bool) : Value := .bool b



/-- A consequence. -/
structure Cq where
  kind : Int
  who : ByteArray
  nu : Int
  place : Int
  old : Ou
  oldAt : Int
  new : Ou
  newAt : Int
  deriving DecidableEq
def cqf (c : Cq) : List Value := [.int .i64 c.kind, .string c.who, .int .i64 c.nu, .int .i64 c.place, .int .i64 c.old.ch, .string c.old.tg, .string c.old.tx, .int .i64 c.old.us, .int .i64 c.oldAt, .int .i64 c.new.ch, .string c.new.tg, .string c.new.tx, .int .i64 c.new.us, .int .i64 c.newAt]

/-- The consequence of an entry of the ledger. -/
def con1 (all : List En) (x : Lf) (p : Nat) : Cq :=
  if x.e ∈ all then ⟨1, x.e.who, x.e.nu, p, x.e.o, x.e.tk, x.e.o, x.e.tk⟩
  else match all.find? fun y => y.sd = x.e.sd with
    | some y => ⟨3, x.e.who, x.e.nu, p, x.e.o, x.e.tk, y.o, y.tk⟩
    | none => ⟨2, x.e.who, x.e.nu, p, x.e.o, x.e.tk, Ou.z, 0⟩
/-- What is known behind it. -/
def knw (all : List En) (x : Lf) : List En :=
  (if x.e ∈ all then [] else match all.find? fun y => y.sd = x.e.sd with | some y => [y] | none => []) ++ [x.e]
def cons1 (all : List En) (ls : List Lf) : List Cq := ls.mapIdx fun p x => con1 all x p
def con2 (y : En) : Cq := ⟨4, y.who, y.nu, -1, Ou.z, 0, y.o, y.tk⟩
def cons2 (known : List En) (ys : List En) : List Cq := (ys.filter fun y => decide (y ∉ known)).map con2
/-- What Compare answers. -/
def consE (all : List En) (ls : List Lf) : List Cq := cons1 all ls ++ cons2 (ls.flatMap (knw all)) all

structure C1 (all : List En) where
  i : Nat
  m1 : List (En × Bool)
  m2 : List (Sd × En)
  hi : i ≤ all.length
  h1 : ∀ e, mget e m1 = if e ∈ all.take i then some true else none
  h2 : ∀ s, mget s m2 = (all.take i).find? fun y => y.sd = s
structure C2 (all : List En) (ls : List Lf) where
  j : Nat
  o : Option Addr
  cap : Nat
  m3 : List (En × Bool)
  hj : j ≤ ls.length
  h3 : ∀ e, mget e m3 = if e ∈ (ls.take j).flatMap (knw all) then some true else none
structure C3 (all : List En) where
  i : Nat
  o : Option Addr
  cap : Nat
  hi : i ≤ all.length

end Go.Proofs.YtgaipgbgppdfeaaGreatDoor
