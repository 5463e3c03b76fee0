/-
  Entries as values, and their identities.
  Contracts of the statements' own functions of layer 39: shortO, short, check, put, value, leave, find, encoding.
  Conditions: those that each theorem states.
-/
import Derived.Test.YtaijnpkdlopomaaGreatDoorME
set_option maxRecDepth 10000
namespace Go.Proofs.YtaijnpkdlopomaaGreatDoor
open Go.RowKit

def En.w (e : En) : Value := .agg #[.string e.who, .int .i64 e.nu, .int .i64 e.tk, .int .i64 e.o.ch, .string e.o.tg, .string e.o.tx, .int .i64 e.o.us]
/-- What tells an output apart. -/
structure Idn where
  who : ByteArray
  nu : Int
  tk : Int
  deriving DecidableEq
def Idn.v (i : Idn) : Value := .agg #[.string i.who, .int .i64 i.nu, .int .i64 i.tk]
def En.id (e : En) : Idn := ⟨e.who, e.nu, e.tk⟩
theorem beqSw (a b : ByteArray) : (a.toList == b.toList) = decide (a = b) := by
  rw [toList_data, toList_data, Bool.eq_iff_iff]
  simp only [beq_iff_eq, decide_eq_true_eq]
  exact ⟨fun h => ba_ext h, fun h => by rw [h]⟩
theorem beqIw (a b : Int) : (a == b) = decide (a = b) := by rw [Bool.eq_iff_iff]; simp
def cmpT (a b : En) : Int := cmpI a.tk b.tk
theorem cmpT_a (a b : En) (h : cmpT a b < 0) : ¬ cmpT b a < 0 := by
  have := (ord_int.anti a.tk b.tk).1 h
  unfold cmpT; omega
theorem cmpT_t (a b d : En) (h1 : ¬ cmpT b a < 0) (h2 : ¬ cmpT d b < 0) : ¬ cmpT d a < 0 := by
  unfold cmpT cmpI at *
  repeat' split at h1
  all_goals (repeat' split at h2)
  all_goals (repeat' split)
  all_goals omega
end Go.Proofs.YtaijnpkdlopomaaGreatDoor

set_option maxRecDepth 10000
namespace Go.Proofs.YtaijnpkdlopomaaGreatDoor
open Go.RowKit

def shO (o : Ou) : Ou := ⟨o.ch, cutS o.tg 80, cutS o.tx 4200, o.us⟩
def shL (x : Lf) : Lf := ⟨⟨cutS x.e.who 80, x.e.nu, x.e.tk, shO x.e.o⟩, x.tm, x.rd⟩
/-! The list's own Leave. -/
def mleaveE (ls : List Lf) (x : Lf) : Int := if lchk x ≠ 0 then lchk x else if late ls x then 32 else 0
theorem mleave_leave {ls : List Lf} {x : Lf} (h : ls.length < 100000) : leaveE ls x = mleaveE ls x := by
  unfold leaveE mleaveE
  rw [if_neg (show ¬ 100000 ≤ ls.length by omega)]

theorem lchk_cases (x : Lf) : (lvalid x.e.who.data.toList = false ∧ lchk x = 12) ∨ (lvalid x.e.who.data.toList = true ∧ (x.e.nu < 0 ∨ 1048576 < x.e.nu ∨ x.e.tk < 0 ∨ 1073741824 < x.e.tk ∨ x.tm < 0 ∨ 1073741824 < x.tm ∨ x.rd < 0 ∨ 1048576 < x.rd) ∧ lchk x = 2) ∨
    (lvalid x.e.who.data.toList = true ∧ (0 ≤ x.e.nu ∧ x.e.nu ≤ 1048576 ∧ 0 ≤ x.e.tk ∧ x.e.tk ≤ 1073741824 ∧ 0 ≤ x.tm ∧ x.tm ≤ 1073741824 ∧ 0 ≤ x.rd ∧ x.rd ≤ 1048576) ∧ lchk x = ochk x.e.o) := by
  have ht : ∀ z : Int, tick z = false ↔ z < 0 ∨ 1073741824 < z := fun z => by
    unfold tick
    by_cases h1 : 0 ≤ z <;> by_cases h2 : z ≤ 1073741824 <;> simp [h1, h2] <;> omega
  unfold lchk
  cases hv : lvalid x.e.who.data.toList
  · exact .inl ⟨rfl, by simp⟩
  · right
    rw [if_neg (by simp)]
    by_cases h : x.e.nu < 0 ∨ 1048576 < x.e.nu ∨ tick x.e.tk = false ∨ tick x.tm = false ∨ x.rd < 0 ∨ 1048576 < x.rd
    · left
      rw [if_pos h]
      rw [ht, ht] at h
      exact ⟨rfl, by omega, rfl⟩
    · right
      rw [if_neg h]
      rw [ht, ht] at h
      exact ⟨rfl, by omega, rfl⟩

/-! find, encoding: of a list that stays. -/
theorem tl_iff (a b : ByteArray) : a.toList = b.toList ↔ a = b := by
  rw [toList_data, toList_data]
  exact ⟨fun h => ba_ext h, fun h => by rw [h]⟩
def idq (x : Lf) (w : ByteArray) (nu tk : Int) : Bool := decide (x.e.who = w) && (decide (x.e.nu = nu) && decide (x.e.tk = tk))
/-- The greatest place, of the first m. -/
def lfind (ls : List Lf) (w : ByteArray) (nu tk : Int) : Nat → Option Nat
  | 0 => none
  | m + 1 => match ls[m]? with | some x => if idq x w nu tk then some m else lfind ls w nu tk m | none => lfind ls w nu tk m
def fndv (r : Option Nat) : Int := match r with | some j => (j : Int) | none => -1

def lenc (x : Lf) : List UInt8 := venc x.e.who.size ++ x.e.who.data.toList ++ venc x.e.nu.toNat ++ venc x.e.tk.toNat ++ oenc x.e.o ++ venc x.tm.toNat ++ venc x.rd.toNat
def lencs (ls : List Lf) : List UInt8 := venc ls.length ++ ls.flatMap lenc
end Go.Proofs.YtaijnpkdlopomaaGreatDoor
