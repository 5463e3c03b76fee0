/-
  Entries as values, and their identities.
  Conditions: those that each theorem states.
-/
import Derived.Test.YtgciahedpaencaaGreatDoorME
set_option maxRecDepth 10000
namespace Go.Proofs.YtgciahedpaencaaGreatDoor
open Go.RowKit

def En.w (e : En) : Value := .agg #[.string e.who, .int .i64 e.nu, .int .i64 e.tk, .int .i64 e.o.ch, .string e.o.tg, .string e.o.tx, .int .i64 e.o.us]
/-- What tells an output apart. -/
structure Idn where
  who : ByteArray
  nu : Int
  tk : Int
  deriving DecidableEq
def Idn.v (i : Idn) : Value := .agg #[.string i.who, .int .i64 i.nu, .int .i64 i.tk]
def En.id (e : En) : Idn := ⟨e.who, e.nu, e.tk⟩
theorem beqSw (a b : ByteArray) : (a.toList == b.toList) = decide (a = b) := by
  rw [toList_data, toList_data, Bool.eq_iff_iff]
  simp only [beq_iff_eq, decide_eq_true_eq]
  exact ⟨fun h => ba_ext h, fun h => by rw [h]⟩
theorem beqIw (a b : Int) : (a == b) = decide (a = b) := by rw [Bool.eq_iff_iff]; simp
def cmpT (a b : En) : Int := cmpI a.tk b.tk
theorem cmpT_a (a b : En) (h : cmpT a b < 0) : ¬ cmpT b a < 0 := by
  have := (ord_int.anti a.tk b.tk).1 h
  unfold cmpT; omega
theorem cmpT_t (a b d : En) (h1 : ¬ cmpT b a < 0) (h2 : ¬ cmpT d b < 0) : ¬ cmpT d a < 0 := by
  unfold cmpT cmpI at *
  repeat' split at h1
  all_goals (repeat' split at h2)
  all_goals (repeat' split)
  all_goals omega
end Go.Proofs.YtgciahedpaencaaGreatDoor
