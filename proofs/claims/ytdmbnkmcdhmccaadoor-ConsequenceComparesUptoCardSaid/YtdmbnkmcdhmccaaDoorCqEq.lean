/-
  The contract of consequence.Equal.
  Conditions: those that each theorem states.
-/
import Derived.Test.YtdmbnkmcdhmccaaDoorCons
set_option maxRecDepth 10000
namespace Go.Proofs.YtdmbnkmcdhmccaaDoor
open Go.RowKit

def Cq.v (c : Cq) : Value := .agg #[.int .i64 c.kind, .string c.who, .int .i64 c.nu, .int .i64 c.place, .int .i64 c.old.ch, .string c.old.tg, .string c.old.tx, .int .i64 c.old.us, .int .i64 c.oldAt, .int .i64 c.new.ch, .string c.new.tg, .string c.new.tx, .int .i64 c.new.us, .int .i64 c.newAt]

/-- Whether two consequences are equal, field by field. -/
def eqq (a b : Cq) : Bool := (a.kind == b.kind) && ((a.who.toList == b.who.toList) && ((a.nu == b.nu) && ((a.place == b.place) && (((a.old.ch == b.old.ch) && ((a.old.tg.toList == b.old.tg.toList) && ((a.old.tx.toList == b.old.tx.toList) && ((a.old.us == b.old.us) && true)))) && ((a.oldAt == b.oldAt) && (((a.new.ch == b.new.ch) && ((a.new.tg.toList == b.new.tg.toList) && ((a.new.tx.toList == b.new.tx.toList) && ((a.new.us == b.new.us) && true)))) && ((a.newAt == b.newAt) && true)))))))
theorem eqq_iff (a b : Cq) : eqq a b = decide (a = b) := by
  obtain ⟨a1, a2, a3, a4, ⟨a5, a6, a7, a8⟩, a9, ⟨a10, a11, a12, a13⟩, a14⟩ := a
  obtain ⟨b1, b2, b3, b4, ⟨b5, b6, b7, b8⟩, b9, ⟨b10, b11, b12, b13⟩, b14⟩ := b
  unfold eqq
  simp only [beqS, beqI, Cq.mk.injEq, Ou.mk.injEq]
  rw [Bool.eq_iff_iff]
  simp [and_assoc]
theorem equalC_ok (a b : Cq) : Enters 15 ∧ Spec Tryd.prog 15 #[a.v, b.v] [] [] (RetV (.bool (decide (a = b)))) := by
  rw [← eqq_iff]
  generalize b = b' at *
  refine ⟨enters_of Tryd.func15 (by kernel_rfl) rfl, spec_of (vs := [_, _]) Tryd.func15 rfl Tryd.ntmps15 rfl fun G w hp => ?_⟩
  repeat' (first | refine l_run ?_ | refine l_nil ?_ | refine l_one ?_ | refine k_reg ?_ | refine l_ld ?_ | refine l_ldF ?_ | refine l_st ?_ | refine l_al (fun b => ?_) | refine l_bs (fun b => ?_) | refine k_condT ?_ | refine k_condF ?_ | refine k_brk ?_ | refine l_seq ?_ | refine l_split (fun hc => ?_) (fun hc => ?_) | refine k_cond (fun hc => ?_) (fun hc => ?_))
  exact k_ret () rfl trivial
end Go.Proofs.YtdmbnkmcdhmccaaDoor
