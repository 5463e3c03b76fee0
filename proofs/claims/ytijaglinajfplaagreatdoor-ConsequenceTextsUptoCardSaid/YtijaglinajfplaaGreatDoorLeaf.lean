/-
  Contracts of the small functions of cmp and of the packages lineage, object.
  Conditions: none beyond those that each theorem states.
-/
import Derived.Test.YtijaglinajfplaaGreatDoorDraw
namespace Go.Proofs.YtijaglinajfplaaGreatDoor
open Go.RowKit

/-- A result, nothing else. -/
def RetV (v : Value) : Post := ⟨Unit, fun _ => v, fun _ => True, fun _ => [], fun _ => []⟩

theorem isNaN_int (x : Int) : Enters 198 ∧ Spec Tryz.prog 198 #[.int .i64 x] [] [] (RetV (.bool false)) := by
  refine ⟨enters_of Tryz.func198 (by kernel_rfl) rfl, spec_of (vs := [_]) Tryz.func198 rfl Tryz.ntmps198 rfl fun G w hp => ?_⟩
  repeat' (first | refine l_run ?_ | refine l_nil ?_ | refine l_one ?_ | refine k_reg ?_ | refine l_ld ?_ | refine l_ldF ?_ | refine l_st ?_ | refine l_al (fun b => ?_) | refine l_bs (fun b => ?_) | refine k_condT ?_ | refine k_condF ?_ | refine k_brk ?_ | refine l_split (fun hc => ?_) (fun hc => ?_) | refine k_cond (fun hc => ?_) (fun hc => ?_))
  refine k_ret () ?_ trivial
  simp [RetV, resV]
theorem isNaN_str (x : ByteArray) : Enters 238 ∧ Spec Tryz.prog 238 #[.string x] [] [] (RetV (.bool false)) := by
  refine ⟨enters_of Tryz.func238 (by kernel_rfl) rfl, spec_of (vs := [_]) Tryz.func238 rfl Tryz.ntmps238 rfl fun G w hp => ?_⟩
  repeat' (first | refine l_run ?_ | refine l_nil ?_ | refine l_one ?_ | refine k_reg ?_ | refine l_ld ?_ | refine l_ldF ?_ | refine l_st ?_ | refine l_al (fun b => ?_) | refine l_bs (fun b => ?_) | refine k_condT ?_ | refine k_condF ?_ | refine k_brk ?_ | refine l_split (fun hc => ?_) (fun hc => ?_) | refine k_cond (fun hc => ?_) (fun hc => ?_))
  refine k_ret () ?_ trivial
  simp [RetV, resV]
theorem isNaN_lin (x : ByteArray) : Enters 276 ∧ Spec Tryz.prog 276 #[.string x] [] [] (RetV (.bool false)) := by
  refine ⟨enters_of Tryz.func276 (by kernel_rfl) rfl, spec_of (vs := [_]) Tryz.func276 rfl Tryz.ntmps276 rfl fun G w hp => ?_⟩
  repeat' (first | refine l_run ?_ | refine l_nil ?_ | refine l_one ?_ | refine k_reg ?_ | refine l_ld ?_ | refine l_ldF ?_ | refine l_st ?_ | refine l_al (fun b => ?_) | refine l_bs (fun b => ?_) | refine k_condT ?_ | refine k_condF ?_ | refine k_brk ?_ | refine l_split (fun hc => ?_) (fun hc => ?_) | refine k_cond (fun hc => ?_) (fun hc => ?_))
  refine k_ret () ?_ trivial
  simp [RetV, resV]

def cmpI (x y : Int) : Int := if x < y then -1 else if y < x then 1 else 0
/-- The order of texts, byte by byte. -/
def cmpS (x y : ByteArray) : Int := if Op.bytesLess x.toList y.toList then -1 else if x.toList = y.toList then 0 else 1

theorem cmp_int (x y : Int) : Enters 136 ∧ Spec Tryz.prog 136 #[.int .i64 x, .int .i64 y] [] [] (RetV (.int .i64 (cmpI x y))) := by
  refine ⟨enters_of Tryz.func136 (by kernel_rfl) rfl, spec_of (vs := [_, _]) Tryz.func136 rfl Tryz.ntmps136 rfl fun G w hp => ?_⟩
  repeat' (first | refine l_run ?_ | refine l_nil ?_ | refine l_one ?_ | refine k_reg ?_ | refine l_ld ?_ | refine l_ldF ?_ | refine l_st ?_ | refine l_al (fun b => ?_) | refine l_bs (fun b => ?_) | refine k_condT ?_ | refine k_condF ?_ | refine k_brk ?_ | refine l_call (isNaN_int _) (fun _ _ => ?_) | refine l_call0 (isNaN_int _) (fun _ _ => ?_) | refine l_split (fun hc => ?_) (fun hc => ?_) | refine k_cond (fun hc => ?_) (fun hc => ?_))
  all_goals
    refine k_ret () ?_ trivial
    simp_all [RetV, resV, cmpI]
  all_goals (repeat' split) <;> omega
theorem cmp_str (x y : ByteArray) : Enters 189 ∧ Spec Tryz.prog 189 #[.string x, .string y] [] [] (RetV (.int .i64 (cmpS x y))) := by
  refine ⟨enters_of Tryz.func189 (by kernel_rfl) rfl, spec_of (vs := [_, _]) Tryz.func189 rfl Tryz.ntmps189 rfl fun G w hp => ?_⟩
  repeat' (first | refine l_run ?_ | refine l_nil ?_ | refine l_one ?_ | refine k_reg ?_ | refine l_ld ?_ | refine l_ldF ?_ | refine l_st ?_ | refine l_al (fun b => ?_) | refine l_bs (fun b => ?_) | refine k_condT ?_ | refine k_condF ?_ | refine k_brk ?_ | refine l_call (isNaN_str _) (fun _ _ => ?_) | refine l_call0 (isNaN_str _) (fun _ _ => ?_) | refine l_split (fun hc => ?_) (fun hc => ?_) | refine k_cond (fun hc => ?_) (fun hc => ?_))
  all_goals
    refine k_ret () ?_ trivial
    simp_all [RetV, resV, cmpS]
theorem cmp_lin (x y : ByteArray) : Enters 237 ∧ Spec Tryz.prog 237 #[.string x, .string y] [] [] (RetV (.int .i64 (cmpS x y))) := by
  refine ⟨enters_of Tryz.func237 (by kernel_rfl) rfl, spec_of (vs := [_, _]) Tryz.func237 rfl Tryz.ntmps237 rfl fun G w hp => ?_⟩
  repeat' (first | refine l_run ?_ | refine l_nil ?_ | refine l_one ?_ | refine k_reg ?_ | refine l_ld ?_ | refine l_ldF ?_ | refine l_st ?_ | refine l_al (fun b => ?_) | refine l_bs (fun b => ?_) | refine k_condT ?_ | refine k_condF ?_ | refine k_brk ?_ | refine l_call (isNaN_lin _) (fun _ _ => ?_) | refine l_call0 (isNaN_lin _) (fun _ _ => ?_) | refine l_split (fun hc => ?_) (fun hc => ?_) | refine k_cond (fun hc => ?_) (fun hc => ?_))
  all_goals
    refine k_ret () ?_ trivial
    simp_all [RetV, resV, cmpS]

theorem isDigit_ok (x : Int) : Enters 278 ∧ Spec Tryz.prog 278 #[.int .u8 x] [] [] (RetV (.bool (decide (48 ≤ x) && decide (x ≤ 57)))) := by
  refine ⟨enters_of Tryz.func278 (by kernel_rfl) rfl, spec_of (vs := [_]) Tryz.func278 rfl Tryz.ntmps278 rfl fun G w hp => ?_⟩
  repeat' (first | refine l_run ?_ | refine l_nil ?_ | refine l_one ?_ | refine k_reg ?_ | refine l_ld ?_ | refine l_ldF ?_ | refine l_st ?_ | refine l_al (fun b => ?_) | refine l_bs (fun b => ?_) | refine k_condT ?_ | refine k_condF ?_ | refine k_brk ?_ | refine l_split (fun hc => ?_) (fun hc => ?_) | refine k_cond (fun hc => ?_) (fun hc => ?_))
  all_goals (refine k_ret () ?_ trivial; simp_all [RetV, resV] <;> omega)
theorem isKind_ok (x : Int) : Enters 191 ∧ Spec Tryz.prog 191 #[.int .i64 x] [] [] (RetV (.bool (decide (1 ≤ x) && decide (x ≤ 20)))) := by
  refine ⟨enters_of Tryz.func191 (by kernel_rfl) rfl, spec_of (vs := [_]) Tryz.func191 rfl Tryz.ntmps191 rfl fun G w hp => ?_⟩
  repeat' (first | refine l_run ?_ | refine l_nil ?_ | refine l_one ?_ | refine k_reg ?_ | refine l_ld ?_ | refine l_ldF ?_ | refine l_st ?_ | refine l_al (fun b => ?_) | refine l_bs (fun b => ?_) | refine k_condT ?_ | refine k_condF ?_ | refine k_brk ?_ | refine l_split (fun hc => ?_) (fun hc => ?_) | refine k_cond (fun hc => ?_) (fun hc => ?_))
  all_goals (refine k_ret () ?_ trivial; simp_all [RetV, resV] <;> omega)
theorem within_ok (x m : Int) : Enters 152 ∧ Spec Tryz.prog 152 #[.int .i64 x, .int .i64 m] [] [] (RetV (.bool (decide (0 ≤ x) && decide (x ≤ m)))) := by
  refine ⟨enters_of Tryz.func152 (by kernel_rfl) rfl, spec_of (vs := [_, _]) Tryz.func152 rfl Tryz.ntmps152 rfl fun G w hp => ?_⟩
  repeat' (first | refine l_run ?_ | refine l_nil ?_ | refine l_one ?_ | refine k_reg ?_ | refine l_ld ?_ | refine l_ldF ?_ | refine l_st ?_ | refine l_al (fun b => ?_) | refine l_bs (fun b => ?_) | refine k_condT ?_ | refine k_condF ?_ | refine k_brk ?_ | refine l_split (fun hc => ?_) (fun hc => ?_) | refine k_cond (fun hc => ?_) (fun hc => ?_))
  all_goals (refine k_ret () ?_ trivial; simp_all [RetV, resV] <;> omega)
theorem isTick_ok (x : Int) : Enters 137 ∧ Spec Tryz.prog 137 #[.int .i64 x] [] [] (RetV (.bool (decide (0 ≤ x) && decide (x ≤ 1073741824)))) := by
  refine ⟨enters_of Tryz.func137 (by kernel_rfl) rfl, spec_of (vs := [_]) Tryz.func137 rfl Tryz.ntmps137 rfl fun G w hp => ?_⟩
  repeat' (first | refine l_run ?_ | refine l_nil ?_ | refine l_one ?_ | refine k_reg ?_ | refine l_ld ?_ | refine l_ldF ?_ | refine l_st ?_ | refine l_al (fun b => ?_) | refine l_bs (fun b => ?_) | refine k_condT ?_ | refine k_condF ?_ | refine k_brk ?_ | refine l_split (fun hc => ?_) (fun hc => ?_) | refine k_cond (fun hc => ?_) (fun hc => ?_))
  all_goals (refine k_ret () ?_ trivial; simp_all [RetV, resV] <;> omega)

/-- The name of an object. -/
structure Nm where
  kind : Int
  owner : ByteArray
  number : Int
  index : Int
  text : ByteArray
def Nm.v (a : Nm) : Value := .agg #[.int .i64 a.kind, .string a.owner, .int .i64 a.number, .int .i64 a.index, .string a.text]

theorem ofOut_ok (o : ByteArray) (m t : Int) : Enters 43 ∧ Spec Tryz.prog 43 #[.string o, .int .i64 m, .int .i64 t] [] [] (RetV (.agg #[.int .i64 18, .string o, .int .i64 m, .int .i64 t, .string ⟨#[]⟩])) := by
  refine ⟨enters_of Tryz.func43 (by kernel_rfl) rfl, spec_of (vs := [_, _, _]) Tryz.func43 rfl Tryz.ntmps43 rfl fun G w hp => ?_⟩
  repeat' (first | refine l_run ?_ | refine l_nil ?_ | refine l_one ?_ | refine k_reg ?_ | refine l_ld ?_ | refine l_ldF ?_ | refine l_st ?_ | refine l_al (fun b => ?_) | refine l_bs (fun b => ?_) | refine k_condT ?_ | refine k_condF ?_ | refine k_brk ?_ | refine l_split (fun hc => ?_) (fun hc => ?_) | refine k_cond (fun hc => ?_) (fun hc => ?_))
  all_goals (refine k_ret () ?_ trivial; simp_all [RetV, resV] <;> omega)
theorem outName_ok (o : ByteArray) (m t : Int) : Enters 42 ∧ Spec Tryz.prog 42 #[.string o, .int .i64 m, .int .i64 t] [] [] (RetV (.agg #[.int .i64 18, .string o, .int .i64 m, .int .i64 t, .string ⟨#[]⟩])) := by
  refine ⟨enters_of Tryz.func42 (by kernel_rfl) rfl, spec_of (vs := [_, _, _]) Tryz.func42 rfl Tryz.ntmps42 rfl fun G w hp => ?_⟩
  repeat' (first | refine l_run ?_ | refine l_nil ?_ | refine l_one ?_ | refine k_reg ?_ | refine l_ld ?_ | refine l_ldF ?_ | refine l_st ?_ | refine l_al (fun b => ?_) | refine l_bs (fun b => ?_) | refine k_condT ?_ | refine k_condF ?_ | refine k_brk ?_ | refine l_call (ofOut_ok _ _ _) (fun _ _ => ?_) | refine l_call0 (ofOut_ok _ _ _) (fun _ _ => ?_) | refine l_split (fun hc => ?_) (fun hc => ?_) | refine k_cond (fun hc => ?_) (fun hc => ?_))
  all_goals (refine k_ret () ?_ trivial; simp_all [RetV, resV] <;> omega)
end Go.Proofs.YtijaglinajfplaaGreatDoor
