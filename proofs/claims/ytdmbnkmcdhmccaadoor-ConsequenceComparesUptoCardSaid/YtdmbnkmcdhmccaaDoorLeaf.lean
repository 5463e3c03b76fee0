/-
  Contracts of the small functions of cmp and of the packages lineage, object.
  Conditions: none beyond those that each theorem states.
-/
import Derived.Test.YtdmbnkmcdhmccaaDoorDraw
namespace Go.Proofs.YtdmbnkmcdhmccaaDoor
open Go.RowKit

/-- A result, nothing else. -/
def RetV (v : Value) : Post := ⟨Unit, fun _ => v, fun _ => True, fun _ => [], fun _ => []⟩

theorem isNaN_int (x : Int) : Enters 76 ∧ Spec Tryd.prog 76 #[.int .i64 x] [] [] (RetV (.bool false)) := by
  refine ⟨enters_of Tryd.func76 (by kernel_rfl) rfl, spec_of (vs := [_]) Tryd.func76 rfl Tryd.ntmps76 rfl fun G w hp => ?_⟩
  repeat' (first | refine l_run ?_ | refine l_nil ?_ | refine l_one ?_ | refine k_reg ?_ | refine l_ld ?_ | refine l_ldF ?_ | refine l_st ?_ | refine l_al (fun b => ?_) | refine l_bs (fun b => ?_) | refine k_condT ?_ | refine k_condF ?_ | refine k_brk ?_ | refine l_split (fun hc => ?_) (fun hc => ?_) | refine k_cond (fun hc => ?_) (fun hc => ?_))
  refine k_ret () ?_ trivial
  simp [RetV, resV]
theorem isNaN_str (x : ByteArray) : Enters 80 ∧ Spec Tryd.prog 80 #[.string x] [] [] (RetV (.bool false)) := by
  refine ⟨enters_of Tryd.func80 (by kernel_rfl) rfl, spec_of (vs := [_]) Tryd.func80 rfl Tryd.ntmps80 rfl fun G w hp => ?_⟩
  repeat' (first | refine l_run ?_ | refine l_nil ?_ | refine l_one ?_ | refine k_reg ?_ | refine l_ld ?_ | refine l_ldF ?_ | refine l_st ?_ | refine l_al (fun b => ?_) | refine l_bs (fun b => ?_) | refine k_condT ?_ | refine k_condF ?_ | refine k_brk ?_ | refine l_split (fun hc => ?_) (fun hc => ?_) | refine k_cond (fun hc => ?_) (fun hc => ?_))
  refine k_ret () ?_ trivial
  simp [RetV, resV]
theorem isNaN_lin (x : ByteArray) : Enters 84 ∧ Spec Tryd.prog 84 #[.string x] [] [] (RetV (.bool false)) := by
  refine ⟨enters_of Tryd.func84 (by kernel_rfl) rfl, spec_of (vs := [_]) Tryd.func84 rfl Tryd.ntmps84 rfl fun G w hp => ?_⟩
  repeat' (first | refine l_run ?_ | refine l_nil ?_ | refine l_one ?_ | refine k_reg ?_ | refine l_ld ?_ | refine l_ldF ?_ | refine l_st ?_ | refine l_al (fun b => ?_) | refine l_bs (fun b => ?_) | refine k_condT ?_ | refine k_condF ?_ | refine k_brk ?_ | refine l_split (fun hc => ?_) (fun hc => ?_) | refine k_cond (fun hc => ?_) (fun hc => ?_))
  refine k_ret () ?_ trivial
  simp [RetV, resV]

def cmpI (x y : Int) : Int := if x < y then -1 else if y < x then 1 else 0
/-- The order of texts, byte by byte. -/
def cmpS (x y : ByteArray) : Int := if Op.bytesLess x.toList y.toList then -1 else if x.toList = y.toList then 0 else 1

theorem cmp_int (x y : Int) : Enters 64 ∧ Spec Tryd.prog 64 #[.int .i64 x, .int .i64 y] [] [] (RetV (.int .i64 (cmpI x y))) := by
  refine ⟨enters_of Tryd.func64 (by kernel_rfl) rfl, spec_of (vs := [_, _]) Tryd.func64 rfl Tryd.ntmps64 rfl fun G w hp => ?_⟩
  repeat' (first | refine l_run ?_ | refine l_nil ?_ | refine l_one ?_ | refine k_reg ?_ | refine l_ld ?_ | refine l_ldF ?_ | refine l_st ?_ | refine l_al (fun b => ?_) | refine l_bs (fun b => ?_) | refine k_condT ?_ | refine k_condF ?_ | refine k_brk ?_ | refine l_call (isNaN_int _) (fun _ _ => ?_) | refine l_call0 (isNaN_int _) (fun _ _ => ?_) | refine l_split (fun hc => ?_) (fun hc => ?_) | refine k_cond (fun hc => ?_) (fun hc => ?_))
  all_goals
    refine k_ret () ?_ trivial
    simp_all [RetV, resV, cmpI]
  all_goals (repeat' split) <;> omega
theorem cmp_str (x y : ByteArray) : Enters 67 ∧ Spec Tryd.prog 67 #[.string x, .string y] [] [] (RetV (.int .i64 (cmpS x y))) := by
  refine ⟨enters_of Tryd.func67 (by kernel_rfl) rfl, spec_of (vs := [_, _]) Tryd.func67 rfl Tryd.ntmps67 rfl fun G w hp => ?_⟩
  repeat' (first | refine l_run ?_ | refine l_nil ?_ | refine l_one ?_ | refine k_reg ?_ | refine l_ld ?_ | refine l_ldF ?_ | refine l_st ?_ | refine l_al (fun b => ?_) | refine l_bs (fun b => ?_) | refine k_condT ?_ | refine k_condF ?_ | refine k_brk ?_ | refine l_call (isNaN_str _) (fun _ _ => ?_) | refine l_call0 (isNaN_str _) (fun _ _ => ?_) | refine l_split (fun hc => ?_) (fun hc => ?_) | refine k_cond (fun hc => ?_) (fun hc => ?_))
  all_goals
    refine k_ret () ?_ trivial
    simp_all [RetV, resV, cmpS]
theorem cmp_lin (x y : ByteArray) : Enters 79 ∧ Spec Tryd.prog 79 #[.string x, .string y] [] [] (RetV (.int .i64 (cmpS x y))) := by
  refine ⟨enters_of Tryd.func79 (by kernel_rfl) rfl, spec_of (vs := [_, _]) Tryd.func79 rfl Tryd.ntmps79 rfl fun G w hp => ?_⟩
  repeat' (first | refine l_run ?_ | refine l_nil ?_ | refine l_one ?_ | refine k_reg ?_ | refine l_ld ?_ | refine l_ldF ?_ | refine l_st ?_ | refine l_al (fun b => ?_) | refine l_bs (fun b => ?_) | refine k_condT ?_ | refine k_condF ?_ | refine k_brk ?_ | refine l_call (isNaN_lin _) (fun _ _ => ?_) | refine l_call0 (isNaN_lin _) (fun _ _ => ?_) | refine l_split (fun hc => ?_) (fun hc => ?_) | refine k_cond (fun hc => ?_) (fun hc => ?_))
  all_goals
    refine k_ret () ?_ trivial
    simp_all [RetV, resV, cmpS]

theorem isDigit_ok (x : Int) : Enters 85 ∧ Spec Tryd.prog 85 #[.int .u8 x] [] [] (RetV (.bool (decide (48 ≤ x) && decide (x ≤ 57)))) := by
  refine ⟨enters_of Tryd.func85 (by kernel_rfl) rfl, spec_of (vs := [_]) Tryd.func85 rfl Tryd.ntmps85 rfl fun G w hp => ?_⟩
  repeat' (first | refine l_run ?_ | refine l_nil ?_ | refine l_one ?_ | refine k_reg ?_ | refine l_ld ?_ | refine l_ldF ?_ | refine l_st ?_ | refine l_al (fun b => ?_) | refine l_bs (fun b => ?_) | refine k_condT ?_ | refine k_condF ?_ | refine k_brk ?_ | refine l_split (fun hc => ?_) (fun hc => ?_) | refine k_cond (fun hc => ?_) (fun hc => ?_))
  all_goals (refine k_ret () ?_ trivial; simp_all [RetV, resV] <;> omega)
theorem isKind_ok (x : Int) : Enters 50 ∧ Spec Tryd.prog 50 #[.int .i64 x] [] [] (RetV (.bool (decide (1 ≤ x) && decide (x ≤ 20)))) := by
  refine ⟨enters_of Tryd.func50 (by kernel_rfl) rfl, spec_of (vs := [_]) Tryd.func50 rfl Tryd.ntmps50 rfl fun G w hp => ?_⟩
  repeat' (first | refine l_run ?_ | refine l_nil ?_ | refine l_one ?_ | refine k_reg ?_ | refine l_ld ?_ | refine l_ldF ?_ | refine l_st ?_ | refine l_al (fun b => ?_) | refine l_bs (fun b => ?_) | refine k_condT ?_ | refine k_condF ?_ | refine k_brk ?_ | refine l_split (fun hc => ?_) (fun hc => ?_) | refine k_cond (fun hc => ?_) (fun hc => ?_))
  all_goals (refine k_ret () ?_ trivial; simp_all [RetV, resV] <;> omega)
theorem within_ok (x m : Int) : Enters 51 ∧ Spec Tryd.prog 51 #[.int .i64 x, .int .i64 m] [] [] (RetV (.bool (decide (0 ≤ x) && decide (x ≤ m)))) := by
  refine ⟨enters_of Tryd.func51 (by kernel_rfl) rfl, spec_of (vs := [_, _]) Tryd.func51 rfl Tryd.ntmps51 rfl fun G w hp => ?_⟩
  repeat' (first | refine l_run ?_ | refine l_nil ?_ | refine l_one ?_ | refine k_reg ?_ | refine l_ld ?_ | refine l_ldF ?_ | refine l_st ?_ | refine l_al (fun b => ?_) | refine l_bs (fun b => ?_) | refine k_condT ?_ | refine k_condF ?_ | refine k_brk ?_ | refine l_split (fun hc => ?_) (fun hc => ?_) | refine k_cond (fun hc => ?_) (fun hc => ?_))
  all_goals (refine k_ret () ?_ trivial; simp_all [RetV, resV] <;> omega)
theorem isTick_ok (x : Int) : Enters 46 ∧ Spec Tryd.prog 46 #[.int .i64 x] [] [] (RetV (.bool (decide (0 ≤ x) && decide (x ≤ 1073741824)))) := by
  refine ⟨enters_of Tryd.func46 (by kernel_rfl) rfl, spec_of (vs := [_]) Tryd.func46 rfl Tryd.ntmps46 rfl fun G w hp => ?_⟩
  repeat' (first | refine l_run ?_ | refine l_nil ?_ | refine l_one ?_ | refine k_reg ?_ | refine l_ld ?_ | refine l_ldF ?_ | refine l_st ?_ | refine l_al (fun b => ?_) | refine l_bs (fun b => ?_) | refine k_condT ?_ | refine k_condF ?_ | refine k_brk ?_ | refine l_split (fun hc => ?_) (fun hc => ?_) | refine k_cond (fun hc => ?_) (fun hc => ?_))
  all_goals (refine k_ret () ?_ trivial; simp_all [RetV, resV] <;> omega)

/-- The name of an object. -/
structure Nm where
  kind : Int
  owner : ByteArray
  number : Int
  index : Int
  text : ByteArray
def Nm.v (a : Nm) : Value := .agg #[.int .i64 a.kind, .string a.owner, .int .i64 a.number, .int .i64 a.index, .string a.text]

theorem ofOut_ok (o : ByteArray) (m t : Int) : Enters 40 ∧ Spec Tryd.prog 40 #[.string o, .int .i64 m, .int .i64 t] [] [] (RetV (.agg #[.int .i64 18, .string o, .int .i64 m, .int .i64 t, .string ⟨#[]⟩])) := by
  refine ⟨enters_of Tryd.func40 (by kernel_rfl) rfl, spec_of (vs := [_, _, _]) Tryd.func40 rfl Tryd.ntmps40 rfl fun G w hp => ?_⟩
  repeat' (first | refine l_run ?_ | refine l_nil ?_ | refine l_one ?_ | refine k_reg ?_ | refine l_ld ?_ | refine l_ldF ?_ | refine l_st ?_ | refine l_al (fun b => ?_) | refine l_bs (fun b => ?_) | refine k_condT ?_ | refine k_condF ?_ | refine k_brk ?_ | refine l_split (fun hc => ?_) (fun hc => ?_) | refine k_cond (fun hc => ?_) (fun hc => ?_))
  all_goals (refine k_ret () ?_ trivial; simp_all [RetV, resV] <;> omega)
theorem outName_ok (o : ByteArray) (m t : Int) : Enters 24 ∧ Spec Tryd.prog 24 #[.string o, .int .i64 m, .int .i64 t] [] [] (RetV (.agg #[.int .i64 18, .string o, .int .i64 m, .int .i64 t, .string ⟨#[]⟩])) := by
  refine ⟨enters_of Tryd.func24 (by kernel_rfl) rfl, spec_of (vs := [_, _, _]) Tryd.func24 rfl Tryd.ntmps24 rfl fun G w hp => ?_⟩
  repeat' (first | refine l_run ?_ | refine l_nil ?_ | refine l_one ?_ | refine k_reg ?_ | refine l_ld ?_ | refine l_ldF ?_ | refine l_st ?_ | refine l_al (fun b => ?_) | refine l_bs (fun b => ?_) | refine k_condT ?_ | refine k_condF ?_ | refine k_brk ?_ | refine l_call (ofOut_ok _ _ _) (fun _ _ => ?_) | refine l_call0 (ofOut_ok _ _ _) (fun _ _ => ?_) | refine l_split (fun hc => ?_) (fun hc => ?_) | refine k_cond (fun hc => ?_) (fun hc => ?_))
  all_goals (refine k_ret () ?_ trivial; simp_all [RetV, resV] <;> omega)
end Go.Proofs.YtdmbnkmcdhmccaaDoor
