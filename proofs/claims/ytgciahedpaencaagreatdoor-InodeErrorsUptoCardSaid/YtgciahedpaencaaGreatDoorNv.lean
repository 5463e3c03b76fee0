/-
  Contracts of the package inode where the view is nil.
  Conditions: those that each theorem states.
-/
import Derived.Test.YtgciahedpaencaaGreatDoorMJ

set_option maxRecDepth 10000
namespace Go.Proofs.YtgciahedpaencaaGreatDoor
open Go.RowKit

abbrev nilV : Value := .pointer none
theorem vGet_ok (b : Bi) : Enters 22 ∧ Spec Tryz.prog 22 #[nilV, b.v] [] [] (RetV (.tuple #[Ino.z.v, .int .i64 1])) := by
  refine ⟨enters_of Tryz.func22 (by kernel_rfl) rfl, spec_of (vs := [_, _]) Tryz.func22 rfl Tryz.ntmps22 rfl fun G w hp => ?_⟩
  repeat' (first | refine l_run ?_ | refine l_nil ?_ | refine l_one ?_ | refine k_reg ?_ | refine l_ld ?_ | refine l_ldF ?_ | refine l_st ?_ | refine l_al (fun b => ?_) | refine l_bs (fun b => ?_) | refine k_condT ?_ | refine k_condF ?_ | refine k_brk ?_ | (refine l_split (fun hc => ?_) (fun hc => ?_) <;> (try simp at hc)) | (refine k_cond (fun hc => ?_) (fun hc => ?_) <;> (try simp at hc)))
  exact k_ret () rfl trivial
theorem vFile_ok (b : Bi) : Enters 62 ∧ Spec Tryz.prog 62 #[nilV, b.v] [] [] (RetV (.tuple #[Ino.z.v, .int .i64 1])) := by
  have n1 := vGet_ok b
  refine ⟨enters_of Tryz.func62 (by kernel_rfl) rfl, spec_of (vs := [_, _]) Tryz.func62 rfl Tryz.ntmps62 rfl fun G w hp => ?_⟩
  repeat' (first | refine l_run ?_ | refine l_nil ?_ | refine l_one ?_ | refine k_reg ?_ | refine l_ld ?_ | refine l_ldF ?_ | refine l_st ?_ | refine l_al (fun b => ?_) | refine l_bs (fun b => ?_) | refine k_condT ?_ | refine k_condF ?_ | refine k_brk ?_ | refine l_call (n1) (fun _ _ => ?_) | refine l_call0 (n1) (fun _ _ => ?_) | (refine l_split (fun hc => ?_) (fun hc => ?_) <;> (try simp at hc) <;> (try omega)) | (refine k_cond (fun hc => ?_) (fun hc => ?_) <;> (try simp at hc) <;> (try omega)))
  exact k_ret () rfl trivial
theorem vRead_ok (b : Bi) (x y : Int) : Enters 23 ∧ Spec Tryz.prog 23 #[nilV, b.v, .int .i64 x, .int .i64 y] [] [] (RetV (.tuple #[.string ⟨#[]⟩, .int .i64 1])) := by
  have n1 := vFile_ok b
  refine ⟨enters_of Tryz.func23 (by kernel_rfl) rfl, spec_of (vs := [_, _, _, _]) Tryz.func23 rfl Tryz.ntmps23 rfl fun G w hp => ?_⟩
  repeat' (first | refine l_run ?_ | refine l_nil ?_ | refine l_one ?_ | refine k_reg ?_ | refine l_ld ?_ | refine l_ldF ?_ | refine l_st ?_ | refine l_al (fun b => ?_) | refine l_bs (fun b => ?_) | refine k_condT ?_ | refine k_condF ?_ | refine k_brk ?_ | refine l_call (n1) (fun _ _ => ?_) | refine l_call0 (n1) (fun _ _ => ?_) | (refine l_split (fun hc => ?_) (fun hc => ?_) <;> (try simp at hc) <;> (try omega)) | (refine k_cond (fun hc => ?_) (fun hc => ?_) <;> (try simp at hc) <;> (try omega)))
  exact k_ret () rfl trivial
theorem vWrite_ok (b : Bi) (x : Int) (s : ByteArray) : Enters 24 ∧ Spec Tryz.prog 24 #[nilV, b.v, .int .i64 x, .string s] [] [] (RetV (.tuple #[.int .i64 0, .int .i64 1])) := by
  have n1 := vFile_ok b
  refine ⟨enters_of Tryz.func24 (by kernel_rfl) rfl, spec_of (vs := [_, _, _, _]) Tryz.func24 rfl Tryz.ntmps24 rfl fun G w hp => ?_⟩
  repeat' (first | refine l_run ?_ | refine l_nil ?_ | refine l_one ?_ | refine k_reg ?_ | refine l_ld ?_ | refine l_ldF ?_ | refine l_st ?_ | refine l_al (fun b => ?_) | refine l_bs (fun b => ?_) | refine k_condT ?_ | refine k_condF ?_ | refine k_brk ?_ | refine l_call (n1) (fun _ _ => ?_) | refine l_call0 (n1) (fun _ _ => ?_) | (refine l_split (fun hc => ?_) (fun hc => ?_) <;> (try simp at hc) <;> (try omega)) | (refine k_cond (fun hc => ?_) (fun hc => ?_) <;> (try simp at hc) <;> (try omega)))
  exact k_ret () rfl trivial
theorem vMade_ok (s : ByteArray) : Enters 16 ∧ Spec Tryz.prog 16 #[nilV, .string s] [] [] (RetV (.tuple #[Ct.z.v, .int .i64 1])) := by
  refine ⟨enters_of Tryz.func16 (by kernel_rfl) rfl, spec_of (vs := [_, _]) Tryz.func16 rfl Tryz.ntmps16 rfl fun G w hp => ?_⟩
  repeat' (first | refine l_run ?_ | refine l_nil ?_ | refine l_one ?_ | refine k_reg ?_ | refine l_ld ?_ | refine l_ldF ?_ | refine l_st ?_ | refine l_al (fun b => ?_) | refine l_bs (fun b => ?_) | refine k_condT ?_ | refine k_condF ?_ | refine k_brk ?_ | (refine l_split (fun hc => ?_) (fun hc => ?_) <;> (try simp at hc)) | (refine k_cond (fun hc => ?_) (fun hc => ?_) <;> (try simp at hc)))
  exact k_ret () rfl trivial
theorem vMake_ok (s : ByteArray) (n : Ino) : Enters 11 ∧ Spec Tryz.prog 11 #[nilV, .string s, n.v] [] [] (RetV (.tuple #[Bi.z.v, .int .i64 1])) := by
  refine ⟨enters_of Tryz.func11 (by kernel_rfl) rfl, spec_of (vs := [_, _, _]) Tryz.func11 rfl Tryz.ntmps11 rfl fun G w hp => ?_⟩
  repeat' (first | refine l_run ?_ | refine l_nil ?_ | refine l_one ?_ | refine k_reg ?_ | refine l_ld ?_ | refine l_ldF ?_ | refine l_st ?_ | refine l_al (fun b => ?_) | refine l_bs (fun b => ?_) | refine k_condT ?_ | refine k_condF ?_ | refine k_brk ?_ | (refine l_split (fun hc => ?_) (fun hc => ?_) <;> (try simp at hc)) | (refine k_cond (fun hc => ?_) (fun hc => ?_) <;> (try simp at hc)))
  exact k_ret () rfl trivial
theorem vResize_ok (b : Bi) (x : Int) : Enters 25 ∧ Spec Tryz.prog 25 #[nilV, b.v, .int .i64 x] [] [] (RetV (.int .i64 1)) := by
  have n1 := vFile_ok b
  refine ⟨enters_of Tryz.func25 (by kernel_rfl) rfl, spec_of (vs := [_, _, _]) Tryz.func25 rfl Tryz.ntmps25 rfl fun G w hp => ?_⟩
  repeat' (first | refine l_run ?_ | refine l_nil ?_ | refine l_one ?_ | refine k_reg ?_ | refine l_ld ?_ | refine l_ldF ?_ | refine l_st ?_ | refine l_al (fun b => ?_) | refine l_bs (fun b => ?_) | refine k_condT ?_ | refine k_condF ?_ | refine k_brk ?_ | refine l_call (n1) (fun _ _ => ?_) | refine l_call0 (n1) (fun _ _ => ?_) | (refine l_split (fun hc => ?_) (fun hc => ?_) <;> (try simp at hc) <;> (try omega)) | (refine k_cond (fun hc => ?_) (fun hc => ?_) <;> (try simp at hc) <;> (try omega)))
  exact k_ret () rfl trivial
theorem vSetN_ok (b : Bi) (n : Ino) : Enters 26 ∧ Spec Tryz.prog 26 #[nilV, b.v, n.v] [] [] (RetV (.int .i64 1)) := by
  refine ⟨enters_of Tryz.func26 (by kernel_rfl) rfl, spec_of (vs := [_, _, _]) Tryz.func26 rfl Tryz.ntmps26 rfl fun G w hp => ?_⟩
  repeat' (first | refine l_run ?_ | refine l_nil ?_ | refine l_one ?_ | refine k_reg ?_ | refine l_ld ?_ | refine l_ldF ?_ | refine l_st ?_ | refine l_al (fun b => ?_) | refine l_bs (fun b => ?_) | refine k_condT ?_ | refine k_condF ?_ | refine k_brk ?_ | (refine l_split (fun hc => ?_) (fun hc => ?_) <;> (try simp at hc)) | (refine k_cond (fun hc => ?_) (fun hc => ?_) <;> (try simp at hc)))
  exact k_ret () rfl trivial
theorem vSetMade_ok (s : ByteArray) (c : Ct) : Enters 15 ∧ Spec Tryz.prog 15 #[nilV, .string s, c.v] [] [] (RetV (.int .i64 1)) := by
  refine ⟨enters_of Tryz.func15 (by kernel_rfl) rfl, spec_of (vs := [_, _, _]) Tryz.func15 rfl Tryz.ntmps15 rfl fun G w hp => ?_⟩
  repeat' (first | refine l_run ?_ | refine l_nil ?_ | refine l_one ?_ | refine k_reg ?_ | refine l_ld ?_ | refine l_ldF ?_ | refine l_st ?_ | refine l_al (fun b => ?_) | refine l_bs (fun b => ?_) | refine k_condT ?_ | refine k_condF ?_ | refine k_brk ?_ | (refine l_split (fun hc => ?_) (fun hc => ?_) <;> (try simp at hc)) | (refine k_cond (fun hc => ?_) (fun hc => ?_) <;> (try simp at hc)))
  exact k_ret () rfl trivial
end Go.Proofs.YtgciahedpaencaaGreatDoor
