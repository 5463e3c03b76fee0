/-
  Contracts of the package process: Encode of what does not fit; the statements' own value.
  Conditions: those that each theorem states.
-/
import Derived.Test.YtlpkdblnlkoedaaGreatDoorPro2
set_option maxRecDepth 10000
namespace Go.Proofs.YtlpkdblnlkoedaaGreatDoor
open Go.RowKit

theorem proEncodeBad_ok (p : Pr) (o : Option Addr) (c : Nat) (h : pchk p ≠ 0) (hl : p.gs.length ≤ 1099511627776) (h1 : p.sp.size ≤ 1099511627776) (h2 : p.dr.mkr.size ≤ 1099511627776) : Enters 44 ∧ Spec Tryz.prog 44 #[p.v o c] [Sl 3 zf o c p.gs] [] (RetV (.tuple #[.string ⟨#[]⟩, .int .i64 (pchk p)])) := by
  have n0 := proCheck_ok p o c hl h1 h2
  generalize pchk p = e at *
  refine ⟨enters_of Tryz.func44 (by kernel_rfl) rfl, spec_of (vs := [_]) Tryz.func44 rfl Tryz.ntmps44 rfl fun G w hp => ?_⟩
  repeat' (first | refine l_run ?_ | refine l_nil ?_ | refine l_one ?_ | refine k_reg ?_ | refine l_ld ?_ | refine l_ldF ?_ | refine l_st ?_ | refine l_al (fun b => ?_) | refine l_bs (fun b => ?_) | refine k_condT ?_ | refine k_condF ?_ | refine k_brk ?_ | refine l_call (n0) (fun _ _ => ?_) | refine l_call0 (n0) (fun _ _ => ?_) | (refine l_split (fun hc => ?_) (fun hc => ?_) <;> (try simp at hc) <;> (try omega)) | (refine k_cond (fun hc => ?_) (fun hc => ?_) <;> (try simp at hc) <;> (try omega)))
  all_goals exact k_ret () rfl trivial

end Go.Proofs.YtlpkdblnlkoedaaGreatDoor
