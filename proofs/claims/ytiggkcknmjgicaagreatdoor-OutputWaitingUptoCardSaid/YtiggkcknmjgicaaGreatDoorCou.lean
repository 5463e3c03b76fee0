/-
  The contract of output.Count.
  Conditions: those that the theorem states.
-/
import Derived.Test.YtiggkcknmjgicaaGreatDoorMF
set_option maxRecDepth 10000
namespace Go.Proofs.YtiggkcknmjgicaaGreatDoor
open Go.RowKit

theorem count_ok (b : Nat) (ps : Option Addr) (es : Al) (rs : List (Nm × Ch)) (cs : List Ch) (who : ByteArray) (hw : who.size ≤ 1099511627770) (hv : (vget es cs (cnm who)).1.size ≤ 1099511627776) :
    Enters 64 ∧ Spec Tryz.prog 64 #[.pointer (some ⟨b, 0, none⟩), .string who] [St ps es, Usg] [Vw b ps rs cs] ⟨Unit, fun _ => .int .i64 (if (madeE es cs who).2 = 0 then (madeE es cs who).1.o else 0), fun _ => True, fun _ => [], fun _ => [Vw b ps (madeR es rs cs who) cs]⟩ := by
  have n4 := made_ok b ps es rs cs who hw hv
  generalize madeE es cs who = m at *
  obtain ⟨c, e⟩ := m
  dsimp only at n4 ⊢
  by_cases h : e = 0
  · subst h
    refine ⟨enters_of Tryz.func64 (by kernel_rfl) rfl, spec_of (vs := [_, _]) Tryz.func64 rfl Tryz.ntmps64 rfl fun G w hp => ?_⟩
    repeat' (first | refine l_run ?_ | refine l_nil ?_ | refine l_one ?_ | refine k_reg ?_ | refine l_ld ?_ | refine l_ldF ?_ | refine l_st ?_ | refine l_al (fun b => ?_) | refine l_bs (fun b => ?_) | refine k_condT ?_ | refine k_condF ?_ | refine k_brk ?_ | refine l_call (n4) (fun _ _ => ?_) | refine l_call0 (n4) (fun _ _ => ?_) | (refine l_split (fun hc => ?_) (fun hc => ?_) <;> (try simp at hc) <;> (try omega)) | (refine k_cond (fun hc => ?_) (fun hc => ?_) <;> (try simp at hc) <;> (try omega)))
    exact k_ret () rfl trivial
  · rw [if_neg h]
    refine ⟨enters_of Tryz.func64 (by kernel_rfl) rfl, spec_of (vs := [_, _]) Tryz.func64 rfl Tryz.ntmps64 rfl fun G w hp => ?_⟩
    repeat' (first | refine l_run ?_ | refine l_nil ?_ | refine l_one ?_ | refine k_reg ?_ | refine l_ld ?_ | refine l_ldF ?_ | refine l_st ?_ | refine l_al (fun b => ?_) | refine l_bs (fun b => ?_) | refine k_condT ?_ | refine k_condF ?_ | refine k_brk ?_ | refine l_call (n4) (fun _ _ => ?_) | refine l_call0 (n4) (fun _ _ => ?_) | (refine l_split (fun hc => ?_) (fun hc => ?_) <;> (try simp at hc) <;> (try omega)) | (refine k_cond (fun hc => ?_) (fun hc => ?_) <;> (try simp at hc) <;> (try omega)))
    exact k_ret () rfl trivial
end Go.Proofs.YtiggkcknmjgicaaGreatDoor
