/-
  The law InodeErrors, walked.
  Conditions: those that each theorem states.
-/
import Derived.Test.YtgciahedpaencaaGreatDoorNv
import Derived.Test.YtgciahedpaencaaGreatDoorMJ
import Derived.Test.YtgciahedpaencaaGreatDoorME
import Derived.Test.YtgciahedpaencaaGreatDoorGlueI
set_option maxRecDepth 10000
namespace Go.Proofs.YtgciahedpaencaaGreatDoor
open Go.RowKit

def cutO (o : Opq) : Opq := { o with t := cutS o.t 500, n := { o.n with tg := cutS o.n.tg 300 } }
theorem cut27_ok (o : Opq) : Enters 21 ∧ Spec Tryz.prog 21 #[o.v] [] [] (RetV (cutO o).v) := by
  refine ⟨enters_of Tryz.func21 (by kernel_rfl) rfl, spec_of (vs := [_]) Tryz.func21 rfl Tryz.ntmps21 rfl fun G w hp => ?_⟩
  repeat' (first | refine l_run ?_ | refine l_nil ?_ | refine l_one ?_ | refine k_reg ?_ | refine l_ld ?_ | refine l_ldF ?_ | refine l_st ?_ | refine l_al (fun b => ?_) | refine l_bs (fun b => ?_) | refine k_condT ?_ | refine k_condF ?_ | refine k_brk ?_ | refine l_cutS 500 ?_ | refine l_cutS 300 ?_ | (refine l_split (fun hc => ?_) (fun hc => ?_) <;> (try simp at hc)) | (refine k_cond (fun hc => ?_) (fun hc => ?_) <;> (try simp at hc)))
  exact k_ret () rfl trivial

def nd1 : Ino := ⟨1, 0, 0, 0, 0, 0, ⟨#[]⟩⟩
set_option maxHeartbeats 4000000 in
theorem lawIErrors_ok (bi : Bi) (raw : ByteArray) (op : Opq) (hb : bi.mkr.size ≤ 1099511627770) : Enters 5 ∧ Spec Tryz.prog 5 #[bi.v, .string raw, op.v] [Usg] [] (RetV (.bool true)) := by
  have hr := cutS_size raw 100
  generalize ht : cutS raw 100 = r at *
  have m0 := cut27_ok op
  have m1 := vGet_ok bi
  have m2 := vRead_ok bi 0 1
  have m3 := vWrite_ok bi 0 ⟨#[120]⟩
  have m4 := vMade_ok o1
  have m5 := vMake_ok o1 nd1
  have m6 := vResize_ok bi 1
  have m7 := vSetN_ok bi nd1
  have m8 := vSetMade_ok o1 Ct.z
  have n1 := fun b ps => inoGet_ok b ps [] [] [] bi hb (by rw [vget_nil]; exact Nat.zero_le _)
  have n2 := birthCheck_ok bi (by omega)
  generalize cutO op = op2 at m0
  simp only [Bi.v, Opq.v] at m0 m1 m2 m3 m6 m7 n1 n2 ⊢
  by_cases hc0 : bchk bi = 0
  · have e1 : iget [] [] bi = (Ino.z, 8) := by rw [iget, if_neg (by simp [hc0]), vget_nil]; rfl
    rw [e1] at n1
    rw [hc0] at n2
    have n3 := fun b ps rs => vwSet_ok b ps rs [] (nnm bi) r (by show bi.mkr.size ≤ _; omega) (Nat.zero_le _) (by simp)
    have e2 : vset [] (nnm bi) r = (0, [] ++ [⟨nnm bi, r, false⟩]) := by
      unfold vset
      rw [if_neg (by simp [chk_nnm hc0]), if_neg (by omega)]
    rw [e2] at n3
    have n4 := ofNode_ok bi
    have hg : vget [] ([] ++ [⟨nnm bi, r, false⟩]) (nnm bi) = (r, true) := vget_last (chk_nnm hc0)
    have n5 := fun b ps rs => inoGet_ok b ps [] rs ([] ++ [⟨nnm bi, r, false⟩]) bi hb (by rw [hg]; dsimp only; omega)
    have e3 : iget [] ([] ++ [⟨nnm bi, r, false⟩]) bi = ((idec r).getD Ino.z, if (idec r).isSome then 0 else 3) := by
      rw [iget, if_neg (by simp [hc0]), hg]; rfl
    rw [e3] at n5
    have n6 := inoDecode_ok r (by omega)
    generalize ([] ++ [⟨nnm bi, r, false⟩] : List Ch) = cs1 at *
    simp only [Bi.v] at n4 n5
    cases hd : idec r with
    | none =>
      simp only [hd, Option.getD_none, Option.isSome_none, Bool.false_eq_true, if_false] at n5 n6
      refine ⟨enters_of Tryz.func5 (by kernel_rfl) rfl, spec_of (vs := [_, _, _]) Tryz.func5 rfl Tryz.ntmps5 rfl fun G w hp => ?_⟩
      repeat' (first | refine l_run ?_ | refine l_nil ?_ | refine l_one ?_ | refine k_reg ?_ | refine l_ld ?_ | refine l_ldF ?_ | refine l_st ?_ | refine l_al (fun b => ?_) | refine l_bs (fun b => ?_) | refine k_condT ?_ | refine k_condF ?_ | refine k_brk ?_ | refine l_call (m0) (fun _ _ => ?_) | refine l_call0 (m0) (fun _ _ => ?_) | refine l_call (m1) (fun _ _ => ?_) | refine l_call0 (m1) (fun _ _ => ?_) | refine l_call (m2) (fun _ _ => ?_) | refine l_call0 (m2) (fun _ _ => ?_) | refine l_call (m3) (fun _ _ => ?_) | refine l_call0 (m3) (fun _ _ => ?_) | refine l_call (m4) (fun _ _ => ?_) | refine l_call0 (m4) (fun _ _ => ?_) | refine l_call (m5) (fun _ _ => ?_) | refine l_call0 (m5) (fun _ _ => ?_) | refine l_call (known27_ok) (fun _ _ => ?_) | refine l_call0 (known27_ok) (fun _ _ => ?_) | refine l_call (m6) (fun _ _ => ?_) | refine l_call0 (m6) (fun _ _ => ?_) | refine l_call (m7) (fun _ _ => ?_) | refine l_call0 (m7) (fun _ _ => ?_) | refine l_call (m8) (fun _ _ => ?_) | refine l_call0 (m8) (fun _ _ => ?_) | refine l_call (stateNew_ok) (fun _ _ => ?_) | refine l_call0 (stateNew_ok) (fun _ _ => ?_) | refine l_call (viewNew_ok _) (fun _ _ => ?_) | refine l_call0 (viewNew_ok _) (fun _ _ => ?_) | refine l_call (n1 _ _) (fun _ _ => ?_) | refine l_call0 (n1 _ _) (fun _ _ => ?_) | refine l_call (n2) (fun _ _ => ?_) | refine l_call0 (n2) (fun _ _ => ?_) | refine l_call (n4) (fun _ _ => ?_) | refine l_call0 (n4) (fun _ _ => ?_) | refine l_call (n3 _ _ _) (fun _ _ => ?_) | refine l_call0 (n3 _ _ _) (fun _ _ => ?_) | refine l_call (n5 _ _ _) (fun _ _ => ?_) | refine l_call0 (n5 _ _ _) (fun _ _ => ?_) | refine l_call (n6) (fun _ _ => ?_) | refine l_call0 (n6) (fun _ _ => ?_) | refine l_cutS 100 ?_ | rw [ht] | (refine l_split (fun hc => ?_) (fun hc => ?_) <;> (try simp at hc) <;> (try omega)) | (refine k_cond (fun hc => ?_) (fun hc => ?_) <;> (try simp at hc) <;> (try omega)))
      all_goals (refine k_ret () ?_ trivial; simp [RetV, resV])
    | some z =>
      simp only [hd, Option.getD_some, Option.isSome_some, if_true] at n5 n6
      have q1 := value27_ok z (idec_inv hd).1
      rw [idec_canon hd] at q1
      refine ⟨enters_of Tryz.func5 (by kernel_rfl) rfl, spec_of (vs := [_, _, _]) Tryz.func5 rfl Tryz.ntmps5 rfl fun G w hp => ?_⟩
      repeat' (first | refine l_run ?_ | refine l_nil ?_ | refine l_one ?_ | refine k_reg ?_ | refine l_ld ?_ | refine l_ldF ?_ | refine l_st ?_ | refine l_al (fun b => ?_) | refine l_bs (fun b => ?_) | refine k_condT ?_ | refine k_condF ?_ | refine k_brk ?_ | refine l_call (m0) (fun _ _ => ?_) | refine l_call0 (m0) (fun _ _ => ?_) | refine l_call (m1) (fun _ _ => ?_) | refine l_call0 (m1) (fun _ _ => ?_) | refine l_call (m2) (fun _ _ => ?_) | refine l_call0 (m2) (fun _ _ => ?_) | refine l_call (m3) (fun _ _ => ?_) | refine l_call0 (m3) (fun _ _ => ?_) | refine l_call (m4) (fun _ _ => ?_) | refine l_call0 (m4) (fun _ _ => ?_) | refine l_call (m5) (fun _ _ => ?_) | refine l_call0 (m5) (fun _ _ => ?_) | refine l_call (known27_ok) (fun _ _ => ?_) | refine l_call0 (known27_ok) (fun _ _ => ?_) | refine l_call (m6) (fun _ _ => ?_) | refine l_call0 (m6) (fun _ _ => ?_) | refine l_call (m7) (fun _ _ => ?_) | refine l_call0 (m7) (fun _ _ => ?_) | refine l_call (m8) (fun _ _ => ?_) | refine l_call0 (m8) (fun _ _ => ?_) | refine l_call (stateNew_ok) (fun _ _ => ?_) | refine l_call0 (stateNew_ok) (fun _ _ => ?_) | refine l_call (viewNew_ok _) (fun _ _ => ?_) | refine l_call0 (viewNew_ok _) (fun _ _ => ?_) | refine l_call (n1 _ _) (fun _ _ => ?_) | refine l_call0 (n1 _ _) (fun _ _ => ?_) | refine l_call (n2) (fun _ _ => ?_) | refine l_call0 (n2) (fun _ _ => ?_) | refine l_call (n4) (fun _ _ => ?_) | refine l_call0 (n4) (fun _ _ => ?_) | refine l_call (n3 _ _ _) (fun _ _ => ?_) | refine l_call0 (n3 _ _ _) (fun _ _ => ?_) | refine l_call (n5 _ _ _) (fun _ _ => ?_) | refine l_call0 (n5 _ _ _) (fun _ _ => ?_) | refine l_call (n6) (fun _ _ => ?_) | refine l_call0 (n6) (fun _ _ => ?_) | refine l_call (q1) (fun _ _ => ?_) | refine l_call0 (q1) (fun _ _ => ?_) | refine l_cutS 100 ?_ | rw [ht] | (refine l_split (fun hc => ?_) (fun hc => ?_) <;> (try simp at hc) <;> (try omega)) | (refine k_cond (fun hc => ?_) (fun hc => ?_) <;> (try simp at hc) <;> (try omega)))
      all_goals (refine k_ret () ?_ trivial; simp [RetV, resV])
  · have e1 : iget [] [] bi = (Ino.z, bchk bi) := by rw [iget, if_pos hc0]
    rw [e1] at n1
    generalize bchk bi = e at *
    refine ⟨enters_of Tryz.func5 (by kernel_rfl) rfl, spec_of (vs := [_, _, _]) Tryz.func5 rfl Tryz.ntmps5 rfl fun G w hp => ?_⟩
    repeat' (first | refine l_run ?_ | refine l_nil ?_ | refine l_one ?_ | refine k_reg ?_ | refine l_ld ?_ | refine l_ldF ?_ | refine l_st ?_ | refine l_al (fun b => ?_) | refine l_bs (fun b => ?_) | refine k_condT ?_ | refine k_condF ?_ | refine k_brk ?_ | refine l_call (m0) (fun _ _ => ?_) | refine l_call0 (m0) (fun _ _ => ?_) | refine l_call (m1) (fun _ _ => ?_) | refine l_call0 (m1) (fun _ _ => ?_) | refine l_call (m2) (fun _ _ => ?_) | refine l_call0 (m2) (fun _ _ => ?_) | refine l_call (m3) (fun _ _ => ?_) | refine l_call0 (m3) (fun _ _ => ?_) | refine l_call (m4) (fun _ _ => ?_) | refine l_call0 (m4) (fun _ _ => ?_) | refine l_call (m5) (fun _ _ => ?_) | refine l_call0 (m5) (fun _ _ => ?_) | refine l_call (known27_ok) (fun _ _ => ?_) | refine l_call0 (known27_ok) (fun _ _ => ?_) | refine l_call (m6) (fun _ _ => ?_) | refine l_call0 (m6) (fun _ _ => ?_) | refine l_call (m7) (fun _ _ => ?_) | refine l_call0 (m7) (fun _ _ => ?_) | refine l_call (m8) (fun _ _ => ?_) | refine l_call0 (m8) (fun _ _ => ?_) | refine l_call (stateNew_ok) (fun _ _ => ?_) | refine l_call0 (stateNew_ok) (fun _ _ => ?_) | refine l_call (viewNew_ok _) (fun _ _ => ?_) | refine l_call0 (viewNew_ok _) (fun _ _ => ?_) | refine l_call (n1 _ _) (fun _ _ => ?_) | refine l_call0 (n1 _ _) (fun _ _ => ?_) | refine l_call (n2) (fun _ _ => ?_) | refine l_call0 (n2) (fun _ _ => ?_) | refine l_cutS 100 ?_ | rw [ht] | (refine l_split (fun hc => ?_) (fun hc => ?_) <;> (try simp at hc) <;> (try omega)) | (refine k_cond (fun hc => ?_) (fun hc => ?_) <;> (try simp at hc) <;> (try omega)))
    all_goals (refine k_ret () ?_ trivial; simp [RetV, resV])
end Go.Proofs.YtgciahedpaencaaGreatDoor
