/-
  The law InodeCounts, walked.
  Conditions: those that each theorem states.
-/
import Derived.Test.YtgciahedpaencaaGreatDoorLICa
set_option maxRecDepth 10000
namespace Go.Proofs.YtgciahedpaencaaGreatDoor
open Go.RowKit

section
variable (x1 x2 x3 : Int) (wn r who raw : ByteArray)
set_option maxHeartbeats 4000000 in
/-- Counts that do not fit. -/
theorem icBad (hw : wn.size ≤ 80) (hr : r.size ≤ 100) (ht1 : cutS who 80 = wn) (ht2 : cutS raw 100 = r) (hf : cchk ⟨x1, x2, x3⟩ ≠ 0) (hz : ∀ z ∈ [x1, x2, x3], z < 9223372036854775808) : Enters 4 ∧ Spec Tryz.prog 4 #[(Ct.mk x1 x2 x3).v, .string who, .string raw] [Usg] [] (RetV (.bool true)) := by
  have m1 := cntEncodeBad_ok ⟨x1, x2, x3⟩ hf hz
  rw [cchk_two hf] at m1
  have hnf : ¬ (0 ≤ x1 ∧ x1 ≤ 1048576 ∧ 0 ≤ x2 ∧ x2 ≤ 1048576 ∧ 0 ≤ x3 ∧ x3 ≤ 1048576) := fun h => hf (by unfold cchk; rw [if_pos h])
  have m3 := decodeCounts_ok r (by omega)
  have m4 := valid_ok wn (by omega)
  refine ⟨enters_of Tryz.func4 (by kernel_rfl) rfl, spec_of (vs := [_, _, _]) Tryz.func4 rfl Tryz.ntmps4 rfl fun G w hp => ?_⟩
  refine k_cutd (Y := { q : Nat × Bool // q.2 = false }) 3 (fun y => [(1, .string wn), (2, .string r), (3, .pointer (some ⟨y.1.1, 0, none⟩)), (7, .bool y.1.2)]) (fun _ => [Usg]) (fun y => [Pt y.1.1 (.cells #[.int .i64 x1, .int .i64 x2, .int .i64 x3] 42)]) ?_ ?_
  rotate_left
  · intro hx
    repeat' (first | refine k_to hx ⟨(_, _), ?_⟩ ⟨rfl, rfl, rfl, rfl, trivial⟩ | refine l_run ?_ | refine l_nil ?_ | refine l_one ?_ | refine k_reg ?_ | refine l_ld ?_ | refine l_ldF ?_ | refine l_st ?_ | refine l_al (fun b => ?_) | refine l_bs (fun b => ?_) | refine k_condT ?_ | refine k_condF ?_ | refine k_brk ?_ | refine r_run ?_ | refine r_one ?_ | refine r_ld ?_ | refine r_ldF ?_ | refine r_ldN ?_ | refine r_al (fun b => ?_) | refine r_bs (fun b => ?_) | refine r_st ?_ | refine r_end ?_ | refine r_cutS 80 ?_ | rw [ht1] | refine r_cutS 100 ?_ | rw [ht2] | (refine l_split (fun hc => ?_) (fun hc => ?_) <;> (try simp at hc) <;> (try omega)) | (refine r_split (fun hc => ?_) (fun hc => ?_) <;> (try simp at hc) <;> (try omega)) | refine k_draw 1 [] [(0, 0), (1, 0), (2, 0), (3, 0), (4, 0), (5, 0), (6, 0), (7, 0), (8, 0), (9, 0), (10, 0), (11, 0)] [] ?_ | (refine k_cond (fun hc => ?_) (fun hc => ?_) <;> (try simp at hc) <;> (try omega)))
    all_goals first | rfl | exact decide_eq_false (p := x3 ≤ 1048576) (by omega)
  rintro ⟨⟨b, x⟩, hx⟩
  dsimp only at hx ⊢
  subst hx
  cases hv : lvalid wn.data.toList with
  | false =>
    rw [hv] at m4
    have n1 := fun b ps => setMadeName_ok b ps [] [] wn ⟨x1, x2, x3⟩ (by omega) hv
    have e1 : madeE [] [] wn = (Ct.z, 12) := by rw [madeE, if_neg (by simp [hv])]
    have e2 : nbE [] [] wn = (Bi.z, 12) := by unfold nbE; rw [e1, if_pos (by decide)]
    have e3 : nbC [] [] wn = [] := by rw [nbC, e2, if_neg (by decide)]
    have n2 := fun b ps rs => made_ok b ps [] rs [] wn (by omega) (by rw [vget_nil]; exact Nat.zero_le _)
    have n3 := fun b ps rs => nextBirth_ok b ps [] rs [] wn (by omega) (by rw [vget_nil]; exact Nat.zero_le _) (by simp)
    rw [e1] at n2
    rw [e2, e3] at n3
    simp only [Ct.v] at m1 n1
    cases hd : cdec r with
    | none =>
      simp only [hd, Option.getD_none, Option.isSome_none, Bool.false_eq_true, if_false] at m3
      repeat' (first | refine l_run ?_ | refine l_nil ?_ | refine l_one ?_ | refine k_reg ?_ | refine l_ld ?_ | refine l_ldF ?_ | refine l_st ?_ | refine l_al (fun b => ?_) | refine l_bs (fun b => ?_) | refine k_condT ?_ | refine k_condF ?_ | refine k_brk ?_ | refine r_run ?_ | refine r_one ?_ | refine r_ld ?_ | refine r_ldF ?_ | refine r_ldN ?_ | refine r_al (fun b => ?_) | refine r_bs (fun b => ?_) | refine r_st ?_ | refine r_end ?_ | refine l_call (m1) (fun _ _ => ?_) | refine l_call0 (m1) (fun _ _ => ?_) | refine r_call (m1) (fun _ _ => ?_) | refine l_call (stateNew_ok) (fun _ _ => ?_) | refine l_call0 (stateNew_ok) (fun _ _ => ?_) | refine r_call (stateNew_ok) (fun _ _ => ?_) | refine l_call (viewNew_ok _) (fun _ _ => ?_) | refine l_call0 (viewNew_ok _) (fun _ _ => ?_) | refine r_call (viewNew_ok _) (fun _ _ => ?_) | refine l_call (n1 _ _) (fun _ _ => ?_) | refine l_call0 (n1 _ _) (fun _ _ => ?_) | refine r_call (n1 _ _) (fun _ _ => ?_) | refine l_call (n2 _ _ _) (fun _ _ => ?_) | refine l_call0 (n2 _ _ _) (fun _ _ => ?_) | refine r_call (n2 _ _ _) (fun _ _ => ?_) | refine l_call (n3 _ _ _) (fun _ _ => ?_) | refine l_call0 (n3 _ _ _) (fun _ _ => ?_) | refine r_call (n3 _ _ _) (fun _ _ => ?_) | refine l_call (m3) (fun _ _ => ?_) | refine l_call0 (m3) (fun _ _ => ?_) | refine r_call (m3) (fun _ _ => ?_) | refine l_call (known27_ok) (fun _ _ => ?_) | refine l_call0 (known27_ok) (fun _ _ => ?_) | refine r_call (known27_ok) (fun _ _ => ?_) | refine l_call (m4) (fun _ _ => ?_) | refine l_call0 (m4) (fun _ _ => ?_) | refine r_call (m4) (fun _ _ => ?_) | (refine l_split (fun hc => ?_) (fun hc => ?_) <;> (try simp at hc) <;> (try omega)) | (refine r_split (fun hc => ?_) (fun hc => ?_) <;> (try simp at hc) <;> (try omega)) | refine k_draw 1 [] [(0, 0), (1, 0), (2, 0), (3, 0), (4, 0), (5, 0), (6, 0), (7, 0), (8, 0), (9, 0), (10, 0), (11, 0)] [] ?_ | (refine k_cond (fun hc => ?_) (fun hc => ?_) <;> (try simp at hc) <;> (try omega)))
      all_goals exact k_ret () rfl trivial
    | some z =>
      simp only [hd, Option.getD_some, Option.isSome_some, if_true] at m3
      have q1 := counts27_ok z (cdec_ok hd)
      rw [cdec_canon hd] at q1
      repeat' (first | refine l_run ?_ | refine l_nil ?_ | refine l_one ?_ | refine k_reg ?_ | refine l_ld ?_ | refine l_ldF ?_ | refine l_st ?_ | refine l_al (fun b => ?_) | refine l_bs (fun b => ?_) | refine k_condT ?_ | refine k_condF ?_ | refine k_brk ?_ | refine r_run ?_ | refine r_one ?_ | refine r_ld ?_ | refine r_ldF ?_ | refine r_ldN ?_ | refine r_al (fun b => ?_) | refine r_bs (fun b => ?_) | refine r_st ?_ | refine r_end ?_ | refine l_call (m1) (fun _ _ => ?_) | refine l_call0 (m1) (fun _ _ => ?_) | refine r_call (m1) (fun _ _ => ?_) | refine l_call (stateNew_ok) (fun _ _ => ?_) | refine l_call0 (stateNew_ok) (fun _ _ => ?_) | refine r_call (stateNew_ok) (fun _ _ => ?_) | refine l_call (viewNew_ok _) (fun _ _ => ?_) | refine l_call0 (viewNew_ok _) (fun _ _ => ?_) | refine r_call (viewNew_ok _) (fun _ _ => ?_) | refine l_call (n1 _ _) (fun _ _ => ?_) | refine l_call0 (n1 _ _) (fun _ _ => ?_) | refine r_call (n1 _ _) (fun _ _ => ?_) | refine l_call (n2 _ _ _) (fun _ _ => ?_) | refine l_call0 (n2 _ _ _) (fun _ _ => ?_) | refine r_call (n2 _ _ _) (fun _ _ => ?_) | refine l_call (n3 _ _ _) (fun _ _ => ?_) | refine l_call0 (n3 _ _ _) (fun _ _ => ?_) | refine r_call (n3 _ _ _) (fun _ _ => ?_) | refine l_call (m3) (fun _ _ => ?_) | refine l_call0 (m3) (fun _ _ => ?_) | refine r_call (m3) (fun _ _ => ?_) | refine l_call (known27_ok) (fun _ _ => ?_) | refine l_call0 (known27_ok) (fun _ _ => ?_) | refine r_call (known27_ok) (fun _ _ => ?_) | refine l_call (q1) (fun _ _ => ?_) | refine l_call0 (q1) (fun _ _ => ?_) | refine r_call (q1) (fun _ _ => ?_) | refine l_call (m4) (fun _ _ => ?_) | refine l_call0 (m4) (fun _ _ => ?_) | refine r_call (m4) (fun _ _ => ?_) | (refine l_split (fun hc => ?_) (fun hc => ?_) <;> (try simp at hc) <;> (try omega)) | (refine r_split (fun hc => ?_) (fun hc => ?_) <;> (try simp at hc) <;> (try omega)) | refine k_draw 1 [] [(0, 0), (1, 0), (2, 0), (3, 0), (4, 0), (5, 0), (6, 0), (7, 0), (8, 0), (9, 0), (10, 0), (11, 0)] [] ?_ | (refine k_cond (fun hc => ?_) (fun hc => ?_) <;> (try simp at hc) <;> (try omega)))
      all_goals exact k_ret () rfl trivial
  | true =>
    rw [hv] at m4
    have n1 := fun b ps => setMadeRange_ok b ps [] [] wn ⟨x1, x2, x3⟩ (by omega) hv hf hz
    have e1 : madeE [] [] wn = (Ct.z, 0) := by rw [madeE, if_pos hv, vget_nil]; rfl
    have e2 : nbE [] [] wn = (⟨wn, 0⟩, 0) := by unfold nbE; rw [e1, if_neg (by decide), if_neg (by decide)]; rfl
    have n2 := fun b ps rs => made_ok b ps [] rs [] wn (by omega) (by rw [vget_nil]; exact Nat.zero_le _)
    have n3 := fun b ps rs => nextBirth_ok b ps [] rs [] wn (by omega) (by rw [vget_nil]; exact Nat.zero_le _) (by simp)
    rw [e1] at n2
    rw [e2] at n3
    simp only [Ct.v] at m1 n1
    cases hd : cdec r with
    | none =>
      simp only [hd, Option.getD_none, Option.isSome_none, Bool.false_eq_true, if_false] at m3
      repeat' (first | refine l_seq (b := true) ?_ (he := eqBi _) | refine l_seq (b := true) ?_ (he := (eqCt Ct.z Ct.z).trans (by simp)) | refine l_run ?_ | refine l_nil ?_ | refine l_one ?_ | refine k_reg ?_ | refine l_ld ?_ | refine l_ldF ?_ | refine l_st ?_ | refine l_al (fun b => ?_) | refine l_bs (fun b => ?_) | refine k_condT ?_ | refine k_condF ?_ | refine k_brk ?_ | refine r_run ?_ | refine r_one ?_ | refine r_ld ?_ | refine r_ldF ?_ | refine r_ldN ?_ | refine r_al (fun b => ?_) | refine r_bs (fun b => ?_) | refine r_st ?_ | refine r_end ?_ | refine l_call (m1) (fun _ _ => ?_) | refine l_call0 (m1) (fun _ _ => ?_) | refine r_call (m1) (fun _ _ => ?_) | refine l_call (stateNew_ok) (fun _ _ => ?_) | refine l_call0 (stateNew_ok) (fun _ _ => ?_) | refine r_call (stateNew_ok) (fun _ _ => ?_) | refine l_call (viewNew_ok _) (fun _ _ => ?_) | refine l_call0 (viewNew_ok _) (fun _ _ => ?_) | refine r_call (viewNew_ok _) (fun _ _ => ?_) | refine l_call (n1 _ _) (fun _ _ => ?_) | refine l_call0 (n1 _ _) (fun _ _ => ?_) | refine r_call (n1 _ _) (fun _ _ => ?_) | refine l_call (n2 _ _ _) (fun _ _ => ?_) | refine l_call0 (n2 _ _ _) (fun _ _ => ?_) | refine r_call (n2 _ _ _) (fun _ _ => ?_) | refine l_call (n3 _ _ _) (fun _ _ => ?_) | refine l_call0 (n3 _ _ _) (fun _ _ => ?_) | refine r_call (n3 _ _ _) (fun _ _ => ?_) | refine l_call (m3) (fun _ _ => ?_) | refine l_call0 (m3) (fun _ _ => ?_) | refine r_call (m3) (fun _ _ => ?_) | refine l_call (known27_ok) (fun _ _ => ?_) | refine l_call0 (known27_ok) (fun _ _ => ?_) | refine r_call (known27_ok) (fun _ _ => ?_) | refine l_call (m4) (fun _ _ => ?_) | refine l_call0 (m4) (fun _ _ => ?_) | refine r_call (m4) (fun _ _ => ?_) | (refine l_split (fun hc => ?_) (fun hc => ?_) <;> (try simp at hc) <;> (try omega)) | (refine r_split (fun hc => ?_) (fun hc => ?_) <;> (try simp at hc) <;> (try omega)) | refine k_draw 1 [] [(0, 0), (1, 0), (2, 0), (3, 0), (4, 0), (5, 0), (6, 0), (7, 0), (8, 0), (9, 0), (10, 0), (11, 0)] [] ?_ | (refine k_cond (fun hc => ?_) (fun hc => ?_) <;> (try simp at hc) <;> (try omega)))
      all_goals exact k_ret () rfl trivial
    | some z =>
      simp only [hd, Option.getD_some, Option.isSome_some, if_true] at m3
      have q1 := counts27_ok z (cdec_ok hd)
      rw [cdec_canon hd] at q1
      repeat' (first | refine l_seq (b := true) ?_ (he := eqBi _) | refine l_seq (b := true) ?_ (he := (eqCt Ct.z Ct.z).trans (by simp)) | refine l_run ?_ | refine l_nil ?_ | refine l_one ?_ | refine k_reg ?_ | refine l_ld ?_ | refine l_ldF ?_ | refine l_st ?_ | refine l_al (fun b => ?_) | refine l_bs (fun b => ?_) | refine k_condT ?_ | refine k_condF ?_ | refine k_brk ?_ | refine r_run ?_ | refine r_one ?_ | refine r_ld ?_ | refine r_ldF ?_ | refine r_ldN ?_ | refine r_al (fun b => ?_) | refine r_bs (fun b => ?_) | refine r_st ?_ | refine r_end ?_ | refine l_call (m1) (fun _ _ => ?_) | refine l_call0 (m1) (fun _ _ => ?_) | refine r_call (m1) (fun _ _ => ?_) | refine l_call (stateNew_ok) (fun _ _ => ?_) | refine l_call0 (stateNew_ok) (fun _ _ => ?_) | refine r_call (stateNew_ok) (fun _ _ => ?_) | refine l_call (viewNew_ok _) (fun _ _ => ?_) | refine l_call0 (viewNew_ok _) (fun _ _ => ?_) | refine r_call (viewNew_ok _) (fun _ _ => ?_) | refine l_call (n1 _ _) (fun _ _ => ?_) | refine l_call0 (n1 _ _) (fun _ _ => ?_) | refine r_call (n1 _ _) (fun _ _ => ?_) | refine l_call (n2 _ _ _) (fun _ _ => ?_) | refine l_call0 (n2 _ _ _) (fun _ _ => ?_) | refine r_call (n2 _ _ _) (fun _ _ => ?_) | refine l_call (n3 _ _ _) (fun _ _ => ?_) | refine l_call0 (n3 _ _ _) (fun _ _ => ?_) | refine r_call (n3 _ _ _) (fun _ _ => ?_) | refine l_call (m3) (fun _ _ => ?_) | refine l_call0 (m3) (fun _ _ => ?_) | refine r_call (m3) (fun _ _ => ?_) | refine l_call (known27_ok) (fun _ _ => ?_) | refine l_call0 (known27_ok) (fun _ _ => ?_) | refine r_call (known27_ok) (fun _ _ => ?_) | refine l_call (q1) (fun _ _ => ?_) | refine l_call0 (q1) (fun _ _ => ?_) | refine r_call (q1) (fun _ _ => ?_) | refine l_call (m4) (fun _ _ => ?_) | refine l_call0 (m4) (fun _ _ => ?_) | refine r_call (m4) (fun _ _ => ?_) | (refine l_split (fun hc => ?_) (fun hc => ?_) <;> (try simp at hc) <;> (try omega)) | (refine r_split (fun hc => ?_) (fun hc => ?_) <;> (try simp at hc) <;> (try omega)) | refine k_draw 1 [] [(0, 0), (1, 0), (2, 0), (3, 0), (4, 0), (5, 0), (6, 0), (7, 0), (8, 0), (9, 0), (10, 0), (11, 0)] [] ?_ | (refine k_cond (fun hc => ?_) (fun hc => ?_) <;> (try simp at hc) <;> (try omega)))
      all_goals exact k_ret () rfl trivial
end
theorem lawICounts_ok (c : Ct) (who raw : ByteArray) (hz : ∀ z ∈ [c.b, c.o, c.c], z < 9223372036854775808) : Enters 4 ∧ Spec Tryz.prog 4 #[c.v, .string who, .string raw] [Usg] [] (RetV (.bool true)) := by
  obtain ⟨x1, x2, x3⟩ := c
  by_cases hf : cchk ⟨x1, x2, x3⟩ = 0
  · exact icFit x1 x2 x3 _ _ who raw (cutS_size who 80) (cutS_size raw 100) rfl rfl (cchk_fit hf)
  · exact icBad x1 x2 x3 _ _ who raw (cutS_size who 80) (cutS_size raw 100) rfl rfl hf hz
end Go.Proofs.YtgciahedpaencaaGreatDoor
