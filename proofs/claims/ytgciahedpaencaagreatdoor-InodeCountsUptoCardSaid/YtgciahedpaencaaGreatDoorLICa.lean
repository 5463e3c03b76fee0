/-
  The law InodeCounts, walked for counts that fit.
  Conditions: those that each theorem states.
-/
import Derived.Test.YtgciahedpaencaaGreatDoorCt3
import Derived.Test.YtgciahedpaencaaGreatDoorMJ
import Derived.Test.YtgciahedpaencaaGreatDoorME
import Derived.Test.YtgciahedpaencaaGreatDoorMG
import Derived.Test.YtgciahedpaencaaGreatDoorKCut
set_option maxRecDepth 10000
namespace Go.Proofs.YtgciahedpaencaaGreatDoor
open Go.RowKit

theorem eqCt (a b : Ct) : eqC eqS 20 42 a.v b.v = some (decide (a = b)) := by
  rw [show eqC eqS 20 42 a.v b.v = some ((a.b == b.b) && ((a.o == b.o) && ((a.c == b.c) && true))) from rfl]
  congr 1
  obtain ⟨a1, a2, a3⟩ := a
  obtain ⟨b1, b2, b3⟩ := b
  simp only [beqIw, Ct.mk.injEq]
  rw [Bool.eq_iff_iff]; simp

section
variable (x1 x2 x3 : Int) (wn r who raw : ByteArray)
set_option maxHeartbeats 4000000 in
/-- Counts that fit. -/
theorem icFit (hw : wn.size ≤ 80) (hr : r.size ≤ 100) (ht1 : cutS who 80 = wn) (ht2 : cutS raw 100 = r) (hf : CtOK ⟨x1, x2, x3⟩) : Enters 4 ∧ Spec Tryz.prog 4 #[(Ct.mk x1 x2 x3).v, .string who, .string raw] [Usg] [] (RetV (.bool true)) := by
  have hf' := hf
  obtain ⟨f1, f2, f3, f4, f5, f6⟩ := hf'
  dsimp only at f1 f2 f3 f4 f5 f6
  have m1 := encodeCounts_ok ⟨x1, x2, x3⟩ hf
  rw [show (⟨(cenc ⟨x1, x2, x3⟩).toArray⟩ : ByteArray) = cvs ⟨x1, x2, x3⟩ from rfl] at m1
  have m2 := counts27_ok ⟨x1, x2, x3⟩ hf
  have m3 := decodeCounts_ok r (by omega)
  have m4 := valid_ok wn (by omega)
  have hcs := cvs_size hf
  have hed := enc_cdec hf
  have m5 := decodeCounts_ok (cvs ⟨x1, x2, x3⟩) (by omega)
  rw [hed] at m5
  simp only [Option.getD_some, Option.isSome_some, if_true] at m5
  cases hv : lvalid wn.data.toList with
  | false =>
    rw [hv] at m4
    have n1 := fun b ps => setMadeName_ok b ps [] [] wn ⟨x1, x2, x3⟩ (by omega) hv
    have e1 : madeE [] [] wn = (Ct.z, 12) := by rw [madeE, if_neg (by simp [hv])]
    have e2 : nbE [] [] wn = (Bi.z, 12) := by unfold nbE; rw [e1, if_pos (by decide)]
    have e3 : nbC [] [] wn = [] := by rw [nbC, e2, if_neg (by decide)]
    have n2 := fun b ps rs => made_ok b ps [] rs [] wn (by omega) (by rw [vget_nil]; exact Nat.zero_le _)
    have n3 := fun b ps rs => nextBirth_ok b ps [] rs [] wn (by omega) (by rw [vget_nil]; exact Nat.zero_le _) (by simp)
    rw [e1] at n2
    rw [e2, e3] at n3
    generalize cvs ⟨x1, x2, x3⟩ = s at *
    simp only [Ct.v] at m1 m2 m5 n1
    cases hd : cdec r with
    | none =>
      simp only [hd, Option.getD_none, Option.isSome_none, Bool.false_eq_true, if_false] at m3
      refine ⟨enters_of Tryz.func4 (by kernel_rfl) rfl, spec_of (vs := [_, _, _]) Tryz.func4 rfl Tryz.ntmps4 rfl fun G w hp => ?_⟩
      repeat' (first | refine l_run ?_ | refine l_nil ?_ | refine l_one ?_ | refine k_reg ?_ | refine l_ld ?_ | refine l_ldF ?_ | refine l_st ?_ | refine l_al (fun b => ?_) | refine l_bs (fun b => ?_) | refine k_condT ?_ | refine k_condF ?_ | refine k_brk ?_ | refine r_run ?_ | refine r_one ?_ | refine r_ld ?_ | refine r_ldF ?_ | refine r_ldN ?_ | refine r_al (fun b => ?_) | refine r_bs (fun b => ?_) | refine r_st ?_ | refine r_end ?_ | refine l_call (m1) (fun _ _ => ?_) | refine l_call0 (m1) (fun _ _ => ?_) | refine r_call (m1) (fun _ _ => ?_) | refine l_call (stateNew_ok) (fun _ _ => ?_) | refine l_call0 (stateNew_ok) (fun _ _ => ?_) | refine r_call (stateNew_ok) (fun _ _ => ?_) | refine l_call (viewNew_ok _) (fun _ _ => ?_) | refine l_call0 (viewNew_ok _) (fun _ _ => ?_) | refine r_call (viewNew_ok _) (fun _ _ => ?_) | refine l_call (n1 _ _) (fun _ _ => ?_) | refine l_call0 (n1 _ _) (fun _ _ => ?_) | refine r_call (n1 _ _) (fun _ _ => ?_) | refine l_call (n2 _ _ _) (fun _ _ => ?_) | refine l_call0 (n2 _ _ _) (fun _ _ => ?_) | refine r_call (n2 _ _ _) (fun _ _ => ?_) | refine l_call (n3 _ _ _) (fun _ _ => ?_) | refine l_call0 (n3 _ _ _) (fun _ _ => ?_) | refine r_call (n3 _ _ _) (fun _ _ => ?_) | refine l_call (m3) (fun _ _ => ?_) | refine l_call0 (m3) (fun _ _ => ?_) | refine r_call (m3) (fun _ _ => ?_) | refine l_call (known27_ok) (fun _ _ => ?_) | refine l_call0 (known27_ok) (fun _ _ => ?_) | refine r_call (known27_ok) (fun _ _ => ?_) | refine l_call (m2) (fun _ _ => ?_) | refine l_call0 (m2) (fun _ _ => ?_) | refine r_call (m2) (fun _ _ => ?_) | refine l_call (m4) (fun _ _ => ?_) | refine l_call0 (m4) (fun _ _ => ?_) | refine r_call (m4) (fun _ _ => ?_) | refine r_cutS 80 ?_ | rw [ht1] | refine r_cutS 100 ?_ | rw [ht2] | (refine l_split (fun hc => ?_) (fun hc => ?_) <;> (try simp at hc) <;> (try omega)) | (refine r_split (fun hc => ?_) (fun hc => ?_) <;> (try simp at hc) <;> (try omega)) | refine k_draw 1 [] [(0, 0), (1, 0), (2, 0), (3, 0), (4, 0), (5, 0), (6, 0), (7, 0), (8, 0), (9, 0), (10, 0), (11, 0)] [] ?_ | (refine k_cond (fun hc => ?_) (fun hc => ?_) <;> (try simp at hc) <;> (try omega)))
      all_goals exact k_ret () rfl trivial
    | some z =>
      simp only [hd, Option.getD_some, Option.isSome_some, if_true] at m3
      have q1 := counts27_ok z (cdec_ok hd)
      rw [cdec_canon hd] at q1
      refine ⟨enters_of Tryz.func4 (by kernel_rfl) rfl, spec_of (vs := [_, _, _]) Tryz.func4 rfl Tryz.ntmps4 rfl fun G w hp => ?_⟩
      repeat' (first | refine l_run ?_ | refine l_nil ?_ | refine l_one ?_ | refine k_reg ?_ | refine l_ld ?_ | refine l_ldF ?_ | refine l_st ?_ | refine l_al (fun b => ?_) | refine l_bs (fun b => ?_) | refine k_condT ?_ | refine k_condF ?_ | refine k_brk ?_ | refine r_run ?_ | refine r_one ?_ | refine r_ld ?_ | refine r_ldF ?_ | refine r_ldN ?_ | refine r_al (fun b => ?_) | refine r_bs (fun b => ?_) | refine r_st ?_ | refine r_end ?_ | refine l_call (m1) (fun _ _ => ?_) | refine l_call0 (m1) (fun _ _ => ?_) | refine r_call (m1) (fun _ _ => ?_) | refine l_call (stateNew_ok) (fun _ _ => ?_) | refine l_call0 (stateNew_ok) (fun _ _ => ?_) | refine r_call (stateNew_ok) (fun _ _ => ?_) | refine l_call (viewNew_ok _) (fun _ _ => ?_) | refine l_call0 (viewNew_ok _) (fun _ _ => ?_) | refine r_call (viewNew_ok _) (fun _ _ => ?_) | refine l_call (n1 _ _) (fun _ _ => ?_) | refine l_call0 (n1 _ _) (fun _ _ => ?_) | refine r_call (n1 _ _) (fun _ _ => ?_) | refine l_call (n2 _ _ _) (fun _ _ => ?_) | refine l_call0 (n2 _ _ _) (fun _ _ => ?_) | refine r_call (n2 _ _ _) (fun _ _ => ?_) | refine l_call (n3 _ _ _) (fun _ _ => ?_) | refine l_call0 (n3 _ _ _) (fun _ _ => ?_) | refine r_call (n3 _ _ _) (fun _ _ => ?_) | refine l_call (m3) (fun _ _ => ?_) | refine l_call0 (m3) (fun _ _ => ?_) | refine r_call (m3) (fun _ _ => ?_) | refine l_call (known27_ok) (fun _ _ => ?_) | refine l_call0 (known27_ok) (fun _ _ => ?_) | refine r_call (known27_ok) (fun _ _ => ?_) | refine l_call (m2) (fun _ _ => ?_) | refine l_call0 (m2) (fun _ _ => ?_) | refine r_call (m2) (fun _ _ => ?_) | refine l_call (q1) (fun _ _ => ?_) | refine l_call0 (q1) (fun _ _ => ?_) | refine r_call (q1) (fun _ _ => ?_) | refine l_call (m4) (fun _ _ => ?_) | refine l_call0 (m4) (fun _ _ => ?_) | refine r_call (m4) (fun _ _ => ?_) | refine r_cutS 80 ?_ | rw [ht1] | refine r_cutS 100 ?_ | rw [ht2] | (refine l_split (fun hc => ?_) (fun hc => ?_) <;> (try simp at hc) <;> (try omega)) | (refine r_split (fun hc => ?_) (fun hc => ?_) <;> (try simp at hc) <;> (try omega)) | refine k_draw 1 [] [(0, 0), (1, 0), (2, 0), (3, 0), (4, 0), (5, 0), (6, 0), (7, 0), (8, 0), (9, 0), (10, 0), (11, 0)] [] ?_ | (refine k_cond (fun hc => ?_) (fun hc => ?_) <;> (try simp at hc) <;> (try omega)))
      all_goals exact k_ret () rfl trivial
  | true =>
    rw [hv] at m4
    have n1 := fun b ps => setMade_ok b ps [] [] wn ⟨x1, x2, x3⟩ (by omega) hv hf (by simp)
    have e0 : vset [] (cnm wn) ⟨(cenc ⟨x1, x2, x3⟩).toArray⟩ = (0, [] ++ [⟨cnm wn, cvs ⟨x1, x2, x3⟩, false⟩]) := by
      unfold vset
      rw [if_neg (by simp [chk_cnm hv]), if_neg (by show ¬ 65536 < (cvs ⟨x1, x2, x3⟩).size; omega)]
      rfl
    rw [e0] at n1
    have hg : vget [] ([] ++ [⟨cnm wn, cvs ⟨x1, x2, x3⟩, false⟩]) (cnm wn) = (cvs ⟨x1, x2, x3⟩, true) := vget_last (chk_cnm hv)
    have e1 : madeE [] ([] ++ [⟨cnm wn, cvs ⟨x1, x2, x3⟩, false⟩]) wn = (⟨x1, x2, x3⟩, 0) := by
      rw [madeE, if_pos hv, hg]
      simp only [if_true, hed]
      rfl
    have n2 := fun b ps rs => made_ok b ps [] rs ([] ++ [⟨cnm wn, cvs ⟨x1, x2, x3⟩, false⟩]) wn (by omega) (by rw [hg]; dsimp only; omega)
    have n3 := fun b ps rs => nextBirth_ok b ps [] rs ([] ++ [⟨cnm wn, cvs ⟨x1, x2, x3⟩, false⟩]) wn (by omega) (by rw [hg]; dsimp only; omega) (by simp)
    rw [e1] at n2
    by_cases hm : x1 = 1048576
    · have e2 : nbE [] ([] ++ [⟨cnm wn, cvs ⟨x1, x2, x3⟩, false⟩]) wn = (Bi.z, 9) := by unfold nbE; rw [e1, if_neg (by simp), if_pos hm]
      have e3 : nbC [] ([] ++ [⟨cnm wn, cvs ⟨x1, x2, x3⟩, false⟩]) wn = [] ++ [⟨cnm wn, cvs ⟨x1, x2, x3⟩, false⟩] := by rw [nbC, e2, if_neg (by decide)]
      rw [e2, e3] at n3
      generalize ([] ++ [⟨cnm wn, cvs ⟨x1, x2, x3⟩, false⟩] : List Ch) = cs1 at *
      generalize cvs ⟨x1, x2, x3⟩ = s at *
      simp only [Ct.v] at m1 m2 m5 n1 n2
      cases hd : cdec r with
      | none =>
        simp only [hd, Option.getD_none, Option.isSome_none, Bool.false_eq_true, if_false] at m3
        refine ⟨enters_of Tryz.func4 (by kernel_rfl) rfl, spec_of (vs := [_, _, _]) Tryz.func4 rfl Tryz.ntmps4 rfl fun G w hp => ?_⟩
        repeat' (first | refine l_seq (b := true) ?_ (he := eqBi _) | refine l_seq (b := true) ?_ (he := (eqCt (Ct.mk x1 x2 x3) (Ct.mk x1 x2 x3)).trans (by simp)) | refine l_run ?_ | refine l_nil ?_ | refine l_one ?_ | refine k_reg ?_ | refine l_ld ?_ | refine l_ldF ?_ | refine l_st ?_ | refine l_al (fun b => ?_) | refine l_bs (fun b => ?_) | refine k_condT ?_ | refine k_condF ?_ | refine k_brk ?_ | refine r_run ?_ | refine r_one ?_ | refine r_ld ?_ | refine r_ldF ?_ | refine r_ldN ?_ | refine r_al (fun b => ?_) | refine r_bs (fun b => ?_) | refine r_st ?_ | refine r_end ?_ | refine l_call (m1) (fun _ _ => ?_) | refine l_call0 (m1) (fun _ _ => ?_) | refine r_call (m1) (fun _ _ => ?_) | refine l_call (stateNew_ok) (fun _ _ => ?_) | refine l_call0 (stateNew_ok) (fun _ _ => ?_) | refine r_call (stateNew_ok) (fun _ _ => ?_) | refine l_call (viewNew_ok _) (fun _ _ => ?_) | refine l_call0 (viewNew_ok _) (fun _ _ => ?_) | refine r_call (viewNew_ok _) (fun _ _ => ?_) | refine l_call (n1 _ _) (fun _ _ => ?_) | refine l_call0 (n1 _ _) (fun _ _ => ?_) | refine r_call (n1 _ _) (fun _ _ => ?_) | refine l_call (n2 _ _ _) (fun _ _ => ?_) | refine l_call0 (n2 _ _ _) (fun _ _ => ?_) | refine r_call (n2 _ _ _) (fun _ _ => ?_) | refine l_call (n3 _ _ _) (fun _ _ => ?_) | refine l_call0 (n3 _ _ _) (fun _ _ => ?_) | refine r_call (n3 _ _ _) (fun _ _ => ?_) | refine l_call (m3) (fun _ _ => ?_) | refine l_call0 (m3) (fun _ _ => ?_) | refine r_call (m3) (fun _ _ => ?_) | refine l_call (known27_ok) (fun _ _ => ?_) | refine l_call0 (known27_ok) (fun _ _ => ?_) | refine r_call (known27_ok) (fun _ _ => ?_) | refine l_call (m2) (fun _ _ => ?_) | refine l_call0 (m2) (fun _ _ => ?_) | refine r_call (m2) (fun _ _ => ?_) | refine l_call (m4) (fun _ _ => ?_) | refine l_call0 (m4) (fun _ _ => ?_) | refine r_call (m4) (fun _ _ => ?_) | refine r_cutS 80 ?_ | rw [ht1] | refine r_cutS 100 ?_ | rw [ht2] | (refine l_split (fun hc => ?_) (fun hc => ?_) <;> (try simp at hc) <;> (try omega)) | (refine r_split (fun hc => ?_) (fun hc => ?_) <;> (try simp at hc) <;> (try omega)) | refine k_draw 1 [] [(0, 0), (1, 0), (2, 0), (3, 0), (4, 0), (5, 0), (6, 0), (7, 0), (8, 0), (9, 0), (10, 0), (11, 0)] [] ?_ | (refine k_cond (fun hc => ?_) (fun hc => ?_) <;> (try simp at hc) <;> (try omega)))
        all_goals exact k_ret () rfl trivial
      | some z =>
        simp only [hd, Option.getD_some, Option.isSome_some, if_true] at m3
        have q1 := counts27_ok z (cdec_ok hd)
        rw [cdec_canon hd] at q1
        refine ⟨enters_of Tryz.func4 (by kernel_rfl) rfl, spec_of (vs := [_, _, _]) Tryz.func4 rfl Tryz.ntmps4 rfl fun G w hp => ?_⟩
        repeat' (first | refine l_seq (b := true) ?_ (he := eqBi _) | refine l_seq (b := true) ?_ (he := (eqCt (Ct.mk x1 x2 x3) (Ct.mk x1 x2 x3)).trans (by simp)) | refine l_run ?_ | refine l_nil ?_ | refine l_one ?_ | refine k_reg ?_ | refine l_ld ?_ | refine l_ldF ?_ | refine l_st ?_ | refine l_al (fun b => ?_) | refine l_bs (fun b => ?_) | refine k_condT ?_ | refine k_condF ?_ | refine k_brk ?_ | refine r_run ?_ | refine r_one ?_ | refine r_ld ?_ | refine r_ldF ?_ | refine r_ldN ?_ | refine r_al (fun b => ?_) | refine r_bs (fun b => ?_) | refine r_st ?_ | refine r_end ?_ | refine l_call (m1) (fun _ _ => ?_) | refine l_call0 (m1) (fun _ _ => ?_) | refine r_call (m1) (fun _ _ => ?_) | refine l_call (stateNew_ok) (fun _ _ => ?_) | refine l_call0 (stateNew_ok) (fun _ _ => ?_) | refine r_call (stateNew_ok) (fun _ _ => ?_) | refine l_call (viewNew_ok _) (fun _ _ => ?_) | refine l_call0 (viewNew_ok _) (fun _ _ => ?_) | refine r_call (viewNew_ok _) (fun _ _ => ?_) | refine l_call (n1 _ _) (fun _ _ => ?_) | refine l_call0 (n1 _ _) (fun _ _ => ?_) | refine r_call (n1 _ _) (fun _ _ => ?_) | refine l_call (n2 _ _ _) (fun _ _ => ?_) | refine l_call0 (n2 _ _ _) (fun _ _ => ?_) | refine r_call (n2 _ _ _) (fun _ _ => ?_) | refine l_call (n3 _ _ _) (fun _ _ => ?_) | refine l_call0 (n3 _ _ _) (fun _ _ => ?_) | refine r_call (n3 _ _ _) (fun _ _ => ?_) | refine l_call (m3) (fun _ _ => ?_) | refine l_call0 (m3) (fun _ _ => ?_) | refine r_call (m3) (fun _ _ => ?_) | refine l_call (known27_ok) (fun _ _ => ?_) | refine l_call0 (known27_ok) (fun _ _ => ?_) | refine r_call (known27_ok) (fun _ _ => ?_) | refine l_call (m2) (fun _ _ => ?_) | refine l_call0 (m2) (fun _ _ => ?_) | refine r_call (m2) (fun _ _ => ?_) | refine l_call (q1) (fun _ _ => ?_) | refine l_call0 (q1) (fun _ _ => ?_) | refine r_call (q1) (fun _ _ => ?_) | refine l_call (m4) (fun _ _ => ?_) | refine l_call0 (m4) (fun _ _ => ?_) | refine r_call (m4) (fun _ _ => ?_) | refine r_cutS 80 ?_ | rw [ht1] | refine r_cutS 100 ?_ | rw [ht2] | (refine l_split (fun hc => ?_) (fun hc => ?_) <;> (try simp at hc) <;> (try omega)) | (refine r_split (fun hc => ?_) (fun hc => ?_) <;> (try simp at hc) <;> (try omega)) | refine k_draw 1 [] [(0, 0), (1, 0), (2, 0), (3, 0), (4, 0), (5, 0), (6, 0), (7, 0), (8, 0), (9, 0), (10, 0), (11, 0)] [] ?_ | (refine k_cond (fun hc => ?_) (fun hc => ?_) <;> (try simp at hc) <;> (try omega)))
        all_goals exact k_ret () rfl trivial
    · have hf2 : CtOK ⟨x1 + 1, x2, x3⟩ := ⟨by show 0 ≤ x1 + 1; omega, by show x1 + 1 ≤ _; omega, f3, f4, f5, f6⟩
      have hcs2 := cvs_size hf2
      have e2 : nbE [] ([] ++ [⟨cnm wn, cvs ⟨x1, x2, x3⟩, false⟩]) wn = (⟨wn, x1⟩, 0) := by unfold nbE; rw [e1, if_neg (by simp), if_neg hm]
      have e3 : nbC [] ([] ++ [⟨cnm wn, cvs ⟨x1, x2, x3⟩, false⟩]) wn = [] ++ [⟨cnm wn, cvs ⟨x1, x2, x3⟩, false⟩] ++ [⟨cnm wn, cvs ⟨x1 + 1, x2, x3⟩, false⟩] := by rw [nbC, e2, if_pos rfl, e1]
      have hg2 : vget [] ([] ++ [⟨cnm wn, cvs ⟨x1, x2, x3⟩, false⟩] ++ [⟨cnm wn, cvs ⟨x1 + 1, x2, x3⟩, false⟩]) (cnm wn) = (cvs ⟨x1 + 1, x2, x3⟩, true) := vget_last (chk_cnm hv)
      have e4 : madeE [] ([] ++ [⟨cnm wn, cvs ⟨x1, x2, x3⟩, false⟩] ++ [⟨cnm wn, cvs ⟨x1 + 1, x2, x3⟩, false⟩]) wn = (⟨x1 + 1, x2, x3⟩, 0) := by
        rw [madeE, if_pos hv, hg2]
        simp only [if_true, enc_cdec hf2]
        rfl
      have n4 := fun b ps rs => made_ok b ps [] rs ([] ++ [⟨cnm wn, cvs ⟨x1, x2, x3⟩, false⟩] ++ [⟨cnm wn, cvs ⟨x1 + 1, x2, x3⟩, false⟩]) wn (by omega) (by rw [hg2]; dsimp only; omega)
      rw [e4] at n4
      rw [e2, e3] at n3
      generalize ([] ++ [⟨cnm wn, cvs ⟨x1, x2, x3⟩, false⟩] ++ [⟨cnm wn, cvs ⟨x1 + 1, x2, x3⟩, false⟩] : List Ch) = cs2 at *
      generalize ([] ++ [⟨cnm wn, cvs ⟨x1, x2, x3⟩, false⟩] : List Ch) = cs1 at *
      generalize cvs ⟨x1, x2, x3⟩ = s at *
      have w1 : IntKind.i64.wrap (x1 + 1) = x1 + 1 := wrapi (by omega) (by omega)
      simp only [Ct.v] at m1 m2 m5 n1 n2 n4
      cases hd : cdec r with
      | none =>
        simp only [hd, Option.getD_none, Option.isSome_none, Bool.false_eq_true, if_false] at m3
        refine ⟨enters_of Tryz.func4 (by kernel_rfl) rfl, spec_of (vs := [_, _, _]) Tryz.func4 rfl Tryz.ntmps4 rfl fun G w hp => ?_⟩
        repeat' (first | refine l_seq (b := true) ?_ (he := eqBi _) | refine l_seq (b := true) ?_ (he := (eqCt (Ct.mk (x1 + 1) x2 x3) (Ct.mk (x1 + 1) x2 x3)).trans (by simp)) | refine l_seq (b := true) ?_ (he := (eqCt (Ct.mk x1 x2 x3) (Ct.mk x1 x2 x3)).trans (by simp)) | refine l_run ?_ | refine l_nil ?_ | refine l_one ?_ | refine k_reg ?_ | refine l_ld ?_ | refine l_ldF ?_ | refine l_st ?_ | refine l_al (fun b => ?_) | refine l_bs (fun b => ?_) | refine k_condT ?_ | refine k_condF ?_ | refine k_brk ?_ | refine r_run ?_ | refine r_one ?_ | refine r_ld ?_ | refine r_ldF ?_ | refine r_ldN ?_ | refine r_al (fun b => ?_) | refine r_bs (fun b => ?_) | refine r_st ?_ | refine r_end ?_ | refine l_call (m1) (fun _ _ => ?_) | refine l_call0 (m1) (fun _ _ => ?_) | refine r_call (m1) (fun _ _ => ?_) | refine l_call (stateNew_ok) (fun _ _ => ?_) | refine l_call0 (stateNew_ok) (fun _ _ => ?_) | refine r_call (stateNew_ok) (fun _ _ => ?_) | refine l_call (viewNew_ok _) (fun _ _ => ?_) | refine l_call0 (viewNew_ok _) (fun _ _ => ?_) | refine r_call (viewNew_ok _) (fun _ _ => ?_) | refine l_call (n1 _ _) (fun _ _ => ?_) | refine l_call0 (n1 _ _) (fun _ _ => ?_) | refine r_call (n1 _ _) (fun _ _ => ?_) | refine l_call (n2 _ _ _) (fun _ _ => ?_) | refine l_call0 (n2 _ _ _) (fun _ _ => ?_) | refine r_call (n2 _ _ _) (fun _ _ => ?_) | refine l_call (n3 _ _ _) (fun _ _ => ?_) | refine l_call0 (n3 _ _ _) (fun _ _ => ?_) | refine r_call (n3 _ _ _) (fun _ _ => ?_) | refine l_call (m3) (fun _ _ => ?_) | refine l_call0 (m3) (fun _ _ => ?_) | refine r_call (m3) (fun _ _ => ?_) | refine l_call (known27_ok) (fun _ _ => ?_) | refine l_call0 (known27_ok) (fun _ _ => ?_) | refine r_call (known27_ok) (fun _ _ => ?_) | refine l_call (m2) (fun _ _ => ?_) | refine l_call0 (m2) (fun _ _ => ?_) | refine r_call (m2) (fun _ _ => ?_) | refine l_call (m4) (fun _ _ => ?_) | refine l_call0 (m4) (fun _ _ => ?_) | refine r_call (m4) (fun _ _ => ?_) | refine l_call (n4 _ _ _) (fun _ _ => ?_) | refine l_call0 (n4 _ _ _) (fun _ _ => ?_) | refine r_call (n4 _ _ _) (fun _ _ => ?_) | refine l_call (m5) (fun _ _ => ?_) | refine l_call0 (m5) (fun _ _ => ?_) | refine r_call (m5) (fun _ _ => ?_) | refine r_cutS 80 ?_ | rw [ht1] | refine r_cutS 100 ?_ | rw [ht2] | rw [w1] | (refine l_split (fun hc => ?_) (fun hc => ?_) <;> (try simp at hc) <;> (try omega)) | (refine r_split (fun hc => ?_) (fun hc => ?_) <;> (try simp at hc) <;> (try omega)) | refine k_draw 1 [] [(0, 0), (1, 0), (2, 0), (3, 0), (4, 0), (5, 0), (6, 0), (7, 0), (8, 0), (9, 0), (10, 0), (11, 0)] [] ?_ | (refine k_cond (fun hc => ?_) (fun hc => ?_) <;> (try simp at hc) <;> (try omega)))
        all_goals exact k_ret () rfl trivial
      | some z =>
        simp only [hd, Option.getD_some, Option.isSome_some, if_true] at m3
        have q1 := counts27_ok z (cdec_ok hd)
        rw [cdec_canon hd] at q1
        refine ⟨enters_of Tryz.func4 (by kernel_rfl) rfl, spec_of (vs := [_, _, _]) Tryz.func4 rfl Tryz.ntmps4 rfl fun G w hp => ?_⟩
        repeat' (first | refine l_seq (b := true) ?_ (he := eqBi _) | refine l_seq (b := true) ?_ (he := (eqCt (Ct.mk (x1 + 1) x2 x3) (Ct.mk (x1 + 1) x2 x3)).trans (by simp)) | refine l_seq (b := true) ?_ (he := (eqCt (Ct.mk x1 x2 x3) (Ct.mk x1 x2 x3)).trans (by simp)) | refine l_run ?_ | refine l_nil ?_ | refine l_one ?_ | refine k_reg ?_ | refine l_ld ?_ | refine l_ldF ?_ | refine l_st ?_ | refine l_al (fun b => ?_) | refine l_bs (fun b => ?_) | refine k_condT ?_ | refine k_condF ?_ | refine k_brk ?_ | refine r_run ?_ | refine r_one ?_ | refine r_ld ?_ | refine r_ldF ?_ | refine r_ldN ?_ | refine r_al (fun b => ?_) | refine r_bs (fun b => ?_) | refine r_st ?_ | refine r_end ?_ | refine l_call (m1) (fun _ _ => ?_) | refine l_call0 (m1) (fun _ _ => ?_) | refine r_call (m1) (fun _ _ => ?_) | refine l_call (stateNew_ok) (fun _ _ => ?_) | refine l_call0 (stateNew_ok) (fun _ _ => ?_) | refine r_call (stateNew_ok) (fun _ _ => ?_) | refine l_call (viewNew_ok _) (fun _ _ => ?_) | refine l_call0 (viewNew_ok _) (fun _ _ => ?_) | refine r_call (viewNew_ok _) (fun _ _ => ?_) | refine l_call (n1 _ _) (fun _ _ => ?_) | refine l_call0 (n1 _ _) (fun _ _ => ?_) | refine r_call (n1 _ _) (fun _ _ => ?_) | refine l_call (n2 _ _ _) (fun _ _ => ?_) | refine l_call0 (n2 _ _ _) (fun _ _ => ?_) | refine r_call (n2 _ _ _) (fun _ _ => ?_) | refine l_call (n3 _ _ _) (fun _ _ => ?_) | refine l_call0 (n3 _ _ _) (fun _ _ => ?_) | refine r_call (n3 _ _ _) (fun _ _ => ?_) | refine l_call (m3) (fun _ _ => ?_) | refine l_call0 (m3) (fun _ _ => ?_) | refine r_call (m3) (fun _ _ => ?_) | refine l_call (known27_ok) (fun _ _ => ?_) | refine l_call0 (known27_ok) (fun _ _ => ?_) | refine r_call (known27_ok) (fun _ _ => ?_) | refine l_call (m2) (fun _ _ => ?_) | refine l_call0 (m2) (fun _ _ => ?_) | refine r_call (m2) (fun _ _ => ?_) | refine l_call (q1) (fun _ _ => ?_) | refine l_call0 (q1) (fun _ _ => ?_) | refine r_call (q1) (fun _ _ => ?_) | refine l_call (m4) (fun _ _ => ?_) | refine l_call0 (m4) (fun _ _ => ?_) | refine r_call (m4) (fun _ _ => ?_) | refine l_call (n4 _ _ _) (fun _ _ => ?_) | refine l_call0 (n4 _ _ _) (fun _ _ => ?_) | refine r_call (n4 _ _ _) (fun _ _ => ?_) | refine l_call (m5) (fun _ _ => ?_) | refine l_call0 (m5) (fun _ _ => ?_) | refine r_call (m5) (fun _ _ => ?_) | refine r_cutS 80 ?_ | rw [ht1] | refine r_cutS 100 ?_ | rw [ht2] | rw [w1] | (refine l_split (fun hc => ?_) (fun hc => ?_) <;> (try simp at hc) <;> (try omega)) | (refine r_split (fun hc => ?_) (fun hc => ?_) <;> (try simp at hc) <;> (try omega)) | refine k_draw 1 [] [(0, 0), (1, 0), (2, 0), (3, 0), (4, 0), (5, 0), (6, 0), (7, 0), (8, 0), (9, 0), (10, 0), (11, 0)] [] ?_ | (refine k_cond (fun hc => ?_) (fun hc => ?_) <;> (try simp at hc) <;> (try omega)))
        all_goals exact k_ret () rfl trivial
end
end Go.Proofs.YtgciahedpaencaaGreatDoor
