/-
  The law OutputChecks, walked.
  Conditions: those that each theorem states.
-/
import Derived.Test.YtijaglinajfplaaGreatDoorMG
set_option maxRecDepth 10000
namespace Go.Proofs.YtijaglinajfplaaGreatDoor
open Go.RowKit

theorem eqO (a b : Ou) : eqC eqS 20 24 a.v b.v = some (decide (a = b)) := by
  rw [show eqC eqS 20 24 a.v b.v = some ((a.ch == b.ch) && ((a.tg.toList == b.tg.toList) && ((a.tx.toList == b.tx.toList) && ((a.us == b.us) && true)))) from rfl]
  congr 1
  obtain ⟨a1, a2, a3, a4⟩ := a
  obtain ⟨b1, b2, b3, b4⟩ := b
  simp only [beqSw, beqIw, Ou.mk.injEq]
  rw [Bool.eq_iff_iff]; simp
theorem eqN1 (s : ByteArray) (x y : Int) : eqC eqS 20 70 (.agg #[.int .i64 18, .string s, .int .i64 x, .int .i64 y, .string ⟨#[]⟩]) (.agg #[.int .i64 18, .string s, .int .i64 x, .int .i64 y, .string ⟨#[]⟩]) = some true := by
  rw [show eqC eqS 20 70 (.agg #[.int .i64 18, .string s, .int .i64 x, .int .i64 y, .string ⟨#[]⟩]) (.agg #[.int .i64 18, .string s, .int .i64 x, .int .i64 y, .string ⟨#[]⟩]) = some (((18 : Int) == 18) && ((s.toList == s.toList) && ((x == x) && ((y == y) && ((ByteArray.toList ⟨#[]⟩ == ByteArray.toList ⟨#[]⟩) && true))))) from rfl]
  simp

set_option maxHeartbeats 4000000 in
theorem lawOChecks_ok (o : Ou) (raw : ByteArray) (x y : Int) : Enters 7 ∧ Spec Tryz.prog 7 #[o.v, .string raw, .agg #[.int .i64 x, .int .i64 y]] [Usg] [] (RetV (.bool true)) := by
  have n1 := shortO_ok o
  generalize shO o = o' at *
  have n2 := mcheck_ok o'
  have n3 := outEncode_ok o'
  have n4 := outCheck_ok o'
  have n5 := outName_ok ⟨#[49]⟩ x y
  have n6 := ofOut_ok ⟨#[49]⟩ x y
  have hsz := cutS_size raw 300
  have m1 := outDecode_ok (cutS raw 300) (by omega)
  cases hd : odec (cutS raw 300) with
  | none =>
    simp only [hd, Option.getD_none, Option.isSome_none, Bool.false_eq_true, if_false] at m1
    by_cases h : ochk o' = 0
    · have n7 := outDecode_ok (oencS o') (by rw [oencS, if_pos h]; have := oenc_len h; show (oenc o').toArray.size ≤ _; rw [List.size_toArray]; omega)
      simp only [odec_enc h, Option.getD_some, Option.isSome_some, if_true] at n7
      have n8 := value_ok o' h
      rw [h] at n2 n3 n4
      refine ⟨enters_of Tryz.func7 (by kernel_rfl) rfl, spec_of (vs := [_, _, _]) Tryz.func7 rfl Tryz.ntmps7 rfl fun G w hp => ?_⟩
      repeat' (first | refine l_seq (b := true) ?_ (he := (eqO Ou.z Ou.z).trans (by simp)) | refine l_sneq (b := true) ?_ (he := (eqO _ _).trans (by simp)) | refine r_sneq (b := true) ?_ (he := eqN1 _ _ _) | refine l_run ?_ | refine l_nil ?_ | refine l_one ?_ | refine k_reg ?_ | refine l_ld ?_ | refine l_ldF ?_ | refine l_st ?_ | refine l_al (fun b => ?_) | refine l_bs (fun b => ?_) | refine k_condT ?_ | refine k_condF ?_ | refine k_brk ?_ | refine r_run ?_ | refine r_one ?_ | refine r_ld ?_ | refine r_ldF ?_ | refine r_ldN ?_ | refine r_al (fun b => ?_) | refine r_bs (fun b => ?_) | refine r_st ?_ | refine r_end ?_ | refine l_call (n1) (fun _ _ => ?_) | refine l_call0 (n1) (fun _ _ => ?_) | refine r_call (n1) (fun _ _ => ?_) | refine l_call (n2) (fun _ _ => ?_) | refine l_call0 (n2) (fun _ _ => ?_) | refine r_call (n2) (fun _ _ => ?_) | refine l_call (n3) (fun _ _ => ?_) | refine l_call0 (n3) (fun _ _ => ?_) | refine r_call (n3) (fun _ _ => ?_) | refine l_call (n4) (fun _ _ => ?_) | refine l_call0 (n4) (fun _ _ => ?_) | refine r_call (n4) (fun _ _ => ?_) | refine l_call (n5) (fun _ _ => ?_) | refine l_call0 (n5) (fun _ _ => ?_) | refine r_call (n5) (fun _ _ => ?_) | refine l_call (n6) (fun _ _ => ?_) | refine l_call0 (n6) (fun _ _ => ?_) | refine r_call (n6) (fun _ _ => ?_) | refine l_call (m1) (fun _ _ => ?_) | refine l_call0 (m1) (fun _ _ => ?_) | refine r_call (m1) (fun _ _ => ?_) | refine l_call (known39_ok) (fun _ _ => ?_) | refine l_call0 (known39_ok) (fun _ _ => ?_) | refine r_call (known39_ok) (fun _ _ => ?_) | refine l_call (n7) (fun _ _ => ?_) | refine l_call0 (n7) (fun _ _ => ?_) | refine r_call (n7) (fun _ _ => ?_) | refine l_call (n8) (fun _ _ => ?_) | refine l_call0 (n8) (fun _ _ => ?_) | refine r_call (n8) (fun _ _ => ?_) | refine r_cutS 300 ?_ | refine r_ixA (m := 2) 0 (by omega) ?_ | refine r_ixA (m := 2) 1 (by omega) ?_ | refine r_up ?_ | (refine l_split (fun hc => ?_) (fun hc => ?_) <;> (try simp at hc) <;> (try omega)) | (refine r_split (fun hc => ?_) (fun hc => ?_) <;> (try simp at hc) <;> (try omega)) | refine k_draw 1 [Pt _ (.cells _ 24 _)] [(2, 0), (3, 0), (4, 0), (5, 0), (6, 0), (0, 3), (1, 4), (7, 4), (8, 0)] [] ?_ | refine k_draw 4 [] [(0, 4), (1, 0), (2, 0), (3, 0), (5, 0), (4, 4), (6, 0), (7, 0), (8, 0), (9, 0), (10, 0), (11, 0), (12, 0), (13, 0), (14, 0), (15, 0), (16, 0), (17, 0), (19, 0), (20, 0), (21, 0), (22, 0), (18, 4), (23, 4), (24, 0), (25, 0)] [] ?_ | (refine k_cond (fun hc => ?_) (fun hc => ?_) <;> (try simp at hc) <;> (try omega)))
      all_goals refine k_ret () ?_ trivial
      all_goals simp [RetV, resV]
    · rw [oencS, if_neg h] at n3
      generalize ochk o' = e at *
      refine ⟨enters_of Tryz.func7 (by kernel_rfl) rfl, spec_of (vs := [_, _, _]) Tryz.func7 rfl Tryz.ntmps7 rfl fun G w hp => ?_⟩
      repeat' (first | refine l_seq (b := true) ?_ (he := (eqO Ou.z Ou.z).trans (by simp)) | refine l_sneq (b := true) ?_ (he := (eqO _ _).trans (by simp)) | refine r_sneq (b := true) ?_ (he := eqN1 _ _ _) | refine l_run ?_ | refine l_nil ?_ | refine l_one ?_ | refine k_reg ?_ | refine l_ld ?_ | refine l_ldF ?_ | refine l_st ?_ | refine l_al (fun b => ?_) | refine l_bs (fun b => ?_) | refine k_condT ?_ | refine k_condF ?_ | refine k_brk ?_ | refine r_run ?_ | refine r_one ?_ | refine r_ld ?_ | refine r_ldF ?_ | refine r_ldN ?_ | refine r_al (fun b => ?_) | refine r_bs (fun b => ?_) | refine r_st ?_ | refine r_end ?_ | refine l_call (n1) (fun _ _ => ?_) | refine l_call0 (n1) (fun _ _ => ?_) | refine r_call (n1) (fun _ _ => ?_) | refine l_call (n2) (fun _ _ => ?_) | refine l_call0 (n2) (fun _ _ => ?_) | refine r_call (n2) (fun _ _ => ?_) | refine l_call (n3) (fun _ _ => ?_) | refine l_call0 (n3) (fun _ _ => ?_) | refine r_call (n3) (fun _ _ => ?_) | refine l_call (n4) (fun _ _ => ?_) | refine l_call0 (n4) (fun _ _ => ?_) | refine r_call (n4) (fun _ _ => ?_) | refine l_call (n5) (fun _ _ => ?_) | refine l_call0 (n5) (fun _ _ => ?_) | refine r_call (n5) (fun _ _ => ?_) | refine l_call (n6) (fun _ _ => ?_) | refine l_call0 (n6) (fun _ _ => ?_) | refine r_call (n6) (fun _ _ => ?_) | refine l_call (m1) (fun _ _ => ?_) | refine l_call0 (m1) (fun _ _ => ?_) | refine r_call (m1) (fun _ _ => ?_) | refine l_call (known39_ok) (fun _ _ => ?_) | refine l_call0 (known39_ok) (fun _ _ => ?_) | refine r_call (known39_ok) (fun _ _ => ?_) | refine r_cutS 300 ?_ | refine r_ixA (m := 2) 0 (by omega) ?_ | refine r_ixA (m := 2) 1 (by omega) ?_ | refine r_up ?_ | (refine l_split (fun hc => ?_) (fun hc => ?_) <;> (try simp at hc) <;> (try omega)) | (refine r_split (fun hc => ?_) (fun hc => ?_) <;> (try simp at hc) <;> (try omega)) | refine k_draw 1 [Pt _ (.cells _ 24 _)] [(2, 0), (3, 0), (4, 0), (5, 0), (6, 0), (0, 3), (1, 4), (7, 4), (8, 0)] [] ?_ | refine k_draw 4 [] [(0, 4), (1, 0), (2, 0), (3, 0), (5, 0), (4, 4), (6, 0), (7, 0), (8, 0), (9, 0), (10, 0), (11, 0), (12, 0), (13, 0), (14, 0), (15, 0), (16, 0), (17, 0), (19, 0), (20, 0), (21, 0), (22, 0), (18, 4), (23, 4), (24, 0), (25, 0)] [] ?_ | (refine k_cond (fun hc => ?_) (fun hc => ?_) <;> (try simp at hc) <;> (try omega)))
      all_goals refine k_ret () ?_ trivial
      all_goals simp [RetV, resV]
  | some z =>
    simp only [hd, Option.getD_some, Option.isSome_some, if_true] at m1
    have hz := odec_inv hd
    have m2 := mcheck_ok z
    rw [hz.1] at m2
    have m3 := value_ok z hz.1
    rw [odec_canon hd] at m3
    by_cases h : ochk o' = 0
    · have n7 := outDecode_ok (oencS o') (by rw [oencS, if_pos h]; have := oenc_len h; show (oenc o').toArray.size ≤ _; rw [List.size_toArray]; omega)
      simp only [odec_enc h, Option.getD_some, Option.isSome_some, if_true] at n7
      have n8 := value_ok o' h
      rw [h] at n2 n3 n4
      refine ⟨enters_of Tryz.func7 (by kernel_rfl) rfl, spec_of (vs := [_, _, _]) Tryz.func7 rfl Tryz.ntmps7 rfl fun G w hp => ?_⟩
      repeat' (first | refine l_seq (b := true) ?_ (he := (eqO Ou.z Ou.z).trans (by simp)) | refine l_sneq (b := true) ?_ (he := (eqO _ _).trans (by simp)) | refine r_sneq (b := true) ?_ (he := eqN1 _ _ _) | refine l_run ?_ | refine l_nil ?_ | refine l_one ?_ | refine k_reg ?_ | refine l_ld ?_ | refine l_ldF ?_ | refine l_st ?_ | refine l_al (fun b => ?_) | refine l_bs (fun b => ?_) | refine k_condT ?_ | refine k_condF ?_ | refine k_brk ?_ | refine r_run ?_ | refine r_one ?_ | refine r_ld ?_ | refine r_ldF ?_ | refine r_ldN ?_ | refine r_al (fun b => ?_) | refine r_bs (fun b => ?_) | refine r_st ?_ | refine r_end ?_ | refine l_call (n1) (fun _ _ => ?_) | refine l_call0 (n1) (fun _ _ => ?_) | refine r_call (n1) (fun _ _ => ?_) | refine l_call (n2) (fun _ _ => ?_) | refine l_call0 (n2) (fun _ _ => ?_) | refine r_call (n2) (fun _ _ => ?_) | refine l_call (n3) (fun _ _ => ?_) | refine l_call0 (n3) (fun _ _ => ?_) | refine r_call (n3) (fun _ _ => ?_) | refine l_call (n4) (fun _ _ => ?_) | refine l_call0 (n4) (fun _ _ => ?_) | refine r_call (n4) (fun _ _ => ?_) | refine l_call (n5) (fun _ _ => ?_) | refine l_call0 (n5) (fun _ _ => ?_) | refine r_call (n5) (fun _ _ => ?_) | refine l_call (n6) (fun _ _ => ?_) | refine l_call0 (n6) (fun _ _ => ?_) | refine r_call (n6) (fun _ _ => ?_) | refine l_call (m1) (fun _ _ => ?_) | refine l_call0 (m1) (fun _ _ => ?_) | refine r_call (m1) (fun _ _ => ?_) | refine l_call (known39_ok) (fun _ _ => ?_) | refine l_call0 (known39_ok) (fun _ _ => ?_) | refine r_call (known39_ok) (fun _ _ => ?_) | refine l_call (n7) (fun _ _ => ?_) | refine l_call0 (n7) (fun _ _ => ?_) | refine r_call (n7) (fun _ _ => ?_) | refine l_call (n8) (fun _ _ => ?_) | refine l_call0 (n8) (fun _ _ => ?_) | refine r_call (n8) (fun _ _ => ?_) | refine l_call (m2) (fun _ _ => ?_) | refine l_call0 (m2) (fun _ _ => ?_) | refine r_call (m2) (fun _ _ => ?_) | refine l_call (m3) (fun _ _ => ?_) | refine l_call0 (m3) (fun _ _ => ?_) | refine r_call (m3) (fun _ _ => ?_) | refine r_cutS 300 ?_ | refine r_ixA (m := 2) 0 (by omega) ?_ | refine r_ixA (m := 2) 1 (by omega) ?_ | refine r_up ?_ | (refine l_split (fun hc => ?_) (fun hc => ?_) <;> (try simp at hc) <;> (try omega)) | (refine r_split (fun hc => ?_) (fun hc => ?_) <;> (try simp at hc) <;> (try omega)) | refine k_draw 1 [Pt _ (.cells _ 24 _)] [(2, 0), (3, 0), (4, 0), (5, 0), (6, 0), (0, 3), (1, 4), (7, 4), (8, 0)] [] ?_ | refine k_draw 4 [] [(0, 4), (1, 0), (2, 0), (3, 0), (5, 0), (4, 4), (6, 0), (7, 0), (8, 0), (9, 0), (10, 0), (11, 0), (12, 0), (13, 0), (14, 0), (15, 0), (16, 0), (17, 0), (19, 0), (20, 0), (21, 0), (22, 0), (18, 4), (23, 4), (24, 0), (25, 0)] [] ?_ | (refine k_cond (fun hc => ?_) (fun hc => ?_) <;> (try simp at hc) <;> (try omega)))
      all_goals refine k_ret () ?_ trivial
      all_goals simp [RetV, resV]
    · rw [oencS, if_neg h] at n3
      generalize ochk o' = e at *
      refine ⟨enters_of Tryz.func7 (by kernel_rfl) rfl, spec_of (vs := [_, _, _]) Tryz.func7 rfl Tryz.ntmps7 rfl fun G w hp => ?_⟩
      repeat' (first | refine l_seq (b := true) ?_ (he := (eqO Ou.z Ou.z).trans (by simp)) | refine l_sneq (b := true) ?_ (he := (eqO _ _).trans (by simp)) | refine r_sneq (b := true) ?_ (he := eqN1 _ _ _) | refine l_run ?_ | refine l_nil ?_ | refine l_one ?_ | refine k_reg ?_ | refine l_ld ?_ | refine l_ldF ?_ | refine l_st ?_ | refine l_al (fun b => ?_) | refine l_bs (fun b => ?_) | refine k_condT ?_ | refine k_condF ?_ | refine k_brk ?_ | refine r_run ?_ | refine r_one ?_ | refine r_ld ?_ | refine r_ldF ?_ | refine r_ldN ?_ | refine r_al (fun b => ?_) | refine r_bs (fun b => ?_) | refine r_st ?_ | refine r_end ?_ | refine l_call (n1) (fun _ _ => ?_) | refine l_call0 (n1) (fun _ _ => ?_) | refine r_call (n1) (fun _ _ => ?_) | refine l_call (n2) (fun _ _ => ?_) | refine l_call0 (n2) (fun _ _ => ?_) | refine r_call (n2) (fun _ _ => ?_) | refine l_call (n3) (fun _ _ => ?_) | refine l_call0 (n3) (fun _ _ => ?_) | refine r_call (n3) (fun _ _ => ?_) | refine l_call (n4) (fun _ _ => ?_) | refine l_call0 (n4) (fun _ _ => ?_) | refine r_call (n4) (fun _ _ => ?_) | refine l_call (n5) (fun _ _ => ?_) | refine l_call0 (n5) (fun _ _ => ?_) | refine r_call (n5) (fun _ _ => ?_) | refine l_call (n6) (fun _ _ => ?_) | refine l_call0 (n6) (fun _ _ => ?_) | refine r_call (n6) (fun _ _ => ?_) | refine l_call (m1) (fun _ _ => ?_) | refine l_call0 (m1) (fun _ _ => ?_) | refine r_call (m1) (fun _ _ => ?_) | refine l_call (known39_ok) (fun _ _ => ?_) | refine l_call0 (known39_ok) (fun _ _ => ?_) | refine r_call (known39_ok) (fun _ _ => ?_) | refine l_call (m2) (fun _ _ => ?_) | refine l_call0 (m2) (fun _ _ => ?_) | refine r_call (m2) (fun _ _ => ?_) | refine l_call (m3) (fun _ _ => ?_) | refine l_call0 (m3) (fun _ _ => ?_) | refine r_call (m3) (fun _ _ => ?_) | refine r_cutS 300 ?_ | refine r_ixA (m := 2) 0 (by omega) ?_ | refine r_ixA (m := 2) 1 (by omega) ?_ | refine r_up ?_ | (refine l_split (fun hc => ?_) (fun hc => ?_) <;> (try simp at hc) <;> (try omega)) | (refine r_split (fun hc => ?_) (fun hc => ?_) <;> (try simp at hc) <;> (try omega)) | refine k_draw 1 [Pt _ (.cells _ 24 _)] [(2, 0), (3, 0), (4, 0), (5, 0), (6, 0), (0, 3), (1, 4), (7, 4), (8, 0)] [] ?_ | refine k_draw 4 [] [(0, 4), (1, 0), (2, 0), (3, 0), (5, 0), (4, 4), (6, 0), (7, 0), (8, 0), (9, 0), (10, 0), (11, 0), (12, 0), (13, 0), (14, 0), (15, 0), (16, 0), (17, 0), (19, 0), (20, 0), (21, 0), (22, 0), (18, 4), (23, 4), (24, 0), (25, 0)] [] ?_ | (refine k_cond (fun hc => ?_) (fun hc => ?_) <;> (try simp at hc) <;> (try omega)))
      all_goals refine k_ret () ?_ trivial
      all_goals simp [RetV, resV]
end Go.Proofs.YtijaglinajfplaaGreatDoor
