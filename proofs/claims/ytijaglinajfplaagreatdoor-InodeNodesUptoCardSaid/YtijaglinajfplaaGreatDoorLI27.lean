/-
  The law InodeNodes, walked.
  Conditions: those that each theorem states.
-/
import Derived.Test.YtijaglinajfplaaGreatDoorMJ
import Derived.Test.YtijaglinajfplaaGreatDoorME
import Derived.Test.YtijaglinajfplaaGreatDoorMG
set_option maxRecDepth 10000
namespace Go.Proofs.YtijaglinajfplaaGreatDoor
open Go.RowKit

theorem eqIno (a b : Ino) : eqC eqS 20 58 a.v b.v = some (decide (a = b)) := by
  rw [show eqC eqS 20 58 a.v b.v = some ((a.kd == b.kd) && ((a.ow == b.ow) && ((a.gr == b.gr) && ((a.md == b.md) && ((a.sz == b.sz) && ((a.lk == b.lk) && ((a.tg.toList == b.tg.toList) && true))))))) from rfl]
  congr 1
  obtain ⟨a1, a2, a3, a4, a5, a6, a7⟩ := a
  obtain ⟨b1, b2, b3, b4, b5, b6, b7⟩ := b
  simp only [beqSw, beqIw, Ino.mk.injEq]
  rw [Bool.eq_iff_iff]; simp

set_option maxHeartbeats 4000000 in
theorem lawINodes_ok (n : Ino) (raw : ByteArray) (hz : ∀ z ∈ [n.kd, n.ow, n.gr, n.md, n.sz, n.lk], z < 9223372036854775808) : Enters 6 ∧ Spec Tryz.prog 6 #[n.v, .string raw] [Usg] [] (RetV (.bool true)) := by
  obtain ⟨x1, x2, x3, x4, x5, x6, u⟩ := n
  have ht := cutS_size u 300
  generalize ht0 : cutS u 300 = t at *
  have k1 := check27_ok (Ino.mk x1 x2 x3 x4 x5 x6 t)
  have k2 := inoCheck_ok (Ino.mk x1 x2 x3 x4 x5 x6 t)
  have hsz := cutS_size raw 300
  have m1 := inoDecode_ok (cutS raw 300) (by omega)
  by_cases h : ichk (Ino.mk x1 x2 x3 x4 x5 x6 t) = 0
  · have k3 := inoEncode_ok (Ino.mk x1 x2 x3 x4 x5 x6 t) h
    have k4 := value27_ok (Ino.mk x1 x2 x3 x4 x5 x6 t) h
    have k5 := inoDecode_ok (iencS (Ino.mk x1 x2 x3 x4 x5 x6 t)) (by have := iencS_size (Ino.mk x1 x2 x3 x4 x5 x6 t); omega)
    simp only [idec_enc h, Option.getD_some, Option.isSome_some, if_true] at k5
    rw [h] at k1 k2
    simp only [Ino.v] at k1 k2 k3 k4 k5
    cases hd : idec (cutS raw 300) with
    | none =>
      simp only [hd, Option.getD_none, Option.isSome_none, Bool.false_eq_true, if_false] at m1
      refine ⟨enters_of Tryz.func6 (by kernel_rfl) rfl, spec_of (vs := [_, _]) Tryz.func6 rfl Tryz.ntmps6 rfl fun G w hp => ?_⟩
      repeat' (first | refine l_seq (b := true) ?_ (he := (eqIno Ino.z Ino.z).trans (by simp)) | refine l_sneq (b := true) ?_ (he := (eqIno (Ino.mk x1 x2 x3 x4 x5 x6 t) (Ino.mk x1 x2 x3 x4 x5 x6 t)).trans (by simp)) | refine l_run ?_ | refine l_nil ?_ | refine l_one ?_ | refine k_reg ?_ | refine l_ld ?_ | refine l_ldF ?_ | refine l_st ?_ | refine l_al (fun b => ?_) | refine l_bs (fun b => ?_) | refine k_condT ?_ | refine k_condF ?_ | refine k_brk ?_ | refine r_run ?_ | refine r_one ?_ | refine r_ld ?_ | refine r_ldF ?_ | refine r_ldN ?_ | refine r_al (fun b => ?_) | refine r_bs (fun b => ?_) | refine r_st ?_ | refine r_end ?_ | refine l_call (k1) (fun _ _ => ?_) | refine l_call0 (k1) (fun _ _ => ?_) | refine r_call (k1) (fun _ _ => ?_) | refine l_call (k2) (fun _ _ => ?_) | refine l_call0 (k2) (fun _ _ => ?_) | refine r_call (k2) (fun _ _ => ?_) | refine l_call (k3) (fun _ _ => ?_) | refine l_call0 (k3) (fun _ _ => ?_) | refine r_call (k3) (fun _ _ => ?_) | refine l_call (m1) (fun _ _ => ?_) | refine l_call0 (m1) (fun _ _ => ?_) | refine r_call (m1) (fun _ _ => ?_) | refine l_call (known27_ok) (fun _ _ => ?_) | refine l_call0 (known27_ok) (fun _ _ => ?_) | refine r_call (known27_ok) (fun _ _ => ?_) | refine l_call (k4) (fun _ _ => ?_) | refine l_call0 (k4) (fun _ _ => ?_) | refine r_call (k4) (fun _ _ => ?_) | refine l_call (k5) (fun _ _ => ?_) | refine l_call0 (k5) (fun _ _ => ?_) | refine r_call (k5) (fun _ _ => ?_) | refine r_cutS 300 ?_ | rw [ht0] | refine r_up ?_ | (refine l_split (fun hc => ?_) (fun hc => ?_) <;> (try simp at hc) <;> (try omega)) | (refine r_split (fun hc => ?_) (fun hc => ?_) <;> (try simp at hc) <;> (try omega)) | refine k_draw 1 [Pt _ (.cells _ 58 _)] [(0, 0), (2, 0), (7, 0), (8, 0), (9, 0), (10, 0), (11, 0), (1, 3), (3, 3), (4, 0), (5, 0), (6, 0), (12, 0), (13, 4), (14, 0)] [] ?_ | (refine k_cond (fun hc => ?_) (fun hc => ?_) <;> (try simp at hc) <;> (try omega)))
      all_goals refine k_ret () ?_ trivial
      all_goals simp [RetV, resV]
    | some z =>
      simp only [hd, Option.getD_some, Option.isSome_some, if_true] at m1
      have hi := idec_inv hd
      have m2 := check27_ok z
      rw [hi.1] at m2
      have m3 := value27_ok z hi.1
      rw [idec_canon hd] at m3
      refine ⟨enters_of Tryz.func6 (by kernel_rfl) rfl, spec_of (vs := [_, _]) Tryz.func6 rfl Tryz.ntmps6 rfl fun G w hp => ?_⟩
      repeat' (first | refine l_seq (b := true) ?_ (he := (eqIno Ino.z Ino.z).trans (by simp)) | refine l_sneq (b := true) ?_ (he := (eqIno (Ino.mk x1 x2 x3 x4 x5 x6 t) (Ino.mk x1 x2 x3 x4 x5 x6 t)).trans (by simp)) | refine l_run ?_ | refine l_nil ?_ | refine l_one ?_ | refine k_reg ?_ | refine l_ld ?_ | refine l_ldF ?_ | refine l_st ?_ | refine l_al (fun b => ?_) | refine l_bs (fun b => ?_) | refine k_condT ?_ | refine k_condF ?_ | refine k_brk ?_ | refine r_run ?_ | refine r_one ?_ | refine r_ld ?_ | refine r_ldF ?_ | refine r_ldN ?_ | refine r_al (fun b => ?_) | refine r_bs (fun b => ?_) | refine r_st ?_ | refine r_end ?_ | refine l_call (k1) (fun _ _ => ?_) | refine l_call0 (k1) (fun _ _ => ?_) | refine r_call (k1) (fun _ _ => ?_) | refine l_call (k2) (fun _ _ => ?_) | refine l_call0 (k2) (fun _ _ => ?_) | refine r_call (k2) (fun _ _ => ?_) | refine l_call (k3) (fun _ _ => ?_) | refine l_call0 (k3) (fun _ _ => ?_) | refine r_call (k3) (fun _ _ => ?_) | refine l_call (m1) (fun _ _ => ?_) | refine l_call0 (m1) (fun _ _ => ?_) | refine r_call (m1) (fun _ _ => ?_) | refine l_call (known27_ok) (fun _ _ => ?_) | refine l_call0 (known27_ok) (fun _ _ => ?_) | refine r_call (known27_ok) (fun _ _ => ?_) | refine l_call (k4) (fun _ _ => ?_) | refine l_call0 (k4) (fun _ _ => ?_) | refine r_call (k4) (fun _ _ => ?_) | refine l_call (k5) (fun _ _ => ?_) | refine l_call0 (k5) (fun _ _ => ?_) | refine r_call (k5) (fun _ _ => ?_) | refine l_call (m2) (fun _ _ => ?_) | refine l_call0 (m2) (fun _ _ => ?_) | refine r_call (m2) (fun _ _ => ?_) | refine l_call (m3) (fun _ _ => ?_) | refine l_call0 (m3) (fun _ _ => ?_) | refine r_call (m3) (fun _ _ => ?_) | refine r_cutS 300 ?_ | rw [ht0] | refine r_up ?_ | (refine l_split (fun hc => ?_) (fun hc => ?_) <;> (try simp at hc) <;> (try omega)) | (refine r_split (fun hc => ?_) (fun hc => ?_) <;> (try simp at hc) <;> (try omega)) | refine k_draw 1 [Pt _ (.cells _ 58 _)] [(0, 0), (2, 0), (7, 0), (8, 0), (9, 0), (10, 0), (11, 0), (1, 3), (3, 3), (4, 0), (5, 0), (6, 0), (12, 0), (13, 4), (14, 0)] [] ?_ | (refine k_cond (fun hc => ?_) (fun hc => ?_) <;> (try simp at hc) <;> (try omega)))
      all_goals refine k_ret () ?_ trivial
      all_goals simp [RetV, resV]
  · have k3 := inoEncodeBad_ok (Ino.mk x1 x2 x3 x4 x5 x6 t) h hz (by show t.size ≤ _; omega)
    generalize hE : ichk (Ino.mk x1 x2 x3 x4 x5 x6 t) = E at *
    simp only [Ino.v] at k1 k2 k3
    cases hd : idec (cutS raw 300) with
    | none =>
      simp only [hd, Option.getD_none, Option.isSome_none, Bool.false_eq_true, if_false] at m1
      refine ⟨enters_of Tryz.func6 (by kernel_rfl) rfl, spec_of (vs := [_, _]) Tryz.func6 rfl Tryz.ntmps6 rfl fun G w hp => ?_⟩
      repeat' (first | refine l_seq (b := true) ?_ (he := (eqIno Ino.z Ino.z).trans (by simp)) | refine l_sneq (b := true) ?_ (he := (eqIno (Ino.mk x1 x2 x3 x4 x5 x6 t) (Ino.mk x1 x2 x3 x4 x5 x6 t)).trans (by simp)) | refine l_run ?_ | refine l_nil ?_ | refine l_one ?_ | refine k_reg ?_ | refine l_ld ?_ | refine l_ldF ?_ | refine l_st ?_ | refine l_al (fun b => ?_) | refine l_bs (fun b => ?_) | refine k_condT ?_ | refine k_condF ?_ | refine k_brk ?_ | refine r_run ?_ | refine r_one ?_ | refine r_ld ?_ | refine r_ldF ?_ | refine r_ldN ?_ | refine r_al (fun b => ?_) | refine r_bs (fun b => ?_) | refine r_st ?_ | refine r_end ?_ | refine l_call (k1) (fun _ _ => ?_) | refine l_call0 (k1) (fun _ _ => ?_) | refine r_call (k1) (fun _ _ => ?_) | refine l_call (k2) (fun _ _ => ?_) | refine l_call0 (k2) (fun _ _ => ?_) | refine r_call (k2) (fun _ _ => ?_) | refine l_call (k3) (fun _ _ => ?_) | refine l_call0 (k3) (fun _ _ => ?_) | refine r_call (k3) (fun _ _ => ?_) | refine l_call (m1) (fun _ _ => ?_) | refine l_call0 (m1) (fun _ _ => ?_) | refine r_call (m1) (fun _ _ => ?_) | refine l_call (known27_ok) (fun _ _ => ?_) | refine l_call0 (known27_ok) (fun _ _ => ?_) | refine r_call (known27_ok) (fun _ _ => ?_) | refine r_cutS 300 ?_ | rw [ht0] | refine r_up ?_ | (refine l_split (fun hc => ?_) (fun hc => ?_) <;> (try simp at hc) <;> (try omega)) | (refine r_split (fun hc => ?_) (fun hc => ?_) <;> (try simp at hc) <;> (try omega)) | refine k_draw 1 [Pt _ (.cells _ 58 _)] [(0, 0), (2, 0), (7, 0), (8, 0), (9, 0), (10, 0), (11, 0), (1, 3), (3, 3), (4, 0), (5, 0), (6, 0), (12, 0), (13, 4), (14, 0)] [] ?_ | (refine k_cond (fun hc => ?_) (fun hc => ?_) <;> (try simp at hc) <;> (try omega)))
      all_goals refine k_ret () ?_ trivial
      all_goals simp [RetV, resV]
    | some z =>
      simp only [hd, Option.getD_some, Option.isSome_some, if_true] at m1
      have hi := idec_inv hd
      have m2 := check27_ok z
      rw [hi.1] at m2
      have m3 := value27_ok z hi.1
      rw [idec_canon hd] at m3
      refine ⟨enters_of Tryz.func6 (by kernel_rfl) rfl, spec_of (vs := [_, _]) Tryz.func6 rfl Tryz.ntmps6 rfl fun G w hp => ?_⟩
      repeat' (first | refine l_seq (b := true) ?_ (he := (eqIno Ino.z Ino.z).trans (by simp)) | refine l_sneq (b := true) ?_ (he := (eqIno (Ino.mk x1 x2 x3 x4 x5 x6 t) (Ino.mk x1 x2 x3 x4 x5 x6 t)).trans (by simp)) | refine l_run ?_ | refine l_nil ?_ | refine l_one ?_ | refine k_reg ?_ | refine l_ld ?_ | refine l_ldF ?_ | refine l_st ?_ | refine l_al (fun b => ?_) | refine l_bs (fun b => ?_) | refine k_condT ?_ | refine k_condF ?_ | refine k_brk ?_ | refine r_run ?_ | refine r_one ?_ | refine r_ld ?_ | refine r_ldF ?_ | refine r_ldN ?_ | refine r_al (fun b => ?_) | refine r_bs (fun b => ?_) | refine r_st ?_ | refine r_end ?_ | refine l_call (k1) (fun _ _ => ?_) | refine l_call0 (k1) (fun _ _ => ?_) | refine r_call (k1) (fun _ _ => ?_) | refine l_call (k2) (fun _ _ => ?_) | refine l_call0 (k2) (fun _ _ => ?_) | refine r_call (k2) (fun _ _ => ?_) | refine l_call (k3) (fun _ _ => ?_) | refine l_call0 (k3) (fun _ _ => ?_) | refine r_call (k3) (fun _ _ => ?_) | refine l_call (m1) (fun _ _ => ?_) | refine l_call0 (m1) (fun _ _ => ?_) | refine r_call (m1) (fun _ _ => ?_) | refine l_call (known27_ok) (fun _ _ => ?_) | refine l_call0 (known27_ok) (fun _ _ => ?_) | refine r_call (known27_ok) (fun _ _ => ?_) | refine l_call (m2) (fun _ _ => ?_) | refine l_call0 (m2) (fun _ _ => ?_) | refine r_call (m2) (fun _ _ => ?_) | refine l_call (m3) (fun _ _ => ?_) | refine l_call0 (m3) (fun _ _ => ?_) | refine r_call (m3) (fun _ _ => ?_) | refine r_cutS 300 ?_ | rw [ht0] | refine r_up ?_ | (refine l_split (fun hc => ?_) (fun hc => ?_) <;> (try simp at hc) <;> (try omega)) | (refine r_split (fun hc => ?_) (fun hc => ?_) <;> (try simp at hc) <;> (try omega)) | refine k_draw 1 [Pt _ (.cells _ 58 _)] [(0, 0), (2, 0), (7, 0), (8, 0), (9, 0), (10, 0), (11, 0), (1, 3), (3, 3), (4, 0), (5, 0), (6, 0), (12, 0), (13, 4), (14, 0)] [] ?_ | (refine k_cond (fun hc => ?_) (fun hc => ?_) <;> (try simp at hc) <;> (try omega)))
      all_goals refine k_ret () ?_ trivial
      all_goals simp [RetV, resV]
end Go.Proofs.YtijaglinajfplaaGreatDoor
