/-
  The contract of object.Name.Check.
  Conditions: those that the theorem states.
-/
import Derived.Test.YtijaglinajfplaaGreatDoorObj
set_option maxRecDepth 10000
set_option maxHeartbeats 4000000
namespace Go.Proofs.YtijaglinajfplaaGreatDoor
open Go.RowKit

theorem klt {a : Nm} (hk : 1 ≤ a.kind ∧ a.kind ≤ 20) : a.kind.toNat < usages.length := by show a.kind.toNat < 21; omega

theorem chk_TFFF (a : Nm) (ha : a.owner.size ≤ 1099511627776) (ht : a.text.size ≤ 1099511627776) (hk : 1 ≤ a.kind ∧ a.kind ≤ 20) (uw : ByteArray) (um : Int) (hu : usages[a.kind.toNat]'(klt hk) = ⟨uw, true, false, false, false, um⟩) :
    Enters 130 ∧ Spec Tryz.prog 130 #[a.v] [Usg] [] (RetV (.int .i64 (uchk ⟨uw, true, false, false, false, um⟩ a))) := by
  have v1 := valid_ok a.owner ha
  have v2 := word_ok a.text ht
  have v3 := isKind_ok a.kind
  have e3 : (decide (1 ≤ a.kind) && decide (a.kind ≤ 20)) = true := by simp [hk]
  rw [e3] at v3
  generalize hr : uchk ⟨uw, true, false, false, false, um⟩ a = r
  unfold uchk at hr
  simp only [Bool.not_false, Bool.not_true, Bool.true_and, Bool.false_and, Bool.or_false, Bool.false_or] at hr
  refine ⟨enters_of Tryz.func130 (by kernel_rfl) rfl, spec_of (vs := [_]) Tryz.func130 rfl Tryz.ntmps130 rfl fun G w hp => ?_⟩
  repeat' (first | refine l_run ?_ | refine l_nil ?_ | refine l_one ?_ | refine k_reg ?_ | refine l_ld ?_ | refine l_ldF ?_ | refine l_st ?_ | refine l_al (fun b => ?_) | refine l_bs (fun b => ?_) | refine k_condT ?_ | refine k_condF ?_ | refine k_brk ?_ | refine l_call (v3) (fun _ _ => ?_) | refine l_call0 (v3) (fun _ _ => ?_) | refine l_split (fun hc => ?_) (fun hc => ?_))
  refine l_usg a.kind.toNat (klt hk) (fun T' o ho => ?_)
  rw [hu]
  repeat' (first | refine l_run ?_ | refine l_nil ?_ | refine l_one ?_ | refine k_reg ?_ | refine l_ld ?_ | refine l_ldF ?_ | refine l_st ?_ | refine l_al (fun b => ?_) | refine l_bs (fun b => ?_) | refine k_condT ?_ | refine k_condF ?_ | refine k_brk ?_ | refine l_call (v1) (fun _ _ => ?_) | refine l_call0 (v1) (fun _ _ => ?_) | refine l_call (v2) (fun _ _ => ?_) | refine l_call0 (v2) (fun _ _ => ?_) | refine l_call (within_ok _ _) (fun _ _ => ?_) | refine l_call0 (within_ok _ _) (fun _ _ => ?_) | refine l_ldC ?_ | refine l_split (fun hc => ?_) (fun hc => ?_) | refine k_cond (fun hc => ?_) (fun hc => ?_))
  all_goals (refine k_ret () ?_ trivial; rw [← hr]; clear hr v1 v2 v3 hu hk e3; simp only [cond_true, cond_false, Bool.not_true, Bool.not_false] at *; simp_all [isE, within, resV, RetV])

theorem chk_TFTF (a : Nm) (ha : a.owner.size ≤ 1099511627776) (ht : a.text.size ≤ 1099511627776) (hk : 1 ≤ a.kind ∧ a.kind ≤ 20) (uw : ByteArray) (um : Int) (hu : usages[a.kind.toNat]'(klt hk) = ⟨uw, true, false, true, false, um⟩) :
    Enters 130 ∧ Spec Tryz.prog 130 #[a.v] [Usg] [] (RetV (.int .i64 (uchk ⟨uw, true, false, true, false, um⟩ a))) := by
  have v1 := valid_ok a.owner ha
  have v2 := word_ok a.text ht
  have v3 := isKind_ok a.kind
  have e3 : (decide (1 ≤ a.kind) && decide (a.kind ≤ 20)) = true := by simp [hk]
  rw [e3] at v3
  generalize hr : uchk ⟨uw, true, false, true, false, um⟩ a = r
  unfold uchk at hr
  simp only [Bool.not_false, Bool.not_true, Bool.true_and, Bool.false_and, Bool.or_false, Bool.false_or] at hr
  refine ⟨enters_of Tryz.func130 (by kernel_rfl) rfl, spec_of (vs := [_]) Tryz.func130 rfl Tryz.ntmps130 rfl fun G w hp => ?_⟩
  repeat' (first | refine l_run ?_ | refine l_nil ?_ | refine l_one ?_ | refine k_reg ?_ | refine l_ld ?_ | refine l_ldF ?_ | refine l_st ?_ | refine l_al (fun b => ?_) | refine l_bs (fun b => ?_) | refine k_condT ?_ | refine k_condF ?_ | refine k_brk ?_ | refine l_call (v3) (fun _ _ => ?_) | refine l_call0 (v3) (fun _ _ => ?_) | refine l_split (fun hc => ?_) (fun hc => ?_))
  refine l_usg a.kind.toNat (klt hk) (fun T' o ho => ?_)
  rw [hu]
  repeat' (first | refine l_run ?_ | refine l_nil ?_ | refine l_one ?_ | refine k_reg ?_ | refine l_ld ?_ | refine l_ldF ?_ | refine l_st ?_ | refine l_al (fun b => ?_) | refine l_bs (fun b => ?_) | refine k_condT ?_ | refine k_condF ?_ | refine k_brk ?_ | refine l_call (v1) (fun _ _ => ?_) | refine l_call0 (v1) (fun _ _ => ?_) | refine l_call (v2) (fun _ _ => ?_) | refine l_call0 (v2) (fun _ _ => ?_) | refine l_call (within_ok _ _) (fun _ _ => ?_) | refine l_call0 (within_ok _ _) (fun _ _ => ?_) | refine l_ldC ?_ | refine l_split (fun hc => ?_) (fun hc => ?_) | refine k_cond (fun hc => ?_) (fun hc => ?_))
  all_goals (refine k_ret () ?_ trivial; rw [← hr]; clear hr v1 v2 v3 hu hk e3; simp only [cond_true, cond_false, Bool.not_true, Bool.not_false] at *; simp_all [isE, within, resV, RetV])

theorem chk_TTFF (a : Nm) (ha : a.owner.size ≤ 1099511627776) (ht : a.text.size ≤ 1099511627776) (hk : 1 ≤ a.kind ∧ a.kind ≤ 20) (uw : ByteArray) (um : Int) (hu : usages[a.kind.toNat]'(klt hk) = ⟨uw, true, true, false, false, um⟩) :
    Enters 130 ∧ Spec Tryz.prog 130 #[a.v] [Usg] [] (RetV (.int .i64 (uchk ⟨uw, true, true, false, false, um⟩ a))) := by
  have v1 := valid_ok a.owner ha
  have v2 := word_ok a.text ht
  have v3 := isKind_ok a.kind
  have e3 : (decide (1 ≤ a.kind) && decide (a.kind ≤ 20)) = true := by simp [hk]
  rw [e3] at v3
  generalize hr : uchk ⟨uw, true, true, false, false, um⟩ a = r
  unfold uchk at hr
  simp only [Bool.not_false, Bool.not_true, Bool.true_and, Bool.false_and, Bool.or_false, Bool.false_or] at hr
  refine ⟨enters_of Tryz.func130 (by kernel_rfl) rfl, spec_of (vs := [_]) Tryz.func130 rfl Tryz.ntmps130 rfl fun G w hp => ?_⟩
  repeat' (first | refine l_run ?_ | refine l_nil ?_ | refine l_one ?_ | refine k_reg ?_ | refine l_ld ?_ | refine l_ldF ?_ | refine l_st ?_ | refine l_al (fun b => ?_) | refine l_bs (fun b => ?_) | refine k_condT ?_ | refine k_condF ?_ | refine k_brk ?_ | refine l_call (v3) (fun _ _ => ?_) | refine l_call0 (v3) (fun _ _ => ?_) | refine l_split (fun hc => ?_) (fun hc => ?_))
  refine l_usg a.kind.toNat (klt hk) (fun T' o ho => ?_)
  rw [hu]
  repeat' (first | refine l_run ?_ | refine l_nil ?_ | refine l_one ?_ | refine k_reg ?_ | refine l_ld ?_ | refine l_ldF ?_ | refine l_st ?_ | refine l_al (fun b => ?_) | refine l_bs (fun b => ?_) | refine k_condT ?_ | refine k_condF ?_ | refine k_brk ?_ | refine l_call (v1) (fun _ _ => ?_) | refine l_call0 (v1) (fun _ _ => ?_) | refine l_call (v2) (fun _ _ => ?_) | refine l_call0 (v2) (fun _ _ => ?_) | refine l_call (within_ok _ _) (fun _ _ => ?_) | refine l_call0 (within_ok _ _) (fun _ _ => ?_) | refine l_ldC ?_ | refine l_split (fun hc => ?_) (fun hc => ?_) | refine k_cond (fun hc => ?_) (fun hc => ?_))
  all_goals (refine k_ret () ?_ trivial; rw [← hr]; clear hr v1 v2 v3 hu hk e3; simp only [cond_true, cond_false, Bool.not_true, Bool.not_false] at *; simp_all [isE, within, resV, RetV])

theorem chk_TTTF (a : Nm) (ha : a.owner.size ≤ 1099511627776) (ht : a.text.size ≤ 1099511627776) (hk : 1 ≤ a.kind ∧ a.kind ≤ 20) (uw : ByteArray) (um : Int) (hu : usages[a.kind.toNat]'(klt hk) = ⟨uw, true, true, true, false, um⟩) :
    Enters 130 ∧ Spec Tryz.prog 130 #[a.v] [Usg] [] (RetV (.int .i64 (uchk ⟨uw, true, true, true, false, um⟩ a))) := by
  have v1 := valid_ok a.owner ha
  have v2 := word_ok a.text ht
  have v3 := isKind_ok a.kind
  have e3 : (decide (1 ≤ a.kind) && decide (a.kind ≤ 20)) = true := by simp [hk]
  rw [e3] at v3
  generalize hr : uchk ⟨uw, true, true, true, false, um⟩ a = r
  unfold uchk at hr
  simp only [Bool.not_false, Bool.not_true, Bool.true_and, Bool.false_and, Bool.or_false, Bool.false_or] at hr
  refine ⟨enters_of Tryz.func130 (by kernel_rfl) rfl, spec_of (vs := [_]) Tryz.func130 rfl Tryz.ntmps130 rfl fun G w hp => ?_⟩
  repeat' (first | refine l_run ?_ | refine l_nil ?_ | refine l_one ?_ | refine k_reg ?_ | refine l_ld ?_ | refine l_ldF ?_ | refine l_st ?_ | refine l_al (fun b => ?_) | refine l_bs (fun b => ?_) | refine k_condT ?_ | refine k_condF ?_ | refine k_brk ?_ | refine l_call (v3) (fun _ _ => ?_) | refine l_call0 (v3) (fun _ _ => ?_) | refine l_split (fun hc => ?_) (fun hc => ?_))
  refine l_usg a.kind.toNat (klt hk) (fun T' o ho => ?_)
  rw [hu]
  repeat' (first | refine l_run ?_ | refine l_nil ?_ | refine l_one ?_ | refine k_reg ?_ | refine l_ld ?_ | refine l_ldF ?_ | refine l_st ?_ | refine l_al (fun b => ?_) | refine l_bs (fun b => ?_) | refine k_condT ?_ | refine k_condF ?_ | refine k_brk ?_ | refine l_call (v1) (fun _ _ => ?_) | refine l_call0 (v1) (fun _ _ => ?_) | refine l_call (v2) (fun _ _ => ?_) | refine l_call0 (v2) (fun _ _ => ?_) | refine l_call (within_ok _ _) (fun _ _ => ?_) | refine l_call0 (within_ok _ _) (fun _ _ => ?_) | refine l_ldC ?_ | refine l_split (fun hc => ?_) (fun hc => ?_) | refine k_cond (fun hc => ?_) (fun hc => ?_))
  all_goals (refine k_ret () ?_ trivial; rw [← hr]; clear hr v1 v2 v3 hu hk e3; simp only [cond_true, cond_false, Bool.not_true, Bool.not_false] at *; simp_all [isE, within, resV, RetV])

theorem chk_TTFT (a : Nm) (ha : a.owner.size ≤ 1099511627776) (ht : a.text.size ≤ 1099511627776) (hk : 1 ≤ a.kind ∧ a.kind ≤ 20) (uw : ByteArray) (um : Int) (hu : usages[a.kind.toNat]'(klt hk) = ⟨uw, true, true, false, true, um⟩) :
    Enters 130 ∧ Spec Tryz.prog 130 #[a.v] [Usg] [] (RetV (.int .i64 (uchk ⟨uw, true, true, false, true, um⟩ a))) := by
  have v1 := valid_ok a.owner ha
  have v2 := word_ok a.text ht
  have v3 := isKind_ok a.kind
  have e3 : (decide (1 ≤ a.kind) && decide (a.kind ≤ 20)) = true := by simp [hk]
  rw [e3] at v3
  generalize hr : uchk ⟨uw, true, true, false, true, um⟩ a = r
  unfold uchk at hr
  simp only [Bool.not_false, Bool.not_true, Bool.true_and, Bool.false_and, Bool.or_false, Bool.false_or] at hr
  refine ⟨enters_of Tryz.func130 (by kernel_rfl) rfl, spec_of (vs := [_]) Tryz.func130 rfl Tryz.ntmps130 rfl fun G w hp => ?_⟩
  repeat' (first | refine l_run ?_ | refine l_nil ?_ | refine l_one ?_ | refine k_reg ?_ | refine l_ld ?_ | refine l_ldF ?_ | refine l_st ?_ | refine l_al (fun b => ?_) | refine l_bs (fun b => ?_) | refine k_condT ?_ | refine k_condF ?_ | refine k_brk ?_ | refine l_call (v3) (fun _ _ => ?_) | refine l_call0 (v3) (fun _ _ => ?_) | refine l_split (fun hc => ?_) (fun hc => ?_))
  refine l_usg a.kind.toNat (klt hk) (fun T' o ho => ?_)
  rw [hu]
  repeat' (first | refine l_run ?_ | refine l_nil ?_ | refine l_one ?_ | refine k_reg ?_ | refine l_ld ?_ | refine l_ldF ?_ | refine l_st ?_ | refine l_al (fun b => ?_) | refine l_bs (fun b => ?_) | refine k_condT ?_ | refine k_condF ?_ | refine k_brk ?_ | refine l_call (v1) (fun _ _ => ?_) | refine l_call0 (v1) (fun _ _ => ?_) | refine l_call (v2) (fun _ _ => ?_) | refine l_call0 (v2) (fun _ _ => ?_) | refine l_call (within_ok _ _) (fun _ _ => ?_) | refine l_call0 (within_ok _ _) (fun _ _ => ?_) | refine l_ldC ?_ | refine l_split (fun hc => ?_) (fun hc => ?_) | refine k_cond (fun hc => ?_) (fun hc => ?_))
  all_goals (refine k_ret () ?_ trivial; rw [← hr]; clear hr v1 v2 v3 hu hk e3; simp only [cond_true, cond_false, Bool.not_true, Bool.not_false] at *; simp_all [isE, within, resV, RetV])

theorem chk_FTFF (a : Nm) (ha : a.owner.size ≤ 1099511627776) (ht : a.text.size ≤ 1099511627776) (hk : 1 ≤ a.kind ∧ a.kind ≤ 20) (uw : ByteArray) (um : Int) (hu : usages[a.kind.toNat]'(klt hk) = ⟨uw, false, true, false, false, um⟩) :
    Enters 130 ∧ Spec Tryz.prog 130 #[a.v] [Usg] [] (RetV (.int .i64 (uchk ⟨uw, false, true, false, false, um⟩ a))) := by
  have v1 := valid_ok a.owner ha
  have v2 := word_ok a.text ht
  have v3 := isKind_ok a.kind
  have e3 : (decide (1 ≤ a.kind) && decide (a.kind ≤ 20)) = true := by simp [hk]
  rw [e3] at v3
  generalize hr : uchk ⟨uw, false, true, false, false, um⟩ a = r
  unfold uchk at hr
  simp only [Bool.not_false, Bool.not_true, Bool.true_and, Bool.false_and, Bool.or_false, Bool.false_or] at hr
  refine ⟨enters_of Tryz.func130 (by kernel_rfl) rfl, spec_of (vs := [_]) Tryz.func130 rfl Tryz.ntmps130 rfl fun G w hp => ?_⟩
  repeat' (first | refine l_run ?_ | refine l_nil ?_ | refine l_one ?_ | refine k_reg ?_ | refine l_ld ?_ | refine l_ldF ?_ | refine l_st ?_ | refine l_al (fun b => ?_) | refine l_bs (fun b => ?_) | refine k_condT ?_ | refine k_condF ?_ | refine k_brk ?_ | refine l_call (v3) (fun _ _ => ?_) | refine l_call0 (v3) (fun _ _ => ?_) | refine l_split (fun hc => ?_) (fun hc => ?_))
  refine l_usg a.kind.toNat (klt hk) (fun T' o ho => ?_)
  rw [hu]
  repeat' (first | refine l_run ?_ | refine l_nil ?_ | refine l_one ?_ | refine k_reg ?_ | refine l_ld ?_ | refine l_ldF ?_ | refine l_st ?_ | refine l_al (fun b => ?_) | refine l_bs (fun b => ?_) | refine k_condT ?_ | refine k_condF ?_ | refine k_brk ?_ | refine l_call (v1) (fun _ _ => ?_) | refine l_call0 (v1) (fun _ _ => ?_) | refine l_call (v2) (fun _ _ => ?_) | refine l_call0 (v2) (fun _ _ => ?_) | refine l_call (within_ok _ _) (fun _ _ => ?_) | refine l_call0 (within_ok _ _) (fun _ _ => ?_) | refine l_ldC ?_ | refine l_split (fun hc => ?_) (fun hc => ?_) | refine k_cond (fun hc => ?_) (fun hc => ?_))
  all_goals (refine k_ret () ?_ trivial; rw [← hr]; clear hr v1 v2 v3 hu hk e3; simp only [cond_true, cond_false, Bool.not_true, Bool.not_false] at *; simp_all [isE, within, resV, RetV])

theorem chk_FFFT (a : Nm) (ha : a.owner.size ≤ 1099511627776) (ht : a.text.size ≤ 1099511627776) (hk : 1 ≤ a.kind ∧ a.kind ≤ 20) (uw : ByteArray) (um : Int) (hu : usages[a.kind.toNat]'(klt hk) = ⟨uw, false, false, false, true, um⟩) :
    Enters 130 ∧ Spec Tryz.prog 130 #[a.v] [Usg] [] (RetV (.int .i64 (uchk ⟨uw, false, false, false, true, um⟩ a))) := by
  have v1 := valid_ok a.owner ha
  have v2 := word_ok a.text ht
  have v3 := isKind_ok a.kind
  have e3 : (decide (1 ≤ a.kind) && decide (a.kind ≤ 20)) = true := by simp [hk]
  rw [e3] at v3
  generalize hr : uchk ⟨uw, false, false, false, true, um⟩ a = r
  unfold uchk at hr
  simp only [Bool.not_false, Bool.not_true, Bool.true_and, Bool.false_and, Bool.or_false, Bool.false_or] at hr
  refine ⟨enters_of Tryz.func130 (by kernel_rfl) rfl, spec_of (vs := [_]) Tryz.func130 rfl Tryz.ntmps130 rfl fun G w hp => ?_⟩
  repeat' (first | refine l_run ?_ | refine l_nil ?_ | refine l_one ?_ | refine k_reg ?_ | refine l_ld ?_ | refine l_ldF ?_ | refine l_st ?_ | refine l_al (fun b => ?_) | refine l_bs (fun b => ?_) | refine k_condT ?_ | refine k_condF ?_ | refine k_brk ?_ | refine l_call (v3) (fun _ _ => ?_) | refine l_call0 (v3) (fun _ _ => ?_) | refine l_split (fun hc => ?_) (fun hc => ?_))
  refine l_usg a.kind.toNat (klt hk) (fun T' o ho => ?_)
  rw [hu]
  repeat' (first | refine l_run ?_ | refine l_nil ?_ | refine l_one ?_ | refine k_reg ?_ | refine l_ld ?_ | refine l_ldF ?_ | refine l_st ?_ | refine l_al (fun b => ?_) | refine l_bs (fun b => ?_) | refine k_condT ?_ | refine k_condF ?_ | refine k_brk ?_ | refine l_call (v1) (fun _ _ => ?_) | refine l_call0 (v1) (fun _ _ => ?_) | refine l_call (v2) (fun _ _ => ?_) | refine l_call0 (v2) (fun _ _ => ?_) | refine l_call (within_ok _ _) (fun _ _ => ?_) | refine l_call0 (within_ok _ _) (fun _ _ => ?_) | refine l_ldC ?_ | refine l_split (fun hc => ?_) (fun hc => ?_) | refine k_cond (fun hc => ?_) (fun hc => ?_))
  all_goals (refine k_ret () ?_ trivial; rw [← hr]; clear hr v1 v2 v3 hu hk e3; simp only [cond_true, cond_false, Bool.not_true, Bool.not_false] at *; simp_all [isE, within, resV, RetV])

theorem chk_FFFF (a : Nm) (ha : a.owner.size ≤ 1099511627776) (ht : a.text.size ≤ 1099511627776) (hk : 1 ≤ a.kind ∧ a.kind ≤ 20) (uw : ByteArray) (um : Int) (hu : usages[a.kind.toNat]'(klt hk) = ⟨uw, false, false, false, false, um⟩) :
    Enters 130 ∧ Spec Tryz.prog 130 #[a.v] [Usg] [] (RetV (.int .i64 (uchk ⟨uw, false, false, false, false, um⟩ a))) := by
  have v1 := valid_ok a.owner ha
  have v2 := word_ok a.text ht
  have v3 := isKind_ok a.kind
  have e3 : (decide (1 ≤ a.kind) && decide (a.kind ≤ 20)) = true := by simp [hk]
  rw [e3] at v3
  generalize hr : uchk ⟨uw, false, false, false, false, um⟩ a = r
  unfold uchk at hr
  simp only [Bool.not_false, Bool.not_true, Bool.true_and, Bool.false_and, Bool.or_false, Bool.false_or] at hr
  refine ⟨enters_of Tryz.func130 (by kernel_rfl) rfl, spec_of (vs := [_]) Tryz.func130 rfl Tryz.ntmps130 rfl fun G w hp => ?_⟩
  repeat' (first | refine l_run ?_ | refine l_nil ?_ | refine l_one ?_ | refine k_reg ?_ | refine l_ld ?_ | refine l_ldF ?_ | refine l_st ?_ | refine l_al (fun b => ?_) | refine l_bs (fun b => ?_) | refine k_condT ?_ | refine k_condF ?_ | refine k_brk ?_ | refine l_call (v3) (fun _ _ => ?_) | refine l_call0 (v3) (fun _ _ => ?_) | refine l_split (fun hc => ?_) (fun hc => ?_))
  refine l_usg a.kind.toNat (klt hk) (fun T' o ho => ?_)
  rw [hu]
  repeat' (first | refine l_run ?_ | refine l_nil ?_ | refine l_one ?_ | refine k_reg ?_ | refine l_ld ?_ | refine l_ldF ?_ | refine l_st ?_ | refine l_al (fun b => ?_) | refine l_bs (fun b => ?_) | refine k_condT ?_ | refine k_condF ?_ | refine k_brk ?_ | refine l_call (v1) (fun _ _ => ?_) | refine l_call0 (v1) (fun _ _ => ?_) | refine l_call (v2) (fun _ _ => ?_) | refine l_call0 (v2) (fun _ _ => ?_) | refine l_call (within_ok _ _) (fun _ _ => ?_) | refine l_call0 (within_ok _ _) (fun _ _ => ?_) | refine l_ldC ?_ | refine l_split (fun hc => ?_) (fun hc => ?_) | refine k_cond (fun hc => ?_) (fun hc => ?_))
  all_goals (refine k_ret () ?_ trivial; rw [← hr]; clear hr v1 v2 v3 hu hk e3; simp only [cond_true, cond_false, Bool.not_true, Bool.not_false] at *; simp_all [isE, within, resV, RetV])

def okf (u : Usage) : Bool := (u.owner || !u.index) && (u.owner || !(u.number && u.text)) && !(u.index && u.text) && (!(u.owner && u.text) || u.number)
theorem okf_all : usages.all okf = true := by decide

theorem nameCheck_ok (a : Nm) (ha : a.owner.size ≤ 1099511627776) (ht : a.text.size ≤ 1099511627776) : Enters 130 ∧ Spec Tryz.prog 130 #[a.v] [Usg] [] (RetV (.int .i64 (nchk a))) := by
  by_cases hk : 1 ≤ a.kind ∧ a.kind ≤ 20
  · have hn : nchk a = uchk (usages[a.kind.toNat]'(klt hk)) a := by
      rw [nchk, if_pos hk, List.getD_eq_getElem?_getD, List.getElem?_eq_getElem (klt hk), Option.getD_some]
    rw [hn]
    have hu : okf (usages[a.kind.toNat]'(klt hk)) = true := List.all_eq_true.1 okf_all _ (List.getElem_mem (klt hk))
    generalize hus : usages[a.kind.toNat]'(klt hk) = u at *
    obtain ⟨uw, uo, un, ui, ut, um⟩ := u
    cases uo <;> cases un <;> cases ui <;> cases ut
    all_goals first
      | (simp [okf] at hu; done)
      | exact chk_TFFF a ha ht hk _ _ hus
      | exact chk_TFTF a ha ht hk _ _ hus
      | exact chk_TTFF a ha ht hk _ _ hus
      | exact chk_TTTF a ha ht hk _ _ hus
      | exact chk_TTFT a ha ht hk _ _ hus
      | exact chk_FTFF a ha ht hk _ _ hus
      | exact chk_FFFT a ha ht hk _ _ hus
      | exact chk_FFFF a ha ht hk _ _ hus
  · have hn : nchk a = 11 := by rw [nchk, if_neg hk]
    rw [hn]
    have v3 := isKind_ok a.kind
    have e3 : (decide (1 ≤ a.kind) && decide (a.kind ≤ 20)) = false := by simp; omega
    rw [e3] at v3
    refine ⟨enters_of Tryz.func130 (by kernel_rfl) rfl, spec_of (vs := [_]) Tryz.func130 rfl Tryz.ntmps130 rfl fun G w hp => ?_⟩
    repeat' (first | refine l_run ?_ | refine l_nil ?_ | refine l_one ?_ | refine k_reg ?_ | refine l_ld ?_ | refine l_ldF ?_ | refine l_st ?_ | refine l_al (fun b => ?_) | refine l_bs (fun b => ?_) | refine k_condT ?_ | refine k_condF ?_ | refine k_brk ?_ | refine l_call (v3) (fun _ _ => ?_) | refine l_call0 (v3) (fun _ _ => ?_) | refine l_split (fun hc => ?_) (fun hc => ?_) | refine k_cond (fun hc => ?_) (fun hc => ?_))
    exact k_ret () rfl trivial
end Go.Proofs.YtijaglinajfplaaGreatDoor
