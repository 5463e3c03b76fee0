/-
  The law ProcessChecks, walked.
  Conditions: those that each theorem states.
-/
import Derived.Test.YtaijnpkdlopomaaGreatDoorPro3
import Derived.Test.YtaijnpkdlopomaaGreatDoorPro4
import Derived.Test.YtaijnpkdlopomaaGreatDoorPro6
import Derived.Test.YtaijnpkdlopomaaGreatDoorKn35
set_option maxRecDepth 10000
namespace Go.Proofs.YtaijnpkdlopomaaGreatDoor
open Go.RowKit

theorem penc_big {p : Pr} {s : ByteArray} (h : s.data.toList = penc p) : p.sp.size ≤ s.size ∧ p.dr.mkr.size ≤ s.size := by
  have hs : s.data.toList.length = s.size := by simp
  have s1 : p.sp.data.toList.length = p.sp.size := by simp
  have s2 : p.dr.mkr.data.toList.length = p.dr.mkr.size := by simp
  rw [h] at hs
  simp only [penc, List.length_append] at hs
  omega

section
variable (p q : Pr) (o1 o2 : Option Addr) (c1 c2 : Nat) (raw r : ByteArray)
set_option maxHeartbeats 8000000 in
/-- A process that fits. -/
theorem lpcFit (hl1 : p.gs.length ≤ 1099511627776) (hl2 : q.gs.length ≤ 1099511627776) (hr : r.size ≤ 300) (ht : cutS raw 300 = r) (h : pchk (shP p) = 0) :
    Enters 3 ∧ Spec Tryz.prog 3 #[p.v o1 c1, q.v o2 c2, .string raw] [Sl 3 zf o1 c1 p.gs, Sl 3 zf o2 c2 q.gs, Usg, P10] [] (RetV (.bool true)) := by
  have k1 := short35_ok p o1 c1 hl1
  have k2 := short35_ok q o2 c2 hl2
  have z1 : (shP p).sp.size ≤ 80 := cutS_size _ _
  have z2 : (shP p).dr.mkr.size ≤ 80 := cutS_size _ _
  have z3 : (shP p).gs.length ≤ 20 := by simp [shP]; omega
  have z4 : (shP q).gs.length ≤ 20 := by simp [shP]; omega
  generalize shP p = P at *
  generalize shP q = Q at *
  have m1 := fun o c => check35_ok P o c (by omega) (by omega) (by omega)
  have m2 := fun o c => proEncode_ok P o c h (by omega) (by omega)
  have m3 := fun o c => proCheck_ok P o c (by omega) (by omega) (by omega)
  have m4 := fun o c o' c' => proEqual_ok P Q o o' c c' (by omega) (by omega)
  have m5 := fun o c o' c' => equal35_ok P Q o o' c c' (by omega) (by omega)
  have m6 := fun o c o' c' => proEqual_ok P P o o' c c' (by omega) (by omega)
  have m7 := fun o c => value35_ok P o c h (by omega) (by omega)
  have hps := psz P h (by omega) (by omega)
  have m8 := proDecode_ok (pencS P) (by omega)
  rw [pdec_enc h (by omega) (by omega)] at m8
  simp only [Option.getD_some, Option.isSome_some, if_true] at m8
  have m9 := fun o c o' c' => equal35_ok P P o o' c c' (by omega) (by omega)
  have m10 := proDecode_ok r (by omega)
  rw [h] at m1 m3
  have e1 : decide (P = P) = true := by simp
  rw [e1] at m6 m9
  generalize decide (P = Q) = B at *
  generalize pencS P = S at *
  clear h z1 z2 z3 z4 hps e1
  cases hd : pdec r with
  | none =>
    simp only [hd, Option.getD_none, Option.isSome_none, Bool.false_eq_true, if_false] at m10
    have n1 := fun o c => equal35_ok Pr.z Pr.z o none c 0 (by decide) (by decide)
    rw [show decide (Pr.z = Pr.z) = true by simp] at n1
    obtain ⟨x1, x2, x3, x4, x5, xs, x7, x8, ⟨x9, x10⟩, x11⟩ := P
    obtain ⟨y1, y2, y3, y4, y5, ys, y7, y8, ⟨y9, y10⟩, y11⟩ := Q
    simp only [Pr.v] at k1 k2 m1 m2 m3 m4 m5 m6 m7 m8 m9
    refine ⟨enters_of Tryz.func3 (by kernel_rfl) rfl, spec_of (vs := [_, _, _]) Tryz.func3 rfl Tryz.ntmps3 rfl fun G w hp => ?_⟩
    refine k_add (sl_nil 3 zf) ?_
    repeat' (first | refine l_run ?_ | refine l_nil ?_ | refine l_one ?_ | refine k_reg ?_ | refine l_ld ?_ | refine l_ldF ?_ | refine l_st ?_ | refine l_al (fun b => ?_) | refine l_bs (fun b => ?_) | refine k_condT ?_ | refine k_condF ?_ | refine k_brk ?_ | refine r_run ?_ | refine r_one ?_ | refine r_ld ?_ | refine r_ldF ?_ | refine r_ldN ?_ | refine r_al (fun b => ?_) | refine r_bs (fun b => ?_) | refine r_st ?_ | refine r_end ?_ | refine l_call (k1) (fun _ _ => ?_) | refine l_call0 (k1) (fun _ _ => ?_) | refine r_call (k1) (fun _ _ => ?_) | refine r_callP (k1) (fun _ _ => ?_) | refine l_call (k2) (fun _ _ => ?_) | refine l_call0 (k2) (fun _ _ => ?_) | refine r_call (k2) (fun _ _ => ?_) | refine r_callP (k2) (fun _ _ => ?_) | refine l_call (m1 _ _) (fun _ _ => ?_) | refine l_call0 (m1 _ _) (fun _ _ => ?_) | refine r_call (m1 _ _) (fun _ _ => ?_) | refine r_callP (m1 _ _) (fun _ _ => ?_) | refine l_call (m2 _ _) (fun _ _ => ?_) | refine l_call0 (m2 _ _) (fun _ _ => ?_) | refine r_call (m2 _ _) (fun _ _ => ?_) | refine r_callP (m2 _ _) (fun _ _ => ?_) | refine l_call (known35_ok) (fun _ _ => ?_) | refine l_call0 (known35_ok) (fun _ _ => ?_) | refine r_call (known35_ok) (fun _ _ => ?_) | refine r_callP (known35_ok) (fun _ _ => ?_) | refine l_call (m3 _ _) (fun _ _ => ?_) | refine l_call0 (m3 _ _) (fun _ _ => ?_) | refine r_call (m3 _ _) (fun _ _ => ?_) | refine r_callP (m3 _ _) (fun _ _ => ?_) | refine l_call (m6 _ _ _ _) (fun _ _ => ?_) | refine l_call0 (m6 _ _ _ _) (fun _ _ => ?_) | refine r_call (m6 _ _ _ _) (fun _ _ => ?_) | refine r_callP (m6 _ _ _ _) (fun _ _ => ?_) | refine l_call (m4 _ _ _ _) (fun _ _ => ?_) | refine l_call0 (m4 _ _ _ _) (fun _ _ => ?_) | refine r_call (m4 _ _ _ _) (fun _ _ => ?_) | refine r_callP (m4 _ _ _ _) (fun _ _ => ?_) | refine l_call (m5 _ _ _ _) (fun _ _ => ?_) | refine l_call0 (m5 _ _ _ _) (fun _ _ => ?_) | refine r_call (m5 _ _ _ _) (fun _ _ => ?_) | refine r_callP (m5 _ _ _ _) (fun _ _ => ?_) | refine l_call (m8) (fun _ _ => ?_) | refine l_call0 (m8) (fun _ _ => ?_) | refine r_call (m8) (fun _ _ => ?_) | refine r_callP (m8) (fun _ _ => ?_) | refine l_call (m7 _ _) (fun _ _ => ?_) | refine l_call0 (m7 _ _) (fun _ _ => ?_) | refine r_call (m7 _ _) (fun _ _ => ?_) | refine r_callP (m7 _ _) (fun _ _ => ?_) | refine l_call (m9 _ _ _ _) (fun _ _ => ?_) | refine l_call0 (m9 _ _ _ _) (fun _ _ => ?_) | refine r_call (m9 _ _ _ _) (fun _ _ => ?_) | refine r_callP (m9 _ _ _ _) (fun _ _ => ?_) | refine l_call (m10) (fun _ _ => ?_) | refine l_call0 (m10) (fun _ _ => ?_) | refine r_call (m10) (fun _ _ => ?_) | refine r_callP (m10) (fun _ _ => ?_) | refine l_call (n1 _ _) (fun _ _ => ?_) | refine l_call0 (n1 _ _) (fun _ _ => ?_) | refine r_call (n1 _ _) (fun _ _ => ?_) | refine r_callP (n1 _ _) (fun _ _ => ?_) | refine r_cutS 300 ?_ | rw [ht] | refine r_up ?_ | (refine l_split (fun hc => ?_) (fun hc => ?_) <;> (try simp at hc) <;> (try omega)) | (refine r_split (fun hc => ?_) (fun hc => ?_) <;> (try simp at hc) <;> (try omega)) | refine k_draw 1 [Pt _ (.cells _ 29 _), Pt _ (.cells _ 29 _)] [(4, 0), (5, 0), (6, 0), (7, 0), (8, 0), (0, 3), (2, 3), (1, 5), (3, 5), (9, 4), (10, 4), (11, 0)] [] ?_ | refine k_draw 4 [] [(0, 4), (1, 0), (2, 0), (3, 0), (5, 0), (4, 4), (6, 0), (7, 0), (8, 0), (9, 0), (10, 0), (11, 0), (12, 0), (13, 0), (14, 0), (15, 0), (17, 0), (18, 0), (16, 4), (19, 4), (20, 0), (21, 0), (22, 0), (23, 0), (24, 0), (25, 4), (26, 0), (27, 0)] [] ?_ | (refine k_cond (fun hc => ?_) (fun hc => ?_) <;> (try simp at hc) <;> (try omega)))
    all_goals (refine k_ret () ?_ trivial; simp [RetV, resV])
  | some z =>
    simp only [hd, Option.getD_some, Option.isSome_some, if_true] at m10
    obtain ⟨i1, i2⟩ := pdec_inv hd
    obtain ⟨i3, i4⟩ := penc_big i2
    obtain ⟨q1, q2, q3, q4, q5, q6⟩ := pchk_zero i1
    obtain ⟨q7, q8, q9⟩ := gchk_zero q4
    have n1 := fun o c => check35_ok z o c (by omega) (by omega) (by omega)
    rw [i1] at n1
    have n2 := fun o c => value35_ok z o c i1 (by omega) (by omega)
    rw [pdec_canon hd] at n2
    clear i1 i2 i3 i4 q1 q2 q3 q4 q5 q6 q7 q8 q9 hd
    obtain ⟨x1, x2, x3, x4, x5, xs, x7, x8, ⟨x9, x10⟩, x11⟩ := P
    obtain ⟨y1, y2, y3, y4, y5, ys, y7, y8, ⟨y9, y10⟩, y11⟩ := Q
    obtain ⟨u1, u2, u3, u4, u5, us, u7, u8, ⟨u9, u10⟩, u11⟩ := z
    simp only [Pr.v] at k1 k2 m1 m2 m3 m4 m5 m6 m7 m8 m9 m10 n1 n2
    refine ⟨enters_of Tryz.func3 (by kernel_rfl) rfl, spec_of (vs := [_, _, _]) Tryz.func3 rfl Tryz.ntmps3 rfl fun G w hp => ?_⟩
    repeat' (first | refine l_run ?_ | refine l_nil ?_ | refine l_one ?_ | refine k_reg ?_ | refine l_ld ?_ | refine l_ldF ?_ | refine l_st ?_ | refine l_al (fun b => ?_) | refine l_bs (fun b => ?_) | refine k_condT ?_ | refine k_condF ?_ | refine k_brk ?_ | refine r_run ?_ | refine r_one ?_ | refine r_ld ?_ | refine r_ldF ?_ | refine r_ldN ?_ | refine r_al (fun b => ?_) | refine r_bs (fun b => ?_) | refine r_st ?_ | refine r_end ?_ | refine l_call (k1) (fun _ _ => ?_) | refine l_call0 (k1) (fun _ _ => ?_) | refine r_call (k1) (fun _ _ => ?_) | refine r_callP (k1) (fun _ _ => ?_) | refine l_call (k2) (fun _ _ => ?_) | refine l_call0 (k2) (fun _ _ => ?_) | refine r_call (k2) (fun _ _ => ?_) | refine r_callP (k2) (fun _ _ => ?_) | refine l_call (m1 _ _) (fun _ _ => ?_) | refine l_call0 (m1 _ _) (fun _ _ => ?_) | refine r_call (m1 _ _) (fun _ _ => ?_) | refine r_callP (m1 _ _) (fun _ _ => ?_) | refine l_call (m2 _ _) (fun _ _ => ?_) | refine l_call0 (m2 _ _) (fun _ _ => ?_) | refine r_call (m2 _ _) (fun _ _ => ?_) | refine r_callP (m2 _ _) (fun _ _ => ?_) | refine l_call (known35_ok) (fun _ _ => ?_) | refine l_call0 (known35_ok) (fun _ _ => ?_) | refine r_call (known35_ok) (fun _ _ => ?_) | refine r_callP (known35_ok) (fun _ _ => ?_) | refine l_call (m3 _ _) (fun _ _ => ?_) | refine l_call0 (m3 _ _) (fun _ _ => ?_) | refine r_call (m3 _ _) (fun _ _ => ?_) | refine r_callP (m3 _ _) (fun _ _ => ?_) | refine l_call (m6 _ _ _ _) (fun _ _ => ?_) | refine l_call0 (m6 _ _ _ _) (fun _ _ => ?_) | refine r_call (m6 _ _ _ _) (fun _ _ => ?_) | refine r_callP (m6 _ _ _ _) (fun _ _ => ?_) | refine l_call (m4 _ _ _ _) (fun _ _ => ?_) | refine l_call0 (m4 _ _ _ _) (fun _ _ => ?_) | refine r_call (m4 _ _ _ _) (fun _ _ => ?_) | refine r_callP (m4 _ _ _ _) (fun _ _ => ?_) | refine l_call (m5 _ _ _ _) (fun _ _ => ?_) | refine l_call0 (m5 _ _ _ _) (fun _ _ => ?_) | refine r_call (m5 _ _ _ _) (fun _ _ => ?_) | refine r_callP (m5 _ _ _ _) (fun _ _ => ?_) | refine l_call (m8) (fun _ _ => ?_) | refine l_call0 (m8) (fun _ _ => ?_) | refine r_call (m8) (fun _ _ => ?_) | refine r_callP (m8) (fun _ _ => ?_) | refine l_call (m7 _ _) (fun _ _ => ?_) | refine l_call0 (m7 _ _) (fun _ _ => ?_) | refine r_call (m7 _ _) (fun _ _ => ?_) | refine r_callP (m7 _ _) (fun _ _ => ?_) | refine l_call (m9 _ _ _ _) (fun _ _ => ?_) | refine l_call0 (m9 _ _ _ _) (fun _ _ => ?_) | refine r_call (m9 _ _ _ _) (fun _ _ => ?_) | refine r_callP (m9 _ _ _ _) (fun _ _ => ?_) | refine l_call (m10) (fun _ _ => ?_) | refine l_call0 (m10) (fun _ _ => ?_) | refine r_call (m10) (fun _ _ => ?_) | refine r_callP (m10) (fun _ _ => ?_) | refine l_call (n1 _ _) (fun _ _ => ?_) | refine l_call0 (n1 _ _) (fun _ _ => ?_) | refine r_call (n1 _ _) (fun _ _ => ?_) | refine r_callP (n1 _ _) (fun _ _ => ?_) | refine l_call (n2 _ _) (fun _ _ => ?_) | refine l_call0 (n2 _ _) (fun _ _ => ?_) | refine r_call (n2 _ _) (fun _ _ => ?_) | refine r_callP (n2 _ _) (fun _ _ => ?_) | refine r_cutS 300 ?_ | rw [ht] | refine r_up ?_ | (refine l_split (fun hc => ?_) (fun hc => ?_) <;> (try simp at hc) <;> (try omega)) | (refine r_split (fun hc => ?_) (fun hc => ?_) <;> (try simp at hc) <;> (try omega)) | refine k_draw 1 [Pt _ (.cells _ 29 _), Pt _ (.cells _ 29 _)] [(4, 0), (5, 0), (6, 0), (7, 0), (8, 0), (0, 3), (2, 3), (1, 5), (3, 5), (9, 4), (10, 4), (11, 0)] [] ?_ | refine k_draw 4 [] [(0, 4), (1, 0), (2, 0), (3, 0), (5, 0), (4, 4), (6, 0), (7, 0), (8, 0), (9, 0), (10, 0), (11, 0), (12, 0), (13, 0), (14, 0), (15, 0), (17, 0), (18, 0), (16, 4), (19, 4), (20, 0), (21, 0), (22, 0), (23, 0), (24, 0), (25, 4), (26, 0), (27, 0)] [] ?_ | (refine k_cond (fun hc => ?_) (fun hc => ?_) <;> (try simp at hc) <;> (try omega)))
    all_goals (refine k_ret () ?_ trivial; simp [RetV, resV])
set_option maxHeartbeats 8000000 in
/-- A process that does not fit. -/
theorem lpcBad (hl1 : p.gs.length ≤ 1099511627776) (hl2 : q.gs.length ≤ 1099511627776) (hr : r.size ≤ 300) (ht : cutS raw 300 = r) (h : pchk (shP p) ≠ 0) :
    Enters 3 ∧ Spec Tryz.prog 3 #[p.v o1 c1, q.v o2 c2, .string raw] [Sl 3 zf o1 c1 p.gs, Sl 3 zf o2 c2 q.gs, Usg, P10] [] (RetV (.bool true)) := by
  have k1 := short35_ok p o1 c1 hl1
  have k2 := short35_ok q o2 c2 hl2
  have z1 : (shP p).sp.size ≤ 80 := cutS_size _ _
  have z2 : (shP p).dr.mkr.size ≤ 80 := cutS_size _ _
  have z3 : (shP p).gs.length ≤ 20 := by simp [shP]; omega
  have z4 : (shP q).gs.length ≤ 20 := by simp [shP]; omega
  generalize shP p = P at *
  generalize shP q = Q at *
  have m1 := fun o c => check35_ok P o c (by omega) (by omega) (by omega)
  have m2 := fun o c => proEncodeBad_ok P o c h (by omega) (by omega) (by omega)
  have m3 := fun o c => proCheck_ok P o c (by omega) (by omega) (by omega)
  have m4 := fun o c o' c' => proEqual_ok P Q o o' c c' (by omega) (by omega)
  have m5 := fun o c o' c' => equal35_ok P Q o o' c c' (by omega) (by omega)
  have m6 := fun o c o' c' => proEqual_ok P P o o' c c' (by omega) (by omega)
  have m10 := proDecode_ok r (by omega)
  have e1 : decide (P = P) = true := by simp
  rw [e1] at m6
  generalize decide (P = Q) = B at *
  generalize pchk P = e at *
  clear z1 z2 z3 z4 e1
  cases hd : pdec r with
  | none =>
    simp only [hd, Option.getD_none, Option.isSome_none, Bool.false_eq_true, if_false] at m10
    have n1 := fun o c => equal35_ok Pr.z Pr.z o none c 0 (by decide) (by decide)
    rw [show decide (Pr.z = Pr.z) = true by simp] at n1
    obtain ⟨x1, x2, x3, x4, x5, xs, x7, x8, ⟨x9, x10⟩, x11⟩ := P
    obtain ⟨y1, y2, y3, y4, y5, ys, y7, y8, ⟨y9, y10⟩, y11⟩ := Q
    simp only [Pr.v] at k1 k2 m1 m2 m3 m4 m5 m6
    refine ⟨enters_of Tryz.func3 (by kernel_rfl) rfl, spec_of (vs := [_, _, _]) Tryz.func3 rfl Tryz.ntmps3 rfl fun G w hp => ?_⟩
    refine k_add (sl_nil 3 zf) ?_
    repeat' (first | refine l_run ?_ | refine l_nil ?_ | refine l_one ?_ | refine k_reg ?_ | refine l_ld ?_ | refine l_ldF ?_ | refine l_st ?_ | refine l_al (fun b => ?_) | refine l_bs (fun b => ?_) | refine k_condT ?_ | refine k_condF ?_ | refine k_brk ?_ | refine r_run ?_ | refine r_one ?_ | refine r_ld ?_ | refine r_ldF ?_ | refine r_ldN ?_ | refine r_al (fun b => ?_) | refine r_bs (fun b => ?_) | refine r_st ?_ | refine r_end ?_ | refine l_call (k1) (fun _ _ => ?_) | refine l_call0 (k1) (fun _ _ => ?_) | refine r_call (k1) (fun _ _ => ?_) | refine r_callP (k1) (fun _ _ => ?_) | refine l_call (k2) (fun _ _ => ?_) | refine l_call0 (k2) (fun _ _ => ?_) | refine r_call (k2) (fun _ _ => ?_) | refine r_callP (k2) (fun _ _ => ?_) | refine l_call (m1 _ _) (fun _ _ => ?_) | refine l_call0 (m1 _ _) (fun _ _ => ?_) | refine r_call (m1 _ _) (fun _ _ => ?_) | refine r_callP (m1 _ _) (fun _ _ => ?_) | refine l_call (m2 _ _) (fun _ _ => ?_) | refine l_call0 (m2 _ _) (fun _ _ => ?_) | refine r_call (m2 _ _) (fun _ _ => ?_) | refine r_callP (m2 _ _) (fun _ _ => ?_) | refine l_call (known35_ok) (fun _ _ => ?_) | refine l_call0 (known35_ok) (fun _ _ => ?_) | refine r_call (known35_ok) (fun _ _ => ?_) | refine r_callP (known35_ok) (fun _ _ => ?_) | refine l_call (m3 _ _) (fun _ _ => ?_) | refine l_call0 (m3 _ _) (fun _ _ => ?_) | refine r_call (m3 _ _) (fun _ _ => ?_) | refine r_callP (m3 _ _) (fun _ _ => ?_) | refine l_call (m6 _ _ _ _) (fun _ _ => ?_) | refine l_call0 (m6 _ _ _ _) (fun _ _ => ?_) | refine r_call (m6 _ _ _ _) (fun _ _ => ?_) | refine r_callP (m6 _ _ _ _) (fun _ _ => ?_) | refine l_call (m4 _ _ _ _) (fun _ _ => ?_) | refine l_call0 (m4 _ _ _ _) (fun _ _ => ?_) | refine r_call (m4 _ _ _ _) (fun _ _ => ?_) | refine r_callP (m4 _ _ _ _) (fun _ _ => ?_) | refine l_call (m5 _ _ _ _) (fun _ _ => ?_) | refine l_call0 (m5 _ _ _ _) (fun _ _ => ?_) | refine r_call (m5 _ _ _ _) (fun _ _ => ?_) | refine r_callP (m5 _ _ _ _) (fun _ _ => ?_) | refine l_call (m10) (fun _ _ => ?_) | refine l_call0 (m10) (fun _ _ => ?_) | refine r_call (m10) (fun _ _ => ?_) | refine r_callP (m10) (fun _ _ => ?_) | refine l_call (n1 _ _) (fun _ _ => ?_) | refine l_call0 (n1 _ _) (fun _ _ => ?_) | refine r_call (n1 _ _) (fun _ _ => ?_) | refine r_callP (n1 _ _) (fun _ _ => ?_) | refine r_cutS 300 ?_ | rw [ht] | refine r_up ?_ | (refine l_split (fun hc => ?_) (fun hc => ?_) <;> (try simp at hc) <;> (try omega)) | (refine r_split (fun hc => ?_) (fun hc => ?_) <;> (try simp at hc) <;> (try omega)) | refine k_draw 1 [Pt _ (.cells _ 29 _), Pt _ (.cells _ 29 _)] [(4, 0), (5, 0), (6, 0), (7, 0), (8, 0), (0, 3), (2, 3), (1, 5), (3, 5), (9, 4), (10, 4), (11, 0)] [] ?_ | refine k_draw 4 [] [(0, 4), (1, 0), (2, 0), (3, 0), (5, 0), (4, 4), (6, 0), (7, 0), (8, 0), (9, 0), (10, 0), (11, 0), (12, 0), (13, 0), (14, 0), (15, 0), (17, 0), (18, 0), (16, 4), (19, 4), (20, 0), (21, 0), (22, 0), (23, 0), (24, 0), (25, 4), (26, 0), (27, 0)] [] ?_ | (refine k_cond (fun hc => ?_) (fun hc => ?_) <;> (try simp at hc) <;> (try omega)))
    all_goals (refine k_ret () ?_ trivial; simp [RetV, resV])
  | some z =>
    simp only [hd, Option.getD_some, Option.isSome_some, if_true] at m10
    obtain ⟨i1, i2⟩ := pdec_inv hd
    obtain ⟨i3, i4⟩ := penc_big i2
    obtain ⟨q1, q2, q3, q4, q5, q6⟩ := pchk_zero i1
    obtain ⟨q7, q8, q9⟩ := gchk_zero q4
    have n1 := fun o c => check35_ok z o c (by omega) (by omega) (by omega)
    rw [i1] at n1
    have n2 := fun o c => value35_ok z o c i1 (by omega) (by omega)
    rw [pdec_canon hd] at n2
    clear i1 i2 i3 i4 q1 q2 q3 q4 q5 q6 q7 q8 q9 hd
    obtain ⟨x1, x2, x3, x4, x5, xs, x7, x8, ⟨x9, x10⟩, x11⟩ := P
    obtain ⟨y1, y2, y3, y4, y5, ys, y7, y8, ⟨y9, y10⟩, y11⟩ := Q
    obtain ⟨u1, u2, u3, u4, u5, us, u7, u8, ⟨u9, u10⟩, u11⟩ := z
    simp only [Pr.v] at k1 k2 m1 m2 m3 m4 m5 m6 m10 n1 n2
    refine ⟨enters_of Tryz.func3 (by kernel_rfl) rfl, spec_of (vs := [_, _, _]) Tryz.func3 rfl Tryz.ntmps3 rfl fun G w hp => ?_⟩
    repeat' (first | refine l_run ?_ | refine l_nil ?_ | refine l_one ?_ | refine k_reg ?_ | refine l_ld ?_ | refine l_ldF ?_ | refine l_st ?_ | refine l_al (fun b => ?_) | refine l_bs (fun b => ?_) | refine k_condT ?_ | refine k_condF ?_ | refine k_brk ?_ | refine r_run ?_ | refine r_one ?_ | refine r_ld ?_ | refine r_ldF ?_ | refine r_ldN ?_ | refine r_al (fun b => ?_) | refine r_bs (fun b => ?_) | refine r_st ?_ | refine r_end ?_ | refine l_call (k1) (fun _ _ => ?_) | refine l_call0 (k1) (fun _ _ => ?_) | refine r_call (k1) (fun _ _ => ?_) | refine r_callP (k1) (fun _ _ => ?_) | refine l_call (k2) (fun _ _ => ?_) | refine l_call0 (k2) (fun _ _ => ?_) | refine r_call (k2) (fun _ _ => ?_) | refine r_callP (k2) (fun _ _ => ?_) | refine l_call (m1 _ _) (fun _ _ => ?_) | refine l_call0 (m1 _ _) (fun _ _ => ?_) | refine r_call (m1 _ _) (fun _ _ => ?_) | refine r_callP (m1 _ _) (fun _ _ => ?_) | refine l_call (m2 _ _) (fun _ _ => ?_) | refine l_call0 (m2 _ _) (fun _ _ => ?_) | refine r_call (m2 _ _) (fun _ _ => ?_) | refine r_callP (m2 _ _) (fun _ _ => ?_) | refine l_call (known35_ok) (fun _ _ => ?_) | refine l_call0 (known35_ok) (fun _ _ => ?_) | refine r_call (known35_ok) (fun _ _ => ?_) | refine r_callP (known35_ok) (fun _ _ => ?_) | refine l_call (m3 _ _) (fun _ _ => ?_) | refine l_call0 (m3 _ _) (fun _ _ => ?_) | refine r_call (m3 _ _) (fun _ _ => ?_) | refine r_callP (m3 _ _) (fun _ _ => ?_) | refine l_call (m6 _ _ _ _) (fun _ _ => ?_) | refine l_call0 (m6 _ _ _ _) (fun _ _ => ?_) | refine r_call (m6 _ _ _ _) (fun _ _ => ?_) | refine r_callP (m6 _ _ _ _) (fun _ _ => ?_) | refine l_call (m4 _ _ _ _) (fun _ _ => ?_) | refine l_call0 (m4 _ _ _ _) (fun _ _ => ?_) | refine r_call (m4 _ _ _ _) (fun _ _ => ?_) | refine r_callP (m4 _ _ _ _) (fun _ _ => ?_) | refine l_call (m5 _ _ _ _) (fun _ _ => ?_) | refine l_call0 (m5 _ _ _ _) (fun _ _ => ?_) | refine r_call (m5 _ _ _ _) (fun _ _ => ?_) | refine r_callP (m5 _ _ _ _) (fun _ _ => ?_) | refine l_call (m10) (fun _ _ => ?_) | refine l_call0 (m10) (fun _ _ => ?_) | refine r_call (m10) (fun _ _ => ?_) | refine r_callP (m10) (fun _ _ => ?_) | refine l_call (n1 _ _) (fun _ _ => ?_) | refine l_call0 (n1 _ _) (fun _ _ => ?_) | refine r_call (n1 _ _) (fun _ _ => ?_) | refine r_callP (n1 _ _) (fun _ _ => ?_) | refine l_call (n2 _ _) (fun _ _ => ?_) | refine l_call0 (n2 _ _) (fun _ _ => ?_) | refine r_call (n2 _ _) (fun _ _ => ?_) | refine r_callP (n2 _ _) (fun _ _ => ?_) | refine r_cutS 300 ?_ | rw [ht] | refine r_up ?_ | (refine l_split (fun hc => ?_) (fun hc => ?_) <;> (try simp at hc) <;> (try omega)) | (refine r_split (fun hc => ?_) (fun hc => ?_) <;> (try simp at hc) <;> (try omega)) | refine k_draw 1 [Pt _ (.cells _ 29 _), Pt _ (.cells _ 29 _)] [(4, 0), (5, 0), (6, 0), (7, 0), (8, 0), (0, 3), (2, 3), (1, 5), (3, 5), (9, 4), (10, 4), (11, 0)] [] ?_ | refine k_draw 4 [] [(0, 4), (1, 0), (2, 0), (3, 0), (5, 0), (4, 4), (6, 0), (7, 0), (8, 0), (9, 0), (10, 0), (11, 0), (12, 0), (13, 0), (14, 0), (15, 0), (17, 0), (18, 0), (16, 4), (19, 4), (20, 0), (21, 0), (22, 0), (23, 0), (24, 0), (25, 4), (26, 0), (27, 0)] [] ?_ | (refine k_cond (fun hc => ?_) (fun hc => ?_) <;> (try simp at hc) <;> (try omega)))
    all_goals (refine k_ret () ?_ trivial; simp [RetV, resV])
theorem lawPChecks_ok (hl1 : p.gs.length ≤ 1099511627776) (hl2 : q.gs.length ≤ 1099511627776) :
    Enters 3 ∧ Spec Tryz.prog 3 #[p.v o1 c1, q.v o2 c2, .string raw] [Sl 3 zf o1 c1 p.gs, Sl 3 zf o2 c2 q.gs, Usg, P10] [] (RetV (.bool true)) := by
  by_cases h : pchk (shP p) = 0
  · exact lpcFit p q o1 o2 c1 c2 raw (cutS raw 300) hl1 hl2 (cutS_size _ _) rfl h
  · exact lpcBad p q o1 o2 c1 c2 raw (cutS raw 300) hl1 hl2 (cutS_size _ _) rfl h
end
end Go.Proofs.YtaijnpkdlopomaaGreatDoor
