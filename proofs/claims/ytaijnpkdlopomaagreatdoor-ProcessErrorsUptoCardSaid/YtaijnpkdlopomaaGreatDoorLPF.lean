/-
  The law ProcessErrors, walked.
  Conditions: those that each theorem states.
-/
import Derived.Test.YtaijnpkdlopomaaGreatDoorLPEa
import Derived.Test.YtaijnpkdlopomaaGreatDoorLPEb
import Derived.Test.YtaijnpkdlopomaaGreatDoorLPEc
set_option maxRecDepth 10000
namespace Go.Proofs.YtaijnpkdlopomaaGreatDoor
open Go.RowKit

section
variable (q : Oq) (o : Option Addr) (c : Nat) (who raw : ByteArray)
set_option maxHeartbeats 8000000 in
/-- A name that is none. -/
theorem lpeBad (hl : q.p.gs.length ≤ 1099511627776) (hv : lvalid (cutS who 80).data.toList = false) :
    Enters 5 ∧ Spec Tryz.prog 5 #[q.v o c, .string who, .string raw] [Sl 3 zf o c q.p.gs, Usg, P10] [] (RetV (.bool true)) := by
  have hw := cutS_size who 80
  have hr := cutS_size raw 200
  have m0 := cut35_ok q o c hl
  have m1 := fun o c => wPerform_ok (cutQ q) o c
  have m2 := wRuns_ok (cutS who 80)
  have m3 := wEpoch_ok
  have m4 := valid_ok (cutS who 80) (by omega)
  rw [hv] at m4
  have m5 := fun b => getBad_ok b (cutS who 80) (by omega) hv
  have m6 := fun b => regsBad_ok b (cutS who 80) (by omega) hv
  have m7 := fun b => setRegsBad_ok b (cutS who 80) (by omega) hv 0 0 0 0 0 0 0 0 0
  have m8 := fun b o c => startBad_ok b (cutS who 80) one35 o c (by omega) (.inl hv)
  obtain ⟨y1, y2, y3, y4, y5, ⟨x1, x2, x3, x4, x5, xs, x7, x8, ⟨x9, x10⟩, x11⟩, y7, y8, y9, y10⟩ := q
  generalize hcq : cutQ _ = cq at *
  clear hcq
  obtain ⟨z1, z2, z3, z4, z5, ⟨u1, u2, u3, u4, u5, us, u7, u8, ⟨u9, u10⟩, u11⟩, z7, z8, z9, z10⟩ := cq
  simp only [Oq.v] at m0 m1 ⊢
  refine ⟨enters_of Tryz.func5 (by kernel_rfl) rfl, spec_of (vs := [_, _, _]) Tryz.func5 rfl Tryz.ntmps5 rfl fun G w hp => ?_⟩
  repeat' (first | refine l_run ?_ | refine l_nil ?_ | refine l_one ?_ | refine k_reg ?_ | refine l_ld ?_ | refine l_ldF ?_ | refine l_st ?_ | refine l_al (fun b => ?_) | refine l_bs (fun b => ?_) | refine k_condT ?_ | refine k_condF ?_ | refine k_brk ?_ | refine r_run ?_ | refine r_one ?_ | refine r_ld ?_ | refine r_ldF ?_ | refine r_ldN ?_ | refine r_al (fun b => ?_) | refine r_bs (fun b => ?_) | refine r_st ?_ | refine r_end ?_ | refine l_call (m0) (fun _ _ => ?_) | refine l_call0 (m0) (fun _ _ => ?_) | refine r_call (m0) (fun _ _ => ?_) | refine r_callP (m0) (fun _ _ => ?_) | refine l_call (known35_ok) (fun _ _ => ?_) | refine l_call0 (known35_ok) (fun _ _ => ?_) | refine r_call (known35_ok) (fun _ _ => ?_) | refine r_callP (known35_ok) (fun _ _ => ?_) | refine l_call (m1 _ _) (fun _ _ => ?_) | refine l_call0 (m1 _ _) (fun _ _ => ?_) | refine r_call (m1 _ _) (fun _ _ => ?_) | refine r_callP (m1 _ _) (fun _ _ => ?_) | refine l_call (m2) (fun _ _ => ?_) | refine l_call0 (m2) (fun _ _ => ?_) | refine r_call (m2) (fun _ _ => ?_) | refine r_callP (m2) (fun _ _ => ?_) | refine l_call (m3) (fun _ _ => ?_) | refine l_call0 (m3) (fun _ _ => ?_) | refine r_call (m3) (fun _ _ => ?_) | refine r_callP (m3) (fun _ _ => ?_) | refine l_call (stateNew_ok) (fun _ _ => ?_) | refine l_call0 (stateNew_ok) (fun _ _ => ?_) | refine r_call (stateNew_ok) (fun _ _ => ?_) | refine r_callP (stateNew_ok) (fun _ _ => ?_) | refine l_call (viewNew_ok _) (fun _ _ => ?_) | refine l_call0 (viewNew_ok _) (fun _ _ => ?_) | refine r_call (viewNew_ok _) (fun _ _ => ?_) | refine r_callP (viewNew_ok _) (fun _ _ => ?_) | refine l_call (m4) (fun _ _ => ?_) | refine l_call0 (m4) (fun _ _ => ?_) | refine r_call (m4) (fun _ _ => ?_) | refine r_callP (m4) (fun _ _ => ?_) | refine l_call (m5 _) (fun _ _ => ?_) | refine l_call0 (m5 _) (fun _ _ => ?_) | refine r_call (m5 _) (fun _ _ => ?_) | refine r_callP (m5 _) (fun _ _ => ?_) | refine l_call (m6 _) (fun _ _ => ?_) | refine l_call0 (m6 _) (fun _ _ => ?_) | refine r_call (m6 _) (fun _ _ => ?_) | refine r_callP (m6 _) (fun _ _ => ?_) | refine l_call (m7 _) (fun _ _ => ?_) | refine l_call0 (m7 _) (fun _ _ => ?_) | refine r_call (m7 _) (fun _ _ => ?_) | refine r_callP (m7 _) (fun _ _ => ?_) | refine l_call (one35_ok) (fun _ _ => ?_) | refine l_call0 (one35_ok) (fun _ _ => ?_) | refine r_call (one35_ok) (fun _ _ => ?_) | refine r_callP (one35_ok) (fun _ _ => ?_) | refine l_call (m8 _ _ _) (fun _ _ => ?_) | refine l_call0 (m8 _ _ _) (fun _ _ => ?_) | refine r_call (m8 _ _ _) (fun _ _ => ?_) | refine r_callP (m8 _ _ _) (fun _ _ => ?_) | refine r_cutS 80 ?_ | refine r_cutS 200 ?_ | refine r_up ?_ | (refine l_split (fun hc => ?_) (fun hc => ?_) <;> (try simp at hc) <;> (try omega)) | (refine r_split (fun hc => ?_) (fun hc => ?_) <;> (try simp at hc) <;> (try omega)) | refine k_draw 1 [Pt _ (.cells _ 67 _)] [(2, 0), (3, 0), (4, 0), (5, 0), (6, 0), (7, 0), (8, 0), (9, 0), (10, 0), (11, 0), (0, 3), (1, 5), (12, 4), (13, 0), (14, 0)] [] ?_ | (refine k_cond (fun hc => ?_) (fun hc => ?_) <;> (try simp at hc) <;> (try omega)))
  all_goals (refine k_ret () ?_ trivial; simp [RetV, resV])
theorem lawPErrors_ok (hl : q.p.gs.length ≤ 1099511627776) :
    Enters 5 ∧ Spec Tryz.prog 5 #[q.v o c, .string who, .string raw] [Sl 3 zf o c q.p.gs, Usg, P10] [] (RetV (.bool true)) := by
  cases h : lvalid (cutS who 80).data.toList with
  | true =>
    cases hd : pdec (cutS raw 200) with
    | none => exact lpeN q o c who raw hd hl h
    | some p =>
      by_cases h0 : p.ep = 0
      · exact lpeS q o c who raw p hd h0 hl h
      · exact lpeT q o c who raw p hd h0 hl h
  | false => exact lpeBad q o c who raw hl h
end
end Go.Proofs.YtaijnpkdlopomaaGreatDoor
