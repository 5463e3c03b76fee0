/-
  The law ProcessErrors, walked.
  Conditions: those that each theorem states.
-/
import Derived.Test.YtaijnpkdlopomaaGreatDoorNv35
import Derived.Test.YtaijnpkdlopomaaGreatDoorKn35
import Derived.Test.YtaijnpkdlopomaaGreatDoorPro6
set_option maxRecDepth 10000
namespace Go.Proofs.YtaijnpkdlopomaaGreatDoor
open Go.RowKit

section
variable (q : Oq) (o : Option Addr) (c : Nat) (who raw : ByteArray)
set_option maxHeartbeats 8000000 in
/-- A name; lpeT. -/
theorem lpeT (p : Pr) (hd : pdec (cutS raw 200) = some p) (h0 : p.ep ≠ 0) (hl : q.p.gs.length ≤ 1099511627776) (hv : lvalid (cutS who 80).data.toList = true) :
    Enters 5 ∧ Spec Tryz.prog 5 #[q.v o c, .string who, .string raw] [Sl 3 zf o c q.p.gs, Usg, P10] [] (RetV (.bool true)) := by
  have hw := cutS_size who 80
  have hr := cutS_size raw 200
  have m0 := cut35_ok q o c hl
  have m1 := fun o c => wPerform_ok (cutQ q) o c
  have m2 := wRuns_ok (cutS who 80)
  have m3 := wEpoch_ok
  have m4 := valid_ok (cutS who 80) (by omega)
  rw [hv] at m4
  have m5 := fun b o c => startBad_ok b ⟨#[]⟩ one35 o c (Nat.zero_le _) (.inr (by simp [isE]))
  have m6 := ofProcess_ok (cutS who 80)
  have m7 := ofRegisters_ok (cutS who 80)
  have m8 := fun b ps => vwSet_ok b ps [] [] (pnm (cutS who 80)) (cutS raw 200) (by show (cutS who 80).size ≤ _; omega) (Nat.zero_le _) (by simp)
  have e8 : vset [] (pnm (cutS who 80)) (cutS raw 200) = (0, [] ++ [⟨pnm (cutS who 80), (cutS raw 200), false⟩]) := by
    unfold vset
    rw [if_neg (by simp [chk_pnm hv]), if_neg (by omega)]
  rw [e8] at m8
  have m9 := fun b ps => vwSet_ok b ps [] ([] ++ [⟨pnm (cutS who 80), (cutS raw 200), false⟩]) (rnm (cutS who 80)) (cutS raw 200) (by show (cutS who 80).size ≤ _; omega) (Nat.zero_le _) (by simp)
  have e9 : vset ([] ++ [⟨pnm (cutS who 80), (cutS raw 200), false⟩]) (rnm (cutS who 80)) (cutS raw 200) = (0, [] ++ [⟨pnm (cutS who 80), (cutS raw 200), false⟩] ++ [⟨rnm (cutS who 80), (cutS raw 200), false⟩]) := by
    unfold vset
    rw [if_neg (by simp [chk_rnm hv]), if_neg (by omega)]
  rw [e9] at m9
  have g1 : vget [] ([] ++ [⟨pnm (cutS who 80), (cutS raw 200), false⟩] ++ [⟨rnm (cutS who 80), (cutS raw 200), false⟩]) (pnm (cutS who 80)) = ((cutS raw 200), true) := by
    rw [vg_ne (by simp [pnm, rnm]), vg_eq rfl (chk_pnm hv)]; rfl
  have g2 : vget [] ([] ++ [⟨pnm (cutS who 80), (cutS raw 200), false⟩] ++ [⟨rnm (cutS who 80), (cutS raw 200), false⟩]) (rnm (cutS who 80)) = ((cutS raw 200), true) := by
    rw [vg_eq rfl (chk_rnm hv)]; rfl
  have g3 : vget [] ([] ++ [⟨pnm (cutS who 80), (cutS raw 200), false⟩] ++ [⟨rnm (cutS who 80), (cutS raw 200), false⟩]) enm = (⟨#[]⟩, false) := by
    rw [vg_ne (by simp [enm, rnm]), vg_ne (by simp [pnm, enm]), vget_nil]
  have n1 := fun b ps rs => getAny_ok b ps [] rs ([] ++ [⟨pnm (cutS who 80), (cutS raw 200), false⟩] ++ [⟨rnm (cutS who 80), (cutS raw 200), false⟩]) (cutS who 80) (by omega) hv (cutS raw 200) (by omega) g1 g3
  have n2 := proDecode_ok (cutS raw 200) (by omega)
  have n3 := fun b ps rs => regs_ok b ps [] rs ([] ++ [⟨pnm (cutS who 80), (cutS raw 200), false⟩] ++ [⟨rnm (cutS who 80), (cutS raw 200), false⟩]) (cutS who 80) (by omega) hv (cutS raw 200) g2
  have n4 := cpuDecode_ok (cutS raw 200)
  have n5 := fun b => storeNil_ok b (cutS who 80)
  generalize ([] ++ [⟨pnm (cutS who 80), (cutS raw 200), false⟩] ++ [⟨rnm (cutS who 80), (cutS raw 200), false⟩] : List Ch) = cs2 at *
  generalize ([] ++ [⟨pnm (cutS who 80), (cutS raw 200), false⟩] : List Ch) = cs1 at *
  obtain ⟨y1, y2, y3, y4, y5, ⟨x1, x2, x3, x4, x5, xs, x7, x8, ⟨x9, x10⟩, x11⟩, y7, y8, y9, y10⟩ := q
  generalize hcq : cutQ _ = cq at *
  clear hcq
  obtain ⟨z1, z2, z3, z4, z5, ⟨u1, u2, u3, u4, u5, us, u7, u8, ⟨u9, u10⟩, u11⟩, z7, z8, z9, z10⟩ := cq
  simp only [Oq.v] at m0 m1 ⊢
  have hreg : ∃ (g1 g2 : List Int) (e1 e2 : Int), (∀ b ps rs, Enters 21 ∧ Spec Tryz.prog 21 #[.pointer (some ⟨b, 0, none⟩), .string (cutS who 80)] [St ps [], Usg] [Vw b ps rs cs2]
      ⟨Unit, fun _ => .tuple #[rgV g1, .int .i64 e1], fun _ => True, fun _ => [], fun _ => [Vw b ps (vread [] rs cs2 (rnm (cutS who 80))) cs2]⟩) ∧ (Enters 36 ∧ Spec Tryz.prog 36 #[.string (cutS raw 200)] [] [] (RetV (.tuple #[rgV g2, .int .i64 e2]))) ∧ g1.length = 9 ∧ g2.length = 9 ∧ ((e1 = 0 ∧ e2 = 0) ∨ (e1 = 3 ∧ e2 = 4) ∨ (e1 = 3 ∧ e2 = 5)) :=
    ⟨_, _, _, _, n3, n4, by split <;> rfl, by split <;> rfl, by
      by_cases h : (cutS raw 200).size = 36
      · exact .inl ⟨by rw [if_pos h], by rw [if_neg (by omega), if_neg (by omega)]⟩
      · by_cases h2 : (cutS raw 200).size < 36
        · exact .inr (.inl ⟨by rw [if_neg h], by rw [if_pos h2]⟩)
        · exact .inr (.inr ⟨by rw [if_neg h], by rw [if_neg h2, if_pos (by omega)]⟩)⟩
  clear n3 n4
  obtain ⟨g1, g2, e1, e2, n3, n4, hg1, hg2, he⟩ := hreg
  obtain _ | ⟨a1, _ | ⟨a2, _ | ⟨a3, _ | ⟨a4, _ | ⟨a5, _ | ⟨a6, _ | ⟨a7, _ | ⟨a8, _ | ⟨a9, _ | ⟨a10, l⟩⟩⟩⟩⟩⟩⟩⟩⟩⟩ := g1
  all_goals try (simp at hg1; done)
  obtain _ | ⟨b1, _ | ⟨b2, _ | ⟨b3, _ | ⟨b4, _ | ⟨b5, _ | ⟨b6, _ | ⟨b7, _ | ⟨b8, _ | ⟨b9, _ | ⟨b10, l⟩⟩⟩⟩⟩⟩⟩⟩⟩⟩ := g2
  all_goals try (simp at hg2; done)
  clear hg1 hg2
  have hE : (e1 == 0) = (e2 == 0) := by rcases he with ⟨rfl, rfl⟩ | ⟨rfl, rfl⟩ | ⟨rfl, rfl⟩ <;> rfl
  simp only [hd, Option.getD_some, Option.isSome_some, if_true] at n1 n2
  have n6 := fun o c o' c' => equal35_ok p p o o' c c'
  rw [show decide (p = p) = true by simp] at n6
  obtain ⟨i1, i2⟩ := pdec_inv hd
  obtain ⟨q1, q2, q3, q4, q5, q6⟩ := pchk_zero i1
  obtain ⟨q7, q8, q9⟩ := gchk_zero q4
  have n7 := fun o c o' c' => n6 o c o' c' (by omega) (by omega)
  clear n6 i1 i2 q1 q2 q3 q4 q5 q6 q7 q8 q9 hd
  obtain ⟨u1, u2, u3, u4, u5, us, u7, u8, ⟨u9, u10⟩, u11⟩ := p
  dsimp only at h0
  simp only [Pr.v] at n1 n2 n7
  simp only [if_neg h0] at n1
  refine ⟨enters_of Tryz.func5 (by kernel_rfl) rfl, spec_of (vs := [_, _, _]) Tryz.func5 rfl Tryz.ntmps5 rfl fun G w hp => ?_⟩
  repeat' (first | refine l_run ?_ | refine l_nil ?_ | refine l_one ?_ | refine k_reg ?_ | refine l_ld ?_ | refine l_ldF ?_ | refine l_st ?_ | refine l_al (fun b => ?_) | refine l_bs (fun b => ?_) | refine k_condT ?_ | refine k_condF ?_ | refine k_brk ?_ | refine r_run ?_ | refine r_one ?_ | refine r_ld ?_ | refine r_ldF ?_ | refine r_ldN ?_ | refine r_al (fun b => ?_) | refine r_bs (fun b => ?_) | refine r_st ?_ | refine r_end ?_ | refine l_call (m0) (fun _ _ => ?_) | refine l_call0 (m0) (fun _ _ => ?_) | refine r_call (m0) (fun _ _ => ?_) | refine r_callP (m0) (fun _ _ => ?_) | refine l_call (known35_ok) (fun _ _ => ?_) | refine l_call0 (known35_ok) (fun _ _ => ?_) | refine r_call (known35_ok) (fun _ _ => ?_) | refine r_callP (known35_ok) (fun _ _ => ?_) | refine l_call (m1 _ _) (fun _ _ => ?_) | refine l_call0 (m1 _ _) (fun _ _ => ?_) | refine r_call (m1 _ _) (fun _ _ => ?_) | refine r_callP (m1 _ _) (fun _ _ => ?_) | refine l_call (m2) (fun _ _ => ?_) | refine l_call0 (m2) (fun _ _ => ?_) | refine r_call (m2) (fun _ _ => ?_) | refine r_callP (m2) (fun _ _ => ?_) | refine l_call (m3) (fun _ _ => ?_) | refine l_call0 (m3) (fun _ _ => ?_) | refine r_call (m3) (fun _ _ => ?_) | refine r_callP (m3) (fun _ _ => ?_) | refine l_call (stateNew_ok) (fun _ _ => ?_) | refine l_call0 (stateNew_ok) (fun _ _ => ?_) | refine r_call (stateNew_ok) (fun _ _ => ?_) | refine r_callP (stateNew_ok) (fun _ _ => ?_) | refine l_call (viewNew_ok _) (fun _ _ => ?_) | refine l_call0 (viewNew_ok _) (fun _ _ => ?_) | refine r_call (viewNew_ok _) (fun _ _ => ?_) | refine r_callP (viewNew_ok _) (fun _ _ => ?_) | refine l_call (m4) (fun _ _ => ?_) | refine l_call0 (m4) (fun _ _ => ?_) | refine r_call (m4) (fun _ _ => ?_) | refine r_callP (m4) (fun _ _ => ?_) | refine l_call (m5 _ _ _) (fun _ _ => ?_) | refine l_call0 (m5 _ _ _) (fun _ _ => ?_) | refine r_call (m5 _ _ _) (fun _ _ => ?_) | refine r_callP (m5 _ _ _) (fun _ _ => ?_) | refine l_call (m6) (fun _ _ => ?_) | refine l_call0 (m6) (fun _ _ => ?_) | refine r_call (m6) (fun _ _ => ?_) | refine r_callP (m6) (fun _ _ => ?_) | refine l_call (m7) (fun _ _ => ?_) | refine l_call0 (m7) (fun _ _ => ?_) | refine r_call (m7) (fun _ _ => ?_) | refine r_callP (m7) (fun _ _ => ?_) | refine l_call (m8 _ _) (fun _ _ => ?_) | refine l_call0 (m8 _ _) (fun _ _ => ?_) | refine r_call (m8 _ _) (fun _ _ => ?_) | refine r_callP (m8 _ _) (fun _ _ => ?_) | refine l_call (m9 _ _) (fun _ _ => ?_) | refine l_call0 (m9 _ _) (fun _ _ => ?_) | refine r_call (m9 _ _) (fun _ _ => ?_) | refine r_callP (m9 _ _) (fun _ _ => ?_) | refine l_call (one35_ok) (fun _ _ => ?_) | refine l_call0 (one35_ok) (fun _ _ => ?_) | refine r_call (one35_ok) (fun _ _ => ?_) | refine r_callP (one35_ok) (fun _ _ => ?_) | refine l_call (n1 _ _ _) (fun _ _ => ?_) | refine l_call0 (n1 _ _ _) (fun _ _ => ?_) | refine r_call (n1 _ _ _) (fun _ _ => ?_) | refine r_callP (n1 _ _ _) (fun _ _ => ?_) | refine l_call (n2) (fun _ _ => ?_) | refine l_call0 (n2) (fun _ _ => ?_) | refine r_call (n2) (fun _ _ => ?_) | refine r_callP (n2) (fun _ _ => ?_) | refine l_call (n3 _ _ _) (fun _ _ => ?_) | refine l_call0 (n3 _ _ _) (fun _ _ => ?_) | refine r_call (n3 _ _ _) (fun _ _ => ?_) | refine r_callP (n3 _ _ _) (fun _ _ => ?_) | refine l_call (n4) (fun _ _ => ?_) | refine l_call0 (n4) (fun _ _ => ?_) | refine r_call (n4) (fun _ _ => ?_) | refine r_callP (n4) (fun _ _ => ?_) | refine r_cutS 80 ?_ | refine r_cutS 200 ?_ | refine r_up ?_ | (refine l_split (fun hc => ?_) (fun hc => ?_) <;> (try simp at hc) <;> (try omega)) | (refine r_split (fun hc => ?_) (fun hc => ?_) <;> (try simp at hc) <;> (try omega)) | refine k_draw 1 [Pt _ (.cells _ 67 _)] [(2, 0), (3, 0), (4, 0), (5, 0), (6, 0), (7, 0), (8, 0), (9, 0), (10, 0), (11, 0), (0, 3), (1, 5), (12, 4), (13, 0), (14, 0)] [] ?_ | (refine k_cond (fun hc => ?_) (fun hc => ?_) <;> (try simp at hc) <;> (try omega)))
  all_goals first | exact absurd hE hc | (refine k_ret () ?_ trivial; simp [RetV, resV])
end
end Go.Proofs.YtaijnpkdlopomaaGreatDoor
