/-
  The contract of process.Fork, where it succeeds and nothing of the memory is there.
  Conditions: those that each theorem states.
-/
import Derived.Test.YtgaipgbgppdfeaaGreatDoorPro10
set_option maxRecDepth 10000
namespace Go.Proofs.YtgaipgbgppdfeaaGreatDoor
open Go.RowKit

section
variable (b : Nat) (ps : Option Addr) (es : Al) (rs : List (Nm × Ch)) (cs : List Ch) (who : ByteArray) (p : Pr)
/-- A child of a process, in its own memory. -/
def kidP (p : Pr) (ch : ByteArray) : Pr := { p with sp := ch }
theorem kid_chk {p : Pr} {ch : ByteArray} (h : pchk p = 0) (hv : lvalid ch.data.toList = true) : pchk (kidP p ch) = 0 := by
  obtain ⟨q1, q2, q3, q4, q5, q6⟩ := pchk_zero h
  unfold pfit at q3
  unfold pchk pfit kidP
  dsimp only
  rw [if_neg (by omega), if_neg (by omega), if_neg (by simp only [Decidable.not_not]; omega), if_neg (by simp [q4]), if_neg (by simp [hv])]
  exact q6
def frkC (cs : List Ch) (who ch : ByteArray) (c : Ct) (p : Pr) : List Ch := cs ++ [⟨cnm who, cvs { c with c := c.c + 1 }, false⟩] ++ [⟨pnm ch, pencS (kidP p ch), false⟩]
set_option maxHeartbeats 4000000 in
theorem fork_ok (h : PrAt es cs who p) (hr : p.st = 1) (hsp : p.sp = who) (c : Ct) (hm : madeE es cs who = (c, 0)) (hmv : (vget es cs (cnm who)).1.size ≤ 1099511627776) (hct : CtOK c) (hk2 : c.c + 1 ≤ 999999) (hd : (lords who.data.toList).length ≠ 8) (hne : isE who = false) (hi : (Lib.itoa (c.c + 1)).length ≤ 100)
    (hcv : lvalid (chN who (c.c + 1)).data.toList = true) (hcw : (chN who (c.c + 1)).size ≤ 1000) (hg : (vget es cs (pnm (chN who (c.c + 1)))).2 = false) (hreg : (vget es cs (rnm who)).2 = false) (hpg : ∀ i : Nat, (vget es cs (gnm who (i : Int))).2 = false) (hl : cs.length ≤ 900000) :
    Enters 67 ∧ Spec Tryz.prog 67 #[.pointer (some ⟨b, 0, none⟩), .string who, .bool false] [St ps es, Usg, P10] [Vw b ps rs cs]
      ⟨List (Nm × Ch), fun _ => .tuple #[.string (chN who (c.c + 1)), .int .i64 0], fun _ => True, fun _ => [], fun rs' => [Vw b ps rs' (frkC cs who (chN who (c.c + 1)) c p)]⟩ := by
  have hw := h.w
  obtain ⟨q1, q2, q3, q4, q5, q6⟩ := pchk_zero h.c
  unfold pfit at q3
  have n1 := running_ok b ps es rs cs who p h hr
  have n2 := made_ok b ps es (pgR es rs cs who) cs who (by omega) hmv
  rw [hm] at n2
  have hc0 := hct.c0
  have n3 := child_ok who (c.c + 1) h.v hw ⟨by omega, hk2⟩ hd hne hi
  have n4 := ofProcess_ok (chN who (c.c + 1))
  have n5 := fun rs' => vwHas_ok b ps es rs' cs (pnm (chN who (c.c + 1))) (by show (chN who (c.c + 1)).size ≤ _; omega) (Nat.zero_le _)
  rw [hg] at n5
  have n6 := fun o c' => owner_ok b who p o c' hsp
  have n7 := fun rs' => vwMark_ok b ps rs' cs
  have hct2 : CtOK { c with c := c.c + 1 } := ⟨hct.b0, hct.b1, hct.o0, hct.o1, by show 0 ≤ c.c + 1; omega, by show c.c + 1 ≤ _; omega⟩
  have n8 := fun rs' => setMade_ok b ps rs' cs who { c with c := c.c + 1 } (by omega) h.v hct2 (by omega)
  have hcs := cvs_size hct2
  have e8 : vset cs (cnm who) ⟨(cenc { c with c := c.c + 1 }).toArray⟩ = (0, cs ++ [⟨cnm who, cvs { c with c := c.c + 1 }, false⟩]) := by
    unfold vset
    rw [if_neg (by rw [chk_cnm h.v]; simp), if_neg (by show ¬ 65536 < (cvs { c with c := c.c + 1 }).size; omega)]
    rfl
  rw [e8] at n8
  have hkc := kid_chk h.c hcv
  have n9 := fun rs' o c' => proPut_ok b ps rs' (cs ++ [⟨cnm who, cvs { c with c := c.c + 1 }, false⟩]) (chN who (c.c + 1)) (kidP p (chN who (c.c + 1))) o c' hkc hcw h.d hcw hcv (by simp; omega)
  have hfr : cs ++ [⟨cnm who, cvs { c with c := c.c + 1 }, false⟩] ++ [⟨pnm (chN who (c.c + 1)), pencS (kidP p (chN who (c.c + 1))), false⟩] = frkC cs who (chN who (c.c + 1)) c p := rfl
  rw [hfr] at n9
  have hreg2 : (vget es (frkC cs who (chN who (c.c + 1)) c p) (rnm who)).2 = false := by
    rw [← hfr, vg_ne (by simp [pnm, rnm]), vg_ne (by simp [cnm, rnm])]; exact hreg
  have hpg2 : ∀ i : Nat, (vget es (frkC cs who (chN who (c.c + 1)) c p) (gnm who (i : Int))).2 = false := fun i => by
    rw [← hfr, vg_ne (by simp [pnm, gnm]), vg_ne (by simp [cnm, gnm])]; exact hpg i
  have n10 := fun rs' => copy0_ok b ps es rs' (frkC cs who (chN who (c.c + 1)) c p) (rnm who) (rnm (chN who (c.c + 1))) (by show who.size ≤ _; omega) (Nat.zero_le _) hreg2
  have n11 := fun rs' (i : Nat) => copy0_ok b ps es rs' (frkC cs who (chN who (c.c + 1)) c p) (gnm who (i : Int)) (gnm (chN who (c.c + 1)) (i : Int)) (by show who.size ≤ _; omega) (Nat.zero_le _) (hpg2 i)
  have n12 := ofRegisters_ok who
  have n13 := ofRegisters_ok (chN who (c.c + 1))
  have n14 := fun i : Nat => ofPage_ok who (i : Int)
  have n15 := fun i : Nat => ofPage_ok (chN who (c.c + 1)) (i : Int)
  have w1 : IntKind.i64.wrap (c.c + 1) = c.c + 1 := wrapi (by omega) (by omega)
  generalize frkC cs who (chN who (c.c + 1)) c p = cs3 at *
  generalize (cs ++ [⟨cnm who, cvs { c with c := c.c + 1 }, false⟩] : List Ch) = cs2 at *
  generalize chN who (c.c + 1) = ch at *
  clear h hkc hfr e8 hcs hcv hcw hg
  obtain ⟨c1, c2, c3⟩ := c
  obtain ⟨a1, a2, a3, a4, a5, gs, a7, a8, ⟨d1, d2⟩, a10⟩ := p
  dsimp only at *
  obtain ⟨pg, hpge⟩ : ∃ pg : Nat, a8 = (pg : Int) := ⟨a8.toNat, by omega⟩
  subst hr hsp hpge
  simp only [Pr.v, kidP] at n1 n6 n9
  generalize b = bv at *
  refine ⟨enters_of Tryz.func67 (by kernel_rfl) rfl, spec_of (vs := [_, _, _]) Tryz.func67 rfl Tryz.ntmps67 rfl fun G w hp => ?_⟩
  repeat' (first | refine l_run ?_ | refine l_nil ?_ | refine l_one ?_ | refine k_reg ?_ | refine l_ld ?_ | refine l_ldF ?_ | refine l_st ?_ | refine l_al (fun b => ?_) | refine l_bs (fun b => ?_) | refine k_condT ?_ | refine k_condF ?_ | refine k_brk ?_ | refine r_run ?_ | refine r_one ?_ | refine r_ld ?_ | refine r_ldF ?_ | refine r_ldN ?_ | refine r_al (fun b => ?_) | refine r_bs (fun b => ?_) | refine r_st ?_ | refine r_end ?_ | refine l_call (n1) (fun _ _ => ?_) | refine l_call0 (n1) (fun _ _ => ?_) | refine r_call (n1) (fun _ _ => ?_) | refine l_call (n2) (fun _ _ => ?_) | refine l_call0 (n2) (fun _ _ => ?_) | refine r_call (n2) (fun _ _ => ?_) | refine l_call (n3) (fun _ _ => ?_) | refine l_call0 (n3) (fun _ _ => ?_) | refine r_call (n3) (fun _ _ => ?_) | refine l_call (n4) (fun _ _ => ?_) | refine l_call0 (n4) (fun _ _ => ?_) | refine r_call (n4) (fun _ _ => ?_) | refine l_call (n5 _) (fun _ _ => ?_) | refine l_call0 (n5 _) (fun _ _ => ?_) | refine r_call (n5 _) (fun _ _ => ?_) | refine l_call (n6 _ _) (fun _ _ => ?_) | refine l_call0 (n6 _ _) (fun _ _ => ?_) | refine r_call (n6 _ _) (fun _ _ => ?_) | refine l_call (n7 _) (fun _ _ => ?_) | refine l_call0 (n7 _) (fun _ _ => ?_) | refine r_call (n7 _) (fun _ _ => ?_) | refine l_call (n8 _) (fun _ _ => ?_) | refine l_call0 (n8 _) (fun _ _ => ?_) | refine r_call (n8 _) (fun _ _ => ?_) | refine l_call (n9 _ _ _) (fun _ _ => ?_) | refine l_call0 (n9 _ _ _) (fun _ _ => ?_) | refine r_call (n9 _ _ _) (fun _ _ => ?_) | refine l_call (n10 _) (fun _ _ => ?_) | refine l_call0 (n10 _) (fun _ _ => ?_) | refine r_call (n10 _) (fun _ _ => ?_) | refine l_call (n12) (fun _ _ => ?_) | refine l_call0 (n12) (fun _ _ => ?_) | refine r_call (n12) (fun _ _ => ?_) | refine l_call (n13) (fun _ _ => ?_) | refine l_call0 (n13) (fun _ _ => ?_) | refine r_call (n13) (fun _ _ => ?_) | rw [w1] | (refine l_split (fun hc => ?_) (fun hc => ?_) <;> (try simp at hc) <;> (try omega)) | (refine r_split (fun hc => ?_) (fun hc => ?_) <;> (try simp at hc) <;> (try omega)) | refine k_draw 15 [] [(0, 0), (1, 0), (2, 0), (3, 1), (4, 0)] [5] ?_ | refine k_draw 21 [Pt _ (.cells #[_, _, _, _, _, _, _, .int .i64 0, _, _, _] 80 _)] [(0, 0), (1, 0), (2, 0), (3, 0), (4, 4), (5, 0), (6, 4)] [] ?_ | (refine k_cond (fun hc => ?_) (fun hc => ?_) <;> (try simp at hc) <;> (try omega)))
  rename_i q _ b8 _ _ b10 _ _ _ _ _ _ b13 _ _ _ _ _ _ _ _ _ _ _ _ _ _
  obtain ⟨o, c⟩ := q
  refine k_lp (X := { q : Nat × List (Nm × Ch) // q.1 ≤ pg }) (fun q => [(0, .pointer (some ⟨bv, 0, none⟩)), (9, .int .i64 0), (11, .string ch), (12, .string a7), (13, .pointer (some ⟨b13, 0, none⟩)), (17, .int .i64 (q.1.1 : Int))]) (fun _ => [St ps es, Usg, P10]) (fun q => [Vw bv ps q.1.2 cs3, Pt b13 (.cells #[.int .i64 a1, .int .i64 1, .int .i64 a3, .int .i64 a4, .int .i64 a5, .slice o gs.length c, .string ch, .int .i64 (pg : Int), .string d1, .int .i64 d2, .int .i64 a10] 80)]) (fun q => pg - q.1.1) ⟨(0, _), by omega⟩ ⟨rfl, rfl, rfl, rfl, rfl, rfl, trivial⟩ ?_
  rintro ⟨⟨i, rs'⟩, hi'⟩
  dsimp only at hi' ⊢
  by_cases hlt : i < pg
  · have m1 := n11 rs' i
    have m2 := n14 i
    have m3 := n15 i
    generalize vread es rs' cs3 (gnm a7 (i : Int)) = rs2 at *
    repeat' (first | refine l_run ?_ | refine l_nil ?_ | refine l_one ?_ | refine k_reg ?_ | refine l_ld ?_ | refine l_ldF ?_ | refine l_st ?_ | refine l_al (fun b => ?_) | refine l_bs (fun b => ?_) | refine k_condT ?_ | refine k_condF ?_ | refine r_run ?_ | refine r_one ?_ | refine r_ld ?_ | refine r_ldF ?_ | refine r_ldN ?_ | refine r_al (fun b => ?_) | refine r_bs (fun b => ?_) | refine r_st ?_ | refine r_end ?_ | refine l_call (m1) (fun _ _ => ?_) | refine l_call0 (m1) (fun _ _ => ?_) | refine r_call (m1) (fun _ _ => ?_) | refine l_call (m2) (fun _ _ => ?_) | refine l_call0 (m2) (fun _ _ => ?_) | refine r_call (m2) (fun _ _ => ?_) | refine l_call (m3) (fun _ _ => ?_) | refine l_call0 (m3) (fun _ _ => ?_) | refine r_call (m3) (fun _ _ => ?_) | (refine l_split (fun hc => ?_) (fun hc => ?_) <;> (try simp at hc) <;> (try omega)) | (refine r_split (fun hc => ?_) (fun hc => ?_) <;> (try simp at hc) <;> (try omega)) | refine k_draw 15 [] [(0, 0), (1, 0), (2, 0), (3, 1), (4, 0)] [5] ?_ | refine k_draw 21 [] [(0, 0), (1, 0), (2, 0), (3, 0), (4, 4), (5, 0)] [6] ?_ | (refine k_cond (fun hc => ?_) (fun hc => ?_) <;> (try simp at hc) <;> (try omega)))
    rw [wrapi (z := (i : Int) + 1) (by omega) (by omega)]
    exact k_next ⟨(i + 1, rs2), by dsimp only; omega⟩ (by show pg - (i + 1) < pg - i; omega) ⟨rfl, rfl, rfl, rfl, rfl, rfl, trivial⟩
  · repeat' (first | refine l_run ?_ | refine l_nil ?_ | refine l_one ?_ | refine k_reg ?_ | refine l_ld ?_ | refine l_ldF ?_ | refine l_st ?_ | refine l_al (fun b => ?_) | refine l_bs (fun b => ?_) | refine k_condT ?_ | refine k_condF ?_ | refine k_brk ?_ | refine r_run ?_ | refine r_one ?_ | refine r_ld ?_ | refine r_ldF ?_ | refine r_ldN ?_ | refine r_al (fun b => ?_) | refine r_bs (fun b => ?_) | refine r_st ?_ | refine r_end ?_ | (refine l_split (fun hc => ?_) (fun hc => ?_) <;> (try simp at hc) <;> (try omega)) | (refine r_split (fun hc => ?_) (fun hc => ?_) <;> (try simp at hc) <;> (try omega)) | refine k_draw 15 [] [(0, 0), (1, 0), (2, 0), (3, 1), (4, 0)] [5] ?_ | refine k_draw 21 [] [(0, 0), (1, 0), (2, 0), (3, 0), (4, 4), (5, 0)] [6] ?_ | (refine k_cond (fun hc => ?_) (fun hc => ?_) <;> (try simp at hc) <;> (try omega)))
    exact k_ret rs' rfl trivial
end
end Go.Proofs.YtgaipgbgppdfeaaGreatDoor
