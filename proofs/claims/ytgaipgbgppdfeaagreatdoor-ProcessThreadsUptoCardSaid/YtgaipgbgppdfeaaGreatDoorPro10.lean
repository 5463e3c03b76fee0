/-
  Contracts of the package process over a view, where they succeed: Fork, Exit, Wait.
  Conditions: those that each theorem states.
-/
import Derived.Test.YtgaipgbgppdfeaaGreatDoorPro9
import Derived.Test.YtgaipgbgppdfeaaGreatDoorItoa
import Derived.Test.YtgaipgbgppdfeaaGreatDoorCat
set_option maxRecDepth 10000
namespace Go.Proofs.YtgaipgbgppdfeaaGreatDoor
open Go.RowKit

theorem isOrd_ok (k : Int) : Enters 178 ∧ Spec Tryz.prog 178 #[.int .i64 k] [] [] (RetV (.bool (decide (1 ≤ k) && decide (k ≤ 999999)))) := by
  refine ⟨enters_of Tryz.func178 (by kernel_rfl) rfl, spec_of (vs := [_]) Tryz.func178 rfl Tryz.ntmps178 rfl fun G w hp => ?_⟩
  repeat' (first | refine l_run ?_ | refine l_nil ?_ | refine l_one ?_ | refine k_reg ?_ | refine l_ld ?_ | refine l_ldF ?_ | refine l_st ?_ | refine l_al (fun b => ?_) | refine l_bs (fun b => ?_) | refine k_condT ?_ | refine k_condF ?_ | refine k_brk ?_ | (refine l_split (fun hc => ?_) (fun hc => ?_) <;> (try simp at hc)) | (refine k_cond (fun hc => ?_) (fun hc => ?_) <;> (try simp at hc)))
  all_goals (refine k_ret () ?_ trivial; simp_all [RetV, resV] <;> omega)
theorem depth_ok (s : ByteArray) (hs : s.size ≤ 1099511627776) : Enters 179 ∧ Spec Tryz.prog 179 #[.string s] [] [] (RetV (.int .i64 ((lords s.data.toList).length : Int))) := by
  have n1 := ordinals_ok s hs
  refine ⟨enters_of Tryz.func179 (by kernel_rfl) rfl, spec_of (vs := [_]) Tryz.func179 rfl Tryz.ntmps179 rfl fun G w hp => ?_⟩
  repeat' (first | refine l_run ?_ | refine l_nil ?_ | refine l_one ?_ | refine k_reg ?_ | refine l_ld ?_ | refine l_ldF ?_ | refine l_st ?_ | refine l_al (fun b => ?_) | refine l_bs (fun b => ?_) | refine k_condT ?_ | refine k_condF ?_ | refine k_brk ?_ | refine l_call (n1) (fun _ _ => ?_) | refine l_call0 (n1) (fun _ _ => ?_) | (refine l_split (fun hc => ?_) (fun hc => ?_) <;> (try simp at hc)) | (refine k_cond (fun hc => ?_) (fun hc => ?_) <;> (try simp at hc)))
  exact k_ret () rfl trivial
/-- The name of a child. -/
def chN (who : ByteArray) (k : Int) : ByteArray := who ++ ⟨#[46]⟩ ++ ⟨(Lib.itoa k).toArray⟩
theorem child_ok (who : ByteArray) (k : Int) (hv : lvalid who.data.toList = true) (hw : who.size ≤ 1000) (hk : 1 ≤ k ∧ k ≤ 999999) (hd : (lords who.data.toList).length ≠ 8) (hne : isE who = false) (hi : (Lib.itoa k).length ≤ 100) :
    Enters 110 ∧ Spec Tryz.prog 110 #[.string who, .int .i64 k] [P10] [] (RetV (.tuple #[.string (chN who k), .int .i64 0])) := by
  have n0 := valid_ok who (by omega)
  rw [hv] at n0
  have n1 := isOrd_ok k
  rw [show (decide (1 ≤ k) && decide (k ≤ 999999)) = true by simp; omega] at n1
  have n2 := depth_ok who (by omega)
  have n3 := itoa_ok k (by omega) (by omega)
  have hE : (who.toList == (⟨#[]⟩ : ByteArray).toList) = false := by rw [isE] at hne; exact hne
  have hD : (((lords who.data.toList).length : Int) == 8) = false := by rw [beq_eq_false_iff_ne]; omega
  have z1 : (⟨#[46]⟩ : ByteArray).size = 1 := rfl
  have z2 : (⟨(Lib.itoa k).toArray⟩ : ByteArray).size = (Lib.itoa k).length := by show (List.toArray _).size = _; rw [List.size_toArray]
  unfold chN
  generalize (⟨(Lib.itoa k).toArray⟩ : ByteArray) = I at *
  refine ⟨enters_of Tryz.func110 (by kernel_rfl) rfl, spec_of (vs := [_, _]) Tryz.func110 rfl Tryz.ntmps110 rfl fun G w hp => ?_⟩
  repeat' (first | refine l_run ?_ | refine l_nil ?_ | refine l_one ?_ | refine k_reg ?_ | refine l_ld ?_ | refine l_ldF ?_ | refine l_st ?_ | refine l_al (fun b => ?_) | refine l_bs (fun b => ?_) | refine k_condT ?_ | refine k_condF ?_ | refine k_brk ?_ | refine l_call (n0) (fun _ _ => ?_) | refine l_call0 (n0) (fun _ _ => ?_) | refine l_call (n1) (fun _ _ => ?_) | refine l_call0 (n1) (fun _ _ => ?_) | refine l_call (n2) (fun _ _ => ?_) | refine l_call0 (n2) (fun _ _ => ?_) | refine l_call (n3) (fun _ _ => ?_) | refine l_call0 (n3) (fun _ _ => ?_) | rw [hE] | rw [hD] | refine l_cat ?_ (h := by rw [z1]; omega) | refine l_cat ?_ (h := by rw [ByteArray.size_append, z1, z2]; omega) | (refine l_split (fun hc => ?_) (fun hc => ?_) <;> (try simp at hc) <;> (try omega)) | (refine k_cond (fun hc => ?_) (fun hc => ?_) <;> (try simp at hc) <;> (try omega)))
  exact k_ret () rfl trivial
section
variable (b : Nat) (ps : Option Addr) (es : Al) (rs : List (Nm × Ch)) (cs : List Ch) (who : ByteArray) (p : Pr)
theorem owner_ok (o : Option Addr) (c : Nat) (h : p.sp = who) : Enters 115 ∧ Spec Tryz.prog 115 #[.pointer (some ⟨b, 0, none⟩), .string who, p.v o c] [] [] (RetV (.tuple #[p.v o c, .int .i64 0])) := by
  obtain ⟨a1, a2, a3, a4, a5, gs, a7, a8, a9, a10⟩ := p
  dsimp only at h
  subst h
  have hE : (a7.toList == a7.toList) = true := by simp
  refine ⟨enters_of Tryz.func115 (by kernel_rfl) rfl, spec_of (vs := [_, _, _]) Tryz.func115 rfl Tryz.ntmps115 rfl fun G w hp => ?_⟩
  repeat' (first | refine l_run ?_ | refine l_nil ?_ | refine l_one ?_ | refine k_reg ?_ | refine l_ld ?_ | refine l_ldF ?_ | refine l_st ?_ | refine l_al (fun b => ?_) | refine l_bs (fun b => ?_) | refine k_condT ?_ | refine k_condF ?_ | refine k_brk ?_ | rw [hE] | (refine l_split (fun hc => ?_) (fun hc => ?_) <;> (try simp at hc) <;> (try omega)) | (refine k_cond (fun hc => ?_) (fun hc => ?_) <;> (try simp at hc) <;> (try omega)))
  exact k_ret () rfl trivial
/-- What Exit changes. -/
theorem exitF_ok (bx bc : Nat) (o : Option Addr) (c : Nat) (k : Int) (hk : 0 ≤ k ∧ k ≤ 410) : Enters 75 ∧ Spec Tryz.prog 75 #[.pointer (some ⟨bx, 0, none⟩), .pointer (some ⟨bc, 0, none⟩)] []
    [Pt bx (.cells (prf p o c).toArray 80), Pt bc (.cells #[.int .i64 k] 3)] ⟨Unit, fun _ => .int .i64 0, fun _ => True, fun _ => [], fun _ => [Pt bx (.cells (prf { p with st := 2, cd := k } o c).toArray 80), Pt bc (.cells #[.int .i64 k] 3)]⟩ := by
  have n1 := pin_ok k 410
  rw [show (decide (0 ≤ k) && decide (k ≤ 410)) = true by simp; omega] at n1
  obtain ⟨a1, a2, a3, a4, a5, gs, a7, a8, a9, a10⟩ := p
  unfold prf
  refine ⟨enters_of Tryz.func75 (by kernel_rfl) rfl, spec_of (vs := [_, _]) Tryz.func75 rfl Tryz.ntmps75 rfl fun G w hp => ?_⟩
  repeat' (first | refine l_run ?_ | refine l_nil ?_ | refine l_one ?_ | refine k_reg ?_ | refine l_ld ?_ | refine l_ldF ?_ | refine l_st ?_ | refine l_al (fun b => ?_) | refine l_bs (fun b => ?_) | refine k_condT ?_ | refine k_condF ?_ | refine k_brk ?_ | refine r_run ?_ | refine r_one ?_ | refine r_ld ?_ | refine r_ldF ?_ | refine r_ldN ?_ | refine r_al (fun b => ?_) | refine r_bs (fun b => ?_) | refine r_st ?_ | refine r_end ?_ | refine l_call (n1) (fun _ _ => ?_) | refine l_call0 (n1) (fun _ _ => ?_) | refine r_call (n1) (fun _ _ => ?_) | (refine l_split (fun hc => ?_) (fun hc => ?_) <;> (try simp at hc) <;> (try omega)) | (refine r_split (fun hc => ?_) (fun hc => ?_) <;> (try simp at hc) <;> (try omega)) | refine k_draw 3 [Pt bx (.cells _ 80 _)] [(0, 0), (1, 0), (2, 0), (3, 0), (4, 0), (5, 4), (6, 0), (7, 0), (8, 4)] [] ?_ | (refine k_cond (fun hc => ?_) (fun hc => ?_) <;> (try simp at hc) <;> (try omega)))
  exact k_ret () rfl trivial
set_option maxHeartbeats 1000000 in
theorem proExit_ok (h : PrAt es cs who p) (hr : p.st = 1) (k : Int) (hk : 0 ≤ k ∧ k ≤ 410) (hc : pchk { p with st := 2, cd := k } = 0) (hl : cs.length ≤ 1000000) : Enters 23 ∧ Spec Tryz.prog 23 #[.pointer (some ⟨b, 0, none⟩), .string who, .int .i64 k] [St ps es, Usg] [Vw b ps rs cs]
    ⟨Unit, fun _ => .int .i64 0, fun _ => True, fun _ => [], fun _ => [Vw b ps (pgR es rs cs who) (cs ++ [⟨pnm who, pencS { p with st := 2, cd := k }, false⟩])]⟩ := by
  have n1 := running_ok b ps es rs cs who p h hr
  have n2 := fun bx bc o c => exitF_ok p bx bc o c k hk
  have n3 := fun o c => proPut_ok b ps (pgR es rs cs who) cs who { p with st := 2, cd := k } o c hc h.s h.d h.w h.v hl
  generalize pgR es rs cs who = rs2 at *
  generalize pencS { p with st := 2, cd := k } = S at *
  have hch : ∀ bc : Nat, Enters 74 ∧ Spec Tryz.prog 74 #[.pointer (some ⟨b, 0, none⟩), .string who, .func (.func 75) #[] #[.pointer (some ⟨bc, 0, none⟩)]] [St ps es, Usg] [Vw b ps rs cs, Pt bc (.cells #[.int .i64 k] 3)]
      ⟨Unit, fun _ => .int .i64 0, fun _ => True, fun _ => [], fun _ => [Vw b ps rs2 (cs ++ [⟨pnm who, S, false⟩])]⟩ := fun bc => by
    obtain ⟨a1, a2, a3, a4, a5, gs, a7, a8, a9, a10⟩ := p
    dsimp only at *
    simp only [Pr.v, prf] at n1 n2 n3
    generalize b = bv at *
    refine ⟨enters_of Tryz.func74 (by kernel_rfl) rfl, spec_of (vs := [_, _, _]) Tryz.func74 rfl Tryz.ntmps74 rfl fun G w hp => ?_⟩
    repeat' (first | refine l_run ?_ | refine l_nil ?_ | refine l_one ?_ | refine k_reg ?_ | refine l_ld ?_ | refine l_ldF ?_ | refine l_st ?_ | refine l_al (fun b => ?_) | refine l_bs (fun b => ?_) | refine k_condT ?_ | refine k_condF ?_ | refine k_brk ?_ | refine l_call (n1) (fun _ _ => ?_) | refine l_call0 (n1) (fun _ _ => ?_) | refine l_call (n3 _ _) (fun _ _ => ?_) | refine l_call0 (n3 _ _) (fun _ _ => ?_) | refine l_callF (n2 _ _ _ _) (fun _ _ => ?_) | (refine l_split (fun hc => ?_) (fun hc => ?_) <;> (try simp at hc) <;> (try omega)) | (refine k_cond (fun hc => ?_) (fun hc => ?_) <;> (try simp at hc) <;> (try omega)))
    exact k_ret () rfl trivial
  generalize b = bv at *
  refine ⟨enters_of Tryz.func23 (by kernel_rfl) rfl, spec_of (vs := [_, _, _]) Tryz.func23 rfl Tryz.ntmps23 rfl fun G w hp => ?_⟩
  repeat' (first | refine l_run ?_ | refine l_nil ?_ | refine l_one ?_ | refine k_reg ?_ | refine l_ld ?_ | refine l_ldF ?_ | refine l_st ?_ | refine l_al (fun b => ?_) | refine l_bs (fun b => ?_) | refine k_condT ?_ | refine k_condF ?_ | refine k_brk ?_ | refine l_call (hch _) (fun _ _ => ?_) | refine l_call0 (hch _) (fun _ _ => ?_) | (refine l_split (fun hc => ?_) (fun hc => ?_) <;> (try simp at hc) <;> (try omega)) | (refine k_cond (fun hc => ?_) (fun hc => ?_) <;> (try simp at hc) <;> (try omega)))
  exact k_ret () rfl trivial
/-- A child that runs is waited for in vain. -/
theorem proWait_ok (h : PrAt es cs who p) (c : Ct) (hm : madeE es cs who = (c, 0)) (hmv : (vget es cs (cnm who)).1.size ≤ 1099511627776) (k : Int) (hk : 1 ≤ k ∧ k ≤ c.c) (hk2 : k ≤ 999999) (hd : (lords who.data.toList).length ≠ 8) (hne : isE who = false) (hi : (Lib.itoa k).length ≤ 100) (q : Pr)
    (hq : PrAt es cs (chN who k) q) (hl : cs.length ≤ 1000000) (hc : q.st = 2 → pchk { q with st := 3 } = 0) :
    Enters 53 ∧ Spec Tryz.prog 53 #[.pointer (some ⟨b, 0, none⟩), .string who, .int .i64 k] [St ps es, Usg, P10] [Vw b ps rs cs]
      ⟨Unit, fun _ => .tuple #[.int .i64 (if q.st = 2 then q.cd else 0), .int .i64 (if q.st = 1 then 19 else if q.st = 3 then 10 else 0)], fun _ => True, fun _ => [], fun _ => [Vw b ps (pgR es (madeR es (pgR es rs cs who) cs who) cs (chN who k)) (if q.st = 2 then cs ++ [⟨pnm (chN who k), pencS { q with st := 3 }, false⟩] else cs)]⟩ := by
  have hw := h.w
  have n1 := proGet_ok b ps es rs cs who p h
  have n2 := made_ok b ps es (pgR es rs cs who) cs who (by omega) hmv
  rw [hm] at n2
  have n3 := child_ok who k h.v hw ⟨hk.1, hk2⟩ hd hne hi
  have n4 := proGet_ok b ps es (madeR es (pgR es rs cs who) cs who) cs (chN who k) q hq
  have n5 := fun o c hc => proPut_ok b ps (pgR es (madeR es (pgR es rs cs who) cs who) cs (chN who k)) cs (chN who k) { q with st := 3 } o c hc hq.s hq.d hq.w hq.v hl
  have hst : 1 ≤ q.st ∧ q.st ≤ 3 := by
    obtain ⟨q1, q2, q3, q4, q5, q6⟩ := pchk_zero hq.c
    omega
  generalize pencS { q with st := 3 } = S at *
  generalize pgR es (madeR es (pgR es rs cs who) cs who) cs (chN who k) = rs4 at *
  generalize madeR es (pgR es rs cs who) cs who = rs3 at *
  generalize pgR es rs cs who = rs2 at *
  generalize chN who k = ch at *
  clear h hq
  obtain ⟨c1, c2, c3⟩ := c
  obtain ⟨a1, a2, a3, a4, a5, gs, a7, a8, a9, a10⟩ := q
  dsimp only at *
  simp only [Pr.v] at n4 n5
  rcases (show a2 = 1 ∨ a2 = 2 ∨ a2 = 3 by omega) with rfl | rfl | rfl
  · refine ⟨enters_of Tryz.func53 (by kernel_rfl) rfl, spec_of (vs := [_, _, _]) Tryz.func53 rfl Tryz.ntmps53 rfl fun G w hp => ?_⟩
    repeat' (first | refine l_run ?_ | refine l_nil ?_ | refine l_one ?_ | refine k_reg ?_ | refine l_ld ?_ | refine l_ldF ?_ | refine l_st ?_ | refine l_al (fun b => ?_) | refine l_bs (fun b => ?_) | refine k_condT ?_ | refine k_condF ?_ | refine k_brk ?_ | refine l_call (n1) (fun _ _ => ?_) | refine l_call0 (n1) (fun _ _ => ?_) | refine l_call (n2) (fun _ _ => ?_) | refine l_call0 (n2) (fun _ _ => ?_) | refine l_call (n3) (fun _ _ => ?_) | refine l_call0 (n3) (fun _ _ => ?_) | refine l_call (n4) (fun _ _ => ?_) | refine l_call0 (n4) (fun _ _ => ?_) | (refine l_split (fun hc => ?_) (fun hc => ?_) <;> (try simp at hc) <;> (try omega)) | (refine k_cond (fun hc => ?_) (fun hc => ?_) <;> (try simp at hc) <;> (try omega)))
    exact k_ret () rfl trivial
  · have n6 := fun o c => n5 o c (hc rfl)
    refine ⟨enters_of Tryz.func53 (by kernel_rfl) rfl, spec_of (vs := [_, _, _]) Tryz.func53 rfl Tryz.ntmps53 rfl fun G w hp => ?_⟩
    repeat' (first | refine l_run ?_ | refine l_nil ?_ | refine l_one ?_ | refine k_reg ?_ | refine l_ld ?_ | refine l_ldF ?_ | refine l_st ?_ | refine l_al (fun b => ?_) | refine l_bs (fun b => ?_) | refine k_condT ?_ | refine k_condF ?_ | refine k_brk ?_ | refine l_call (n1) (fun _ _ => ?_) | refine l_call0 (n1) (fun _ _ => ?_) | refine l_call (n2) (fun _ _ => ?_) | refine l_call0 (n2) (fun _ _ => ?_) | refine l_call (n3) (fun _ _ => ?_) | refine l_call0 (n3) (fun _ _ => ?_) | refine l_call (n4) (fun _ _ => ?_) | refine l_call0 (n4) (fun _ _ => ?_) | refine l_call (n6 _ _) (fun _ _ => ?_) | refine l_call0 (n6 _ _) (fun _ _ => ?_) | (refine l_split (fun hc => ?_) (fun hc => ?_) <;> (try simp at hc) <;> (try omega)) | (refine k_cond (fun hc => ?_) (fun hc => ?_) <;> (try simp at hc) <;> (try omega)))
    exact k_ret () rfl trivial
  · refine ⟨enters_of Tryz.func53 (by kernel_rfl) rfl, spec_of (vs := [_, _, _]) Tryz.func53 rfl Tryz.ntmps53 rfl fun G w hp => ?_⟩
    repeat' (first | refine l_run ?_ | refine l_nil ?_ | refine l_one ?_ | refine k_reg ?_ | refine l_ld ?_ | refine l_ldF ?_ | refine l_st ?_ | refine l_al (fun b => ?_) | refine l_bs (fun b => ?_) | refine k_condT ?_ | refine k_condF ?_ | refine k_brk ?_ | refine l_call (n1) (fun _ _ => ?_) | refine l_call0 (n1) (fun _ _ => ?_) | refine l_call (n2) (fun _ _ => ?_) | refine l_call0 (n2) (fun _ _ => ?_) | refine l_call (n3) (fun _ _ => ?_) | refine l_call0 (n3) (fun _ _ => ?_) | refine l_call (n4) (fun _ _ => ?_) | refine l_call0 (n4) (fun _ _ => ?_) | (refine l_split (fun hc => ?_) (fun hc => ?_) <;> (try simp at hc) <;> (try omega)) | (refine k_cond (fun hc => ?_) (fun hc => ?_) <;> (try simp at hc) <;> (try omega)))
    exact k_ret () rfl trivial
end
end Go.Proofs.YtgaipgbgppdfeaaGreatDoor
