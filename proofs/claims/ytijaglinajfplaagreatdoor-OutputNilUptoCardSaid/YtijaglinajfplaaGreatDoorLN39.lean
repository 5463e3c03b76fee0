/-
  The law OutputNil, walked.
  Conditions: those that each theorem states.
-/
import Derived.Test.YtijaglinajfplaaGreatDoorNilC
import Derived.Test.YtijaglinajfplaaGreatDoorLG39
set_option maxRecDepth 10000
namespace Go.Proofs.YtijaglinajfplaaGreatDoor
open Go.RowKit

theorem sendName_ok (b : Nat) (w : ByteArray) (t : Int) (o : Ou) (hw : w.size ≤ 1099511627776) (hv : lvalid w.data.toList = false) : Enters 68 ∧ Spec Tryz.prog 68 #[.pointer (some ⟨b, 0, none⟩), .string w, .int .i64 t, o.v] [] [] (RetV (.tuple #[.int .i64 0, .int .i64 12])) := by
  have n1 := valid_ok w hw
  rw [hv] at n1
  refine ⟨enters_of Tryz.func68 (by kernel_rfl) rfl, spec_of (vs := [_, _, _, _]) Tryz.func68 rfl Tryz.ntmps68 rfl fun G w hp => ?_⟩
  repeat' (first | refine l_run ?_ | refine l_nil ?_ | refine l_one ?_ | refine k_reg ?_ | refine l_ld ?_ | refine l_ldF ?_ | refine l_st ?_ | refine l_al (fun b => ?_) | refine l_bs (fun b => ?_) | refine k_condT ?_ | refine k_condF ?_ | refine k_brk ?_ | refine l_call (n1) (fun _ _ => ?_) | refine l_call0 (n1) (fun _ _ => ?_) | (refine l_split (fun hc => ?_) (fun hc => ?_) <;> (try simp at hc) <;> (try omega)) | (refine k_cond (fun hc => ?_) (fun hc => ?_) <;> (try simp at hc) <;> (try omega)))
  exact k_ret () rfl trivial
theorem sendLim_ok (b : Nat) (ps : Option Addr) (es : Al) (rs : List (Nm × Ch)) (cs : List Ch) (who : ByteArray) (tk : Int) (o : Ou) (c : Ct) (hw : who.size ≤ 1099511627770) (hlv : lvalid who.data.toList = true) (hv : (vget es cs (cnm who)).1.size ≤ 1099511627776)
    (ho : ochk o = 0) (ht : (decide (0 ≤ tk) && decide (tk ≤ 1073741824)) = true) (hm : madeE es cs who = (c, 0)) (hco : c.o = 1048576) :
    Enters 68 ∧ Spec Tryz.prog 68 #[.pointer (some ⟨b, 0, none⟩), .string who, .int .i64 tk, o.v] [St ps es, Usg] [Vw b ps rs cs] ⟨Unit, fun _ => .tuple #[.int .i64 0, .int .i64 9], fun _ => True, fun _ => [], fun _ => [Vw b ps (madeR es rs cs who) cs]⟩ := by
  have n1 := valid_ok who (by omega)
  rw [hlv] at n1
  have n2 := outCheck_ok o
  rw [ho] at n2
  have n3 := isTick_ok tk
  rw [ht] at n3
  have n4 := made_ok b ps es rs cs who hw hv
  rw [hm] at n4
  have b1 : (c.o == 1048576) = true := by simp [hco]
  refine ⟨enters_of Tryz.func68 (by kernel_rfl) rfl, spec_of (vs := [_, _, _, _]) Tryz.func68 rfl Tryz.ntmps68 rfl fun G w hp => ?_⟩
  repeat' (first | refine l_run ?_ | refine l_nil ?_ | refine l_one ?_ | refine k_reg ?_ | refine l_ld ?_ | refine l_ldF ?_ | refine l_st ?_ | refine l_al (fun b => ?_) | refine l_bs (fun b => ?_) | refine k_condT ?_ | refine k_condF ?_ | refine k_brk ?_ | refine l_call (n1) (fun _ _ => ?_) | refine l_call0 (n1) (fun _ _ => ?_) | refine l_call (n2) (fun _ _ => ?_) | refine l_call0 (n2) (fun _ _ => ?_) | refine l_call (n3) (fun _ _ => ?_) | refine l_call0 (n3) (fun _ _ => ?_) | refine l_call (n4) (fun _ _ => ?_) | refine l_call0 (n4) (fun _ _ => ?_) | rw [b1] | (refine l_split (fun hc => ?_) (fun hc => ?_) <;> (try simp at hc) <;> (try omega)) | (refine k_cond (fun hc => ?_) (fun hc => ?_) <;> (try simp at hc) <;> (try omega)))
  exact k_ret () rfl trivial
theorem count_ok (b : Nat) (ps : Option Addr) (es : Al) (rs : List (Nm × Ch)) (cs : List Ch) (who : ByteArray) (hw : who.size ≤ 1099511627770) (hv : (vget es cs (cnm who)).1.size ≤ 1099511627776) :
    Enters 70 ∧ Spec Tryz.prog 70 #[.pointer (some ⟨b, 0, none⟩), .string who] [St ps es, Usg] [Vw b ps rs cs] ⟨Unit, fun _ => .int .i64 (if (madeE es cs who).2 = 0 then (madeE es cs who).1.o else 0), fun _ => True, fun _ => [], fun _ => [Vw b ps (madeR es rs cs who) cs]⟩ := by
  have n4 := made_ok b ps es rs cs who hw hv
  generalize madeE es cs who = m at *
  obtain ⟨c, e⟩ := m
  dsimp only at n4 ⊢
  by_cases h : e = 0
  · subst h
    refine ⟨enters_of Tryz.func70 (by kernel_rfl) rfl, spec_of (vs := [_, _]) Tryz.func70 rfl Tryz.ntmps70 rfl fun G w hp => ?_⟩
    repeat' (first | refine l_run ?_ | refine l_nil ?_ | refine l_one ?_ | refine k_reg ?_ | refine l_ld ?_ | refine l_ldF ?_ | refine l_st ?_ | refine l_al (fun b => ?_) | refine l_bs (fun b => ?_) | refine k_condT ?_ | refine k_condF ?_ | refine k_brk ?_ | refine l_call (n4) (fun _ _ => ?_) | refine l_call0 (n4) (fun _ _ => ?_) | (refine l_split (fun hc => ?_) (fun hc => ?_) <;> (try simp at hc) <;> (try omega)) | (refine k_cond (fun hc => ?_) (fun hc => ?_) <;> (try simp at hc) <;> (try omega)))
    exact k_ret () rfl trivial
  · rw [if_neg h]
    refine ⟨enters_of Tryz.func70 (by kernel_rfl) rfl, spec_of (vs := [_, _]) Tryz.func70 rfl Tryz.ntmps70 rfl fun G w hp => ?_⟩
    repeat' (first | refine l_run ?_ | refine l_nil ?_ | refine l_one ?_ | refine k_reg ?_ | refine l_ld ?_ | refine l_ldF ?_ | refine l_st ?_ | refine l_al (fun b => ?_) | refine l_bs (fun b => ?_) | refine k_condT ?_ | refine k_condF ?_ | refine k_brk ?_ | refine l_call (n4) (fun _ _ => ?_) | refine l_call0 (n4) (fun _ _ => ?_) | (refine l_split (fun hc => ?_) (fun hc => ?_) <;> (try simp at hc) <;> (try omega)) | (refine k_cond (fun hc => ?_) (fun hc => ?_) <;> (try simp at hc) <;> (try omega)))
    exact k_ret () rfl trivial

theorem vget00 (n : Nm) : vget [] [] n = (⟨#[]⟩, false) := by
  unfold vget
  split
  · rfl
  · rfl
def kO : Ou := ⟨1, ⟨#[97]⟩, ⟨#[]⟩, 0⟩
theorem kO_chk : ochk kO = 0 := by
  have h1 : isE kO.tg = false := by simp [kO, isE, toList_data]
  have h3 : (kO.tg.data.toList.any bad2) = false := by simp [kO, bad2]
  unfold ochk
  rw [if_neg (by simp [kO]), if_neg (by simp [h1]), if_neg (by show ¬ 64 < (ByteArray.mk #[97]).size; decide), if_neg (by simp [h3]), if_neg (by show ¬ 4096 < (ByteArray.mk #[]).size; decide), if_neg (by simp [kO])]
def kN (full : Bool) : Ct := ⟨0, if full then 1048576 else 1048575, 0⟩
theorem kN_ok (full : Bool) : CtOK (kN full) := by cases full <;> constructor <;> decide
theorem vgetN {who : ByteArray} (hv : lvalid who.data.toList = true) (c : Ct) : vget [] [⟨cnm who, cvl c, false⟩] (cnm who) = (cvl c, true) := by
  unfold vget
  rw [if_neg (by simp [cnm_chk hv])]
  have h : vcall [⟨cnm who, cvl c, false⟩] (cnm who) = some ⟨cnm who, cvl c, false⟩ := by
    show vcall ([] ++ [⟨cnm who, cvl c, false⟩]) (cnm who) = _
    rw [vcall_snoc, if_pos rfl]
  rw [h]; rfl
theorem madeN {who : ByteArray} (hv : lvalid who.data.toList = true) {c : Ct} (hc : CtOK c) : madeE [] [⟨cnm who, cvl c, false⟩] who = (c, 0) := by
  unfold madeE
  rw [if_pos hv, vgetN hv]
  simp [cvl, cdec_enc hc]

set_option maxHeartbeats 8000000 in
theorem lawONil_ok (x : Lf) (by0 : ByteArray) (full : Bool) (hx : x.e.who.size ≤ 1099511627776) :
    Enters 14 ∧ Spec Tryz.prog 14 #[x.v, .string by0, .bool full] [Usg] [] (RetV (.bool true)) := by
  have n1 := short_ok x
  have hw := cutS_size by0 80
  have n2 := nLeave_ok (shL x)
  have n3 := nGet_ok 0
  have n4 := nFind_ok (shL x).e.who (shL x).e.nu (shL x).e.tk
  have n5 := nSend_ok (cutS by0 80) 0 (shL x).e.o
  have n6 := nCount_ok (cutS by0 80)
  have n7 := fun b c => lgEqual_ok b c [] [] (by simp) (by simp)
  rw [decide_eq_true (show ([] : List Lf) = [] from rfl)] at n7
  refine ⟨enters_of Tryz.func14 (by kernel_rfl) rfl, spec_of (vs := [_, _, _]) Tryz.func14 rfl Tryz.ntmps14 rfl fun G w hp => ?_⟩
  repeat' (first | refine l_run ?_ | refine l_nil ?_ | refine l_one ?_ | refine k_reg ?_ | refine l_ld ?_ | refine l_ldF ?_ | refine l_st ?_ | refine l_al (fun b => ?_) | refine l_bs (fun b => ?_) | refine k_condT ?_ | refine k_condF ?_ | refine k_brk ?_ | refine r_run ?_ | refine r_one ?_ | refine r_ld ?_ | refine r_ldF ?_ | refine r_ldN ?_ | refine r_al (fun b => ?_) | refine r_bs (fun b => ?_) | refine r_st ?_ | refine r_end ?_ | refine l_call (n1) (fun _ _ => ?_) | refine l_call0 (n1) (fun _ _ => ?_) | refine r_call (n1) (fun _ _ => ?_) | refine l_call (n2) (fun _ _ => ?_) | refine l_call0 (n2) (fun _ _ => ?_) | refine r_call (n2) (fun _ _ => ?_) | refine l_call (n3) (fun _ _ => ?_) | refine l_call0 (n3) (fun _ _ => ?_) | refine r_call (n3) (fun _ _ => ?_) | refine l_call (n4) (fun _ _ => ?_) | refine l_call0 (n4) (fun _ _ => ?_) | refine r_call (n4) (fun _ _ => ?_) | refine l_call (n5) (fun _ _ => ?_) | refine l_call0 (n5) (fun _ _ => ?_) | refine r_call (n5) (fun _ _ => ?_) | refine r_cutS 80 ?_ | refine r_up ?_ | (refine l_split (fun hc => ?_) (fun hc => ?_) <;> (try simp at hc)) | (refine r_split (fun hc => ?_) (fun hc => ?_) <;> (try simp at hc)) | refine k_draw 1 [Pt _ (.cells _ 80 _)] [(2, 0), (3, 0), (4, 0), (5, 0), (6, 0), (0, 3), (1, 4), (7, 4), (8, 0)] [] ?_ | (refine k_cond (fun hc => ?_) (fun hc => ?_) <;> (try simp at hc)))
  refine l_shut (Lx := []) (r := Row 80 9 none 0 0 []) (fun h _ => row_nil _ _ h) ?_
  refine l_shut (Lx := LgL b [] (none, 0)) (r := Lg b []) (fun h hh => ⟨(none, 0), trivial, hh⟩) ?_
  have p1 := valid_ok (cutS by0 80) (by omega)
  have hv0 : (vget [] [] (cnm (cutS by0 80))).1.size ≤ 1099511627776 := by rw [vget00]; exact Nat.zero_le _
  cases hv : lvalid (cutS by0 80).data.toList with
  | false =>
    rw [hv] at p1
    have p2 := fun b => sendName_ok b (cutS by0 80) 0 kO (by omega) hv
    have p3 := fun b ps => count_ok b (some ⟨ps, 0, none⟩) [] [] [] (cutS by0 80) (by omega) hv0
    rw [show madeE [] [] (cutS by0 80) = (Ct.z, 12) by simp [madeE, hv]] at p3
    repeat' (first | refine l_lgz ?_ | refine l_run ?_ | refine l_nil ?_ | refine l_one ?_ | refine k_reg ?_ | refine l_ld ?_ | refine l_ldF ?_ | refine l_st ?_ | refine l_al (fun b => ?_) | refine l_bs (fun b => ?_) | refine k_condT ?_ | refine k_condF ?_ | refine k_brk ?_ | refine r_run ?_ | refine r_one ?_ | refine r_ld ?_ | refine r_ldF ?_ | refine r_ldN ?_ | refine r_al (fun b => ?_) | refine r_bs (fun b => ?_) | refine r_st ?_ | refine r_end ?_ | refine l_call (known39_ok) (fun _ _ => ?_) | refine l_call0 (known39_ok) (fun _ _ => ?_) | refine r_call (known39_ok) (fun _ _ => ?_) | refine l_call (nLen_ok) (fun _ _ => ?_) | refine l_call0 (nLen_ok) (fun _ _ => ?_) | refine r_call (nLen_ok) (fun _ _ => ?_) | refine l_call (stateNew_ok) (fun _ _ => ?_) | refine l_call0 (stateNew_ok) (fun _ _ => ?_) | refine r_call (stateNew_ok) (fun _ _ => ?_) | refine l_call (nWaiting_ok _) (fun _ _ => ?_) | refine l_call0 (nWaiting_ok _) (fun _ _ => ?_) | refine r_call (nWaiting_ok _) (fun _ _ => ?_) | refine l_call (nEncode_ok) (fun _ _ => ?_) | refine l_call0 (nEncode_ok) (fun _ _ => ?_) | refine r_call (nEncode_ok) (fun _ _ => ?_) | refine l_call (nClone_ok) (fun _ _ => ?_) | refine l_call0 (nClone_ok) (fun _ _ => ?_) | refine r_call (nClone_ok) (fun _ _ => ?_) | refine l_call (nPrefix1_ok _) (fun _ _ => ?_) | refine l_call0 (nPrefix1_ok _) (fun _ _ => ?_) | refine r_call (nPrefix1_ok _) (fun _ _ => ?_) | refine l_call (nPrefix2_ok _) (fun _ _ => ?_) | refine l_call0 (nPrefix2_ok _) (fun _ _ => ?_) | refine r_call (nPrefix2_ok _) (fun _ _ => ?_) | refine l_call (nEqual_ok) (fun _ _ => ?_) | refine l_call0 (nEqual_ok) (fun _ _ => ?_) | refine r_call (nEqual_ok) (fun _ _ => ?_) | refine l_call (nEqual1_ok _) (fun _ _ => ?_) | refine l_call0 (nEqual1_ok _) (fun _ _ => ?_) | refine r_call (nEqual1_ok _) (fun _ _ => ?_) | refine l_call (nEqual2_ok _) (fun _ _ => ?_) | refine l_call0 (nEqual2_ok _) (fun _ _ => ?_) | refine r_call (nEqual2_ok _) (fun _ _ => ?_) | refine l_call (newLedger_ok) (fun _ _ => ?_) | refine l_call0 (newLedger_ok) (fun _ _ => ?_) | refine r_call (newLedger_ok) (fun _ _ => ?_) | refine l_call (n7 _ _) (fun _ _ => ?_) | refine l_call0 (n7 _ _) (fun _ _ => ?_) | refine r_call (n7 _ _) (fun _ _ => ?_) | refine l_call (nOutAll_ok) (fun _ _ => ?_) | refine l_call0 (nOutAll_ok) (fun _ _ => ?_) | refine r_call (nOutAll_ok) (fun _ _ => ?_) | refine l_call (n6) (fun _ _ => ?_) | refine l_call0 (n6) (fun _ _ => ?_) | refine r_call (n6) (fun _ _ => ?_) | refine l_call (p1) (fun _ _ => ?_) | refine l_call0 (p1) (fun _ _ => ?_) | refine r_call (p1) (fun _ _ => ?_) | refine l_call (p2 _) (fun _ _ => ?_) | refine l_call0 (p2 _) (fun _ _ => ?_) | refine r_call (p2 _) (fun _ _ => ?_) | refine l_call (p3 _ _) (fun _ _ => ?_) | refine l_call0 (p3 _ _) (fun _ _ => ?_) | refine r_call (p3 _ _) (fun _ _ => ?_) | refine l_call (viewNew_ok _) (fun _ _ => ?_) | refine l_call0 (viewNew_ok _) (fun _ _ => ?_) | refine r_call (viewNew_ok _) (fun _ _ => ?_) | (refine l_split (fun hc => ?_) (fun hc => ?_) <;> (try simp at hc)) | (refine r_split (fun hc => ?_) (fun hc => ?_) <;> (try simp at hc)) | refine k_draw 1 [] [(0, 0), (2, 0), (3, 0), (4, 0), (5, 0), (6, 0), (1, 4), (7, 4), (8, 0)] [] ?_ | (refine k_cond (fun hc => ?_) (fun hc => ?_) <;> (try simp at hc)))
    all_goals refine k_ret () ?_ trivial
    all_goals simp [RetV, resV]
  | true =>
    rw [hv] at p1
    have c1 := cnm_chk hv
    have hcl := cenc_len (kN_ok full)
    have p2 := fun b ps => setMade_ok b (some ⟨ps, 0, none⟩) [] [] (cutS by0 80) (kN full) (by omega) hv (kN_ok full) (by simp)
    have e1 : vset [] (cnm (cutS by0 80)) ⟨(cenc (kN full)).toArray⟩ = (0, [⟨cnm (cutS by0 80), cvl (kN full), false⟩]) := by
      unfold vset
      rw [if_neg (by simp [c1]), if_neg (by show ¬ 65536 < (cenc (kN full)).toArray.size; rw [List.size_toArray]; omega)]
      rfl
    rw [e1] at p2
    have hvs : (vget [] [⟨cnm (cutS by0 80), cvl (kN full), false⟩] (cnm (cutS by0 80))).1.size ≤ 1099511627776 := by
      rw [vgetN hv]
      show (cenc (kN full)).toArray.size ≤ _
      rw [List.size_toArray]; omega
    cases full with
    | true =>
      have p3 := fun b ps => sendLim_ok b (some ⟨ps, 0, none⟩) [] [] [⟨cnm (cutS by0 80), cvl (kN true), false⟩] (cutS by0 80) 0 kO (kN true) (by omega) hv hvs kO_chk rfl (madeN hv (kN_ok true)) rfl
      repeat' (first | refine l_lgz ?_ | refine l_run ?_ | refine l_nil ?_ | refine l_one ?_ | refine k_reg ?_ | refine l_ld ?_ | refine l_ldF ?_ | refine l_st ?_ | refine l_al (fun b => ?_) | refine l_bs (fun b => ?_) | refine k_condT ?_ | refine k_condF ?_ | refine k_brk ?_ | refine r_run ?_ | refine r_one ?_ | refine r_ld ?_ | refine r_ldF ?_ | refine r_ldN ?_ | refine r_al (fun b => ?_) | refine r_bs (fun b => ?_) | refine r_st ?_ | refine r_end ?_ | refine l_call (known39_ok) (fun _ _ => ?_) | refine l_call0 (known39_ok) (fun _ _ => ?_) | refine r_call (known39_ok) (fun _ _ => ?_) | refine l_call (nLen_ok) (fun _ _ => ?_) | refine l_call0 (nLen_ok) (fun _ _ => ?_) | refine r_call (nLen_ok) (fun _ _ => ?_) | refine l_call (stateNew_ok) (fun _ _ => ?_) | refine l_call0 (stateNew_ok) (fun _ _ => ?_) | refine r_call (stateNew_ok) (fun _ _ => ?_) | refine l_call (nWaiting_ok _) (fun _ _ => ?_) | refine l_call0 (nWaiting_ok _) (fun _ _ => ?_) | refine r_call (nWaiting_ok _) (fun _ _ => ?_) | refine l_call (nEncode_ok) (fun _ _ => ?_) | refine l_call0 (nEncode_ok) (fun _ _ => ?_) | refine r_call (nEncode_ok) (fun _ _ => ?_) | refine l_call (nClone_ok) (fun _ _ => ?_) | refine l_call0 (nClone_ok) (fun _ _ => ?_) | refine r_call (nClone_ok) (fun _ _ => ?_) | refine l_call (nPrefix1_ok _) (fun _ _ => ?_) | refine l_call0 (nPrefix1_ok _) (fun _ _ => ?_) | refine r_call (nPrefix1_ok _) (fun _ _ => ?_) | refine l_call (nPrefix2_ok _) (fun _ _ => ?_) | refine l_call0 (nPrefix2_ok _) (fun _ _ => ?_) | refine r_call (nPrefix2_ok _) (fun _ _ => ?_) | refine l_call (nEqual_ok) (fun _ _ => ?_) | refine l_call0 (nEqual_ok) (fun _ _ => ?_) | refine r_call (nEqual_ok) (fun _ _ => ?_) | refine l_call (nEqual1_ok _) (fun _ _ => ?_) | refine l_call0 (nEqual1_ok _) (fun _ _ => ?_) | refine r_call (nEqual1_ok _) (fun _ _ => ?_) | refine l_call (nEqual2_ok _) (fun _ _ => ?_) | refine l_call0 (nEqual2_ok _) (fun _ _ => ?_) | refine r_call (nEqual2_ok _) (fun _ _ => ?_) | refine l_call (newLedger_ok) (fun _ _ => ?_) | refine l_call0 (newLedger_ok) (fun _ _ => ?_) | refine r_call (newLedger_ok) (fun _ _ => ?_) | refine l_call (n7 _ _) (fun _ _ => ?_) | refine l_call0 (n7 _ _) (fun _ _ => ?_) | refine r_call (n7 _ _) (fun _ _ => ?_) | refine l_call (nOutAll_ok) (fun _ _ => ?_) | refine l_call0 (nOutAll_ok) (fun _ _ => ?_) | refine r_call (nOutAll_ok) (fun _ _ => ?_) | refine l_call (n6) (fun _ _ => ?_) | refine l_call0 (n6) (fun _ _ => ?_) | refine r_call (n6) (fun _ _ => ?_) | refine l_call (p1) (fun _ _ => ?_) | refine l_call0 (p1) (fun _ _ => ?_) | refine r_call (p1) (fun _ _ => ?_) | refine l_call (p2 _ _) (fun _ _ => ?_) | refine l_call0 (p2 _ _) (fun _ _ => ?_) | refine r_call (p2 _ _) (fun _ _ => ?_) | refine l_call (p3 _ _) (fun _ _ => ?_) | refine l_call0 (p3 _ _) (fun _ _ => ?_) | refine r_call (p3 _ _) (fun _ _ => ?_) | refine l_call (viewNew_ok _) (fun _ _ => ?_) | refine l_call0 (viewNew_ok _) (fun _ _ => ?_) | refine r_call (viewNew_ok _) (fun _ _ => ?_) | (refine l_split (fun hc => ?_) (fun hc => ?_) <;> (try simp at hc)) | (refine r_split (fun hc => ?_) (fun hc => ?_) <;> (try simp at hc)) | refine k_draw 1 [] [(0, 0), (2, 0), (3, 0), (4, 0), (5, 0), (6, 0), (1, 4), (7, 4), (8, 0)] [] ?_ | (refine k_cond (fun hc => ?_) (fun hc => ?_) <;> (try simp at hc)))
      all_goals refine k_ret () ?_ trivial
      all_goals simp [RetV, resV, kN]
    | false =>
      have p3 := fun b ps => send_ok b (some ⟨ps, 0, none⟩) [] [] [⟨cnm (cutS by0 80), cvl (kN false), false⟩] (cutS by0 80) 0 kO (kN false) (by omega) hv hvs kO_chk rfl (madeN hv (kN_ok false)) (kN_ok false) (by decide) (onm_chk hv (by decide) (by decide)) c1 (by simp)
      repeat' (first | refine l_lgz ?_ | refine l_run ?_ | refine l_nil ?_ | refine l_one ?_ | refine k_reg ?_ | refine l_ld ?_ | refine l_ldF ?_ | refine l_st ?_ | refine l_al (fun b => ?_) | refine l_bs (fun b => ?_) | refine k_condT ?_ | refine k_condF ?_ | refine k_brk ?_ | refine r_run ?_ | refine r_one ?_ | refine r_ld ?_ | refine r_ldF ?_ | refine r_ldN ?_ | refine r_al (fun b => ?_) | refine r_bs (fun b => ?_) | refine r_st ?_ | refine r_end ?_ | refine l_call (known39_ok) (fun _ _ => ?_) | refine l_call0 (known39_ok) (fun _ _ => ?_) | refine r_call (known39_ok) (fun _ _ => ?_) | refine l_call (nLen_ok) (fun _ _ => ?_) | refine l_call0 (nLen_ok) (fun _ _ => ?_) | refine r_call (nLen_ok) (fun _ _ => ?_) | refine l_call (stateNew_ok) (fun _ _ => ?_) | refine l_call0 (stateNew_ok) (fun _ _ => ?_) | refine r_call (stateNew_ok) (fun _ _ => ?_) | refine l_call (nWaiting_ok _) (fun _ _ => ?_) | refine l_call0 (nWaiting_ok _) (fun _ _ => ?_) | refine r_call (nWaiting_ok _) (fun _ _ => ?_) | refine l_call (nEncode_ok) (fun _ _ => ?_) | refine l_call0 (nEncode_ok) (fun _ _ => ?_) | refine r_call (nEncode_ok) (fun _ _ => ?_) | refine l_call (nClone_ok) (fun _ _ => ?_) | refine l_call0 (nClone_ok) (fun _ _ => ?_) | refine r_call (nClone_ok) (fun _ _ => ?_) | refine l_call (nPrefix1_ok _) (fun _ _ => ?_) | refine l_call0 (nPrefix1_ok _) (fun _ _ => ?_) | refine r_call (nPrefix1_ok _) (fun _ _ => ?_) | refine l_call (nPrefix2_ok _) (fun _ _ => ?_) | refine l_call0 (nPrefix2_ok _) (fun _ _ => ?_) | refine r_call (nPrefix2_ok _) (fun _ _ => ?_) | refine l_call (nEqual_ok) (fun _ _ => ?_) | refine l_call0 (nEqual_ok) (fun _ _ => ?_) | refine r_call (nEqual_ok) (fun _ _ => ?_) | refine l_call (nEqual1_ok _) (fun _ _ => ?_) | refine l_call0 (nEqual1_ok _) (fun _ _ => ?_) | refine r_call (nEqual1_ok _) (fun _ _ => ?_) | refine l_call (nEqual2_ok _) (fun _ _ => ?_) | refine l_call0 (nEqual2_ok _) (fun _ _ => ?_) | refine r_call (nEqual2_ok _) (fun _ _ => ?_) | refine l_call (newLedger_ok) (fun _ _ => ?_) | refine l_call0 (newLedger_ok) (fun _ _ => ?_) | refine r_call (newLedger_ok) (fun _ _ => ?_) | refine l_call (n7 _ _) (fun _ _ => ?_) | refine l_call0 (n7 _ _) (fun _ _ => ?_) | refine r_call (n7 _ _) (fun _ _ => ?_) | refine l_call (nOutAll_ok) (fun _ _ => ?_) | refine l_call0 (nOutAll_ok) (fun _ _ => ?_) | refine r_call (nOutAll_ok) (fun _ _ => ?_) | refine l_call (n6) (fun _ _ => ?_) | refine l_call0 (n6) (fun _ _ => ?_) | refine r_call (n6) (fun _ _ => ?_) | refine l_call (p1) (fun _ _ => ?_) | refine l_call0 (p1) (fun _ _ => ?_) | refine r_call (p1) (fun _ _ => ?_) | refine l_call (p2 _ _) (fun _ _ => ?_) | refine l_call0 (p2 _ _) (fun _ _ => ?_) | refine r_call (p2 _ _) (fun _ _ => ?_) | refine l_call (p3 _ _) (fun _ _ => ?_) | refine l_call0 (p3 _ _) (fun _ _ => ?_) | refine r_call (p3 _ _) (fun _ _ => ?_) | refine l_call (viewNew_ok _) (fun _ _ => ?_) | refine l_call0 (viewNew_ok _) (fun _ _ => ?_) | refine r_call (viewNew_ok _) (fun _ _ => ?_) | (refine l_split (fun hc => ?_) (fun hc => ?_) <;> (try simp at hc)) | (refine r_split (fun hc => ?_) (fun hc => ?_) <;> (try simp at hc)) | refine k_draw 1 [] [(0, 0), (2, 0), (3, 0), (4, 0), (5, 0), (6, 0), (1, 4), (7, 4), (8, 0)] [] ?_ | (refine k_cond (fun hc => ?_) (fun hc => ?_) <;> (try simp at hc)))
      all_goals refine k_ret () ?_ trivial
      all_goals simp [RetV, resV, kN]
end Go.Proofs.YtijaglinajfplaaGreatDoor
