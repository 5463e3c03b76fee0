/-
  Contracts of the package process over a view, where they succeed: Epoch, Get, running, put, Start, Exit, Wait.
  Conditions: those that each theorem states.
-/
import Derived.Test.YtgaipgbgppdfeaaGreatDoorPro8
set_option maxRecDepth 10000
namespace Go.Proofs.YtgaipgbgppdfeaaGreatDoor
open Go.RowKit

def pnm (who : ByteArray) : Nm := ⟨1, who, 0, 0, ⟨#[]⟩⟩
def rnm (who : ByteArray) : Nm := ⟨2, who, 0, 0, ⟨#[]⟩⟩
def gnm (who : ByteArray) (i : Int) : Nm := ⟨3, who, 0, i, ⟨#[]⟩⟩
def enm : Nm := ⟨20, ⟨#[]⟩, 0, 0, ⟨#[]⟩⟩
theorem ofEpoch_ok : Enters 28 ∧ Spec Tryz.prog 28 #[] [] [] (RetV enm.v) := by
  refine ⟨enters_of Tryz.func28 (by kernel_rfl) rfl, spec_of (vs := []) Tryz.func28 rfl Tryz.ntmps28 rfl fun G w hp => ?_⟩
  repeat' (first | refine l_run ?_ | refine l_nil ?_ | refine l_one ?_ | refine k_reg ?_ | refine l_ld ?_ | refine l_ldF ?_ | refine l_st ?_ | refine l_al (fun b => ?_) | refine l_bs (fun b => ?_) | refine k_condT ?_ | refine k_condF ?_ | refine k_brk ?_ | (refine l_split (fun hc => ?_) (fun hc => ?_) <;> (try simp at hc)) | (refine k_cond (fun hc => ?_) (fun hc => ?_) <;> (try simp at hc)))
  exact k_ret () rfl trivial
theorem ofProcess_ok (who : ByteArray) : Enters 84 ∧ Spec Tryz.prog 84 #[.string who] [] [] (RetV (pnm who).v) := by
  refine ⟨enters_of Tryz.func84 (by kernel_rfl) rfl, spec_of (vs := [_]) Tryz.func84 rfl Tryz.ntmps84 rfl fun G w hp => ?_⟩
  repeat' (first | refine l_run ?_ | refine l_nil ?_ | refine l_one ?_ | refine k_reg ?_ | refine l_ld ?_ | refine l_ldF ?_ | refine l_st ?_ | refine l_al (fun b => ?_) | refine l_bs (fun b => ?_) | refine k_condT ?_ | refine k_condF ?_ | refine k_brk ?_ | (refine l_split (fun hc => ?_) (fun hc => ?_) <;> (try simp at hc)) | (refine k_cond (fun hc => ?_) (fun hc => ?_) <;> (try simp at hc)))
  exact k_ret () rfl trivial
theorem ofRegisters_ok (who : ByteArray) : Enters 56 ∧ Spec Tryz.prog 56 #[.string who] [] [] (RetV (rnm who).v) := by
  refine ⟨enters_of Tryz.func56 (by kernel_rfl) rfl, spec_of (vs := [_]) Tryz.func56 rfl Tryz.ntmps56 rfl fun G w hp => ?_⟩
  repeat' (first | refine l_run ?_ | refine l_nil ?_ | refine l_one ?_ | refine k_reg ?_ | refine l_ld ?_ | refine l_ldF ?_ | refine l_st ?_ | refine l_al (fun b => ?_) | refine l_bs (fun b => ?_) | refine k_condT ?_ | refine k_condF ?_ | refine k_brk ?_ | (refine l_split (fun hc => ?_) (fun hc => ?_) <;> (try simp at hc)) | (refine k_cond (fun hc => ?_) (fun hc => ?_) <;> (try simp at hc)))
  exact k_ret () rfl trivial
theorem ofPage_ok (who : ByteArray) (i : Int) : Enters 61 ∧ Spec Tryz.prog 61 #[.string who, .int .i64 i] [] [] (RetV (gnm who i).v) := by
  refine ⟨enters_of Tryz.func61 (by kernel_rfl) rfl, spec_of (vs := [_, _]) Tryz.func61 rfl Tryz.ntmps61 rfl fun G w hp => ?_⟩
  repeat' (first | refine l_run ?_ | refine l_nil ?_ | refine l_one ?_ | refine k_reg ?_ | refine l_ld ?_ | refine l_ldF ?_ | refine l_st ?_ | refine l_al (fun b => ?_) | refine l_bs (fun b => ?_) | refine k_condT ?_ | refine k_condF ?_ | refine k_brk ?_ | (refine l_split (fun hc => ?_) (fun hc => ?_) <;> (try simp at hc)) | (refine k_cond (fun hc => ?_) (fun hc => ?_) <;> (try simp at hc)))
  exact k_ret () rfl trivial
theorem chk_pnm {who : ByteArray} (h : lvalid who.data.toList = true) : nchk (pnm who) = 0 := by
  have h2 : isE ⟨#[]⟩ = true := by simp [isE]
  rw [nchk, if_pos (by simp [pnm])]
  show uchk ⟨_, true, false, false, false, 0⟩ (pnm who) = 0
  simp [uchk, pnm, h, h2]
theorem psz (p : Pr) (h : pchk p = 0) (h1 : p.sp.size ≤ 1000) (h2 : p.dr.mkr.size ≤ 1000) : (pencS p).size ≤ 5000 := by
  obtain ⟨q1, q2, q3, q4, q5, q6⟩ := pchk_zero h
  obtain ⟨q7, q8, q9⟩ := gchk_zero q4
  obtain ⟨q10, q11, q12⟩ := bchk_zero q6
  unfold pfit at q3
  have l1 := venc_len10 p.kd.toNat (by omega)
  have l2 := venc_len10 p.st.toNat (by omega)
  have l3 := venc_len10 p.cd.toNat (by omega)
  have l4 := venc_len10 p.ep.toNat (by omega)
  have l5 := venc_len10 p.us.toNat (by omega)
  have l6 := venc_len10 p.gs.length (by omega)
  have l7 := venc_len10 p.sp.size (by omega)
  have l8 := venc_len10 p.pg.toNat (by omega)
  have l9 := venc_len10 p.dr.mkr.size (by omega)
  have l10 := venc_len10 p.dr.nu.toNat (by omega)
  have l11 := venc_len10 p.tm.toNat (by omega)
  have l12 : (genc p.gs).length ≤ p.gs.length * 10 := vencs_len p.gs (fun z hz => by have := q8 z hz; omega)
  have s1 : p.sp.data.toList.length = p.sp.size := by simp
  have s2 : p.dr.mkr.data.toList.length = p.dr.mkr.size := by simp
  rw [pencS, if_pos h]
  show (penc p).toArray.size ≤ 5000
  rw [List.size_toArray]
  simp only [penc, List.length_append]
  omega

section
variable (b : Nat) (ps : Option Addr) (es : Al) (rs : List (Nm × Ch)) (cs : List Ch)
/-- There is no epoch yet. -/
theorem epoch0_ok (h : vget es cs enm = (⟨#[]⟩, false)) : Enters 40 ∧ Spec Tryz.prog 40 #[.pointer (some ⟨b, 0, none⟩)] [St ps es, Usg] [Vw b ps rs cs]
    ⟨Unit, fun _ => .tuple #[.int .i64 0, .int .i64 0], fun _ => True, fun _ => [], fun _ => [Vw b ps (vread es rs cs enm) cs]⟩ := by
  have n1 := vwGet_ok b ps es rs cs enm (Nat.zero_le _) (Nat.zero_le _)
  rw [h] at n1
  have n2 := ofEpoch_ok
  refine ⟨enters_of Tryz.func40 (by kernel_rfl) rfl, spec_of (vs := [_]) Tryz.func40 rfl Tryz.ntmps40 rfl fun G w hp => ?_⟩
  repeat' (first | refine l_run ?_ | refine l_nil ?_ | refine l_one ?_ | refine k_reg ?_ | refine l_ld ?_ | refine l_ldF ?_ | refine l_st ?_ | refine l_al (fun b => ?_) | refine l_bs (fun b => ?_) | refine k_condT ?_ | refine k_condF ?_ | refine k_brk ?_ | refine l_call (n1) (fun _ _ => ?_) | refine l_call0 (n1) (fun _ _ => ?_) | refine l_call (n2) (fun _ _ => ?_) | refine l_call0 (n2) (fun _ _ => ?_) | (refine l_split (fun hc => ?_) (fun hc => ?_) <;> (try simp at hc) <;> (try omega)) | (refine k_cond (fun hc => ?_) (fun hc => ?_) <;> (try simp at hc) <;> (try omega)))
  exact k_ret () rfl trivial
variable (who : ByteArray) (p : Pr)
/-- A process that is there. -/
structure PrAt (es : Al) (cs : List Ch) (who : ByteArray) (p : Pr) : Prop where
  v : lvalid who.data.toList = true
  w : who.size ≤ 1000
  g : vget es cs (pnm who) = (pencS p, true)
  c : pchk p = 0
  s : p.sp.size ≤ 1000
  d : p.dr.mkr.size ≤ 1000
  e : p.ep = 0
  n : vget es cs enm = (⟨#[]⟩, false)
theorem anyEpoch_ok (h : PrAt es cs who p) : Enters 81 ∧ Spec Tryz.prog 81 #[.pointer (some ⟨b, 0, none⟩), .string who] [St ps es, Usg] [Vw b ps rs cs]
    ⟨Option Addr × Nat, fun q => .tuple #[p.v q.1 q.2, .int .i64 0], fun _ => True, fun q => [Sl 3 zf q.1 q.2 p.gs], fun _ => [Vw b ps (vread es rs cs (pnm who)) cs]⟩ := by
  have hsz := psz p h.c h.s h.d
  have hs := h.s
  have hd := h.d
  have hw := h.w
  have n1 := vwGet_ok b ps es rs cs (pnm who) (by show who.size ≤ _; omega) (Nat.zero_le _)
  rw [h.g] at n1
  have n2 := ofProcess_ok who
  have n3 := proDecode_ok (pencS p) (by omega)
  rw [pdec_enc h.c (by omega) (by omega)] at n3
  simp only [Option.getD_some, Option.isSome_some, if_true] at n3
  refine ⟨enters_of Tryz.func81 (by kernel_rfl) rfl, spec_of (vs := [_, _]) Tryz.func81 rfl Tryz.ntmps81 rfl fun G w hp => ?_⟩
  repeat' (first | refine l_run ?_ | refine l_nil ?_ | refine l_one ?_ | refine k_reg ?_ | refine l_ld ?_ | refine l_ldF ?_ | refine l_st ?_ | refine l_al (fun b => ?_) | refine l_bs (fun b => ?_) | refine k_condT ?_ | refine k_condF ?_ | refine k_brk ?_ | refine l_call (n1) (fun _ _ => ?_) | refine l_call0 (n1) (fun _ _ => ?_) | refine l_call (n2) (fun _ _ => ?_) | refine l_call0 (n2) (fun _ _ => ?_) | refine l_call (n3) (fun _ _ => ?_) | refine l_call0 (n3) (fun _ _ => ?_) | (refine l_split (fun hc => ?_) (fun hc => ?_) <;> (try simp at hc) <;> (try omega)) | (refine k_cond (fun hc => ?_) (fun hc => ?_) <;> (try simp at hc) <;> (try omega)))
  rename_i q _
  exact k_ret q rfl trivial
/-- What Get has read. -/
def pgR (es : Al) (rs : List (Nm × Ch)) (cs : List Ch) (who : ByteArray) : List (Nm × Ch) := vread es (vread es rs cs (pnm who)) cs enm
theorem proGet_ok (h : PrAt es cs who p) : Enters 30 ∧ Spec Tryz.prog 30 #[.pointer (some ⟨b, 0, none⟩), .string who] [St ps es, Usg] [Vw b ps rs cs]
    ⟨Option Addr × Nat, fun q => .tuple #[p.v q.1 q.2, .int .i64 0], fun _ => True, fun q => [Sl 3 zf q.1 q.2 p.gs], fun _ => [Vw b ps (pgR es rs cs who) cs]⟩ := by
  have hw := h.w
  have n1 := valid_ok who (by omega)
  rw [h.v] at n1
  have n2 := anyEpoch_ok b ps es rs cs who p h
  have n3 := epoch0_ok b ps es (vread es rs cs (pnm who)) cs h.n
  have he := h.e
  obtain ⟨a1, a2, a3, a4, a5, gs, a7, a8, a9, a10⟩ := p
  dsimp only at he
  subst he
  simp only [Pr.v] at n2 ⊢
  refine ⟨enters_of Tryz.func30 (by kernel_rfl) rfl, spec_of (vs := [_, _]) Tryz.func30 rfl Tryz.ntmps30 rfl fun G w hp => ?_⟩
  repeat' (first | refine l_run ?_ | refine l_nil ?_ | refine l_one ?_ | refine k_reg ?_ | refine l_ld ?_ | refine l_ldF ?_ | refine l_st ?_ | refine l_al (fun b => ?_) | refine l_bs (fun b => ?_) | refine k_condT ?_ | refine k_condF ?_ | refine k_brk ?_ | refine l_call (n1) (fun _ _ => ?_) | refine l_call0 (n1) (fun _ _ => ?_) | refine l_call (n2) (fun _ _ => ?_) | refine l_call0 (n2) (fun _ _ => ?_) | refine l_call (n3) (fun _ _ => ?_) | refine l_call0 (n3) (fun _ _ => ?_) | (refine l_split (fun hc => ?_) (fun hc => ?_) <;> (try simp at hc) <;> (try omega)) | (refine k_cond (fun hc => ?_) (fun hc => ?_) <;> (try simp at hc) <;> (try omega)))
  rename_i q _ _ _
  exact k_ret q rfl trivial
theorem running_ok (h : PrAt es cs who p) (hr : p.st = 1) : Enters 95 ∧ Spec Tryz.prog 95 #[.pointer (some ⟨b, 0, none⟩), .string who] [St ps es, Usg] [Vw b ps rs cs]
    ⟨Option Addr × Nat, fun q => .tuple #[p.v q.1 q.2, .int .i64 0], fun _ => True, fun q => [Sl 3 zf q.1 q.2 p.gs], fun _ => [Vw b ps (pgR es rs cs who) cs]⟩ := by
  have n2 := proGet_ok b ps es rs cs who p h
  obtain ⟨a1, a2, a3, a4, a5, gs, a7, a8, a9, a10⟩ := p
  dsimp only at hr
  subst hr
  simp only [Pr.v] at n2 ⊢
  refine ⟨enters_of Tryz.func95 (by kernel_rfl) rfl, spec_of (vs := [_, _]) Tryz.func95 rfl Tryz.ntmps95 rfl fun G w hp => ?_⟩
  repeat' (first | refine l_run ?_ | refine l_nil ?_ | refine l_one ?_ | refine k_reg ?_ | refine l_ld ?_ | refine l_ldF ?_ | refine l_st ?_ | refine l_al (fun b => ?_) | refine l_bs (fun b => ?_) | refine k_condT ?_ | refine k_condF ?_ | refine k_brk ?_ | refine l_call (n2) (fun _ _ => ?_) | refine l_call0 (n2) (fun _ _ => ?_) | (refine l_split (fun hc => ?_) (fun hc => ?_) <;> (try simp at hc) <;> (try omega)) | (refine k_cond (fun hc => ?_) (fun hc => ?_) <;> (try simp at hc) <;> (try omega)))
  rename_i q _
  exact k_ret q rfl trivial
theorem proPut_ok (o : Option Addr) (c : Nat) (hc : pchk p = 0) (h1 : p.sp.size ≤ 1000) (h2 : p.dr.mkr.size ≤ 1000) (hw : who.size ≤ 1000) (hv : lvalid who.data.toList = true) (hl : cs.length ≤ 1000000) :
    Enters 72 ∧ Spec Tryz.prog 72 #[.pointer (some ⟨b, 0, none⟩), .string who, p.v o c] [Sl 3 zf o c p.gs, Usg] [Vw b ps rs cs]
    ⟨Unit, fun _ => .int .i64 0, fun _ => True, fun _ => [], fun _ => [Vw b ps rs (cs ++ [⟨pnm who, pencS p, false⟩])]⟩ := by
  have n1 := proEncode_ok p o c hc h1 h2
  have n2 := ofProcess_ok who
  have hsz := psz p hc h1 h2
  have n3 := vwSet_ok b ps rs cs (pnm who) (pencS p) (by show who.size ≤ _; omega) (Nat.zero_le _) hl
  have e9 : vset cs (pnm who) (pencS p) = (0, cs ++ [⟨pnm who, pencS p, false⟩]) := by
    unfold vset
    rw [if_neg (by rw [chk_pnm hv]; simp), if_neg (by omega)]
  rw [e9] at n3
  generalize pencS p = S at *
  obtain ⟨a1, a2, a3, a4, a5, gs, a7, a8, a9, a10⟩ := p
  simp only [Pr.v] at n1 ⊢
  refine ⟨enters_of Tryz.func72 (by kernel_rfl) rfl, spec_of (vs := [_, _, _]) Tryz.func72 rfl Tryz.ntmps72 rfl fun G w hp => ?_⟩
  repeat' (first | refine l_run ?_ | refine l_nil ?_ | refine l_one ?_ | refine k_reg ?_ | refine l_ld ?_ | refine l_ldF ?_ | refine l_st ?_ | refine l_al (fun b => ?_) | refine l_bs (fun b => ?_) | refine k_condT ?_ | refine k_condF ?_ | refine k_brk ?_ | refine l_call (n1) (fun _ _ => ?_) | refine l_call0 (n1) (fun _ _ => ?_) | refine l_call (n2) (fun _ _ => ?_) | refine l_call0 (n2) (fun _ _ => ?_) | refine l_call (n3) (fun _ _ => ?_) | refine l_call0 (n3) (fun _ _ => ?_) | (refine l_split (fun hc => ?_) (fun hc => ?_) <;> (try simp at hc) <;> (try omega)) | (refine k_cond (fun hc => ?_) (fun hc => ?_) <;> (try simp at hc) <;> (try omega)))
  exact k_ret () rfl trivial
theorem vwHas_ok (a : Nm) (ha : a.owner.size ≤ 1099511627770) (hat : a.text.size ≤ 1099511627776) : Enters 83 ∧ Spec Tryz.prog 83 #[.pointer (some ⟨b, 0, none⟩), a.v] [St ps es, Usg] [Vw b ps rs cs]
    ⟨Unit, fun _ => .bool (vget es cs a).2, fun _ => True, fun _ => [], fun _ => [Vw b ps (vread es rs cs a) cs]⟩ := by
  have n1 := vwGet_ok b ps es rs cs a ha hat
  refine ⟨enters_of Tryz.func83 (by kernel_rfl) rfl, spec_of (vs := [_, _]) Tryz.func83 rfl Tryz.ntmps83 rfl fun G w hp => ?_⟩
  repeat' (first | refine l_run ?_ | refine l_nil ?_ | refine l_one ?_ | refine k_reg ?_ | refine l_ld ?_ | refine l_ldF ?_ | refine l_st ?_ | refine l_al (fun b => ?_) | refine l_bs (fun b => ?_) | refine k_condT ?_ | refine k_condF ?_ | refine k_brk ?_ | refine l_call (n1) (fun _ _ => ?_) | refine l_call0 (n1) (fun _ _ => ?_) | (refine l_split (fun hc => ?_) (fun hc => ?_) <;> (try simp at hc)) | (refine k_cond (fun hc => ?_) (fun hc => ?_) <;> (try simp at hc)))
  exact k_ret () rfl trivial
/-- An object that is not there is not copied. -/
theorem copy0_ok (x y : Nm) (hx : x.owner.size ≤ 1099511627770) (hxt : x.text.size ≤ 1099511627776) (h : (vget es cs x).2 = false) : Enters 120 ∧ Spec Tryz.prog 120 #[.pointer (some ⟨b, 0, none⟩), x.v, y.v] [St ps es, Usg] [Vw b ps rs cs]
    ⟨Unit, fun _ => .int .i64 0, fun _ => True, fun _ => [], fun _ => [Vw b ps (vread es rs cs x) cs]⟩ := by
  have n1 := vwGet_ok b ps es rs cs x hx hxt
  rw [h] at n1
  refine ⟨enters_of Tryz.func120 (by kernel_rfl) rfl, spec_of (vs := [_, _, _]) Tryz.func120 rfl Tryz.ntmps120 rfl fun G w hp => ?_⟩
  repeat' (first | refine l_run ?_ | refine l_nil ?_ | refine l_one ?_ | refine k_reg ?_ | refine l_ld ?_ | refine l_ldF ?_ | refine l_st ?_ | refine l_al (fun b => ?_) | refine l_bs (fun b => ?_) | refine k_condT ?_ | refine k_condF ?_ | refine k_brk ?_ | refine l_call (n1) (fun _ _ => ?_) | refine l_call0 (n1) (fun _ _ => ?_) | (refine l_split (fun hc => ?_) (fun hc => ?_) <;> (try simp at hc) <;> (try omega)) | (refine k_cond (fun hc => ?_) (fun hc => ?_) <;> (try simp at hc) <;> (try omega)))
  exact k_ret () rfl trivial
theorem proStart_ok (o : Option Addr) (c : Nat) (hc : pchk p = 0) (hs : p.st = 1) (h1 : p.sp.size ≤ 1000) (h2 : p.dr.mkr.size ≤ 1000) (hw : who.size ≤ 1000) (hv : lvalid who.data.toList = true) (hne : isE who = false) (hep : p.ep = 0) (hl : cs.length ≤ 1000000)
    (hn : vget es cs enm = (⟨#[]⟩, false)) (hp : (vget es cs (pnm who)).2 = false) :
    Enters 31 ∧ Spec Tryz.prog 31 #[.pointer (some ⟨b, 0, none⟩), .string who, p.v o c] [Sl 3 zf o c p.gs, St ps es, Usg] [Vw b ps rs cs]
    ⟨Unit, fun _ => .int .i64 0, fun _ => True, fun _ => [], fun _ => [Vw b ps (vread es (vread es rs cs enm) cs (pnm who)) (cs ++ [⟨pnm who, pencS p, false⟩])]⟩ := by
  obtain ⟨q1, q2, q3, q4, q5, q6⟩ := pchk_zero hc
  obtain ⟨q7, q8, q9⟩ := gchk_zero q4
  have n0 := valid_ok who (by omega)
  rw [hv] at n0
  have n1 := proCheck_ok p o c (by omega) (by omega) (by omega)
  rw [hc] at n1
  have n2 := ofProcess_ok who
  have n3 := epoch0_ok b ps es rs cs hn
  have n4 := vwHas_ok b ps es (vread es rs cs enm) cs (pnm who) (by show who.size ≤ _; omega) (Nat.zero_le _)
  rw [hp] at n4
  have n5 := proPut_ok b ps (vread es (vread es rs cs enm) cs (pnm who)) cs who p o c hc h1 h2 hw hv hl
  generalize pencS p = S at *
  obtain ⟨a1, a2, a3, a4, a5, gs, a7, a8, a9, a10⟩ := p
  dsimp only at hs hep
  subst hs hep
  simp only [Pr.v] at n1 n5 ⊢
  have hE : (who.toList == (⟨#[]⟩ : ByteArray).toList) = false := by rw [isE] at hne; exact hne
  refine ⟨enters_of Tryz.func31 (by kernel_rfl) rfl, spec_of (vs := [_, _, _]) Tryz.func31 rfl Tryz.ntmps31 rfl fun G w hp => ?_⟩
  repeat' (first | refine l_run ?_ | refine l_nil ?_ | refine l_one ?_ | refine k_reg ?_ | refine l_ld ?_ | refine l_ldF ?_ | refine l_st ?_ | refine l_al (fun b => ?_) | refine l_bs (fun b => ?_) | refine k_condT ?_ | refine k_condF ?_ | refine k_brk ?_ | refine l_call (n0) (fun _ _ => ?_) | refine l_call0 (n0) (fun _ _ => ?_) | refine l_call (n1) (fun _ _ => ?_) | refine l_call0 (n1) (fun _ _ => ?_) | refine l_call (n2) (fun _ _ => ?_) | refine l_call0 (n2) (fun _ _ => ?_) | refine l_call (n3) (fun _ _ => ?_) | refine l_call0 (n3) (fun _ _ => ?_) | refine l_call (n4) (fun _ _ => ?_) | refine l_call0 (n4) (fun _ _ => ?_) | refine l_call (n5) (fun _ _ => ?_) | refine l_call0 (n5) (fun _ _ => ?_) | rw [hE] | (refine l_split (fun hc => ?_) (fun hc => ?_) <;> (try simp at hc) <;> (try omega)) | (refine k_cond (fun hc => ?_) (fun hc => ?_) <;> (try simp at hc) <;> (try omega)))
  exact k_ret () rfl trivial
end
end Go.Proofs.YtgaipgbgppdfeaaGreatDoor
