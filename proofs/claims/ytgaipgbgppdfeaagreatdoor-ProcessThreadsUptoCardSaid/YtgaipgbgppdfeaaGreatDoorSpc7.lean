/-
  Contracts of a process's memory: space.New, process.memoryOf, process.Memory.
  Conditions: those that each theorem states.
-/
import Derived.Test.YtgaipgbgppdfeaaGreatDoorSpc6
set_option maxRecDepth 10000
namespace Go.Proofs.YtgaipgbgppdfeaaGreatDoor
open Go.RowKit

section
variable (b : Nat) (ps : Option Addr) (es : Al) (rs : List (Nm × Ch)) (cs : List Ch) (who : ByteArray) (p o : Pr)
/-- The owner of a memory. -/
def Own (es : Al) (cs : List Ch) (who : ByteArray) (p o : Pr) : Prop := if p.sp = who then o = p else PrAt es cs p.sp o
def owR (es : Al) (rs : List (Nm × Ch)) (cs : List Ch) (who : ByteArray) (p : Pr) : List (Nm × Ch) := if p.sp = who then rs else vread es rs cs (pnm p.sp)
theorem ba_beq {a c : ByteArray} (h : a ≠ c) : (a.toList == c.toList) = false := by
  rw [beq_eq_false_iff_ne, toList_data, toList_data]
  intro e
  apply h
  cases a; cases c
  simp only [ByteArray.mk.injEq]
  exact Array.toList_inj.1 e
theorem owner2_ok (a : Option Addr) (c : Nat) (h : Own es cs who p o) : Enters 115 ∧ Spec Tryz.prog 115 #[.pointer (some ⟨b, 0, none⟩), .string who, p.v a c] [Sl 3 zf a c p.gs, St ps es, Usg] [Vw b ps rs cs]
    ⟨Option Addr × Nat, fun q => .tuple #[o.v q.1 q.2, .int .i64 0], fun _ => True, fun q => [Sl 3 zf q.1 q.2 o.gs], fun _ => [Vw b ps (owR es rs cs who p) cs]⟩ := by
  unfold Own at h
  unfold owR
  by_cases hs : p.sp = who
  · rw [if_pos hs] at h ⊢
    subst h
    obtain ⟨a1, a2, a3, a4, a5, gs, a7, a8, a9, a10⟩ := o
    dsimp only at hs
    subst hs
    have hE : (a7.toList == a7.toList) = true := by simp
    simp only [Pr.v]
    refine ⟨enters_of Tryz.func115 (by kernel_rfl) rfl, spec_of (vs := [_, _, _]) Tryz.func115 rfl Tryz.ntmps115 rfl fun G w hp => ?_⟩
    repeat' (first | refine l_run ?_ | refine l_nil ?_ | refine l_one ?_ | refine k_reg ?_ | refine l_ld ?_ | refine l_ldF ?_ | refine l_st ?_ | refine l_al (fun b => ?_) | refine l_bs (fun b => ?_) | refine k_condT ?_ | refine k_condF ?_ | refine k_brk ?_ | rw [hE] | (refine l_split (fun hc => ?_) (fun hc => ?_) <;> (try simp at hc) <;> (try omega)) | (refine k_cond (fun hc => ?_) (fun hc => ?_) <;> (try simp at hc) <;> (try omega)))
    exact k_ret (a, c) rfl trivial
  · rw [if_neg hs] at h ⊢
    have n1 := anyEpoch_ok b ps es rs cs p.sp o h
    obtain ⟨a1, a2, a3, a4, a5, gs, a7, a8, a9, a10⟩ := p
    obtain ⟨o1, o2, o3, o4, o5, os, o7, o8, o9, o10⟩ := o
    dsimp only at *
    have hE : (a7.toList == who.toList) = false := ba_beq hs
    simp only [Pr.v] at n1 ⊢
    refine ⟨enters_of Tryz.func115 (by kernel_rfl) rfl, spec_of (vs := [_, _, _]) Tryz.func115 rfl Tryz.ntmps115 rfl fun G w hp => ?_⟩
    repeat' (first | refine l_run ?_ | refine l_nil ?_ | refine l_one ?_ | refine k_reg ?_ | refine l_ld ?_ | refine l_ldF ?_ | refine l_st ?_ | refine l_al (fun b => ?_) | refine l_bs (fun b => ?_) | refine k_condT ?_ | refine k_condF ?_ | refine k_brk ?_ | refine l_call (n1) (fun _ _ => ?_) | refine l_call0 (n1) (fun _ _ => ?_) | rw [hE] | (refine l_split (fun hc => ?_) (fun hc => ?_) <;> (try simp at hc) <;> (try omega)) | (refine k_cond (fun hc => ?_) (fun hc => ?_) <;> (try simp at hc) <;> (try omega)))
    rename_i q _
    exact k_ret q rfl trivial
/-- What memoryOf has read. -/
def mmR (es : Al) (rs : List (Nm × Ch)) (cs : List Ch) (who : ByteArray) (p : Pr) : List (Nm × Ch) := owR es (pgR es rs cs who) cs who p
set_option maxHeartbeats 1000000 in
theorem memoryOf_ok (h : PrAt es cs who p) (ho : Own es cs who p o) : Enters 58 ∧ Spec Tryz.prog 58 #[.pointer (some ⟨b, 0, none⟩), .string who] [St ps es, Usg] [Vw b ps rs cs]
    ⟨(Option Addr × Nat) × (Option Addr × Nat), fun q => .tuple #[p.v q.1.1 q.1.2, o.v q.2.1 q.2.2, .int .i64 0], fun _ => True, fun q => [Sl 3 zf q.1.1 q.1.2 p.gs, Sl 3 zf q.2.1 q.2.2 o.gs], fun _ => [Vw b ps (mmR es rs cs who p) cs]⟩ := by
  have n1 := proGet_ok b ps es rs cs who p h
  have n2 := fun a c => owner2_ok b ps es (pgR es rs cs who) cs who p o a c ho
  rw [show owR es (pgR es rs cs who) cs who p = mmR es rs cs who p from rfl] at n2
  generalize mmR es rs cs who p = rs3 at *
  generalize pgR es rs cs who = rs2 at *
  generalize b = bv at *
  clear h ho
  obtain ⟨a1, a2, a3, a4, a5, gs, a7, a8, a9, a10⟩ := p
  obtain ⟨o1, o2, o3, o4, o5, os, o7, o8, o9, o10⟩ := o
  simp only [Pr.v] at n1 n2 ⊢
  refine ⟨enters_of Tryz.func58 (by kernel_rfl) rfl, spec_of (vs := [_, _]) Tryz.func58 rfl Tryz.ntmps58 rfl fun G w hp => ?_⟩
  repeat' (first | refine l_run ?_ | refine l_nil ?_ | refine l_one ?_ | refine k_reg ?_ | refine l_ld ?_ | refine l_ldF ?_ | refine l_st ?_ | refine l_al (fun b => ?_) | refine l_bs (fun b => ?_) | refine k_condT ?_ | refine k_condF ?_ | refine k_brk ?_ | refine r_run ?_ | refine r_one ?_ | refine r_ld ?_ | refine r_ldF ?_ | refine r_ldN ?_ | refine r_al (fun b => ?_) | refine r_bs (fun b => ?_) | refine r_st ?_ | refine r_end ?_ | refine l_call (n1) (fun _ _ => ?_) | refine l_call0 (n1) (fun _ _ => ?_) | refine r_call (n1) (fun _ _ => ?_) | refine l_call (n2 _ _) (fun _ _ => ?_) | refine l_call0 (n2 _ _) (fun _ _ => ?_) | refine r_call (n2 _ _) (fun _ _ => ?_) | (refine l_split (fun hc => ?_) (fun hc => ?_) <;> (try simp at hc) <;> (try omega)) | (refine r_split (fun hc => ?_) (fun hc => ?_) <;> (try simp at hc) <;> (try omega)) | refine k_draw 7 [Pt _ (.cells #[.int .i64 a1, _, _, _, _, _, _, _, _, _, _] _ _)] [(1, 0), (0, 3), (2, 4)] [3, 4] ?_ | (refine k_cond (fun hc => ?_) (fun hc => ?_) <;> (try simp at hc) <;> (try omega)))
  rename_i q _ q2 _
  exact k_ret (q, q2) rfl trivial
end

theorem spc_setf (fv fv' : Value) (M : Nat → Pg) (ak : Nat → Bool) (bl : Nat → Nat) : (spcL fv' M ak bl).set 0 fv = spcL fv M ak bl := by
  refine spc_ext (by simp [spc_len]) fun k hk => ?_
  rw [List.getElem?_set, spc_get hk]
  simp only [spc_len]
  unfold spcAt
  by_cases h : k = 0
  · subst h; rfl
  · rw [if_neg (fun e => h e.symm), if_neg h, if_neg h]
theorem hd_u (bl : Nat → Nat) (h : H) (hh : Sep [] h) : Hd (fun _ => .u) bl h := by
  unfold Hd
  rw [show heldL (List.range 64) (fun _ => Pg.u) bl = [] by simp [heldL, pgH]]
  exact hh
/-- A new memory: where its parts lie. -/
structure Mb where
  t1 : Nat
  ob : Nat
  vx : Nat
  pb : Nat
  po : Option Addr
  pc : Nat
  oo : Option Addr
  oc : Nat
  bk : Nat
  q : (Nat → Bool) × (Nat → Nat) × List (Nm × Ch)
def Mb.s (x : Mb) (b : Nat) (p o : Pr) : Sr := ⟨x.t1, x.ob, x.vx, x.pb, b, p, x.po, x.pc, o, x.oo, x.oc⟩
theorem spNew_ok (ob vx pb : Nat) : Enters 47 ∧ Spec Tryz.prog 47 #[.func (.func 59) #[] #[.pointer (some ⟨ob, 0, none⟩), .pointer (some ⟨vx, 0, none⟩), .pointer (some ⟨pb, 0, none⟩)]] [] []
    ⟨Nat × Nat, fun q => .pointer (some ⟨q.1, 0, none⟩), fun _ => True, fun q => [Blk q.2 (.cells #[.func (.func 59) #[] #[.pointer (some ⟨ob, 0, none⟩), .pointer (some ⟨vx, 0, none⟩), .pointer (some ⟨pb, 0, none⟩)]] 181)],
      fun q => [Ar 138 cf q.1 (spcL (.func (.func 100) #[] #[.pointer (some ⟨q.2, 0, none⟩)]) (fun _ => .u) (fun _ => false) (fun _ => 0)), Hd (fun _ => .u) (fun _ => 0)]⟩ := by
  refine ⟨enters_of Tryz.func47 (by kernel_rfl) rfl, spec_of (vs := [_]) Tryz.func47 rfl Tryz.ntmps47 rfl fun G w hp => ?_⟩
  repeat' (first | refine l_run ?_ | refine l_nil ?_ | refine l_one ?_ | refine k_reg ?_ | refine l_ld ?_ | refine l_ldF ?_ | refine l_st ?_ | refine l_al (fun b => ?_) | refine l_bs (fun b => ?_) | refine k_condT ?_ | refine k_condF ?_ | refine k_brk ?_ | refine l_qS ?_ | refine l_alS (fun b => ?_) | (refine l_split (fun hc => ?_) (fun hc => ?_) <;> (try simp at hc)) | (refine k_cond (fun hc => ?_) (fun hc => ?_) <;> (try simp at hc)))
  rename_i b1
  refine l_ptc (b := b) (o := .cells (spcL .nilFunc (fun _ => .u) (fun _ => false) (fun _ => 0)).toArray.toList.toArray 138 (0, 0)) (.cells ((spcL .nilFunc (fun _ => .u) (fun _ => false) (fun _ => 0)).flatMap cf).toArray 138 (0, 0)) (by simp [cf]) ?_
  refine l_fz (b := b1) ?_
  have g0 := spc_f (fv := .nilFunc) (M := fun _ => .u) (ak := fun _ => false) (bl := fun _ => 0)
  have e0 := spc_setf (.func (.func 100) #[] #[.pointer (some ⟨b1, 0, none⟩)]) .nilFunc (fun _ => .u) (fun _ => false) (fun _ => 0)
  generalize spcL .nilFunc (fun _ => .u) (fun _ => false) (fun _ => 0) = L0 at *
  repeat' (first | refine l_run ?_ | refine l_nil ?_ | refine l_one ?_ | refine k_reg ?_ | refine l_ld ?_ | refine l_ldF ?_ | refine l_st ?_ | refine l_al (fun b => ?_) | refine l_bs (fun b => ?_) | refine k_condT ?_ | refine k_condF ?_ | refine k_brk ?_ | refine l_qS ?_ | refine l_ldFn Tryz.underlying181 ?_ | refine l_nefn Tryz.underlying181 ?_ | refine l_stA 1 0 0 _ g0 ?_ (ho := rfl) | (refine l_split (fun hc => ?_) (fun hc => ?_) <;> (try simp at hc)) | (refine k_cond (fun hc => ?_) (fun hc => ?_) <;> (try simp at hc)))
  rw [e0]
  refine k_shut (r := Hd (fun _ => .u) (fun _ => 0)) (Lx := []) (fun h hh => hd_u _ h hh) ?_
  exact k_ret (b, b1) rfl trivial
theorem memory_ok (b : Nat) (ps : Option Addr) (es : Al) (rs : List (Nm × Ch)) (cs : List Ch) (who : ByteArray) (p o : Pr) (h : PrAt es cs who p) (ho : Own es cs who p o) :
    Enters 14 ∧ Spec Tryz.prog 14 #[.pointer (some ⟨b, 0, none⟩), .string who] [St ps es, Usg] [Vw b ps rs cs]
    ⟨Mb, fun x => .tuple #[.pointer (some ⟨x.bk, 0, none⟩), .int .i64 0], fun _ => True, fun x => (x.s b p o).fs ps es, fun x => MmL (x.s b p o) x.bk ps cs (fun _ => .u) x.q⟩ := by
  have n1 := memoryOf_ok b ps es rs cs who p o h ho
  generalize mmR es rs cs who p = rs3 at *
  generalize b = bv at *
  clear h ho
  obtain ⟨a1, a2, a3, a4, a5, gs, a7, a8, ⟨a9, a9'⟩, a10⟩ := p
  obtain ⟨o1, o2, o3, o4, o5, os, o7, o8, ⟨o9, o9'⟩, o10⟩ := o
  simp only [Pr.v] at n1
  have n2 := spNew_ok
  refine ⟨enters_of Tryz.func14 (by kernel_rfl) rfl, spec_of (vs := [_, _]) Tryz.func14 rfl Tryz.ntmps14 rfl fun G w hp => ?_⟩
  repeat' (first | refine l_run ?_ | refine l_nil ?_ | refine l_one ?_ | refine k_reg ?_ | refine l_ld ?_ | refine l_ldF ?_ | refine l_st ?_ | refine l_al (fun b => ?_) | refine l_bs (fun b => ?_) | refine k_condT ?_ | refine k_condF ?_ | refine k_brk ?_ | refine l_call (n1) (fun _ _ => ?_) | refine l_call0 (n1) (fun _ _ => ?_) | refine l_call (n2 _ _ _) (fun _ _ => ?_) | refine l_call0 (n2 _ _ _) (fun _ _ => ?_) | (refine l_split (fun hc => ?_) (fun hc => ?_) <;> (try simp at hc) <;> (try omega)) | (refine k_cond (fun hc => ?_) (fun hc => ?_) <;> (try simp at hc) <;> (try omega)))
  rename_i bx q _ bp nq _
  refine k_fz (b := b) ?_
  refine k_fz (b := bp) ?_
  refine k_fz (b := bx) ?_
  exact k_ret ⟨nq.2, b, bx, bp, q.1.1, q.1.2, q.2.1, q.2.2, nq.1, (fun _ => false), (fun _ => 0), rs3⟩ rfl trivial
end Go.Proofs.YtgaipgbgppdfeaaGreatDoor
