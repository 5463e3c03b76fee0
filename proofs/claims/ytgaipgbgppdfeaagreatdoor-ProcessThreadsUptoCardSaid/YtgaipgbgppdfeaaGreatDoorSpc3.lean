/-
  Contracts of a process's memory: its source, need, own, access.
  Conditions: those that each theorem states.
-/
import Derived.Test.YtgaipgbgppdfeaaGreatDoorSpc2
set_option maxRecDepth 10000
namespace Go.Proofs.YtgaipgbgppdfeaaGreatDoor
open Go.RowKit

/-- What the pages of a memory come from. -/
structure Sr where
  t1 : Nat
  ob : Nat
  vx : Nat
  pb : Nat
  vb : Nat
  p : Pr
  po : Option Addr
  pc : Nat
  o : Pr
  oo : Option Addr
  oc : Nat
def Sr.fs (s : Sr) (ps : Option Addr) (es : Al) : List Pf := [St ps es, Usg, Blk s.t1 (.cells #[.func (.func 59) #[] #[.pointer (some ⟨s.ob, 0, none⟩), .pointer (some ⟨s.vx, 0, none⟩), .pointer (some ⟨s.pb, 0, none⟩)]] 181),
  Blk s.ob (.cells (prf s.o s.oo s.oc).toArray 80), Blk s.vx (.cells #[.pointer (some ⟨s.vb, 0, none⟩)] 27), Blk s.pb (.cells (prf s.p s.po s.pc).toArray 80)]
def Sr.fv (s : Sr) : Value := .func (.func 100) #[] #[.pointer (some ⟨s.t1, 0, none⟩)]
/-- A page as it comes from its source. -/
def srP (es : Al) (cs : List Ch) (s : Sr) (i : Nat) : Pg := if (i : Int) < s.o.pg then .h (padS (vget es cs (gnm s.p.sp i)).1) false else .n

section
variable (s : Sr) (ps : Option Addr) (es : Al) (rs : List (Nm × Ch)) (cs : List Ch) (hsp : s.p.sp.size ≤ 1000)
include hsp
theorem srcY_ok (i : Nat) (hi : (i : Int) < s.o.pg) : Enters 59 ∧ Spec Tryz.prog 59 #[.int .i64 (i : Int), .pointer (some ⟨s.ob, 0, none⟩), .pointer (some ⟨s.vx, 0, none⟩), .pointer (some ⟨s.pb, 0, none⟩)] (s.fs ps es) [Vw s.vb ps rs cs]
    ⟨List (Nm × Ch), fun _ => .tuple #[.string (vget es cs (gnm s.p.sp i)).1, .bool true], fun _ => True, fun _ => [], fun r => [Vw s.vb ps r cs]⟩ := by
  have n1 := ofPage_ok s.p.sp (i : Int)
  have n2 := vwGet_ok s.vb ps es rs cs (gnm s.p.sp (i : Int)) (by show s.p.sp.size ≤ _; omega) (Nat.zero_le _)
  obtain ⟨st1, sob, svx, spb, svb, ⟨x1, x2, x3, x4, x5, xs, x7, x8, ⟨x9, x10⟩, x11⟩, spo, spc, ⟨y1, y2, y3, y4, y5, ys, y7, y8, ⟨y9, y10⟩, y11⟩, soo, soc⟩ := s
  dsimp only [Sr.fs, prf] at *
  generalize hrs : vread es rs cs (gnm x7 (i : Int)) = rs2 at *
  refine ⟨enters_of Tryz.func59 (by kernel_rfl) rfl, spec_of (vs := [_, _, _, _]) Tryz.func59 rfl Tryz.ntmps59 rfl fun G w hp => ?_⟩
  repeat' (first | refine l_run ?_ | refine l_nil ?_ | refine l_one ?_ | refine k_reg ?_ | refine l_ld ?_ | refine l_ldF ?_ | refine l_st ?_ | refine l_al (fun b => ?_) | refine l_bs (fun b => ?_) | refine k_condT ?_ | refine k_condF ?_ | refine k_brk ?_ | refine r_run ?_ | refine r_one ?_ | refine r_ld ?_ | refine r_ldF ?_ | refine r_ldN ?_ | refine r_al (fun b => ?_) | refine r_bs (fun b => ?_) | refine r_st ?_ | refine r_end ?_ | refine l_call (n1) (fun _ _ => ?_) | refine l_call0 (n1) (fun _ _ => ?_) | refine r_call (n1) (fun _ _ => ?_) | refine l_call (n2) (fun _ _ => ?_) | refine l_call0 (n2) (fun _ _ => ?_) | refine r_call (n2) (fun _ _ => ?_) | (refine l_split (fun hc => ?_) (fun hc => ?_) <;> (try simp at hc) <;> (try omega)) | (refine r_split (fun hc => ?_) (fun hc => ?_) <;> (try simp at hc) <;> (try omega)) | refine k_draw 3 [Vw _ _ _ _] [(0, 0), (1, 0), (2, 0), (3, 0), (4, 4), (5, 4), (6, 0), (7, 0), (8, 0), (9, 0), (10, 0)] [] ?_ | (refine k_cond (fun hc => ?_) (fun hc => ?_) <;> (try simp at hc) <;> (try omega)))
  exact k_ret rs2 rfl trivial
omit hsp in
theorem srcN_ok (i : Nat) (hi : ¬ (i : Int) < s.o.pg) : Enters 59 ∧ Spec Tryz.prog 59 #[.int .i64 (i : Int), .pointer (some ⟨s.ob, 0, none⟩), .pointer (some ⟨s.vx, 0, none⟩), .pointer (some ⟨s.pb, 0, none⟩)] (s.fs ps es) []
    (RetV (.tuple #[.string ⟨#[]⟩, .bool false])) := by
  obtain ⟨st1, sob, svx, spb, svb, ⟨x1, x2, x3, x4, x5, xs, x7, x8, ⟨x9, x10⟩, x11⟩, spo, spc, ⟨y1, y2, y3, y4, y5, ys, y7, y8, ⟨y9, y10⟩, y11⟩, soo, soc⟩ := s
  dsimp only [Sr.fs, prf] at *
  refine ⟨enters_of Tryz.func59 (by kernel_rfl) rfl, spec_of (vs := [_, _, _, _]) Tryz.func59 rfl Tryz.ntmps59 rfl fun G w hp => ?_⟩
  repeat' (first | refine l_run ?_ | refine l_nil ?_ | refine l_one ?_ | refine k_reg ?_ | refine l_ld ?_ | refine l_ldF ?_ | refine l_st ?_ | refine l_al (fun b => ?_) | refine l_bs (fun b => ?_) | refine k_condT ?_ | refine k_condF ?_ | refine k_brk ?_ | (refine l_split (fun hc => ?_) (fun hc => ?_) <;> (try simp at hc) <;> (try omega)) | (refine k_cond (fun hc => ?_) (fun hc => ?_) <;> (try simp at hc) <;> (try omega)))
  exact k_ret () rfl trivial
theorem fetchY_ok (i : Nat) (hi : (i : Int) < s.o.pg) : Enters 100 ∧ Spec Tryz.prog 100 #[.int .i64 (i : Int), .pointer (some ⟨s.t1, 0, none⟩)] (s.fs ps es) [Vw s.vb ps rs cs]
    ⟨Nat × List (Nm × Ch), fun q => .pointer (some ⟨q.1, 0, none⟩), fun _ => True, fun _ => [], fun q => [Hld q.1 (padS (vget es cs (gnm s.p.sp i)).1), Vw s.vb ps q.2 cs]⟩ := by
  have n1 := srcY_ok s ps es rs cs hsp i hi
  have n2 := newHeld_ok (vget es cs (gnm s.p.sp i)).1
  have n3 : Enters 101 := enters_of Tryz.func101 (by kernel_rfl) rfl
  generalize (vget es cs (gnm s.p.sp i)).1 = tx at *
  dsimp only [Sr.fs] at *
  refine ⟨enters_of Tryz.func100 (by kernel_rfl) rfl, spec_ofD (vs := [_, _]) Tryz.func100 rfl Tryz.ntmps100 rfl fun G w hp => ?_⟩
  repeat' (first | refine l_run ?_ | refine l_nil ?_ | refine l_one ?_ | refine k_reg ?_ | refine l_ld ?_ | refine l_ldF ?_ | refine l_st ?_ | refine l_al (fun b => ?_) | refine l_bs (fun b => ?_) | refine k_condT ?_ | refine k_condF ?_ | refine k_brk ?_ | refine l_call (n2) (fun _ _ => ?_) | refine l_call0 (n2) (fun _ _ => ?_) | refine l_defer ?_ | refine l_ldFn Tryz.underlying181 ?_ | refine l_callF n1 (fun _ _ => ?_) | (refine l_split (fun hc => ?_) (fun hc => ?_) <;> (try simp at hc) <;> (try omega)) | (refine k_cond (fun hc => ?_) (fun hc => ?_) <;> (try simp at hc) <;> (try omega)))
  rename_i r _ h _
  exact k_retD n3 (idleNew _) (h, r) rfl trivial
omit hsp in
theorem fetchN_ok (i : Nat) (hi : ¬ (i : Int) < s.o.pg) : Enters 100 ∧ Spec Tryz.prog 100 #[.int .i64 (i : Int), .pointer (some ⟨s.t1, 0, none⟩)] (s.fs ps es) [] (RetV (.pointer none)) := by
  have n1 := srcN_ok s ps es i hi
  have n3 : Enters 101 := enters_of Tryz.func101 (by kernel_rfl) rfl
  dsimp only [Sr.fs] at *
  refine ⟨enters_of Tryz.func100 (by kernel_rfl) rfl, spec_ofD (vs := [_, _]) Tryz.func100 rfl Tryz.ntmps100 rfl fun G w hp => ?_⟩
  repeat' (first | refine l_run ?_ | refine l_nil ?_ | refine l_one ?_ | refine k_reg ?_ | refine l_ld ?_ | refine l_ldF ?_ | refine l_st ?_ | refine l_al (fun b => ?_) | refine l_bs (fun b => ?_) | refine k_condT ?_ | refine k_condF ?_ | refine k_brk ?_ | refine l_defer ?_ | refine l_ldFn Tryz.underlying181 ?_ | refine l_callF n1 (fun _ _ => ?_) | (refine l_split (fun hc => ?_) (fun hc => ?_) <;> (try simp at hc) <;> (try omega)) | (refine k_cond (fun hc => ?_) (fun hc => ?_) <;> (try simp at hc) <;> (try omega)))
  exact k_retD n3 (idleNew _) () rfl trivial

/-- The space after a page was needed. -/
def ndM (src : Nat → Pg) (M : Nat → Pg) (i : Nat) : Nat → Pg := match M i with
  | .u => up M i (src i)
  | _ => M
omit hsp in
theorem srP_kn {es : Al} {cs : List Ch} {s : Sr} {i : Nat} : (srP es cs s i).kn = true ∧ (srP es cs s i).chg = false := by
  unfold srP; split <;> exact ⟨rfl, rfl⟩
theorem need_ok (b : Nat) (M : Nat → Pg) (ak : Nat → Bool) (bl : Nat → Nat) (i : Nat) (hi : i < 64) :
    Enters 105 ∧ Spec Tryz.prog 105 #[.pointer (some ⟨b, 0, none⟩), .int .i64 (i : Int)] (s.fs ps es) [Ar 138 cf b (spcL s.fv M ak bl), Hd M bl, Vw s.vb ps rs cs]
    ⟨(Nat → Bool) × (Nat → Nat) × List (Nm × Ch), fun q => pgv (ndM (srP es cs s) M i i) (q.2.1 i), fun _ => True, fun _ => [], fun q => [Ar 138 cf b (spcL s.fv (ndM (srP es cs s) M i) q.1 q.2.1), Hd (ndM (srP es cs s) M i) q.2.1, Vw s.vb ps q.2.2 cs]⟩ := by
  have o1 : 0 + (0 + 1) + i = (1 + i) * 1 + 0 := by omega
  have o2 : 0 + (0 + 65) + i = (65 + i) * 1 + 0 := by omega
  have o4 : 0 + (0 + 193) + i = (193 + i) * 1 + 0 := by omega
  have g1 := spc_kn (fv := s.fv) (M := M) (ak := ak) (bl := bl) hi
  have g2 := spc_pg (fv := s.fv) (M := M) (ak := ak) (bl := bl) hi
  by_cases hu : M i = .u
  · have hnd : ndM (srP es cs s) M i = up M i (srP es cs s i) := by unfold ndM; rw [hu]
    rw [hnd, up_eq]
    have g0 := spc_f (fv := s.fv) (M := M) (ak := ak) (bl := bl)
    have hk := srP_kn (es := es) (cs := cs) (s := s) (i := i)
    rw [hu] at g1
    have e1 : ((spcL s.fv M ak bl).set (1 + i) (.bool true))[0]? = some s.fv := by rw [List.getElem?_set_ne (by omega)]; exact g0
    have e2 : ((spcL s.fv M ak bl).set (1 + i) (.bool true))[65 + i]? = some (.bool (ak i)) := by rw [List.getElem?_set_ne (by omega)]; exact spc_ak hi
    have e3 : (((spcL s.fv M ak bl).set (1 + i) (.bool true)).set (65 + i) (.bool true))[0]? = some s.fv := by rw [List.getElem?_set_ne (by omega)]; exact e1
    have e4 : (((spcL s.fv M ak bl).set (1 + i) (.bool true)).set (65 + i) (.bool true))[193 + i]? = some (pgv (M i) (bl i)) := by rw [List.getElem?_set_ne (by omega), List.getElem?_set_ne (by omega)]; exact g2
    have e5 := fun hb : Nat => spc_get (fv := s.fv) (M := up M i (srP es cs s i)) (ak := up ak i true) (bl := up bl i hb) (k := 193 + i) (by omega)
    have hnew := fun hb : Nat => spc_new (fv := s.fv) (ak := ak) (bl := bl) hi hu (srP es cs s i) hk.1 hk.2 hb
    have e6 : ∀ hb, (spcL s.fv (up M i (srP es cs s i)) (up ak i true) (up bl i hb))[193 + i]? = some (pgv (srP es cs s i) hb) := fun hb => by
      have := spc_pg (fv := s.fv) (M := up M i (srP es cs s i)) (ak := up ak i true) (bl := up bl i hb) hi
      rw [up_eq, up_eq] at this; exact this
    have hpu : pgH (M i) (bl i) = [] := by rw [hu]; rfl
    rw [hu] at g2 e4
    have g6 : ∀ v : Value, ((((spcL s.fv M ak bl).set (1 + i) (.bool true)).set (65 + i) (.bool true)).set (193 + i) v)[193 + i]? = some v := fun v => List.getElem?_set_self (by simp [spc_len]; omega)
    by_cases hpg : (i : Int) < s.o.pg
    · have hs : srP es cs s i = .h (padS (vget es cs (gnm s.p.sp i)).1) false := by unfold srP; rw [if_pos hpg]
      have n1 := fetchY_ok s ps es rs cs hsp i hpg
      rw [hs] at hnew ⊢
      clear e5 e6 hnd hk hs
      generalize padS (vget es cs (gnm s.p.sp i)).1 = bs at *
      generalize spcL s.fv M ak bl = L0 at *
      dsimp only [Sr.fs] at *
      generalize b = bv at *
      refine ⟨enters_of Tryz.func105 (by kernel_rfl) rfl, spec_of (vs := [_, _]) Tryz.func105 rfl Tryz.ntmps105 rfl fun G w hp => ?_⟩
      repeat' (first | refine l_run ?_ | refine l_nil ?_ | refine l_one ?_ | refine k_reg ?_ | refine l_ld ?_ | refine l_ldF ?_ | refine l_st ?_ | refine l_al (fun b => ?_) | refine l_bs (fun b => ?_) | refine k_condT ?_ | refine k_condF ?_ | refine k_brk ?_ | refine r_run ?_ | refine r_one ?_ | refine r_ld ?_ | refine r_ldF ?_ | refine r_ldN ?_ | refine r_al (fun b => ?_) | refine r_bs (fun b => ?_) | refine r_st ?_ | refine r_end ?_ | refine l_qS ?_ | refine r_qS ?_ | refine l_ixA1 (m := 64) i hi ?_ | refine r_ixA1 (m := 64) i hi ?_ | refine l_ldA 1 (1 + i) 0 g1 ?_ (ho := o1) | refine l_stA 1 (1 + i) 0 (.bool true) g1 ?_ (ho := o1) | refine l_ldFc Tryz.underlying134 0 e1 ?_ | refine l_nefn Tryz.underlying134 ?_ | refine l_stA 1 (65 + i) 0 (.bool true) e2 ?_ (ho := o2) | refine r_ldFc Tryz.underlying134 0 e3 ?_ | refine r_callF n1 (fun _ _ => ?_) | refine l_stA 1 (193 + i) 0 _ e4 ?_ (ho := o4) | refine l_ldA 1 (193 + i) 0 (g6 _) ?_ (ho := o4) | (refine l_split (fun hc => ?_) (fun hc => ?_) <;> (try simp at hc) <;> (try omega)) | (refine r_split (fun hc => ?_) (fun hc => ?_) <;> (try simp at hc) <;> (try omega)) | refine k_draw 5 [Vw _ _ _ _] [(0, 0), (1, 0), (2, 0), (3, 0), (4, 0), (5, 0), (6, 0), (8, 0), (9, 0), (7, 4), (10, 0)] [11] ?_ | (refine k_cond (fun hc => ?_) (fun hc => ?_) <;> (try simp at hc) <;> (try omega)))
      rename_i x _
      obtain ⟨h, r⟩ := x
      dsimp only
      rw [show (((L0.set (1 + i) (.bool true)).set (65 + i) (.bool true)).set (193 + i) (Value.pointer (some ⟨h, 0, none⟩))) = _ from hnew h]
      refine k_hdN (M := M) (bl := bl) (b := h) (bs := bs) false hi hpu ?_
      have e0 : pgv (.h bs false) (up bl i h i) = Value.pointer (some ⟨h, 0, none⟩) := by rw [up_eq]; rfl
      refine k_ret (up ak i true, up bl i h, r) ?_ trivial
      exact e0.symm
    · have hs : srP es cs s i = .n := by unfold srP; rw [if_neg hpg]
      have n1 := fetchN_ok s ps es i hpg
      rw [hs] at hnew ⊢
      clear e5 e6 hnd hk hs
      generalize spcL s.fv M ak bl = L0 at *
      dsimp only [Sr.fs] at *
      generalize b = bv at *
      refine ⟨enters_of Tryz.func105 (by kernel_rfl) rfl, spec_of (vs := [_, _]) Tryz.func105 rfl Tryz.ntmps105 rfl fun G w hp => ?_⟩
      repeat' (first | refine l_run ?_ | refine l_nil ?_ | refine l_one ?_ | refine k_reg ?_ | refine l_ld ?_ | refine l_ldF ?_ | refine l_st ?_ | refine l_al (fun b => ?_) | refine l_bs (fun b => ?_) | refine k_condT ?_ | refine k_condF ?_ | refine k_brk ?_ | refine r_run ?_ | refine r_one ?_ | refine r_ld ?_ | refine r_ldF ?_ | refine r_ldN ?_ | refine r_al (fun b => ?_) | refine r_bs (fun b => ?_) | refine r_st ?_ | refine r_end ?_ | refine l_qS ?_ | refine r_qS ?_ | refine l_ixA1 (m := 64) i hi ?_ | refine r_ixA1 (m := 64) i hi ?_ | refine l_ldA 1 (1 + i) 0 g1 ?_ (ho := o1) | refine l_stA 1 (1 + i) 0 (.bool true) g1 ?_ (ho := o1) | refine l_ldFc Tryz.underlying134 0 e1 ?_ | refine l_nefn Tryz.underlying134 ?_ | refine l_stA 1 (65 + i) 0 (.bool true) e2 ?_ (ho := o2) | refine r_ldFc Tryz.underlying134 0 e3 ?_ | refine r_callF n1 (fun _ _ => ?_) | refine l_stA 1 (193 + i) 0 _ e4 ?_ (ho := o4) | refine l_ldA 1 (193 + i) 0 (g6 _) ?_ (ho := o4) | (refine l_split (fun hc => ?_) (fun hc => ?_) <;> (try simp at hc) <;> (try omega)) | (refine r_split (fun hc => ?_) (fun hc => ?_) <;> (try simp at hc) <;> (try omega)) | refine k_draw 5 [Vw _ _ _ _] [(0, 0), (1, 0), (2, 0), (3, 0), (4, 0), (5, 0), (6, 0), (8, 0), (9, 0), (7, 4), (10, 0)] [11] ?_ | (refine k_cond (fun hc => ?_) (fun hc => ?_) <;> (try simp at hc) <;> (try omega)))
      have hnew0 := hnew (bl i)
      rw [up_id] at hnew0
      have hH := hd_none (M := M) (bl := bl) hi hpu (bl i)
      rw [up_id] at hH
      rw [show (((L0.set (1 + i) (.bool true)).set (65 + i) (.bool true)).set (193 + i) (Value.pointer none)) = _ from hnew0, ← hH]
      exact k_ret (up ak i true, bl, rs) rfl trivial
  · have hnd : ndM (srP es cs s) M i = M := by
      unfold ndM; split
      · rename_i h; exact absurd h hu
      · rfl
    rw [hnd]
    have hk : (M i).kn = true := by
      cases h : M i with
      | u => exact absurd h hu
      | n => rfl
      | h bs c => rfl
    rw [hk] at g1
    obtain ⟨L0, hL0⟩ : ∃ L0, L0 = spcL s.fv M ak bl := ⟨_, rfl⟩
    obtain ⟨pv, hpv⟩ : ∃ pv, pv = pgv (M i) (bl i) := ⟨_, rfl⟩
    rw [← hL0, ← hpv] at g2
    rw [← hL0] at g1 ⊢
    dsimp only [Sr.fs]
    refine ⟨enters_of Tryz.func105 (by kernel_rfl) rfl, spec_of (vs := [_, _]) Tryz.func105 rfl Tryz.ntmps105 rfl fun G w hp => ?_⟩
    repeat' (first | refine l_run ?_ | refine l_nil ?_ | refine l_one ?_ | refine k_reg ?_ | refine l_ld ?_ | refine l_ldF ?_ | refine l_st ?_ | refine l_al (fun b => ?_) | refine l_bs (fun b => ?_) | refine k_condT ?_ | refine k_condF ?_ | refine k_brk ?_ | refine l_qS ?_ | refine r_qS ?_ | refine l_ixA1 (m := 64) i hi ?_ | refine l_ldA 1 (1 + i) 0 g1 ?_ (ho := o1) | refine l_ldA 1 (193 + i) 0 g2 ?_ (ho := o4) | (refine l_split (fun hc => ?_) (fun hc => ?_) <;> (try simp at hc) <;> (try omega)) | (refine k_cond (fun hc => ?_) (fun hc => ?_) <;> (try simp at hc) <;> (try omega)))
    subst hL0 hpv
    exact k_ret (ak, bl, rs) rfl trivial
end
end Go.Proofs.YtgaipgbgppdfeaaGreatDoor
