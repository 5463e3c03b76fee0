/-
  Contracts of the package process: Check.
  Conditions: those that each theorem states.
-/
import Derived.Test.YtgaipgbgppdfeaaGreatDoorMJ
import Derived.Test.YtgaipgbgppdfeaaGreatDoorMC
import Derived.Test.YtgaipgbgppdfeaaGreatDoorMB
set_option maxRecDepth 10000
namespace Go.Proofs.YtgaipgbgppdfeaaGreatDoor
open Go.RowKit

/-- A process. -/
structure Pr where
  kd : Int
  st : Int
  cd : Int
  ep : Int
  us : Int
  gs : List Int
  sp : ByteArray
  pg : Int
  dr : Bi
  tm : Int
  deriving DecidableEq
def Pr.v (p : Pr) (o : Option Addr) (c : Nat) : Value := .agg #[.int .i64 p.kd, .int .i64 p.st, .int .i64 p.cd, .int .i64 p.ep, .int .i64 p.us, .slice o p.gs.length c, .string p.sp, .int .i64 p.pg, .string p.dr.mkr, .int .i64 p.dr.nu, .int .i64 p.tm]
def Pr.z : Pr := ⟨0, 0, 0, 0, 0, [], ⟨#[]⟩, 0, Bi.z, 0⟩
/-- The groups' numbers fit. -/
def gok (gs : List Int) : Prop := ∀ i < gs.length, 0 ≤ gs.getD i 0 ∧ gs.getD i 0 ≤ 65535
instance (gs : List Int) : Decidable (gok gs) := by unfold gok; infer_instance
/-- The groups rise. -/
def gsq (gs : List Int) : Prop := ∀ i < gs.length, i + 1 < gs.length → gs.getD i 0 < gs.getD (i + 1) 0
instance (gs : List Int) : Decidable (gsq gs) := by unfold gsq; infer_instance
/-- What checkGroups answers. -/
def gchk (gs : List Int) : Int := if 8 < gs.length then 9 else if ¬ gok gs then 2 else if ¬ gsq gs then 32 else 0
def pfit (p : Pr) : Prop := (0 ≤ p.cd ∧ p.cd ≤ 410) ∧ (p.st ≠ 1 ∨ p.cd = 0) ∧ (0 ≤ p.ep ∧ p.ep ≤ 1073741824) ∧ (0 ≤ p.us ∧ p.us ≤ 65535) ∧ (0 ≤ p.pg ∧ p.pg ≤ 64) ∧ 0 ≤ p.tm ∧ p.tm ≤ 99
instance (p : Pr) : Decidable (pfit p) := by unfold pfit; infer_instance
/-- What Check answers. -/
def pchk (p : Pr) : Int :=
  if p.kd ≠ 1 ∧ p.kd ≠ 2 then 11
  else if p.st < 1 ∨ 3 < p.st then 10
  else if ¬ pfit p then 2
  else if gchk p.gs ≠ 0 then gchk p.gs
  else if lvalid p.sp.data.toList = false then 12
  else bchk p.dr

theorem pin_ok (x m : Int) : Enters 70 ∧ Spec Tryz.prog 70 #[.int .i64 x, .int .i64 m] [] [] (RetV (.bool (decide (0 ≤ x) && decide (x ≤ m)))) := by
  refine ⟨enters_of Tryz.func70 (by kernel_rfl) rfl, spec_of (vs := [_, _]) Tryz.func70 rfl Tryz.ntmps70 rfl fun G w hp => ?_⟩
  repeat' (first | refine l_run ?_ | refine l_nil ?_ | refine l_one ?_ | refine k_reg ?_ | refine l_ld ?_ | refine l_ldF ?_ | refine l_st ?_ | refine l_al (fun b => ?_) | refine l_bs (fun b => ?_) | refine k_condT ?_ | refine k_condF ?_ | refine k_brk ?_ | refine l_split (fun hc => ?_) (fun hc => ?_) | refine k_cond (fun hc => ?_) (fun hc => ?_))
  all_goals (refine k_ret () ?_ trivial; simp_all [RetV, resV] <;> omega)

theorem getD_of {l : List Int} {i : Nat} {x : Int} (h : l[i]? = some x) : l.getD i 0 = x := by simp [List.getD, h]

set_option maxHeartbeats 1000000 in
theorem checkGroups_ok (o : Option Addr) (c : Nat) (gs : List Int) (hl : gs.length ≤ 1099511627776) : Enters 140 ∧ Spec Tryz.prog 140 #[.slice o gs.length c] [Sl 3 zf o c gs] [] (RetV (.int .i64 (gchk gs))) := by
  generalize hr : gchk gs = r
  unfold gchk at hr
  refine ⟨enters_of Tryz.func140 (by kernel_rfl) rfl, spec_of (vs := [_]) Tryz.func140 rfl Tryz.ntmps140 rfl fun G w hp => ?_⟩
  repeat' (first | refine l_run ?_ | refine l_nil ?_ | refine l_one ?_ | refine k_reg ?_ | refine l_ld ?_ | refine l_ldF ?_ | refine l_st ?_ | refine l_al (fun b => ?_) | refine l_bs (fun b => ?_) | refine k_condT ?_ | refine k_condF ?_ | refine k_brk ?_ | refine r_run ?_ | refine r_one ?_ | refine r_ld ?_ | refine r_ldF ?_ | refine r_ldN ?_ | refine r_al (fun b => ?_) | refine r_bs (fun b => ?_) | refine r_st ?_ | refine r_end ?_ | (refine l_split (fun hc => ?_) (fun hc => ?_) <;> (try simp at hc) <;> (try omega)) | (refine r_split (fun hc => ?_) (fun hc => ?_) <;> (try simp at hc) <;> (try omega)) | refine k_draw 12 [] [(0, 0), (1, 0), (2, 0), (3, 0), (4, 0), (5, 0), (6, 0), (7, 0), (8, 0), (9, 0)] [] ?_ | (refine k_cond (fun hc => ?_) (fun hc => ?_) <;> (try simp at hc) <;> (try omega)))
  · rw [if_pos (by omega)] at hr; subst hr; exact k_ret () rfl trivial
  rw [if_neg (by omega)] at hr
  refine k_lp (X := { i : Nat // i ≤ gs.length ∧ ∀ j < i, 0 ≤ gs.getD j 0 ∧ gs.getD j 0 ≤ 65535 }) (fun i => [(0, .slice o gs.length c), (9, .slice o gs.length c), (10, .int .i64 (gs.length : Int)), (11, .int .i64 (i.1 : Int))]) (fun _ => [Sl 3 zf o c gs]) (fun _ => []) (fun i => gs.length - i.1) ⟨0, by omega, fun j hj => by omega⟩ ⟨rfl, rfl, rfl, rfl, trivial⟩ ?_
  rintro ⟨i, hi1, hi2⟩
  dsimp only
  by_cases hlt : i < gs.length
  · obtain ⟨x, hx⟩ : ∃ x, gs[i]? = some x := ⟨_, List.getElem?_eq_getElem hlt⟩
    have hg := getD_of hx
    have n1 := pin_ok x 65535
    repeat' (first | refine l_run ?_ | refine l_nil ?_ | refine l_one ?_ | refine k_reg ?_ | refine l_ld ?_ | refine l_ldF ?_ | refine l_st ?_ | refine l_al (fun b => ?_) | refine l_bs (fun b => ?_) | refine k_condT ?_ | refine k_condF ?_ | refine r_run ?_ | refine r_one ?_ | refine r_ld ?_ | refine r_ldF ?_ | refine r_ldN ?_ | refine r_al (fun b => ?_) | refine r_bs (fun b => ?_) | refine r_st ?_ | refine r_end ?_ | refine l_call (n1) (fun _ _ => ?_) | refine l_call0 (n1) (fun _ _ => ?_) | refine r_call (n1) (fun _ _ => ?_) | refine l_ixe (es := gs) i x hx (fun b off => ?_) | refine l_ldC ?_ | (refine l_split (fun hc => ?_) (fun hc => ?_) <;> (try simp at hc) <;> (try omega)) | (refine r_split (fun hc => ?_) (fun hc => ?_) <;> (try simp at hc) <;> (try omega)) | refine k_draw 12 [] [(0, 0), (1, 0), (2, 0), (3, 0), (4, 0), (5, 0), (6, 0), (7, 0), (8, 0), (9, 0)] [] ?_ | (refine k_cond (fun hc => ?_) (fun hc => ?_) <;> (try simp at hc) <;> (try omega)))
    · have e : r = 2 := by
        rw [← hr, if_pos]
        intro h
        have h2 := h i hlt
        rw [hg] at h2
        omega
      exact k_rt (w_lq (w_rv (congrArg (Value.int .i64) e) (w_ret () rfl trivial)))
    · rw [wrapi (z := (i : Int) + 1) (by omega) (by omega)]
      refine k_next ⟨i + 1, by omega, fun j hj => ?_⟩ (by show gs.length - (i + 1) < gs.length - i; omega) ⟨rfl, rfl, rfl, rfl, trivial⟩
      by_cases hij : j = i
      · subst hij
        rw [hg]
        omega
      · exact hi2 j (by omega)
  · have hk : gok gs := fun j hj => hi2 j (by omega)
    rw [if_neg (by simp [hk])] at hr
    repeat' (first | refine l_run ?_ | refine l_nil ?_ | refine l_one ?_ | refine k_reg ?_ | refine l_ld ?_ | refine l_ldF ?_ | refine l_st ?_ | refine l_al (fun b => ?_) | refine l_bs (fun b => ?_) | refine k_condT ?_ | refine k_condF ?_ | refine k_brk ?_ | refine r_run ?_ | refine r_one ?_ | refine r_ld ?_ | refine r_ldF ?_ | refine r_ldN ?_ | refine r_al (fun b => ?_) | refine r_bs (fun b => ?_) | refine r_st ?_ | refine r_end ?_ | (refine l_split (fun hc => ?_) (fun hc => ?_) <;> (try simp at hc) <;> (try omega)) | (refine r_split (fun hc => ?_) (fun hc => ?_) <;> (try simp at hc) <;> (try omega)) | refine k_draw 12 [] [(0, 0), (1, 0), (2, 0), (3, 0), (4, 0), (5, 0), (6, 0), (7, 0), (8, 0), (9, 0)] [] ?_ | (refine k_cond (fun hc => ?_) (fun hc => ?_) <;> (try simp at hc) <;> (try omega)))
    refine k_lp (X := { i : Nat // i ≤ gs.length ∧ ∀ j < i, j + 1 < gs.length → gs.getD j 0 < gs.getD (j + 1) 0 }) (fun i => [(0, .slice o gs.length c), (5, .int .i64 ((i.1 + 1 : Nat) : Int))]) (fun _ => [Sl 3 zf o c gs]) (fun _ => []) (fun i => gs.length - i.1) ⟨0, by omega, fun j hj => by omega⟩ ⟨rfl, rfl, trivial⟩ ?_
    rintro ⟨k, hk1, hk2⟩
    dsimp only
    by_cases hlk : k + 1 < gs.length
    · obtain ⟨x, hx⟩ : ∃ x, gs[k]? = some x := ⟨_, List.getElem?_eq_getElem (by omega)⟩
      obtain ⟨y, hy⟩ : ∃ y, gs[k + 1]? = some y := ⟨_, List.getElem?_eq_getElem hlk⟩
      have hgx := getD_of hx
      have hgy := getD_of hy
      have hw1 : IntKind.i64.wrap (((k + 1 : Nat) : Int) - 1) = (k : Int) := by rw [wrapi (by omega) (by omega)]; omega
      have hw2 : IntKind.i64.wrap (((k + 1 : Nat) : Int) + 1) = ((k + 1 + 1 : Nat) : Int) := by rw [wrapi (by omega) (by omega)]; omega
      repeat' (first | refine l_run ?_ | refine l_nil ?_ | refine l_one ?_ | refine k_reg ?_ | refine l_ld ?_ | refine l_ldF ?_ | refine l_st ?_ | refine l_al (fun b => ?_) | refine l_bs (fun b => ?_) | refine k_condT ?_ | refine k_condF ?_ | refine r_run ?_ | refine r_one ?_ | refine r_ld ?_ | refine r_ldF ?_ | refine r_ldN ?_ | refine r_al (fun b => ?_) | refine r_bs (fun b => ?_) | refine r_st ?_ | refine r_end ?_ | rw [hw1] | rw [hw2] | refine r_ixe (es := gs) (k + 1) y hy (fun b off => ?_) | refine r_ixe (es := gs) k x hx (fun b off => ?_) | refine r_ldC ?_ | (refine l_split (fun hc => ?_) (fun hc => ?_) <;> (try simp at hc) <;> (try omega)) | (refine r_split (fun hc => ?_) (fun hc => ?_) <;> (try simp at hc) <;> (try omega)) | refine k_draw 12 [] [(0, 0), (1, 0), (2, 0), (3, 0), (4, 0), (5, 0), (6, 0), (7, 0), (8, 0), (9, 0)] [] ?_ | (refine k_cond (fun hc => ?_) (fun hc => ?_) <;> (try simp at hc) <;> (try omega)))
      · have e : r = 32 := by
          rw [← hr, if_pos]
          intro h
          have h2 := h k (by omega) hlk
          rw [hgx, hgy] at h2
          omega
        exact k_rt (w_lq (w_rv (congrArg (Value.int .i64) e) (w_ret () rfl trivial)))
      · refine k_next ⟨k + 1, by omega, fun j hj h1 => ?_⟩ (by show gs.length - (k + 1) < gs.length - k; omega) ⟨rfl, rfl, trivial⟩
        by_cases hjk : j = k
        · subst hjk
          rw [hgx, hgy]
          omega
        · exact hk2 j (by omega) h1
    · have hs : gsq gs := fun j hj h1 => hk2 j (by omega) h1
      rw [if_neg (by simp [hs])] at hr
      subst hr
      repeat' (first | refine l_run ?_ | refine l_nil ?_ | refine l_one ?_ | refine k_reg ?_ | refine l_ld ?_ | refine l_ldF ?_ | refine l_st ?_ | refine l_al (fun b => ?_) | refine l_bs (fun b => ?_) | refine k_condT ?_ | refine k_condF ?_ | refine k_brk ?_ | refine r_run ?_ | refine r_one ?_ | refine r_ld ?_ | refine r_ldF ?_ | refine r_ldN ?_ | refine r_al (fun b => ?_) | refine r_bs (fun b => ?_) | refine r_st ?_ | refine r_end ?_ | (refine l_split (fun hc => ?_) (fun hc => ?_) <;> (try simp at hc) <;> (try omega)) | (refine r_split (fun hc => ?_) (fun hc => ?_) <;> (try simp at hc) <;> (try omega)) | refine k_draw 12 [] [(0, 0), (1, 0), (2, 0), (3, 0), (4, 0), (5, 0), (6, 0), (7, 0), (8, 0), (9, 0)] [] ?_ | (refine k_cond (fun hc => ?_) (fun hc => ?_) <;> (try simp at hc) <;> (try omega)))
      exact k_ret () rfl trivial

theorem inRange_ok (p : Pr) (o : Option Addr) (c : Nat) : Enters 139 ∧ Spec Tryz.prog 139 #[p.v o c] [] [] (RetV (.bool (decide (pfit p)))) := by
  have n1 := pin_ok p.cd 410
  have n2 := pin_ok p.ep 1073741824
  have n3 := pin_ok p.us 65535
  have n4 := pin_ok p.pg 64
  have n5 := pin_ok p.tm 99
  refine ⟨enters_of Tryz.func139 (by kernel_rfl) rfl, spec_of (vs := [_]) Tryz.func139 rfl Tryz.ntmps139 rfl fun G w hp => ?_⟩
  repeat' (first | refine l_run ?_ | refine l_nil ?_ | refine l_one ?_ | refine k_reg ?_ | refine l_ld ?_ | refine l_ldF ?_ | refine l_st ?_ | refine l_al (fun b => ?_) | refine l_bs (fun b => ?_) | refine k_condT ?_ | refine k_condF ?_ | refine k_brk ?_ | refine l_call (n1) (fun _ _ => ?_) | refine l_call0 (n1) (fun _ _ => ?_) | refine l_call (n2) (fun _ _ => ?_) | refine l_call0 (n2) (fun _ _ => ?_) | refine l_call (n3) (fun _ _ => ?_) | refine l_call0 (n3) (fun _ _ => ?_) | refine l_call (n4) (fun _ _ => ?_) | refine l_call0 (n4) (fun _ _ => ?_) | refine l_call (n5) (fun _ _ => ?_) | refine l_call0 (n5) (fun _ _ => ?_) | (refine l_split (fun hc => ?_) (fun hc => ?_) <;> (try simp at hc)) | (refine k_cond (fun hc => ?_) (fun hc => ?_) <;> (try simp at hc)))
  all_goals refine k_ret () ?_ trivial
  all_goals refine congrArg Value.bool ?_
  all_goals first | (unfold pfit; simp_all; done) | (unfold pfit; simp_all; omega) | (symm; rw [decide_eq_false_iff_not]; unfold pfit; omega)

theorem proCheck_ok (p : Pr) (o : Option Addr) (c : Nat) (hl : p.gs.length ≤ 1099511627776) (h1 : p.sp.size ≤ 1099511627776) (h2 : p.dr.mkr.size ≤ 1099511627776) : Enters 82 ∧ Spec Tryz.prog 82 #[p.v o c] [Sl 3 zf o c p.gs] [] (RetV (.int .i64 (pchk p))) := by
  have n1 := inRange_ok p o c
  have n2 := checkGroups_ok o c p.gs hl
  have n3 := valid_ok p.sp h1
  have n4 := birthCheck_ok p.dr h2
  generalize hr : pchk p = r
  unfold pchk at hr
  refine ⟨enters_of Tryz.func82 (by kernel_rfl) rfl, spec_of (vs := [_]) Tryz.func82 rfl Tryz.ntmps82 rfl fun G w hp => ?_⟩
  repeat' (first | refine l_run ?_ | refine l_nil ?_ | refine l_one ?_ | refine k_reg ?_ | refine l_ld ?_ | refine l_ldF ?_ | refine l_st ?_ | refine l_al (fun b => ?_) | refine l_bs (fun b => ?_) | refine k_condT ?_ | refine k_condF ?_ | refine k_brk ?_ | refine l_call (n1) (fun _ _ => ?_) | refine l_call0 (n1) (fun _ _ => ?_) | refine l_call (n2) (fun _ _ => ?_) | refine l_call0 (n2) (fun _ _ => ?_) | refine l_call (n3) (fun _ _ => ?_) | refine l_call0 (n3) (fun _ _ => ?_) | refine l_call (n4) (fun _ _ => ?_) | refine l_call0 (n4) (fun _ _ => ?_) | (refine l_split (fun hc => ?_) (fun hc => ?_) <;> (try simp at hc) <;> (try omega)) | (refine k_cond (fun hc => ?_) (fun hc => ?_) <;> (try simp at hc) <;> (try omega)))
  all_goals (refine k_ret () ?_ trivial; refine congrArg (Value.int .i64) ?_; rw [← hr])
  all_goals first
    | (rw [if_pos (by omega)]; done)
    | (rw [if_neg (by omega), if_pos (by omega)]; done)
    | (rw [if_neg (by omega), if_neg (by omega), if_pos (by simpa using hc)]; done)
    | (rw [if_neg (by omega), if_neg (by omega), if_neg (by simp_all), if_pos (by simpa using hc)]; done)
    | (rw [if_neg (by omega), if_neg (by omega), if_neg (by simp_all), if_neg (by simp_all), if_pos (by simp_all)]; done)
    | (rw [if_neg (by omega), if_neg (by omega), if_neg (by simp_all), if_neg (by simp_all), if_neg (by simp_all)]; done)
end Go.Proofs.YtgaipgbgppdfeaaGreatDoor
