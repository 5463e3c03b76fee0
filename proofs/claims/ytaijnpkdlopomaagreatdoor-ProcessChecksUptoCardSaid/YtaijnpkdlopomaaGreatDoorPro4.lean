/-
  The statements' own check of processes.
  Conditions: those that each theorem states.
-/
import Derived.Test.YtaijnpkdlopomaaGreatDoorPro2
import Derived.Test.YtaijnpkdlopomaaGreatDoorKCut
set_option maxRecDepth 10000
namespace Go.Proofs.YtaijnpkdlopomaaGreatDoor
open Go.RowKit

/-- What is looked at last. -/
def pchk2 (p : Pr) : Int := if gchk p.gs ≠ 0 then gchk p.gs else if lvalid p.sp.data.toList = false then 12 else bchk p.dr
theorem pchk_2 {p : Pr} (h1 : p.kd = 1 ∨ p.kd = 2) (h2 : 1 ≤ p.st ∧ p.st ≤ 3) (h3 : pfit p) : pchk p = pchk2 p := by
  unfold pchk pchk2
  rw [if_neg (by omega), if_neg (by omega), if_neg (by simp [h3])]
theorem pchk_11 {p : Pr} (h1 : ¬ (p.kd = 1 ∨ p.kd = 2)) : pchk p = 11 := by unfold pchk; rw [if_pos (by omega)]
theorem pchk_10 {p : Pr} (h1 : p.kd = 1 ∨ p.kd = 2) (h2 : ¬ (1 ≤ p.st ∧ p.st ≤ 3)) : pchk p = 10 := by unfold pchk; rw [if_neg (by omega), if_pos (by omega)]
theorem pchk_02 {p : Pr} (h1 : p.kd = 1 ∨ p.kd = 2) (h2 : 1 ≤ p.st ∧ p.st ≤ 3) (h3 : ¬ pfit p) : pchk p = 2 := by unfold pchk; rw [if_neg (by omega), if_neg (by omega), if_pos (by simp [h3])]
theorem pchk2_g {p : Pr} {z : Int} (h : gchk p.gs = z) (hz : z ≠ 0) : pchk2 p = z := by unfold pchk2; rw [h, if_pos hz]
set_option maxHeartbeats 4000000 in
theorem check35_ok (p : Pr) (o : Option Addr) (c : Nat) (hl : p.gs.length ≤ 1099511627776) (h1 : p.sp.size ≤ 1099511627776) (h2 : p.dr.mkr.size ≤ 1099511627776) : Enters 7 ∧ Spec Tryz.prog 7 #[p.v o c] [Sl 3 zf o c p.gs] [] (RetV (.int .i64 (pchk p))) := by
  have n3 := valid_ok p.sp h1
  have n4 := birthCheck_ok p.dr h2
  generalize hr : pchk p = r
  refine ⟨enters_of Tryz.func7 (by kernel_rfl) rfl, spec_of (vs := [_]) Tryz.func7 rfl Tryz.ntmps7 rfl fun G w hp => ?_⟩
  refine k_cutd (Y := { b : Nat // (p.kd = 1 ∨ p.kd = 2) ∧ 1 ≤ p.st ∧ p.st ≤ 3 }) 3 (fun y => [(1, .pointer (some ⟨y.1, 0, none⟩))]) (fun _ => [Sl 3 zf o c p.gs]) (fun y => [Pt y.1 (.cells (prf p o c).toArray 29)]) ?_ ?_
  rotate_left
  · intro hx
    repeat' (first | refine k_skp ?_ | refine k_to hx ⟨b, by omega, by omega⟩ ⟨rfl, trivial⟩ | refine l_run ?_ | refine l_nil ?_ | refine l_one ?_ | refine k_reg ?_ | refine l_ld ?_ | refine l_ldF ?_ | refine l_st ?_ | refine l_al (fun b => ?_) | refine l_bs (fun b => ?_) | refine k_condT ?_ | refine k_condF ?_ | refine k_brk ?_ | refine r_run ?_ | refine r_one ?_ | refine r_ld ?_ | refine r_ldF ?_ | refine r_ldN ?_ | refine r_al (fun b => ?_) | refine r_bs (fun b => ?_) | refine r_st ?_ | refine r_end ?_ | (refine l_split (fun hc => ?_) (fun hc => ?_) <;> (try simp at hc) <;> (try omega)) | (refine r_split (fun hc => ?_) (fun hc => ?_) <;> (try simp at hc) <;> (try omega)) | refine k_draw 18 [] [(0, 0), (1, 0), (2, 0), (3, 0), (4, 0), (5, 0), (6, 0), (7, 0), (8, 0), (9, 0)] [] ?_ | (refine k_cond (fun hc => ?_) (fun hc => ?_) <;> (try simp at hc) <;> (try omega)))
    all_goals
      (refine k_ret () ?_ trivial
       refine congrArg (Value.int .i64) ?_
       rw [← hr]
       first
       | exact (pchk_11 (by omega)).symm
       | exact (pchk_10 (by omega) (by omega)).symm)
  rintro ⟨b, hk0⟩
  refine k_cutd (Y := { u : Unit // pfit p }) 1 (fun y => [(1, .pointer (some ⟨b, 0, none⟩))]) (fun _ => [Sl 3 zf o c p.gs]) (fun y => [Pt b (.cells (prf p o c).toArray 29)]) ?_ ?_
  rotate_left
  · intro hx
    by_cases hst : p.st = 1
    · repeat' (first | refine k_skp ?_ | refine k_to hx ⟨(), by unfold pfit; omega⟩ ⟨rfl, trivial⟩ | refine l_run ?_ | refine l_nil ?_ | refine l_one ?_ | refine k_reg ?_ | refine l_ld ?_ | refine l_ldF ?_ | refine l_st ?_ | refine l_al (fun b => ?_) | refine l_bs (fun b => ?_) | refine k_condT ?_ | refine k_condF ?_ | refine k_brk ?_ | refine r_run ?_ | refine r_one ?_ | refine r_ld ?_ | refine r_ldF ?_ | refine r_ldN ?_ | refine r_al (fun b => ?_) | refine r_bs (fun b => ?_) | refine r_st ?_ | refine r_end ?_ | (refine l_split (fun hc => ?_) (fun hc => ?_) <;> (try simp at hc) <;> (try omega)) | (refine r_split (fun hc => ?_) (fun hc => ?_) <;> (try simp at hc) <;> (try omega)) | refine k_draw 18 [] [(0, 0), (1, 0), (2, 0), (3, 0), (4, 0), (5, 0), (6, 0), (7, 0), (8, 0), (9, 0)] [] ?_ | (refine k_cond (fun hc => ?_) (fun hc => ?_) <;> (try simp at hc) <;> (try omega)))
      all_goals
        (refine k_ret () ?_ trivial
         refine congrArg (Value.int .i64) ?_
         rw [← hr]
         exact (pchk_02 (by omega) (by omega) (by unfold pfit; omega)).symm)
    · repeat' (first | refine k_skp ?_ | refine k_to hx ⟨(), by unfold pfit; omega⟩ ⟨rfl, trivial⟩ | refine l_run ?_ | refine l_nil ?_ | refine l_one ?_ | refine k_reg ?_ | refine l_ld ?_ | refine l_ldF ?_ | refine l_st ?_ | refine l_al (fun b => ?_) | refine l_bs (fun b => ?_) | refine k_condT ?_ | refine k_condF ?_ | refine k_brk ?_ | refine r_run ?_ | refine r_one ?_ | refine r_ld ?_ | refine r_ldF ?_ | refine r_ldN ?_ | refine r_al (fun b => ?_) | refine r_bs (fun b => ?_) | refine r_st ?_ | refine r_end ?_ | (refine l_split (fun hc => ?_) (fun hc => ?_) <;> (try simp at hc) <;> (try omega)) | (refine r_split (fun hc => ?_) (fun hc => ?_) <;> (try simp at hc) <;> (try omega)) | refine k_draw 18 [] [(0, 0), (1, 0), (2, 0), (3, 0), (4, 0), (5, 0), (6, 0), (7, 0), (8, 0), (9, 0)] [] ?_ | (refine k_cond (fun hc => ?_) (fun hc => ?_) <;> (try simp at hc) <;> (try omega)))
      all_goals
        (refine k_ret () ?_ trivial
         refine congrArg (Value.int .i64) ?_
         rw [← hr]
         exact (pchk_02 (by omega) (by omega) (by unfold pfit; omega)).symm)
  rintro ⟨_, hk2⟩
  rw [pchk_2 hk0.1 hk0.2 hk2] at hr
  unfold pfit at hk2
  by_cases hl8 : 8 < p.gs.length
  · repeat' (first | refine l_run ?_ | refine l_nil ?_ | refine l_one ?_ | refine k_reg ?_ | refine l_ld ?_ | refine l_ldF ?_ | refine l_st ?_ | refine l_al (fun b => ?_) | refine l_bs (fun b => ?_) | refine k_condT ?_ | refine k_condF ?_ | refine r_run ?_ | refine r_one ?_ | refine r_ld ?_ | refine r_ldF ?_ | refine r_ldN ?_ | refine r_al (fun b => ?_) | refine r_bs (fun b => ?_) | refine r_st ?_ | refine r_end ?_ | (refine l_split (fun hc => ?_) (fun hc => ?_) <;> (try simp at hc) <;> (try omega)) | (refine r_split (fun hc => ?_) (fun hc => ?_) <;> (try simp at hc) <;> (try omega)) | refine k_draw 18 [] [(0, 0), (1, 0), (2, 0), (3, 0), (4, 0), (5, 0), (6, 0), (7, 0), (8, 0), (9, 0)] [] ?_ | (refine k_cond (fun hc => ?_) (fun hc => ?_) <;> (try simp at hc) <;> (try omega)))
    refine k_ret () ?_ trivial
    refine congrArg (Value.int .i64) ?_
    rw [← hr]
    exact (pchk2_g (by unfold gchk; rw [if_pos (by omega)]) (by decide)).symm
  have hk1 := hk0
  repeat' (first | refine l_run ?_ | refine l_nil ?_ | refine l_one ?_ | refine k_reg ?_ | refine l_ld ?_ | refine l_ldF ?_ | refine l_st ?_ | refine l_al (fun b => ?_) | refine l_bs (fun b => ?_) | refine k_condT ?_ | refine k_condF ?_ | refine r_run ?_ | refine r_one ?_ | refine r_ld ?_ | refine r_ldF ?_ | refine r_ldN ?_ | refine r_al (fun b => ?_) | refine r_bs (fun b => ?_) | refine r_st ?_ | refine r_end ?_ | (refine l_split (fun hc => ?_) (fun hc => ?_) <;> (try simp at hc) <;> (try omega)) | (refine r_split (fun hc => ?_) (fun hc => ?_) <;> (try simp at hc) <;> (try omega)) | refine k_draw 18 [] [(0, 0), (1, 0), (2, 0), (3, 0), (4, 0), (5, 0), (6, 0), (7, 0), (8, 0), (9, 0)] [] ?_ | (refine k_cond (fun hc => ?_) (fun hc => ?_) <;> (try simp at hc) <;> (try omega)))
  refine k_lp (X := { i : Nat // i ≤ p.gs.length ∧ ∀ j < i, 0 ≤ p.gs.getD j 0 ∧ p.gs.getD j 0 ≤ 65535 }) (fun i => [(1, .pointer (some ⟨b, 0, none⟩)), (3, .slice o p.gs.length c), (4, .int .i64 (i.1 : Int))]) (fun _ => [Sl 3 zf o c p.gs]) (fun _ => [Pt b (.cells (prf p o c).toArray 29)]) (fun i => p.gs.length - i.1) ⟨0, by omega, fun j hj => by omega⟩ ⟨rfl, rfl, rfl, trivial⟩ ?_
  rintro ⟨i, hi1, hi2⟩
  dsimp only
  by_cases hlt : i < p.gs.length
  · obtain ⟨x, hx⟩ : ∃ x, p.gs[i]? = some x := ⟨_, List.getElem?_eq_getElem hlt⟩
    have hg := getD_of hx
    have bad : ¬ (0 ≤ x ∧ x ≤ 65535) → r = 2 := fun hb => by
      have h3 : gchk p.gs = 2 := by
        unfold gchk
        rw [if_neg hl8, if_pos]
        intro h
        have h4 := h i hlt
        rw [hg] at h4
        exact hb h4
      rw [← hr, pchk2_g h3 (by decide)]
    repeat' (first | refine l_run ?_ | refine l_nil ?_ | refine l_one ?_ | refine k_reg ?_ | refine l_ld ?_ | refine l_ldF ?_ | refine l_st ?_ | refine l_al (fun b => ?_) | refine l_bs (fun b => ?_) | refine k_condT ?_ | refine k_condF ?_ | refine r_run ?_ | refine r_one ?_ | refine r_ld ?_ | refine r_ldF ?_ | refine r_ldN ?_ | refine r_al (fun b => ?_) | refine r_bs (fun b => ?_) | refine r_st ?_ | refine r_end ?_ | refine l_ixe (es := p.gs) i x hx (fun b off => ?_) | refine l_ldC ?_ | (refine l_split (fun hc => ?_) (fun hc => ?_) <;> (try simp at hc) <;> (try omega)) | (refine r_split (fun hc => ?_) (fun hc => ?_) <;> (try simp at hc) <;> (try omega)) | refine k_draw 18 [] [(0, 0), (1, 0), (2, 0), (3, 0), (4, 0), (5, 0), (6, 0), (7, 0), (8, 0), (9, 0)] [] ?_ | (refine k_cond (fun hc => ?_) (fun hc => ?_) <;> (try simp at hc) <;> (try omega)))
    all_goals try (
      have e := bad (by omega)
      exact k_rt (w_lq (w_rv (congrArg (Value.int .i64) e) (w_ret () rfl trivial))))
    rw [wrapi (z := (i : Int) + 1) (by omega) (by omega)]
    refine k_next ⟨i + 1, by omega, fun j hj => ?_⟩ (by show p.gs.length - (i + 1) < p.gs.length - i; omega) ⟨rfl, rfl, rfl, trivial⟩
    by_cases hij : j = i
    · subst hij
      rw [hg]
      omega
    · exact hi2 j (by omega)
  · have hk : gok p.gs := fun j hj => hi2 j (by omega)
    repeat' (first | refine l_run ?_ | refine l_nil ?_ | refine l_one ?_ | refine k_reg ?_ | refine l_ld ?_ | refine l_ldF ?_ | refine l_st ?_ | refine l_al (fun b => ?_) | refine l_bs (fun b => ?_) | refine k_condT ?_ | refine k_condF ?_ | refine k_brk ?_ | refine r_run ?_ | refine r_one ?_ | refine r_ld ?_ | refine r_ldF ?_ | refine r_ldN ?_ | refine r_al (fun b => ?_) | refine r_bs (fun b => ?_) | refine r_st ?_ | refine r_end ?_ | (refine l_split (fun hc => ?_) (fun hc => ?_) <;> (try simp at hc) <;> (try omega)) | (refine r_split (fun hc => ?_) (fun hc => ?_) <;> (try simp at hc) <;> (try omega)) | refine k_draw 18 [] [(0, 0), (1, 0), (2, 0), (3, 0), (4, 0), (5, 0), (6, 0), (7, 0), (8, 0), (9, 0)] [] ?_ | (refine k_cond (fun hc => ?_) (fun hc => ?_) <;> (try simp at hc) <;> (try omega)))
    refine k_lp (X := { i : Nat // i ≤ p.gs.length ∧ ∀ j < i, j + 1 < p.gs.length → p.gs.getD j 0 < p.gs.getD (j + 1) 0 }) (fun i => [(1, .pointer (some ⟨b, 0, none⟩)), (3, .slice o p.gs.length c), (5, .int .i64 ((i.1 + 1 : Nat) : Int))]) (fun _ => [Sl 3 zf o c p.gs]) (fun _ => [Pt b (.cells (prf p o c).toArray 29)]) (fun i => p.gs.length - i.1) ⟨0, by omega, fun j hj => by omega⟩ ⟨rfl, rfl, rfl, trivial⟩ ?_
    rintro ⟨k, hk1, hk2⟩
    dsimp only
    by_cases hlk : k + 1 < p.gs.length
    · obtain ⟨x, hx⟩ : ∃ x, p.gs[k]? = some x := ⟨_, List.getElem?_eq_getElem (by omega)⟩
      obtain ⟨y, hy⟩ : ∃ y, p.gs[k + 1]? = some y := ⟨_, List.getElem?_eq_getElem hlk⟩
      have hgx := getD_of hx
      have hgy := getD_of hy
      have hw1 : IntKind.i64.wrap (((k + 1 : Nat) : Int) - 1) = (k : Int) := by rw [wrapi (by omega) (by omega)]; omega
      have hw2 : IntKind.i64.wrap (((k + 1 : Nat) : Int) + 1) = ((k + 1 + 1 : Nat) : Int) := by rw [wrapi (by omega) (by omega)]; omega
      have bad : ¬ x < y → r = 32 := fun hb => by
        have h3 : gchk p.gs = 32 := by
          unfold gchk
          rw [if_neg hl8, if_neg (by simp [hk]), if_pos]
          intro h
          have h4 := h k (by omega) hlk
          rw [hgx, hgy] at h4
          exact hb h4
        rw [← hr, pchk2_g h3 (by decide)]
      repeat' (first | refine l_run ?_ | refine l_nil ?_ | refine l_one ?_ | refine k_reg ?_ | refine l_ld ?_ | refine l_ldF ?_ | refine l_st ?_ | refine l_al (fun b => ?_) | refine l_bs (fun b => ?_) | refine k_condT ?_ | refine k_condF ?_ | refine r_run ?_ | refine r_one ?_ | refine r_ld ?_ | refine r_ldF ?_ | refine r_ldN ?_ | refine r_al (fun b => ?_) | refine r_bs (fun b => ?_) | refine r_st ?_ | refine r_end ?_ | rw [hw1] | rw [hw2] | refine r_ixe (es := p.gs) (k + 1) y hy (fun b off => ?_) | refine r_ixe (es := p.gs) k x hx (fun b off => ?_) | refine r_ldC ?_ | (refine l_split (fun hc => ?_) (fun hc => ?_) <;> (try simp at hc) <;> (try omega)) | (refine r_split (fun hc => ?_) (fun hc => ?_) <;> (try simp at hc) <;> (try omega)) | refine k_draw 18 [] [(0, 0), (1, 0), (2, 0), (3, 0), (4, 0), (5, 0), (6, 0), (7, 0), (8, 0), (9, 0)] [] ?_ | (refine k_cond (fun hc => ?_) (fun hc => ?_) <;> (try simp at hc) <;> (try omega)))
      · have e := bad (by omega)
        exact k_rt (w_lq (w_rv (congrArg (Value.int .i64) e) (w_ret () rfl trivial)))
      · refine k_next ⟨k + 1, by omega, fun j hj h1 => ?_⟩ (by show p.gs.length - (k + 1) < p.gs.length - k; omega) ⟨rfl, rfl, rfl, trivial⟩
        by_cases hjk : j = k
        · subst hjk
          rw [hgx, hgy]
          omega
        · exact hk2 j (by omega) h1
    · have hs : gsq p.gs := fun j hj h1 => hk2 j (by omega) h1
      have h3 : gchk p.gs = 0 := by
        unfold gchk
        rw [if_neg hl8, if_neg (by simp [hk]), if_neg (by simp [hs])]
      unfold pchk2 at hr
      rw [h3, if_neg (by simp)] at hr
      repeat' (first | refine l_run ?_ | refine l_nil ?_ | refine l_one ?_ | refine k_reg ?_ | refine l_ld ?_ | refine l_ldF ?_ | refine l_st ?_ | refine l_al (fun b => ?_) | refine l_bs (fun b => ?_) | refine k_condT ?_ | refine k_condF ?_ | refine k_brk ?_ | refine r_run ?_ | refine r_one ?_ | refine r_ld ?_ | refine r_ldF ?_ | refine r_ldN ?_ | refine r_al (fun b => ?_) | refine r_bs (fun b => ?_) | refine r_st ?_ | refine r_end ?_ | refine l_call (n3) (fun _ _ => ?_) | refine l_call0 (n3) (fun _ _ => ?_) | refine r_call (n3) (fun _ _ => ?_) | refine l_call (n4) (fun _ _ => ?_) | refine l_call0 (n4) (fun _ _ => ?_) | refine r_call (n4) (fun _ _ => ?_) | (refine l_split (fun hc => ?_) (fun hc => ?_) <;> (try simp at hc) <;> (try omega)) | (refine r_split (fun hc => ?_) (fun hc => ?_) <;> (try simp at hc) <;> (try omega)) | refine k_draw 18 [] [(0, 0), (1, 0), (2, 0), (3, 0), (4, 0), (5, 0), (6, 0), (7, 0), (8, 0), (9, 0)] [] ?_ | (refine k_cond (fun hc => ?_) (fun hc => ?_) <;> (try simp at hc) <;> (try omega)))
      all_goals (refine k_ret () ?_ trivial; refine congrArg (Value.int .i64) ?_; rw [← hr])
      all_goals first
        | (rw [if_pos (by simp_all)]; done)
        | (rw [if_neg (by simp_all)]; done)
end Go.Proofs.YtaijnpkdlopomaaGreatDoor
