/-
  Contracts of processes compared, and cut: slices.Equal, process.Equal, and the statements' own equal and short.
  Conditions: those that each theorem states.
-/
import Derived.Test.YtaijnpkdlopomaaGreatDoorPro3
import Derived.Test.YtaijnpkdlopomaaGreatDoorME
import Derived.Test.YtaijnpkdlopomaaGreatDoorMI
import Derived.Test.YtaijnpkdlopomaaGreatDoorMK
set_option maxRecDepth 10000
namespace Go.Proofs.YtaijnpkdlopomaaGreatDoor
open Go.RowKit

/-- Processes of the length that the statements look at. -/
def shP (p : Pr) : Pr := { p with sp := cutS p.sp 80, gs := p.gs.take 20, dr := { p.dr with mkr := cutS p.dr.mkr 80 } }
theorem short35_ok (p : Pr) (o : Option Addr) (c : Nat) (hl : p.gs.length ≤ 1099511627776) : Enters 6 ∧ Spec Tryz.prog 6 #[p.v o c] [Sl 3 zf o c p.gs] []
    ⟨Option Addr, fun o' => (shP p).v o' c, fun _ => True, fun o' => [Sl 3 zf o' c (shP p).gs], fun _ => []⟩ := by
  have hm : (if (20 : Int) < (p.gs.length : Int) then (20 : Int) else (p.gs.length : Int)) = ((min p.gs.length 20 : Nat) : Int) := by split <;> omega
  obtain ⟨a1, a2, a3, a4, a5, gs, a7, a8, a9, a10⟩ := p
  obtain ⟨b1, b2⟩ := a9
  dsimp only at hl hm
  have ht : gs.take (min gs.length 20) = gs.take 20 := by
    by_cases h : gs.length ≤ 20
    · rw [Nat.min_eq_left h, List.take_length, List.take_of_length_le h]
    · rw [Nat.min_eq_right (by omega)]
  refine ⟨enters_of Tryz.func6 (by kernel_rfl) rfl, spec_of (vs := [_]) Tryz.func6 rfl Tryz.ntmps6 rfl fun G w hp => ?_⟩
  repeat' (first | refine l_run ?_ | refine l_nil ?_ | refine l_one ?_ | refine k_reg ?_ | refine l_ld ?_ | refine l_ldF ?_ | refine l_st ?_ | refine l_al (fun b => ?_) | refine l_bs (fun b => ?_) | refine k_condT ?_ | refine k_condF ?_ | refine k_brk ?_ | refine l_cutS 80 ?_ | rw [hm] | refine l_slH (es := gs) (min gs.length 20) (by omega) (fun o' => ?_) | (refine l_split (fun hc => ?_) (fun hc => ?_) <;> (try simp at hc)) | (refine k_cond (fun hc => ?_) (fun hc => ?_) <;> (try simp at hc)))
  rw [ht]
  exact k_ret o' rfl trivial

set_option maxHeartbeats 1000000 in
theorem slEqual_ok (o1 o2 : Option Addr) (c1 c2 : Nat) (xs ys : List Int) (hx : xs.length ≤ 1099511627776) (hy : ys.length ≤ 1099511627776) : Enters 46 ∧ Spec Tryz.prog 46 #[.slice o1 xs.length c1, .slice o2 ys.length c2] [Sl 3 zf o1 c1 xs, Sl 3 zf o2 c2 ys] [] (RetV (.bool (decide (xs = ys)))) := by
  refine ⟨enters_of Tryz.func46 (by kernel_rfl) rfl, spec_of (vs := [_, _]) Tryz.func46 rfl Tryz.ntmps46 rfl fun G w hp => ?_⟩
  by_cases hlen : xs.length = ys.length
  · repeat' (first | refine l_run ?_ | refine l_nil ?_ | refine l_one ?_ | refine k_reg ?_ | refine l_ld ?_ | refine l_ldF ?_ | refine l_st ?_ | refine l_al (fun b => ?_) | refine l_bs (fun b => ?_) | refine k_condT ?_ | refine k_condF ?_ | refine k_brk ?_ | refine r_run ?_ | refine r_one ?_ | refine r_ld ?_ | refine r_ldF ?_ | refine r_ldN ?_ | refine r_al (fun b => ?_) | refine r_bs (fun b => ?_) | refine r_st ?_ | refine r_end ?_ | (refine l_split (fun hc => ?_) (fun hc => ?_) <;> (try simp at hc) <;> (try omega)) | (refine r_split (fun hc => ?_) (fun hc => ?_) <;> (try simp at hc) <;> (try omega)) | refine k_draw 6 [] [(0, 0), (1, 0), (2, 0), (3, 0), (4, 0), (5, 0), (6, 0), (7, 0), (8, 0)] [] ?_ | (refine k_cond (fun hc => ?_) (fun hc => ?_) <;> (try simp at hc) <;> (try omega)))
    refine k_lp (X := { i : Nat // i ≤ xs.length ∧ xs.take i = ys.take i }) (fun i => [(0, .slice o1 xs.length c1), (1, .slice o2 ys.length c2), (12, .int .i64 (xs.length : Int)), (13, .int .i64 (i.1 : Int))]) (fun _ => [Sl 3 zf o1 c1 xs, Sl 3 zf o2 c2 ys]) (fun _ => []) (fun i => xs.length - i.1) ⟨0, by omega, rfl⟩ ⟨rfl, rfl, rfl, rfl, trivial⟩ ?_
    rintro ⟨i, hi1, hi2⟩
    dsimp only
    by_cases hlt : i < xs.length
    · obtain ⟨a, ha⟩ : ∃ a, xs[i]? = some a := ⟨_, List.getElem?_eq_getElem hlt⟩
      obtain ⟨u, hb⟩ : ∃ u, ys[i]? = some u := ⟨_, List.getElem?_eq_getElem (by omega)⟩
      by_cases hab : a = u
      · repeat' (first | refine l_run ?_ | refine l_nil ?_ | refine l_one ?_ | refine k_reg ?_ | refine l_ld ?_ | refine l_ldF ?_ | refine l_st ?_ | refine l_al (fun b => ?_) | refine l_bs (fun b => ?_) | refine k_condT ?_ | refine k_condF ?_ | refine r_run ?_ | refine r_one ?_ | refine r_ld ?_ | refine r_ldF ?_ | refine r_ldN ?_ | refine r_al (fun b => ?_) | refine r_bs (fun b => ?_) | refine r_st ?_ | refine r_end ?_ | refine r_ixe (es := xs) i a ha (fun b off => ?_) | refine r_ixe (es := ys) i u hb (fun b off => ?_) | refine r_ldC ?_ | (refine l_split (fun hc => ?_) (fun hc => ?_) <;> (try simp at hc) <;> (try omega)) | (refine r_split (fun hc => ?_) (fun hc => ?_) <;> (try simp at hc) <;> (try omega)) | refine k_draw 6 [] [(0, 0), (1, 0), (2, 0), (3, 0), (4, 0), (5, 0), (6, 0), (7, 0), (8, 0)] [] ?_ | (refine k_cond (fun hc => ?_) (fun hc => ?_) <;> (try simp at hc) <;> (try omega)))
        rw [wrapi (z := (i : Int) + 1) (by omega) (by omega)]
        refine k_next ⟨i + 1, by omega, ?_⟩ (by show xs.length - (i + 1) < xs.length - i; omega) ⟨rfl, rfl, rfl, rfl, trivial⟩
        rw [List.take_add_one, List.take_add_one, hi2, ha, hb, hab]
      · have e : decide (xs = ys) = false := decide_eq_false fun h => by
          subst h
          exact hab (Option.some.inj (ha.symm.trans hb))
        repeat' (first | refine l_run ?_ | refine l_nil ?_ | refine l_one ?_ | refine k_reg ?_ | refine l_ld ?_ | refine l_ldF ?_ | refine l_st ?_ | refine l_al (fun b => ?_) | refine l_bs (fun b => ?_) | refine k_condT ?_ | refine k_condF ?_ | refine r_run ?_ | refine r_one ?_ | refine r_ld ?_ | refine r_ldF ?_ | refine r_ldN ?_ | refine r_al (fun b => ?_) | refine r_bs (fun b => ?_) | refine r_st ?_ | refine r_end ?_ | refine r_ixe (es := xs) i a ha (fun b off => ?_) | refine r_ixe (es := ys) i u hb (fun b off => ?_) | refine r_ldC ?_ | (refine l_split (fun hc => ?_) (fun hc => ?_) <;> (try simp at hc) <;> (try omega)) | (refine r_split (fun hc => ?_) (fun hc => ?_) <;> (try simp at hc) <;> (try omega)) | refine k_draw 6 [] [(0, 0), (1, 0), (2, 0), (3, 0), (4, 0), (5, 0), (6, 0), (7, 0), (8, 0)] [] ?_ | (refine k_cond (fun hc => ?_) (fun hc => ?_) <;> (try simp at hc) <;> (try omega)))
        exact k_rt (w_lq (w_rv (congrArg Value.bool e) (w_ret () rfl trivial)))
    · have e : decide (xs = ys) = true := decide_eq_true (by
        rw [List.take_of_length_le (by omega), List.take_of_length_le (by omega)] at hi2
        exact hi2)
      rw [e]
      repeat' (first | refine l_run ?_ | refine l_nil ?_ | refine l_one ?_ | refine k_reg ?_ | refine l_ld ?_ | refine l_ldF ?_ | refine l_st ?_ | refine l_al (fun b => ?_) | refine l_bs (fun b => ?_) | refine k_condT ?_ | refine k_condF ?_ | refine k_brk ?_ | refine r_run ?_ | refine r_one ?_ | refine r_ld ?_ | refine r_ldF ?_ | refine r_ldN ?_ | refine r_al (fun b => ?_) | refine r_bs (fun b => ?_) | refine r_st ?_ | refine r_end ?_ | (refine l_split (fun hc => ?_) (fun hc => ?_) <;> (try simp at hc) <;> (try omega)) | (refine r_split (fun hc => ?_) (fun hc => ?_) <;> (try simp at hc) <;> (try omega)) | refine k_draw 6 [] [(0, 0), (1, 0), (2, 0), (3, 0), (4, 0), (5, 0), (6, 0), (7, 0), (8, 0)] [] ?_ | (refine k_cond (fun hc => ?_) (fun hc => ?_) <;> (try simp at hc) <;> (try omega)))
      exact k_ret () rfl trivial
  · have e : decide (xs = ys) = false := decide_eq_false fun h => hlen (by rw [h])
    rw [e]
    repeat' (first | refine l_run ?_ | refine l_nil ?_ | refine l_one ?_ | refine k_reg ?_ | refine l_ld ?_ | refine l_ldF ?_ | refine l_st ?_ | refine l_al (fun b => ?_) | refine l_bs (fun b => ?_) | refine k_condT ?_ | refine k_condF ?_ | refine k_brk ?_ | refine r_run ?_ | refine r_one ?_ | refine r_ld ?_ | refine r_ldF ?_ | refine r_ldN ?_ | refine r_al (fun b => ?_) | refine r_bs (fun b => ?_) | refine r_st ?_ | refine r_end ?_ | (refine l_split (fun hc => ?_) (fun hc => ?_) <;> (try simp at hc) <;> (try omega)) | (refine r_split (fun hc => ?_) (fun hc => ?_) <;> (try simp at hc) <;> (try omega)) | refine k_draw 6 [] [(0, 0), (1, 0), (2, 0), (3, 0), (4, 0), (5, 0), (6, 0), (7, 0), (8, 0)] [] ?_ | (refine k_cond (fun hc => ?_) (fun hc => ?_) <;> (try simp at hc) <;> (try omega)))
    exact k_ret () rfl trivial

/-- Two processes are the same. -/
theorem pr_eq (p q : Pr) : p = q ↔ ((((((((p.kd = q.kd ∧ p.st = q.st) ∧ p.cd = q.cd) ∧ p.ep = q.ep) ∧ p.us = q.us) ∧ p.gs = q.gs) ∧ p.sp = q.sp) ∧ p.pg = q.pg) ∧ p.dr = q.dr) ∧ p.tm = q.tm := by
  obtain ⟨a1, a2, a3, a4, a5, a6, a7, a8, a9, a10⟩ := p
  obtain ⟨b1, b2, b3, b4, b5, b6, b7, b8, b9, b10⟩ := q
  simp only [Pr.mk.injEq]
  constructor
  · rintro ⟨h1, h2, h3, h4, h5, h6, h7, h8, h9, h10⟩; exact ⟨⟨⟨⟨⟨⟨⟨⟨⟨h1, h2⟩, h3⟩, h4⟩, h5⟩, h6⟩, h7⟩, h8⟩, h9⟩, h10⟩
  · rintro ⟨⟨⟨⟨⟨⟨⟨⟨⟨h1, h2⟩, h3⟩, h4⟩, h5⟩, h6⟩, h7⟩, h8⟩, h9⟩, h10⟩; exact ⟨h1, h2, h3, h4, h5, h6, h7, h8, h9, h10⟩
set_option maxHeartbeats 4000000 in
theorem proEqual_ok (p q : Pr) (o1 o2 : Option Addr) (c1 c2 : Nat) (h1 : p.gs.length ≤ 1099511627776) (h2 : q.gs.length ≤ 1099511627776) : Enters 11 ∧ Spec Tryz.prog 11 #[p.v o1 c1, q.v o2 c2] [Sl 3 zf o1 c1 p.gs, Sl 3 zf o2 c2 q.gs] [] (RetV (.bool (decide (p = q)))) := by
  have n1 := slEqual_ok o1 o2 c1 c2 p.gs q.gs h1 h2
  have he := pr_eq p q
  have hsp : (p.sp.toList == q.sp.toList) = decide (p.sp = q.sp) := beqSv _ _
  have hdr := eqBi2 p.dr q.dr
  generalize hr : decide (p = q) = r
  obtain ⟨a1, a2, a3, a4, a5, gs, a7, a8, a9, a10⟩ := p
  obtain ⟨b1, b2, b3, b4, b5, gs', b7, b8, b9, b10⟩ := q
  dsimp only at *
  obtain ⟨d1, d2⟩ := a9
  obtain ⟨e1, e2⟩ := b9
  simp only [Bi.v] at hdr
  refine ⟨enters_of Tryz.func11 (by kernel_rfl) rfl, spec_of (vs := [_, _]) Tryz.func11 rfl Tryz.ntmps11 rfl fun G w hp => ?_⟩
  repeat' (first | refine l_seq ?_ (he := hdr) | refine l_run ?_ | refine l_nil ?_ | refine l_one ?_ | refine k_reg ?_ | refine l_ld ?_ | refine l_ldF ?_ | refine l_st ?_ | refine l_al (fun b => ?_) | refine l_bs (fun b => ?_) | refine k_condT ?_ | refine k_condF ?_ | refine k_brk ?_ | refine l_call (n1) (fun _ _ => ?_) | refine l_call0 (n1) (fun _ _ => ?_) | rw [hsp] | (refine l_split (fun hc => ?_) (fun hc => ?_) <;> (try simp at hc) <;> (try omega)) | (refine k_cond (fun hc => ?_) (fun hc => ?_) <;> (try simp at hc) <;> (try omega)))
  all_goals (
    refine k_ret () ?_ trivial
    clear n1 hsp hdr
    refine congrArg Value.bool ?_
    rw [← hr, Bool.eq_iff_iff, decide_eq_true_iff, he]
    simp_all)
end Go.Proofs.YtaijnpkdlopomaaGreatDoor
