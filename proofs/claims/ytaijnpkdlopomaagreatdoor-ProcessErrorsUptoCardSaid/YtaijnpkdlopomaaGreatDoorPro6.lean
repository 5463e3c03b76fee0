/-
  Processes compared by the statements' own equal.
  Conditions: those that each theorem states.
-/
import Derived.Test.YtaijnpkdlopomaaGreatDoorPro5
set_option maxRecDepth 10000
namespace Go.Proofs.YtaijnpkdlopomaaGreatDoor
open Go.RowKit

set_option maxHeartbeats 4000000 in
theorem equal35_ok (p q : Pr) (o1 o2 : Option Addr) (c1 c2 : Nat) (h1 : p.gs.length ≤ 1099511627776) (h2 : q.gs.length ≤ 1099511627776) : Enters 12 ∧ Spec Tryz.prog 12 #[p.v o1 c1, q.v o2 c2] [Sl 3 zf o1 c1 p.gs, Sl 3 zf o2 c2 q.gs] [] (RetV (.bool (decide (p = q)))) := by
  have he := pr_eq p q
  have hsp : (p.sp.toList == q.sp.toList) = decide (p.sp = q.sp) := beqSv _ _
  have hdr := eqBi2 p.dr q.dr
  generalize hr : decide (p = q) = r
  obtain ⟨a1, a2, a3, a4, a5, xs, a7, a8, a9, a10⟩ := p
  obtain ⟨b1, b2, b3, b4, b5, ys, b7, b8, b9, b10⟩ := q
  dsimp only at *
  obtain ⟨d1, d2⟩ := a9
  obtain ⟨e1, e2⟩ := b9
  simp only [Bi.v] at hdr
  have bad : xs ≠ ys → r = false := fun h => by
    rw [← hr, decide_eq_false_iff_not, he]
    rintro ⟨⟨⟨⟨⟨_, g⟩, _⟩, _⟩, _⟩, _⟩
    exact h g
  refine ⟨enters_of Tryz.func12 (by kernel_rfl) rfl, spec_of (vs := [_, _]) Tryz.func12 rfl Tryz.ntmps12 rfl fun G w hp => ?_⟩
  by_cases hlen : xs.length = ys.length
  · repeat' (first | refine l_run ?_ | refine l_nil ?_ | refine l_one ?_ | refine k_reg ?_ | refine l_ld ?_ | refine l_ldF ?_ | refine l_st ?_ | refine l_al (fun b => ?_) | refine l_bs (fun b => ?_) | refine k_condT ?_ | refine k_condF ?_ | refine k_brk ?_ | refine r_run ?_ | refine r_one ?_ | refine r_ld ?_ | refine r_ldF ?_ | refine r_ldN ?_ | refine r_al (fun b => ?_) | refine r_bs (fun b => ?_) | refine r_st ?_ | refine r_end ?_ | (refine l_split (fun hc => ?_) (fun hc => ?_) <;> (try simp at hc) <;> (try omega)) | (refine r_split (fun hc => ?_) (fun hc => ?_) <;> (try simp at hc) <;> (try omega)) | refine k_draw 6 [] [(0, 0), (1, 0), (2, 0), (3, 0), (4, 0), (5, 0), (6, 0), (7, 0), (8, 0), (9, 0), (10, 0), (11, 0), (12, 0)] [] ?_ | (refine k_cond (fun hc => ?_) (fun hc => ?_) <;> (try simp at hc) <;> (try omega)))
    rename_i bA
    refine k_lp (X := { i : Nat // i ≤ xs.length ∧ xs.take i = ys.take i }) (fun i => [(2, .pointer (some ⟨bA, 0, none⟩)), (3, .pointer (some ⟨b, 0, none⟩)), (5, .int .i64 (i.1 : Int))]) (fun _ => [Sl 3 zf o1 c1 xs, Sl 3 zf o2 c2 ys]) (fun _ => [Pt bA (.cells #[.int .i64 a1, .int .i64 a2, .int .i64 a3, .int .i64 a4, .int .i64 a5, .slice o1 xs.length c1, .string a7, .int .i64 a8, .string d1, .int .i64 d2, .int .i64 a10] 29), Pt b (.cells #[.int .i64 b1, .int .i64 b2, .int .i64 b3, .int .i64 b4, .int .i64 b5, .slice o2 ys.length c2, .string b7, .int .i64 b8, .string e1, .int .i64 e2, .int .i64 b10] 29)]) (fun i => xs.length - i.1) ⟨0, by omega, rfl⟩ ⟨rfl, rfl, rfl, trivial⟩ ?_
    rintro ⟨i, hi1, hi2⟩
    dsimp only
    by_cases hlt : i < xs.length
    · obtain ⟨u, ha⟩ : ∃ u, xs[i]? = some u := ⟨_, List.getElem?_eq_getElem hlt⟩
      obtain ⟨v, hb⟩ : ∃ v, ys[i]? = some v := ⟨_, List.getElem?_eq_getElem (by omega)⟩
      by_cases hab : u = v
      · repeat' (first | refine l_run ?_ | refine l_nil ?_ | refine l_one ?_ | refine k_reg ?_ | refine l_ld ?_ | refine l_ldF ?_ | refine l_st ?_ | refine l_al (fun b => ?_) | refine l_bs (fun b => ?_) | refine k_condT ?_ | refine k_condF ?_ | refine r_run ?_ | refine r_one ?_ | refine r_ld ?_ | refine r_ldF ?_ | refine r_ldN ?_ | refine r_al (fun b => ?_) | refine r_bs (fun b => ?_) | refine r_st ?_ | refine r_end ?_ | refine r_ixe (es := xs) i u ha (fun b off => ?_) | refine r_ixe (es := ys) i v hb (fun b off => ?_) | refine r_ldC ?_ | (refine l_split (fun hc => ?_) (fun hc => ?_) <;> (try simp at hc) <;> (try omega)) | (refine r_split (fun hc => ?_) (fun hc => ?_) <;> (try simp at hc) <;> (try omega)) | refine k_draw 6 [] [(0, 0), (1, 0), (2, 0), (3, 0), (4, 0), (5, 0), (6, 0), (7, 0), (8, 0), (9, 0), (10, 0), (11, 0), (12, 0)] [] ?_ | (refine k_cond (fun hc => ?_) (fun hc => ?_) <;> (try simp at hc) <;> (try omega)))
        rw [wrapi (z := (i : Int) + 1) (by omega) (by omega)]
        refine k_next ⟨i + 1, by omega, ?_⟩ (by show xs.length - (i + 1) < xs.length - i; omega) ⟨rfl, rfl, rfl, trivial⟩
        rw [List.take_add_one, List.take_add_one, hi2, ha, hb, hab]
      · have e : r = false := bad fun h => by
          subst h
          exact hab (Option.some.inj (ha.symm.trans hb))
        rw [e]
        repeat' (first | refine l_run ?_ | refine l_nil ?_ | refine l_one ?_ | refine k_reg ?_ | refine l_ld ?_ | refine l_ldF ?_ | refine l_st ?_ | refine l_al (fun b => ?_) | refine l_bs (fun b => ?_) | refine k_condT ?_ | refine k_condF ?_ | refine r_run ?_ | refine r_one ?_ | refine r_ld ?_ | refine r_ldF ?_ | refine r_ldN ?_ | refine r_al (fun b => ?_) | refine r_bs (fun b => ?_) | refine r_st ?_ | refine r_end ?_ | refine r_ixe (es := xs) i u ha (fun b off => ?_) | refine r_ixe (es := ys) i v hb (fun b off => ?_) | refine r_ldC ?_ | (refine l_split (fun hc => ?_) (fun hc => ?_) <;> (try simp at hc) <;> (try omega)) | (refine r_split (fun hc => ?_) (fun hc => ?_) <;> (try simp at hc) <;> (try omega)) | refine k_draw 6 [] [(0, 0), (1, 0), (2, 0), (3, 0), (4, 0), (5, 0), (6, 0), (7, 0), (8, 0), (9, 0), (10, 0), (11, 0), (12, 0)] [] ?_ | (refine k_cond (fun hc => ?_) (fun hc => ?_) <;> (try simp at hc) <;> (try omega)))
        exact k_rt (w_lq (w_ret () rfl trivial))
    · have e : xs = ys := by
        rw [List.take_of_length_le (by omega), List.take_of_length_le (by omega)] at hi2
        exact hi2
      repeat' (first | refine l_seq ?_ (he := hdr) | refine l_run ?_ | refine l_nil ?_ | refine l_one ?_ | refine k_reg ?_ | refine l_ld ?_ | refine l_ldF ?_ | refine l_st ?_ | refine l_al (fun b => ?_) | refine l_bs (fun b => ?_) | refine k_condT ?_ | refine k_condF ?_ | refine k_brk ?_ | refine r_run ?_ | refine r_one ?_ | refine r_ld ?_ | refine r_ldF ?_ | refine r_ldN ?_ | refine r_al (fun b => ?_) | refine r_bs (fun b => ?_) | refine r_st ?_ | refine r_end ?_ | rw [hsp] | (refine l_split (fun hc => ?_) (fun hc => ?_) <;> (try simp at hc) <;> (try omega)) | (refine r_split (fun hc => ?_) (fun hc => ?_) <;> (try simp at hc) <;> (try omega)) | refine k_draw 6 [] [(0, 0), (1, 0), (2, 0), (3, 0), (4, 0), (5, 0), (6, 0), (7, 0), (8, 0), (9, 0), (10, 0), (11, 0), (12, 0)] [] ?_ | (refine k_cond (fun hc => ?_) (fun hc => ?_) <;> (try simp at hc) <;> (try omega)))
      all_goals (
        refine k_ret () ?_ trivial
        clear hsp hdr bad hi2
        refine congrArg Value.bool ?_
        rw [← hr, Bool.eq_iff_iff, decide_eq_true_iff, he]
        simp_all)
  · have e : r = false := bad fun h => hlen (by rw [h])
    rw [e]
    repeat' (first | refine l_run ?_ | refine l_nil ?_ | refine l_one ?_ | refine k_reg ?_ | refine l_ld ?_ | refine l_ldF ?_ | refine l_st ?_ | refine l_al (fun b => ?_) | refine l_bs (fun b => ?_) | refine k_condT ?_ | refine k_condF ?_ | refine k_brk ?_ | refine r_run ?_ | refine r_one ?_ | refine r_ld ?_ | refine r_ldF ?_ | refine r_ldN ?_ | refine r_al (fun b => ?_) | refine r_bs (fun b => ?_) | refine r_st ?_ | refine r_end ?_ | (refine l_split (fun hc => ?_) (fun hc => ?_) <;> (try simp at hc) <;> (try omega)) | (refine r_split (fun hc => ?_) (fun hc => ?_) <;> (try simp at hc) <;> (try omega)) | refine k_draw 6 [] [(0, 0), (1, 0), (2, 0), (3, 0), (4, 0), (5, 0), (6, 0), (7, 0), (8, 0), (9, 0), (10, 0), (11, 0), (12, 0)] [] ?_ | (refine k_cond (fun hc => ?_) (fun hc => ?_) <;> (try simp at hc) <;> (try omega)))
    exact k_ret () rfl trivial
end Go.Proofs.YtaijnpkdlopomaaGreatDoor
