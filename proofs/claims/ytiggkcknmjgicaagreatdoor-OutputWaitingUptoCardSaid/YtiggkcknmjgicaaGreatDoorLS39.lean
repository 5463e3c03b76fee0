/-
  The law OutputSends.
  Conditions: those that each theorem states.
-/
import Derived.Test.YtiggkcknmjgicaaGreatDoorSn
import Derived.Test.YtiggkcknmjgicaaGreatDoorMG
set_option maxRecDepth 10000
namespace Go.Proofs.YtiggkcknmjgicaaGreatDoor
open Go.RowKit

theorem eqEn (a b : En) : eqC eqS 20 74 a.w b.w = some (decide (a = b)) := by
  rw [show eqC eqS 20 74 a.w b.w = some ((a.who.toList == b.who.toList) && ((a.nu == b.nu) && ((a.tk == b.tk) && (((a.o.ch == b.o.ch) && ((a.o.tg.toList == b.o.tg.toList) && ((a.o.tx.toList == b.o.tx.toList) && ((a.o.us == b.o.us) && true)))) && true)))) from rfl]
  congr 1
  obtain ⟨a1, a2, a3, ⟨a4, a5, a6, a7⟩⟩ := a
  obtain ⟨b1, b2, b3, ⟨b4, b5, b6, b7⟩⟩ := b
  simp only [beqSw, beqIw, En.mk.injEq, Ou.mk.injEq]
  rw [Bool.eq_iff_iff]; simp [and_assoc]
set_option maxHeartbeats 1000000 in
/-- slices.Equal of a list and itself. -/
theorem equalEn_ok (o1 o2 : Option Addr) (c1 c2 : Nat) (us : List En) (hl : us.length ≤ 1099511627776) : Enters 24 ∧ Spec Tryz.prog 24 #[.slice o1 us.length c1, .slice o2 us.length c2]
    [Sl 74 enf o1 c1 us, Sl 74 enf o2 c2 us] [] (RetV (.bool true)) := by
  refine ⟨enters_of Tryz.func24 (by kernel_rfl) rfl, spec_of (vs := [_, _]) Tryz.func24 rfl Tryz.ntmps24 rfl fun G w hp => ?_⟩
  repeat' (first | refine l_run ?_ | refine l_nil ?_ | refine l_one ?_ | refine k_reg ?_ | refine l_ld ?_ | refine l_ldF ?_ | refine l_st ?_ | refine l_al (fun b => ?_) | refine l_bs (fun b => ?_) | refine k_condT ?_ | refine k_condF ?_ | refine k_brk ?_ | refine r_run ?_ | refine r_one ?_ | refine r_ld ?_ | refine r_ldF ?_ | refine r_ldN ?_ | refine r_al (fun b => ?_) | refine r_bs (fun b => ?_) | refine r_st ?_ | refine r_end ?_ | (refine l_split (fun hc => ?_) (fun hc => ?_) <;> (try simp at hc) <;> (try omega)) | (refine r_split (fun hc => ?_) (fun hc => ?_) <;> (try simp at hc) <;> (try omega)) | refine k_draw 6 [] [(0, 0), (1, 0), (2, 0), (3, 0), (4, 0), (5, 0), (6, 0), (7, 0), (8, 0)] [] ?_ | (refine k_cond (fun hc => ?_) (fun hc => ?_) <;> (try simp at hc) <;> (try omega)))
  refine k_lp (X := { i : Nat // i ≤ us.length }) (fun i => [(0, .slice o1 us.length c1), (1, .slice o2 us.length c2), (12, .int .i64 (us.length : Int)), (13, .int .i64 (i.1 : Int))]) (fun _ => [Sl 74 enf o1 c1 us, Sl 74 enf o2 c2 us]) (fun _ => []) (fun i => us.length - i.1) ⟨0, by omega⟩ ⟨rfl, rfl, rfl, rfl, trivial⟩ ?_
  rintro ⟨i, hi⟩
  dsimp only
  by_cases hlt : i < us.length
  · obtain ⟨x, hx⟩ : ∃ x, us[i]? = some x := ⟨_, List.getElem?_eq_getElem hlt⟩
    have he := eqEn x x
    rw [decide_eq_true rfl] at he
    repeat' (first | refine l_run ?_ | refine l_nil ?_ | refine l_one ?_ | refine k_reg ?_ | refine l_ld ?_ | refine l_ldF ?_ | refine l_st ?_ | refine l_al (fun b => ?_) | refine l_bs (fun b => ?_) | refine k_condT ?_ | refine k_condF ?_ | refine r_run ?_ | refine r_one ?_ | refine r_ld ?_ | refine r_ldF ?_ | refine r_ldN ?_ | refine r_al (fun b => ?_) | refine r_bs (fun b => ?_) | refine r_st ?_ | refine r_end ?_ | refine r_ixe (es := us) i x hx (fun b off => ?_) | refine r_ldC ?_ | refine r_sneq (b := true) ?_ (he := he) | (refine l_split (fun hc => ?_) (fun hc => ?_) <;> (try simp at hc) <;> (try omega)) | (refine r_split (fun hc => ?_) (fun hc => ?_) <;> (try simp at hc) <;> (try omega)) | refine k_draw 6 [] [(0, 0), (1, 0), (2, 0), (3, 0), (4, 0), (5, 0), (6, 0), (7, 0), (8, 0)] [] ?_ | (refine k_cond (fun hc => ?_) (fun hc => ?_) <;> (try simp at hc) <;> (try omega)))
    rw [wrapi (z := (i : Int) + 1) (by omega) (by omega)]
    exact k_next ⟨i + 1, by omega⟩ (by show us.length - (i + 1) < us.length - i; omega) ⟨rfl, rfl, rfl, rfl, trivial⟩
  · obtain rfl : i = us.length := by omega
    repeat' (first | refine l_run ?_ | refine l_nil ?_ | refine l_one ?_ | refine k_reg ?_ | refine l_ld ?_ | refine l_ldF ?_ | refine l_st ?_ | refine l_al (fun b => ?_) | refine l_bs (fun b => ?_) | refine k_condT ?_ | refine k_condF ?_ | refine k_brk ?_ | refine r_run ?_ | refine r_one ?_ | refine r_ld ?_ | refine r_ldF ?_ | refine r_ldN ?_ | refine r_al (fun b => ?_) | refine r_bs (fun b => ?_) | refine r_st ?_ | refine r_end ?_ | (refine l_split (fun hc => ?_) (fun hc => ?_) <;> (try simp at hc) <;> (try omega)) | (refine r_split (fun hc => ?_) (fun hc => ?_) <;> (try simp at hc) <;> (try omega)) | refine k_draw 6 [] [(0, 0), (1, 0), (2, 0), (3, 0), (4, 0), (5, 0), (6, 0), (7, 0), (8, 0)] [] ?_ | (refine k_cond (fun hc => ?_) (fun hc => ?_) <;> (try simp at hc) <;> (try omega)))
    exact k_ret () rfl trivial

set_option maxHeartbeats 4000000 in
theorem lawOSends_ok (o1 : Option Addr) (c1 : Nat) (l : List Sn) (raw : ByteArray) (hl : l.length ≤ 1099511627776) : Enters 6 ∧ Spec Tryz.prog 6 #[.slice o1 l.length c1, .string raw] [Sl 135 snf o1 c1 l, Usg] [] (RetV (.bool true)) := by
  have n1 := sends39_ok o1 c1 l hl
  obtain ⟨hS, hSl⟩ := sok_run (l.take 20)
  have h9 := all_n9 hS (cutS raw 100)
  have hel := hS.el
  have hal : (allE (sRun (l.take 20)).es).length ≤ 20 := by
    have h1 : (allE (sRun (l.take 20)).es).length ≤ (kn (sRun (l.take 20)).es 18).length := List.length_filterMap_le ..
    have h2 := allE_len hS
    rw [List.length_take] at hSl
    omega
  have hsl : (sRun (l.take 20)).es.length ≤ 40 := by rw [List.length_take] at hSl; omega
  unfold SnPost at n1
  have hsz := cutS_size raw 100
  have n2 := fun ps => outAll_ok ps (sRun (l.take 20)).es
  have n3 := fun o2 c2 o3 c3 => equalEn_ok o2 o3 c2 c3 (allE (sRun (l.take 20)).es) (by omega)
  have n4 := ofOut_ok ⟨#[57]⟩ 0 0
  have hv9 : lvalid ([57] : List UInt8) = true := by
    have h := (prts_step [57] 0 0 (by simp)).2.2.2
    rw [show ffirst (([57] : List UInt8).drop 0) 0 0 = (⟨9, 0, 0⟩, 1) from rfl] at h
    simp at h
    simp [lvalid, lparts, h]
  have n5 := fun ps => stateWith_ok ps (sRun (l.take 20)).es n9 (cutS raw 100) (by decide) (by decide)
  have he : withE (sRun (l.take 20)).es n9 (cutS raw 100) = 0 := by
    unfold withE
    rw [if_neg (by simp [n9, onm_chk (who := ⟨#[57]⟩) (n := 0) (t := 0) hv9 (by omega) (by omega)]), if_neg (by omega), if_neg (by omega)]
  rw [he] at n5
  simp only [StR, eq_self, if_true] at n5
  have n6 := fun ps => outAll_ok ps (insO n9 (cutS raw 100) (sRun (l.take 20)).es)
  have n7 := outDecode_ok (cutS raw 100) (by omega)
  have n8 : Enters 27 ∧ Spec Tryz.prog 27 #[.string ⟨#[57]⟩, .int .i64 0, .int .i64 0] [] [] (RetV n9.v) := n4
  generalize (sRun (l.take 20)).es = es at *
  generalize allE es = all at *
  generalize insO n9 (cutS raw 100) es = es2 at *
  cases hd : odec (cutS raw 100) with
  | none =>
    have h10 := h9.1 hd
    rw [h10] at n6
    simp only [hd, Option.getD_none, Option.isSome_none, Bool.false_eq_true, if_false] at n7
    refine ⟨enters_of Tryz.func6 (by kernel_rfl) rfl, spec_of (vs := [_, _]) Tryz.func6 rfl Tryz.ntmps6 rfl fun G w hp => ?_⟩
    repeat' (first | refine l_run ?_ | refine l_nil ?_ | refine l_one ?_ | refine k_reg ?_ | refine l_ld ?_ | refine l_ldF ?_ | refine l_st ?_ | refine l_al (fun b => ?_) | refine l_bs (fun b => ?_) | refine k_condT ?_ | refine k_condF ?_ | refine k_brk ?_ | refine l_call (n1) (fun _ _ => ?_) | refine l_call0 (n1) (fun _ _ => ?_) | (refine l_split (fun hc => ?_) (fun hc => ?_) <;> (try simp at hc)) | (refine k_cond (fun hc => ?_) (fun hc => ?_) <;> (try simp at hc)))
    rename_i q _
    obtain ⟨bs, o, cap⟩ := q
    dsimp only
    refine l_frz (T := 74) (sz := 7) (f := enf) (o := o) (cap := cap) (m := all.length) (xs := all.flatMap enf) all ?_ rfl rfl
    repeat' (first | refine l_run ?_ | refine l_nil ?_ | refine l_one ?_ | refine k_reg ?_ | refine l_ld ?_ | refine l_ldF ?_ | refine l_st ?_ | refine l_al (fun b => ?_) | refine l_bs (fun b => ?_) | refine k_condT ?_ | refine k_condF ?_ | refine k_brk ?_ | refine r_run ?_ | refine r_one ?_ | refine r_ld ?_ | refine r_ldF ?_ | refine r_ldN ?_ | refine r_al (fun b => ?_) | refine r_bs (fun b => ?_) | refine r_st ?_ | refine r_end ?_ | refine l_call (known39_ok) (fun _ _ => ?_) | refine l_call0 (known39_ok) (fun _ _ => ?_) | refine r_call (known39_ok) (fun _ _ => ?_) | refine l_call (n2 _) (fun _ _ => ?_) | refine l_call0 (n2 _) (fun _ _ => ?_) | refine r_call (n2 _) (fun _ _ => ?_) | refine l_call (n3 _ _ _ _) (fun _ _ => ?_) | refine l_call0 (n3 _ _ _ _) (fun _ _ => ?_) | refine r_call (n3 _ _ _ _) (fun _ _ => ?_) | refine l_call (n8) (fun _ _ => ?_) | refine l_call0 (n8) (fun _ _ => ?_) | refine r_call (n8) (fun _ _ => ?_) | refine l_call (n5 _) (fun _ _ => ?_) | refine l_call0 (n5 _) (fun _ _ => ?_) | refine r_call (n5 _) (fun _ _ => ?_) | refine l_call (n6 _) (fun _ _ => ?_) | refine l_call0 (n6 _) (fun _ _ => ?_) | refine r_call (n6 _) (fun _ _ => ?_) | refine l_call (n7) (fun _ _ => ?_) | refine l_call0 (n7) (fun _ _ => ?_) | refine r_call (n7) (fun _ _ => ?_) | refine r_cutS 100 ?_ | refine l_cutS 100 ?_ | (refine l_split (fun hc => ?_) (fun hc => ?_) <;> (try simp at hc) <;> (try omega)) | (refine r_split (fun hc => ?_) (fun hc => ?_) <;> (try simp at hc) <;> (try omega)) | refine k_draw 4 [] [(0, 0), (2, 0), (3, 0), (4, 0), (5, 0), (6, 0), (1, 4), (7, 4), (8, 0), (9, 0), (10, 0), (11, 0), (12, 0)] [] ?_ | (refine k_cond (fun hc => ?_) (fun hc => ?_) <;> (try simp at hc) <;> (try omega)))
    all_goals exact k_ret () rfl trivial
  | some z =>
    have h10 := h9.2 (by rw [hd]; rfl)
    simp only [hd, Option.getD_some, Option.isSome_some, if_true] at n7
    have w1 : IntKind.i64.wrap ((all.length : Int) + 1) = ((allE es2).length : Int) := by rw [h10, wrapi (by omega) (by omega)]; omega
    refine ⟨enters_of Tryz.func6 (by kernel_rfl) rfl, spec_of (vs := [_, _]) Tryz.func6 rfl Tryz.ntmps6 rfl fun G w hp => ?_⟩
    repeat' (first | refine l_run ?_ | refine l_nil ?_ | refine l_one ?_ | refine k_reg ?_ | refine l_ld ?_ | refine l_ldF ?_ | refine l_st ?_ | refine l_al (fun b => ?_) | refine l_bs (fun b => ?_) | refine k_condT ?_ | refine k_condF ?_ | refine k_brk ?_ | refine l_call (n1) (fun _ _ => ?_) | refine l_call0 (n1) (fun _ _ => ?_) | (refine l_split (fun hc => ?_) (fun hc => ?_) <;> (try simp at hc)) | (refine k_cond (fun hc => ?_) (fun hc => ?_) <;> (try simp at hc)))
    rename_i q _
    obtain ⟨bs, o, cap⟩ := q
    dsimp only
    refine l_frz (T := 74) (sz := 7) (f := enf) (o := o) (cap := cap) (m := all.length) (xs := all.flatMap enf) all ?_ rfl rfl
    repeat' (first | refine l_run ?_ | refine l_nil ?_ | refine l_one ?_ | refine k_reg ?_ | refine l_ld ?_ | refine l_ldF ?_ | refine l_st ?_ | refine l_al (fun b => ?_) | refine l_bs (fun b => ?_) | refine k_condT ?_ | refine k_condF ?_ | refine k_brk ?_ | refine r_run ?_ | refine r_one ?_ | refine r_ld ?_ | refine r_ldF ?_ | refine r_ldN ?_ | refine r_al (fun b => ?_) | refine r_bs (fun b => ?_) | refine r_st ?_ | refine r_end ?_ | refine l_call (known39_ok) (fun _ _ => ?_) | refine l_call0 (known39_ok) (fun _ _ => ?_) | refine r_call (known39_ok) (fun _ _ => ?_) | refine l_call (n2 _) (fun _ _ => ?_) | refine l_call0 (n2 _) (fun _ _ => ?_) | refine r_call (n2 _) (fun _ _ => ?_) | refine l_call (n3 _ _ _ _) (fun _ _ => ?_) | refine l_call0 (n3 _ _ _ _) (fun _ _ => ?_) | refine r_call (n3 _ _ _ _) (fun _ _ => ?_) | refine l_call (n8) (fun _ _ => ?_) | refine l_call0 (n8) (fun _ _ => ?_) | refine r_call (n8) (fun _ _ => ?_) | refine l_call (n5 _) (fun _ _ => ?_) | refine l_call0 (n5 _) (fun _ _ => ?_) | refine r_call (n5 _) (fun _ _ => ?_) | refine l_call (n6 _) (fun _ _ => ?_) | refine l_call0 (n6 _) (fun _ _ => ?_) | refine r_call (n6 _) (fun _ _ => ?_) | refine l_call (n7) (fun _ _ => ?_) | refine l_call0 (n7) (fun _ _ => ?_) | refine r_call (n7) (fun _ _ => ?_) | refine r_cutS 100 ?_ | refine l_cutS 100 ?_ | rw [w1] | (refine l_split (fun hc => ?_) (fun hc => ?_) <;> (try simp at hc) <;> (try omega)) | (refine r_split (fun hc => ?_) (fun hc => ?_) <;> (try simp at hc) <;> (try omega)) | refine k_draw 4 [] [(0, 0), (2, 0), (3, 0), (4, 0), (5, 0), (6, 0), (1, 4), (7, 4), (8, 0), (9, 0), (10, 0), (11, 0), (12, 0)] [] ?_ | (refine k_cond (fun hc => ?_) (fun hc => ?_) <;> (try simp at hc) <;> (try omega)))
    all_goals refine k_ret () ?_ trivial
    all_goals simp [RetV, resV]
end Go.Proofs.YtiggkcknmjgicaaGreatDoor
