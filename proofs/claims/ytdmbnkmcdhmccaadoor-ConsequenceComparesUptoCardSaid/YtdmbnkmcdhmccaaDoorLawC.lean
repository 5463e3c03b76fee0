/-
  The statement ConsequenceCompares, walked.
  Conditions: those that each theorem states.
-/
import Derived.Test.YtdmbnkmcdhmccaaDoorModC
set_option maxRecDepth 10000
namespace Go.Proofs.YtdmbnkmcdhmccaaDoor
open Go.RowKit

set_option maxHeartbeats 8000000 in
theorem lawCompares_ok (o1 o2 : Option Addr) (c1 c2 : Nat) (now left : List It) (hn : ∀ x ∈ now, x.tx.size ≤ 1099511627776) (hl : ∀ x ∈ left, x.tx.size ≤ 1099511627776) (hn2 : now.length ≤ 1099511627776) (hl2 : left.length ≤ 1099511627776) :
    Enters 4 ∧ Spec Tryd.prog 4 #[.slice o1 now.length c1, .slice o2 left.length c2] [Sl 62 itf o1 c1 now, Sl 62 itf o2 c2 left, Usg] [] (RetV (.bool true)) := by
  have nb := build_ok o1 o2 c1 c2 now left hn hl hn2 hl2
  have hal := all20 now
  have hnd := all_nodup (now.take 20)
  have hll : (ldF (left.take 20)).length ≤ 20 := by rw [ldF_len]; simp; omega
  generalize stF [] (now.take 20) = es at *
  generalize ldF (left.take 20) = ls at *
  have n4 := fun b bs => consCompare_ok b bs es ls (by omega) (by omega)
  have n5 := fun b bs => modC_ok b bs es ls (by omega) (by omega) hnd
  generalize allE es = all at *
  have hlen : (consE all ls).length ≤ 40 := by
    have h1 : (cons2 (ls.flatMap (knw all)) all).length ≤ all.length := by simp only [cons2, List.length_map]; exact List.length_filter_le ..
    simp only [consE, List.length_append, cons1_len]; omega
  generalize consE all ls = cs at *
  refine ⟨enters_of Tryd.func4 (by kernel_rfl) rfl, spec_of (vs := [_, _]) Tryd.func4 rfl Tryd.ntmps4 rfl fun G w hp => ?_⟩
  repeat' (first | refine l_run ?_ | refine l_nil ?_ | refine l_one ?_ | refine k_reg ?_ | refine l_ld ?_ | refine l_ldF ?_ | refine l_st ?_ | refine l_al (fun b => ?_) | refine l_bs (fun b => ?_) | refine k_condT ?_ | refine k_condF ?_ | refine k_brk ?_ | refine r_run ?_ | refine r_one ?_ | refine r_ld ?_ | refine r_ldF ?_ | refine r_al (fun b => ?_) | refine r_bs (fun b => ?_) | refine r_st ?_ | refine r_end ?_ | refine l_call (nb) (fun _ _ => ?_) | refine l_call0 (nb) (fun _ _ => ?_) | refine r_call (nb) (fun _ _ => ?_) | refine l_call (known_ok) (fun _ _ => ?_) | refine l_call0 (known_ok) (fun _ _ => ?_) | refine r_call (known_ok) (fun _ _ => ?_) | refine l_call (n4 _ _) (fun _ _ => ?_) | refine l_call0 (n4 _ _) (fun _ _ => ?_) | refine r_call (n4 _ _) (fun _ _ => ?_) | refine l_call (n5 _ _) (fun _ _ => ?_) | refine l_call0 (n5 _ _) (fun _ _ => ?_) | refine r_call (n5 _ _) (fun _ _ => ?_) | (refine l_split (fun hc => ?_) (fun hc => ?_) <;> (try simp at hc) <;> (try omega)) | (refine r_split (fun hc => ?_) (fun hc => ?_) <;> (try simp at hc) <;> (try omega)) | refine k_draw 11 [] [(0, 0), (1, 0), (2, 0), (3, 0), (4, 0), (5, 0), (6, 0), (7, 0), (8, 0), (9, 0), (10, 0), (11, 0), (12, 0), (13, 0), (14, 0), (15, 0), (16, 0), (17, 0), (18, 2), (19, 0), (20, 0)] [] ?_ | (refine k_cond (fun hc => ?_) (fun hc => ?_) <;> (try simp at hc) <;> (try omega)))
  rename_i qb _ _ _ qc _ qd _
  obtain ⟨bs, bl⟩ := qb
  obtain ⟨oc, cc⟩ := qc
  obtain ⟨od, cd⟩ := qd
  refine k_lp (X := { i : Nat // i ≤ cs.length }) (fun x => [(8, .slice oc cs.length cc), (10, .slice od cs.length cd), (11, .int .i64 (x.1 : Int))]) (fun _ => [Sl 37 cqf oc cc cs, Sl 37 cqf od cd cs]) (fun _ => []) (fun x => cs.length - x.1) ⟨0, by omega⟩ ⟨rfl, rfl, rfl, trivial⟩ ?_
  rintro ⟨i, hi⟩
  dsimp only
  by_cases hlt : i < cs.length
  · obtain ⟨e, he⟩ : ∃ e, cs[i]? = some e := ⟨_, List.getElem?_eq_getElem hlt⟩
    have hee : eqq e e = true := by rw [eqq_iff]; simp
    have n6 := equalC_ok e e
    rw [decide_eq_true rfl] at n6
    repeat' (first | refine l_run ?_ | refine l_nil ?_ | refine l_one ?_ | refine k_reg ?_ | refine l_ld ?_ | refine l_ldF ?_ | refine l_st ?_ | refine l_al (fun b => ?_) | refine l_bs (fun b => ?_) | refine k_condT ?_ | refine k_condF ?_ | refine k_brk ?_ | refine r_run ?_ | refine r_one ?_ | refine r_ld ?_ | refine r_ldF ?_ | refine r_al (fun b => ?_) | refine r_bs (fun b => ?_) | refine r_st ?_ | refine r_end ?_ | refine l_call (n6) (fun _ _ => ?_) | refine l_call0 (n6) (fun _ _ => ?_) | refine r_call (n6) (fun _ _ => ?_) | refine r_ixe (T := 37) (f := cqf) (es := cs) i e he (fun b off => ?_) | refine r_ldC ?_ | refine r_sneq (b := eqq e e) ?_ | rw [hee] | (refine l_split (fun hc => ?_) (fun hc => ?_) <;> (try simp at hc) <;> (try omega)) | (refine r_split (fun hc => ?_) (fun hc => ?_) <;> (try simp at hc) <;> (try omega)) | refine k_draw 11 [] [(0, 0), (1, 0), (2, 0), (3, 0), (4, 0), (5, 0), (6, 0), (7, 0), (8, 0), (9, 0), (10, 0), (11, 0), (12, 0), (13, 0), (14, 0), (15, 0), (16, 0), (17, 0), (18, 2), (19, 0), (20, 0)] [] ?_ | (refine k_cond (fun hc => ?_) (fun hc => ?_) <;> (try simp at hc) <;> (try omega)))
    rw [wrapi (z := (i : Int) + 1) (by omega) (by omega)]
    exact k_next ⟨i + 1, by omega⟩ (by show cs.length - (i + 1) < cs.length - i; omega) ⟨rfl, rfl, rfl, trivial⟩
  · repeat' (first | refine l_run ?_ | refine l_nil ?_ | refine l_one ?_ | refine k_reg ?_ | refine l_ld ?_ | refine l_ldF ?_ | refine l_st ?_ | refine l_al (fun b => ?_) | refine l_bs (fun b => ?_) | refine k_condT ?_ | refine k_condF ?_ | refine k_brk ?_ | refine r_run ?_ | refine r_one ?_ | refine r_ld ?_ | refine r_ldF ?_ | refine r_al (fun b => ?_) | refine r_bs (fun b => ?_) | refine r_st ?_ | refine r_end ?_ | (refine l_split (fun hc => ?_) (fun hc => ?_) <;> (try simp at hc) <;> (try omega)) | (refine r_split (fun hc => ?_) (fun hc => ?_) <;> (try simp at hc) <;> (try omega)) | refine k_draw 11 [] [(0, 0), (1, 0), (2, 0), (3, 0), (4, 0), (5, 0), (6, 0), (7, 0), (8, 0), (9, 0), (10, 0), (11, 0), (12, 0), (13, 0), (14, 0), (15, 0), (16, 0), (17, 0), (18, 2), (19, 0), (20, 0)] [] ?_ | (refine k_cond (fun hc => ?_) (fun hc => ?_) <;> (try simp at hc) <;> (try omega)))
    exact k_ret () rfl trivial
end Go.Proofs.YtdmbnkmcdhmccaaDoor
