/-
  The outputs of a nil state.
  Conditions: those that each theorem states.
-/
import Derived.Test.YtiggkcknmjgicaaGreatDoorME
import Derived.Test.YtiggkcknmjgicaaGreatDoorMF
set_option maxRecDepth 10000
namespace Go.Proofs.YtiggkcknmjgicaaGreatDoor
open Go.RowKit

theorem nodesNil_iter (b : Nat) : Iter 175 [.pointer (some ⟨b, 0, none⟩)] elv ([] : List El) [Blk b (.cells #[.pointer none] 23)] [] := by
  intro v Y I Ix hy
  refine ⟨enters_of Tryz.func175 (by kernel_rfl) rfl, spec_of (vs := [_, _]) Tryz.func175 rfl Tryz.ntmps175 rfl fun G w hp => ?_⟩
  repeat' (first | refine l_run ?_ | refine l_nil ?_ | refine l_one ?_ | refine k_reg ?_ | refine l_ld ?_ | refine l_ldF ?_ | refine l_st ?_ | refine l_al (fun b => ?_) | refine l_bs (fun b => ?_) | refine k_condT ?_ | refine k_condF ?_ | refine k_brk ?_ | refine l_split (fun hc => ?_) (fun hc => ?_) | refine k_cond (fun hc => ?_) (fun hc => ?_))
  exact k_end none rfl (fun q hq => by cases hq)
set_option maxHeartbeats 1000000 in
theorem kindNil_ok (k : Int) : Enters 68 ∧ Spec Tryz.prog 68 #[.pointer none, .int .i64 k] [] []
    ⟨Option Addr × Nat, fun q => .slice q.1 0 q.2, fun _ => True, fun _ => [], fun _ => []⟩ := by
  refine ⟨enters_of Tryz.func68 (by kernel_rfl) rfl, spec_ofM (vs := [_, _]) Tryz.func68 rfl Tryz.ntmps68 rfl fun G w hp => ?_⟩
  repeat' (first | refine l_run ?_ | refine l_nil ?_ | refine l_one ?_ | refine k_reg ?_ | refine l_ld ?_ | refine l_ldF ?_ | refine l_st ?_ | refine l_al (fun b => ?_) | refine l_bs (fun b => ?_) | refine k_condT ?_ | refine k_condF ?_ | refine k_brk ?_ | refine r_run ?_ | refine r_one ?_ | refine r_ld ?_ | refine r_ldF ?_ | refine r_ldN ?_ | refine r_al (fun b => ?_) | refine r_bs (fun b => ?_) | refine r_st ?_ | refine r_end ?_ | refine l_call (nodes_ok _) (fun _ _ => ?_) | refine l_call0 (nodes_ok _) (fun _ _ => ?_) | refine r_call (nodes_ok _) (fun _ _ => ?_) | refine l_split (fun hc => ?_) (fun hc => ?_) | refine r_split (fun hc => ?_) (fun hc => ?_) | refine k_draw 4 [] [(0, 0), (1, 0), (2, 0), (3, 0), (4, 0), (5, 0), (6, 0)] [] ?_ | refine k_draw 5 [] [(0, 0), (1, 0), (2, 0), (3, 0), (4, 0), (5, 1), (6, 4)] [7] ?_ | refine k_cond (fun hc => ?_) (fun hc => ?_))
  rename_i bk q _
  generalize b = b5
  refine k_shut (Lx := []) (r := Row 78 5 none 0 0 []) (fun h _ => row_nil _ _ h) ?_
  refine k_shut (Lx := JKL bk b5 k [] (none, 0)) (r := JK bk b5 k []) (fun h hh => ⟨(none, 0), trivial, hh⟩) ?_
  refine k_range (α := El) (enc := elv) (xs := []) (JK bk b5 k) (fun _ _ => False) (nodesNil_iter q) ?_ ?_ ?_
  · intro lr l pre e hpre
    have := hpre.length_le
    simp at this
  · intro D
    refine k_open (X := Option Addr × Nat) (Lx := fun q => JKL bk b5 k [] q) (p := fun _ => True) (r := JK bk b5 k []) .here (fun h hh => hh) (fun q _ => ?_)
    dsimp only [JKL]
    repeat' (first | refine l_run ?_ | refine l_nil ?_ | refine l_one ?_ | refine k_reg ?_ | refine l_ld ?_ | refine l_ldF ?_ | refine l_st ?_ | refine l_al (fun b => ?_) | refine l_bs (fun b => ?_) | refine k_condT ?_ | refine k_condF ?_ | refine k_brk ?_ | refine r_run ?_ | refine r_one ?_ | refine r_ld ?_ | refine r_ldF ?_ | refine r_ldN ?_ | refine r_al (fun b => ?_) | refine r_bs (fun b => ?_) | refine r_st ?_ | refine r_end ?_ | refine l_split (fun hc => ?_) (fun hc => ?_) | refine r_split (fun hc => ?_) (fun hc => ?_) | refine k_draw 4 [] [(0, 0), (1, 0), (2, 0), (3, 0), (4, 0), (5, 0), (6, 0)] [] ?_ | refine k_draw 5 [] [(0, 0), (1, 0), (2, 0), (3, 0), (4, 0), (5, 1), (6, 4)] [7] ?_ | refine k_cond (fun hc => ?_) (fun hc => ?_))
    exact k_retM q rfl trivial
  · intro D pre hpre
    exact w_open (X := Empty) (Lx := fun _ => []) (p := fun _ => False) .here (fun h hh => hh.elim) (fun q hq => hq.elim)
theorem outAllNil_ok : Enters 25 ∧ Spec Tryz.prog 25 #[.pointer none] [Usg] []
    ⟨Option Addr × Nat, fun q => .slice q.1 ([] : List En).length q.2, fun _ => True, fun q => [Sl 74 enf q.1 q.2 []], fun _ => []⟩ := by
  have n1 := kindNil_ok 18
  have n2 := n1.2.more (F := [Usg])
  refine ⟨enters_of Tryz.func25 (by kernel_rfl) rfl, spec_of (vs := [_]) Tryz.func25 rfl Tryz.ntmps25 rfl fun G w hp => ?_⟩
  repeat' (first | refine l_run ?_ | refine l_nil ?_ | refine l_one ?_ | refine k_reg ?_ | refine l_ld ?_ | refine l_ldF ?_ | refine l_st ?_ | refine l_al (fun b => ?_) | refine l_bs (fun b => ?_) | refine k_condT ?_ | refine k_condF ?_ | refine l_call (n1) (fun _ _ => ?_) | refine l_call0 (n1) (fun _ _ => ?_) | (refine l_split (fun hc => ?_) (fun hc => ?_) <;> (try simp at hc)) | (refine k_cond (fun hc => ?_) (fun hc => ?_) <;> (try simp at hc)))
  refine k_lp (X := Unit) (fun _ => [(3, .slice none 0 0), (12, .int .i64 0), (13, .int .i64 0)]) (fun _ => [Usg]) (fun _ => []) (fun _ => 0) () ⟨rfl, rfl, rfl, trivial⟩ ?_
  rintro ⟨⟩
  repeat' (first | refine l_run ?_ | refine l_nil ?_ | refine l_one ?_ | refine k_reg ?_ | refine l_ld ?_ | refine l_ldF ?_ | refine l_st ?_ | refine l_al (fun b => ?_) | refine l_bs (fun b => ?_) | refine k_condT ?_ | refine k_condF ?_ | refine k_brk ?_ | (refine l_split (fun hc => ?_) (fun hc => ?_) <;> (try simp at hc) <;> (try omega)) | (refine k_cond (fun hc => ?_) (fun hc => ?_) <;> (try simp at hc) <;> (try omega)))
  refine k_add (sl_nil 74 enf) ?_
  exact k_ret (none, 0) rfl trivial
end Go.Proofs.YtiggkcknmjgicaaGreatDoor
