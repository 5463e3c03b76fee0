/-
  The statement ConsequenceErrors, walked.
  Conditions: those that each theorem states.
-/
import Derived.Test.YtdmbnkmcdhmccaaDoorPlaces
import Derived.Test.YtdmbnkmcdhmccaaDoorCnt
set_option maxRecDepth 10000
namespace Go.Proofs.YtdmbnkmcdhmccaaDoor
open Go.RowKit

theorem stF_len : ∀ (l : List It) (es : Al), (stF es l).length ≤ es.length + l.length
  | [], _ => by simp [stF]
  | x :: l, es => by
    have h1 := stF_len l (insO (itn x) (oencS (ito x)) es)
    have h2 := insO_len (itn x) (oencS (ito x)) es
    simp only [stF, List.foldl_cons, List.length_cons] at h1 ⊢
    omega
theorem allE_len (es : Al) : (allE es).length ≤ es.length := by
  have h1 : (allE es).length ≤ (kn es 18).length := by unfold allE allN; exact List.length_filterMap_le ..
  have h2 : (kn es 18).length ≤ es.length := by simp only [kn, List.length_map]; exact List.length_filter_le ..
  omega
theorem all20 (now : List It) : (allE (stF [] (now.take 20))).length ≤ 20 := by
  have h1 := allE_len (stF [] (now.take 20))
  have h2 := stF_len (now.take 20) []
  simp at h2
  omega
theorem ldF_len (l : List It) : (ldF l).length = l.length := by simp [ldF]
theorem consE_nil (all : List En) : consE all [] = all.map con2 := by
  simp only [consE, cons1, cons2, List.mapIdx_nil, List.flatMap_nil, List.nil_append]
  rw [List.filter_eq_self.2 (by simp)]
theorem allE_nil : allE [] = [] := rfl

theorem newLedgerF_ok : Enters 16 ∧ Spec Tryd.prog 16 #[] [] [] ⟨Nat, fun b => .pointer (some ⟨b, 0, none⟩), fun _ => True, fun b => [LgF b []], fun _ => []⟩ := by
  refine ⟨enters_of Tryd.func16 (by kernel_rfl) rfl, spec_of (vs := []) Tryd.func16 rfl Tryd.ntmps16 rfl fun G w hp => ?_⟩
  repeat' (first | refine l_run ?_ | refine l_nil ?_ | refine l_one ?_ | refine k_reg ?_ | refine l_ld ?_ | refine l_ldF ?_ | refine l_st ?_ | refine l_al (fun b => ?_) | refine l_bs (fun b => ?_) | refine k_condT ?_ | refine k_condF ?_ | refine k_brk ?_ | refine l_split (fun hc => ?_) (fun hc => ?_) | refine k_cond (fun hc => ?_) (fun hc => ?_))
  refine k_shut (Lx := []) (r := Row 52 9 none 0 0 []) (fun h _ => row_nil _ _ h) ?_
  refine k_shut (Lx := LgL b [] (none, 0)) (r := Lg b []) (fun h hh => ⟨(none, 0), trivial, hh⟩) ?_
  refine k_lgz (b := b) (ls := []) ?_
  exact k_ret b rfl trivial

theorem differences_nil : Enters 19 ∧ Spec Tryd.prog 19 #[.slice none 0 0] [] [] ⟨Option Addr × Nat, fun q => .slice q.1 0 q.2, fun _ => True, fun _ => [], fun _ => []⟩ := by
  obtain ⟨h1, h2⟩ := differences_ok none 0 [] (by simp)
  refine ⟨h1, fun G w hp hs => ?_⟩
  have hs' : Sat G w hp [Sl 37 cqf none 0 []] [] w := hs.facts fun _ _ x hx => by
    simp at hx; subst hx; exact ⟨by simp, .inl rfl⟩
  refine (h2 G w hp hs').mono ?_
  rintro e w' ⟨x, rfl, hx, hs⟩
  exact ⟨x, rfl, trivial, hs.facts fun _ _ x hx => by simp at hx⟩
theorem count_nil : Enters 18 ∧ Spec Tryd.prog 18 #[.slice none 0 0] [] [] (RetV (.agg #[.int .i64 0, .int .i64 0, .int .i64 0, .int .i64 0, .int .i64 0])) := by
  obtain ⟨h1, h2⟩ := count_ok none 0 [] (by simp)
  refine ⟨h1, fun G w hp hs => ?_⟩
  have hs' : Sat G w hp [Sl 37 cqf none 0 []] [] w := hs.facts fun _ _ x hx => by
    simp at hx; subst hx; exact ⟨by simp, .inl rfl⟩
  exact h2 G w hp hs'

set_option maxHeartbeats 4000000 in
theorem lawErrors_ok (o1 o2 : Option Addr) (c1 c2 : Nat) (now left : List It) (hn : ∀ x ∈ now, x.tx.size ≤ 1099511627776) (hl : ∀ x ∈ left, x.tx.size ≤ 1099511627776) (hn2 : now.length ≤ 1099511627776) (hl2 : left.length ≤ 1099511627776) :
    Enters 8 ∧ Spec Tryd.prog 8 #[.slice o1 now.length c1, .slice o2 left.length c2] [Sl 62 itf o1 c1 now, Sl 62 itf o2 c2 left, Usg] [] (RetV (.bool true)) := by
  have nb := build_ok o1 o2 c1 c2 now left hn hl hn2 hl2
  have hal := all20 now
  generalize stF [] (now.take 20) = es at *
  have n3 := fun b bs => consCompare_ok b bs [] [] (by simp) (by simp [allE_nil])
  have n4 := fun b bs => consCompare_ok b bs es [] (by simp) (by omega)
  have n5 := fun p => outAll_ok p es
  simp only [consE_nil, allE_nil, List.map_nil, List.length_nil, List.length_map] at n3 n4
  generalize allE es = all at *
  refine ⟨enters_of Tryd.func8 (by kernel_rfl) rfl, spec_of (vs := [_, _]) Tryd.func8 rfl Tryd.ntmps8 rfl fun G w hp => ?_⟩
  repeat' (first | refine l_run ?_ | refine l_nil ?_ | refine l_one ?_ | refine k_reg ?_ | refine l_ld ?_ | refine l_ldF ?_ | refine l_st ?_ | refine l_al (fun b => ?_) | refine l_bs (fun b => ?_) | refine k_condT ?_ | refine k_condF ?_ | refine k_brk ?_ | refine l_call (nb) (fun _ _ => ?_) | refine l_call0 (nb) (fun _ _ => ?_) | refine l_call (consCompare_nilL _) (fun _ _ => ?_) | refine l_call0 (consCompare_nilL _) (fun _ _ => ?_) | refine l_call (consCompare_nilS _) (fun _ _ => ?_) | refine l_call0 (consCompare_nilS _) (fun _ _ => ?_) | refine l_call (newLedgerF_ok) (fun _ _ => ?_) | refine l_call0 (newLedgerF_ok) (fun _ _ => ?_) | refine l_call (stateNew_ok) (fun _ _ => ?_) | refine l_call0 (stateNew_ok) (fun _ _ => ?_) | refine l_call (n3 _ _) (fun _ _ => ?_) | refine l_call0 (n3 _ _) (fun _ _ => ?_) | refine l_call (n4 _ _) (fun _ _ => ?_) | refine l_call0 (n4 _ _) (fun _ _ => ?_) | refine l_call (known_ok) (fun _ _ => ?_) | refine l_call0 (known_ok) (fun _ _ => ?_) | refine l_call (n5 _) (fun _ _ => ?_) | refine l_call0 (n5 _) (fun _ _ => ?_) | refine l_call (differences_nil) (fun _ _ => ?_) | refine l_call0 (differences_nil) (fun _ _ => ?_) | refine l_call (count_nil) (fun _ _ => ?_) | refine l_call0 (count_nil) (fun _ _ => ?_) | refine l_seq ?_ | (refine l_split (fun hc => ?_) (fun hc => ?_) <;> (try simp at hc)) | (refine k_cond (fun hc => ?_) (fun hc => ?_) <;> (try simp at hc)))
  · exact k_ret () rfl trivial
  · exact absurd (by decide) hc
end Go.Proofs.YtdmbnkmcdhmccaaDoor
