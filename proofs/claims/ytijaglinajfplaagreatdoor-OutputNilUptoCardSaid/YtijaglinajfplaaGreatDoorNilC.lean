/-
  Contracts where a ledger, a view or a state is nil.
  Conditions: those that each theorem states.
-/
import Derived.Test.YtijaglinajfplaaGreatDoorMI
import Derived.Test.YtijaglinajfplaaGreatDoorMG
set_option maxRecDepth 10000
namespace Go.Proofs.YtijaglinajfplaaGreatDoor
open Go.RowKit

abbrev nilP : Value := .pointer none
theorem nLeave_ok (x : Lf) : Enters 52 ∧ Spec Tryz.prog 52 #[nilP, x.v] [] [] (RetV (.tuple #[.int .i64 0, .int .i64 1])) := by
  refine ⟨enters_of Tryz.func52 (by kernel_rfl) rfl, spec_of (vs := [_, _]) Tryz.func52 rfl Tryz.ntmps52 rfl fun G w hp => ?_⟩
  repeat' (first | refine l_run ?_ | refine l_nil ?_ | refine l_one ?_ | refine k_reg ?_ | refine l_ld ?_ | refine l_ldF ?_ | refine l_st ?_ | refine l_al (fun b => ?_) | refine l_bs (fun b => ?_) | refine k_condT ?_ | refine k_condF ?_ | refine k_brk ?_ | (refine l_split (fun hc => ?_) (fun hc => ?_) <;> (try simp at hc)) | (refine k_cond (fun hc => ?_) (fun hc => ?_) <;> (try simp at hc)))
  exact k_ret () rfl trivial
theorem nGet_ok (z : Int) : Enters 48 ∧ Spec Tryz.prog 48 #[nilP, .int .i64 z] [] [] (RetV (.tuple #[(Lf.v ⟨⟨⟨#[]⟩, 0, 0, Ou.z⟩, 0, 0⟩), .int .i64 1])) := by
  refine ⟨enters_of Tryz.func48 (by kernel_rfl) rfl, spec_of (vs := [_, _]) Tryz.func48 rfl Tryz.ntmps48 rfl fun G w hp => ?_⟩
  repeat' (first | refine l_run ?_ | refine l_nil ?_ | refine l_one ?_ | refine k_reg ?_ | refine l_ld ?_ | refine l_ldF ?_ | refine l_st ?_ | refine l_al (fun b => ?_) | refine l_bs (fun b => ?_) | refine k_condT ?_ | refine k_condF ?_ | refine k_brk ?_ | (refine l_split (fun hc => ?_) (fun hc => ?_) <;> (try simp at hc)) | (refine k_cond (fun hc => ?_) (fun hc => ?_) <;> (try simp at hc)))
  exact k_ret () rfl trivial
theorem nAll_ok : Enters 117 ∧ Spec Tryz.prog 117 #[nilP] [] [] (RetV (.slice none 0 0)) := by
  refine ⟨enters_of Tryz.func117 (by kernel_rfl) rfl, spec_of (vs := [_]) Tryz.func117 rfl Tryz.ntmps117 rfl fun G w hp => ?_⟩
  repeat' (first | refine l_run ?_ | refine l_nil ?_ | refine l_one ?_ | refine k_reg ?_ | refine l_ld ?_ | refine l_ldF ?_ | refine l_st ?_ | refine l_al (fun b => ?_) | refine l_bs (fun b => ?_) | refine k_condT ?_ | refine k_condF ?_ | refine k_brk ?_ | (refine l_split (fun hc => ?_) (fun hc => ?_) <;> (try simp at hc)) | (refine k_cond (fun hc => ?_) (fun hc => ?_) <;> (try simp at hc)))
  exact k_ret () rfl trivial
theorem nLen_ok : Enters 47 ∧ Spec Tryz.prog 47 #[nilP] [] [] (RetV (.int .i64 0)) := by
  refine ⟨enters_of Tryz.func47 (by kernel_rfl) rfl, spec_of (vs := [_]) Tryz.func47 rfl Tryz.ntmps47 rfl fun G w hp => ?_⟩
  repeat' (first | refine l_run ?_ | refine l_nil ?_ | refine l_one ?_ | refine k_reg ?_ | refine l_ld ?_ | refine l_ldF ?_ | refine l_st ?_ | refine l_al (fun b => ?_) | refine l_bs (fun b => ?_) | refine k_condT ?_ | refine k_condF ?_ | refine k_brk ?_ | refine l_call (nAll_ok) (fun _ _ => ?_) | refine l_call0 (nAll_ok) (fun _ _ => ?_) | (refine l_split (fun hc => ?_) (fun hc => ?_) <;> (try simp at hc)) | (refine k_cond (fun hc => ?_) (fun hc => ?_) <;> (try simp at hc)))
  exact k_ret () rfl trivial
theorem nWaiting_ok (ps : Option Addr) : Enters 63 ∧ Spec Tryz.prog 63 #[nilP, .pointer ps] [] [] (RetV (.slice none 0 0)) := by
  refine ⟨enters_of Tryz.func63 (by kernel_rfl) rfl, spec_of (vs := [_, _]) Tryz.func63 rfl Tryz.ntmps63 rfl fun G w hp => ?_⟩
  repeat' (first | refine l_run ?_ | refine l_nil ?_ | refine l_one ?_ | refine k_reg ?_ | refine l_ld ?_ | refine l_ldF ?_ | refine l_st ?_ | refine l_al (fun b => ?_) | refine l_bs (fun b => ?_) | refine k_condT ?_ | refine k_condF ?_ | refine k_brk ?_ | (refine l_split (fun hc => ?_) (fun hc => ?_) <;> (try simp at hc)) | (refine k_cond (fun hc => ?_) (fun hc => ?_) <;> (try simp at hc)))
  exact k_ret () rfl trivial
theorem nEncode_ok : Enters 67 ∧ Spec Tryz.prog 67 #[nilP] [] [] (RetV (.string ⟨#[]⟩)) := by
  refine ⟨enters_of Tryz.func67 (by kernel_rfl) rfl, spec_of (vs := [_]) Tryz.func67 rfl Tryz.ntmps67 rfl fun G w hp => ?_⟩
  repeat' (first | refine l_run ?_ | refine l_nil ?_ | refine l_one ?_ | refine k_reg ?_ | refine l_ld ?_ | refine l_ldF ?_ | refine l_st ?_ | refine l_al (fun b => ?_) | refine l_bs (fun b => ?_) | refine k_condT ?_ | refine k_condF ?_ | refine k_brk ?_ | (refine l_split (fun hc => ?_) (fun hc => ?_) <;> (try simp at hc)) | (refine k_cond (fun hc => ?_) (fun hc => ?_) <;> (try simp at hc)))
  exact k_ret () rfl trivial
theorem nClone_ok : Enters 51 ∧ Spec Tryz.prog 51 #[nilP] [] [] (RetV nilP) := by
  refine ⟨enters_of Tryz.func51 (by kernel_rfl) rfl, spec_of (vs := [_]) Tryz.func51 rfl Tryz.ntmps51 rfl fun G w hp => ?_⟩
  repeat' (first | refine l_run ?_ | refine l_nil ?_ | refine l_one ?_ | refine k_reg ?_ | refine l_ld ?_ | refine l_ldF ?_ | refine l_st ?_ | refine l_al (fun b => ?_) | refine l_bs (fun b => ?_) | refine k_condT ?_ | refine k_condF ?_ | refine k_brk ?_ | (refine l_split (fun hc => ?_) (fun hc => ?_) <;> (try simp at hc)) | (refine k_cond (fun hc => ?_) (fun hc => ?_) <;> (try simp at hc)))
  exact k_ret () rfl trivial
theorem sl_nil0 {α : Type} (T : Nat) (f : α → List Value) (h : H) : (Sl T f none 0 []).p h := ⟨Nat.le_refl _, .inl rfl⟩

set_option maxHeartbeats 1000000 in
theorem nFind_ok (wn : ByteArray) (nu tk : Int) : Enters 49 ∧ Spec Tryz.prog 49 #[nilP, .string wn, .int .i64 nu, .int .i64 tk] [] []
    (RetV (.tuple #[.int .i64 0, .bool false])) := by
  refine ⟨enters_of Tryz.func49 (by kernel_rfl) rfl, spec_ofM (vs := [_, _, _, _]) Tryz.func49 rfl Tryz.ntmps49 rfl fun G w hp => ?_⟩
  repeat' (first | refine l_run ?_ | refine l_nil ?_ | refine l_one ?_ | refine k_reg ?_ | refine l_ld ?_ | refine l_ldF ?_ | refine l_st ?_ | refine l_al (fun b => ?_) | refine l_bs (fun b => ?_) | refine k_condT ?_ | refine k_condF ?_ | refine k_brk ?_ | refine r_run ?_ | refine r_one ?_ | refine r_ld ?_ | refine r_ldF ?_ | refine r_ldN ?_ | refine r_al (fun b => ?_) | refine r_bs (fun b => ?_) | refine r_st ?_ | refine r_end ?_ | refine l_call (nAll_ok) (fun _ _ => ?_) | refine l_call0 (nAll_ok) (fun _ _ => ?_) | refine r_call (nAll_ok) (fun _ _ => ?_) | refine l_call (backward_ok none 0 0) (fun _ _ => ?_) | refine l_call0 (backward_ok none 0 0) (fun _ _ => ?_) | refine r_call (backward_ok none 0 0) (fun _ _ => ?_) | refine l_split (fun hc => ?_) (fun hc => ?_) | refine r_split (fun hc => ?_) (fun hc => ?_) | refine k_draw 4 [] [(0, 0), (1, 0), (3, 0), (4, 0), (5, 0), (6, 0), (2, 4), (7, 0)] [] ?_ | refine k_cond (fun hc => ?_) (fun hc => ?_))
  rename_i b5 b6 b7 b8 _ _ bb _
  generalize b = b9
  refine k_add (sl_nil0 80 lff) ?_
  refine k_shut (r := JF b5 b6 b7 b8 b9 wn nu tk []) (Lx := JFL b5 b6 b7 b8 b9 wn nu tk 0 false) (fun h hh => ⟨fun x hx => (by cases hx), hh⟩) ?_
  refine k_range2 (α := Nat × Lf) (enc1 := ixv) (enc2 := lfv2) (xs := bkw [] 0) (JF b5 b6 b7 b8 b9 wn nu tk) (JFx b5 b6 b7 b8 b9 wn nu tk) (backward_iter bb none 0 [] (by simp)) ?_ ?_ ?_
  · intro lr l pre e hpre
    have := hpre.length_le
    simp [bkw] at this
  · intro D
    refine k_open (X := Unit) (Lx := fun _ => JFL b5 b6 b7 b8 b9 wn nu tk 0 false) (p := fun _ => True) (r := JF b5 b6 b7 b8 b9 wn nu tk (bkw [] 0)) .here (fun h hh => ⟨(), trivial, hh.2⟩) (fun _ hall => ?_)
    repeat' (first | refine l_run ?_ | refine l_nil ?_ | refine l_one ?_ | refine k_reg ?_ | refine l_ld ?_ | refine l_ldF ?_ | refine l_st ?_ | refine l_al (fun b => ?_) | refine l_bs (fun b => ?_) | refine k_condT ?_ | refine k_condF ?_ | refine k_brk ?_ | refine r_run ?_ | refine r_one ?_ | refine r_ld ?_ | refine r_ldF ?_ | refine r_ldN ?_ | refine r_al (fun b => ?_) | refine r_bs (fun b => ?_) | refine r_st ?_ | refine r_end ?_ | refine l_split (fun hc => ?_) (fun hc => ?_) | refine r_split (fun hc => ?_) (fun hc => ?_) | refine k_draw 4 [] [(0, 0), (1, 0), (3, 0), (4, 0), (5, 0), (6, 0), (2, 4), (7, 0)] [] ?_ | refine k_cond (fun hc => ?_) (fun hc => ?_))
    exact k_retM () rfl trivial
  · intro D pre hpre
    refine w_open (X := List (Nat × Lf) × (Nat × Lf)) (Lx := fun q => JFL b5 b6 b7 b8 b9 wn nu tk (q.2.1 : Int) true) (r := JFx b5 b6 b7 b8 b9 wn nu tk pre) .here (fun h hh => hh) (fun q hq => ?_)
    obtain ⟨rfl, h1, h2⟩ := hq
    have := hpre.length_le
    simp [bkw] at this

theorem nSend_ok (w : ByteArray) (t : Int) (o : Ou) : Enters 68 ∧ Spec Tryz.prog 68 #[nilP, .string w, .int .i64 t, o.v] [] [] (RetV (.tuple #[.int .i64 0, .int .i64 1])) := by
  refine ⟨enters_of Tryz.func68 (by kernel_rfl) rfl, spec_of (vs := [_, _, _, _]) Tryz.func68 rfl Tryz.ntmps68 rfl fun G w hp => ?_⟩
  repeat' (first | refine l_run ?_ | refine l_nil ?_ | refine l_one ?_ | refine k_reg ?_ | refine l_ld ?_ | refine l_ldF ?_ | refine l_st ?_ | refine l_al (fun b => ?_) | refine l_bs (fun b => ?_) | refine k_condT ?_ | refine k_condF ?_ | refine k_brk ?_ | (refine l_split (fun hc => ?_) (fun hc => ?_) <;> (try simp at hc)) | (refine k_cond (fun hc => ?_) (fun hc => ?_) <;> (try simp at hc)))
  exact k_ret () rfl trivial
theorem nMade_ok (w : ByteArray) : Enters 138 ∧ Spec Tryz.prog 138 #[nilP, .string w] [] [] (RetV (.tuple #[Ct.z.v, .int .i64 1])) := by
  refine ⟨enters_of Tryz.func138 (by kernel_rfl) rfl, spec_of (vs := [_, _]) Tryz.func138 rfl Tryz.ntmps138 rfl fun G w hp => ?_⟩
  repeat' (first | refine l_run ?_ | refine l_nil ?_ | refine l_one ?_ | refine k_reg ?_ | refine l_ld ?_ | refine l_ldF ?_ | refine l_st ?_ | refine l_al (fun b => ?_) | refine l_bs (fun b => ?_) | refine k_condT ?_ | refine k_condF ?_ | refine k_brk ?_ | (refine l_split (fun hc => ?_) (fun hc => ?_) <;> (try simp at hc)) | (refine k_cond (fun hc => ?_) (fun hc => ?_) <;> (try simp at hc)))
  exact k_ret () rfl trivial
theorem nCount_ok (w : ByteArray) : Enters 70 ∧ Spec Tryz.prog 70 #[nilP, .string w] [] [] (RetV (.int .i64 0)) := by
  have n1 := nMade_ok w
  refine ⟨enters_of Tryz.func70 (by kernel_rfl) rfl, spec_of (vs := [_, _]) Tryz.func70 rfl Tryz.ntmps70 rfl fun G w hp => ?_⟩
  repeat' (first | refine l_run ?_ | refine l_nil ?_ | refine l_one ?_ | refine k_reg ?_ | refine l_ld ?_ | refine l_ldF ?_ | refine l_st ?_ | refine l_al (fun b => ?_) | refine l_bs (fun b => ?_) | refine k_condT ?_ | refine k_condF ?_ | refine k_brk ?_ | refine l_call (n1) (fun _ _ => ?_) | refine l_call0 (n1) (fun _ _ => ?_) | (refine l_split (fun hc => ?_) (fun hc => ?_) <;> (try simp at hc)) | (refine k_cond (fun hc => ?_) (fun hc => ?_) <;> (try simp at hc)))
  exact k_ret () rfl trivial

theorem nodesNil_iter (b : Nat) : Iter 239 [.pointer (some ⟨b, 0, none⟩)] elv [] [Blk b (.cells #[.pointer none] 97)] [] := by
  intro v Y I Ix hy
  refine ⟨enters_of Tryz.func239 (by kernel_rfl) rfl, spec_of (vs := [_, _]) Tryz.func239 rfl Tryz.ntmps239 rfl fun G w hp => ?_⟩
  repeat' (first | refine l_run ?_ | refine l_nil ?_ | refine l_one ?_ | refine k_reg ?_ | refine l_ld ?_ | refine l_ldF ?_ | refine l_st ?_ | refine l_al (fun b => ?_) | refine l_bs (fun b => ?_) | refine k_condT ?_ | refine k_condF ?_ | refine k_brk ?_ | (refine l_split (fun hc => ?_) (fun hc => ?_) <;> (try simp at hc)) | (refine k_cond (fun hc => ?_) (fun hc => ?_) <;> (try simp at hc)))
  exact k_end none rfl (fun q hq => by cases hq)
abbrev JNL (bk b5 : Nat) (k : Int) : List HP := [Pt bk (.cells #[.int .i64 k] 3), Pt b5 (.cells #[.slice none 0 0] 148)]
def JN (bk b5 : Nat) (k : Int) (_ : List El) : HP := fun h => Sep (JNL bk b5 k) h
theorem nKind_ok (k : Int) : Enters 128 ∧ Spec Tryz.prog 128 #[nilP, .int .i64 k] [] [] (RetV (.slice none 0 0)) := by
  refine ⟨enters_of Tryz.func128 (by kernel_rfl) rfl, spec_ofM (vs := [_, _]) Tryz.func128 rfl Tryz.ntmps128 rfl fun G w hp => ?_⟩
  repeat' (first | refine l_run ?_ | refine l_nil ?_ | refine l_one ?_ | refine k_reg ?_ | refine l_ld ?_ | refine l_ldF ?_ | refine l_st ?_ | refine l_al (fun b => ?_) | refine l_bs (fun b => ?_) | refine k_condT ?_ | refine k_condF ?_ | refine k_brk ?_ | refine r_run ?_ | refine r_one ?_ | refine r_ld ?_ | refine r_ldF ?_ | refine r_ldN ?_ | refine r_al (fun b => ?_) | refine r_bs (fun b => ?_) | refine r_st ?_ | refine r_end ?_ | refine l_call (nodes_ok _) (fun _ _ => ?_) | refine l_call0 (nodes_ok _) (fun _ _ => ?_) | refine r_call (nodes_ok _) (fun _ _ => ?_) | refine l_split (fun hc => ?_) (fun hc => ?_) | refine r_split (fun hc => ?_) (fun hc => ?_) | refine k_draw 4 [] [(0, 0), (1, 0), (2, 0), (3, 0), (4, 0), (5, 0), (6, 0)] [] ?_ | refine k_draw 5 [] [(0, 0), (1, 0), (2, 0), (3, 0), (4, 0), (5, 1), (6, 4)] [7] ?_ | refine k_cond (fun hc => ?_) (fun hc => ?_))
  rename_i bk q _
  generalize b = b5
  refine k_shut (Lx := JNL bk b5 k) (r := JN bk b5 k []) (fun h hh => hh) ?_
  refine k_range (α := El) (enc := elv) (xs := []) (JN bk b5 k) (fun _ _ => False) (nodesNil_iter q) ?_ ?_ ?_
  · intro lr l pre e hpre
    have := hpre.length_le
    simp at this
  · intro D
    refine k_open (X := Unit) (Lx := fun _ => JNL bk b5 k) (p := fun _ => True) (r := JN bk b5 k []) .here (fun h hh => ⟨(), trivial, hh⟩) (fun q _ => ?_)
    repeat' (first | refine l_run ?_ | refine l_nil ?_ | refine l_one ?_ | refine k_reg ?_ | refine l_ld ?_ | refine l_ldF ?_ | refine l_st ?_ | refine l_al (fun b => ?_) | refine l_bs (fun b => ?_) | refine k_condT ?_ | refine k_condF ?_ | refine k_brk ?_ | refine r_run ?_ | refine r_one ?_ | refine r_ld ?_ | refine r_ldF ?_ | refine r_ldN ?_ | refine r_al (fun b => ?_) | refine r_bs (fun b => ?_) | refine r_st ?_ | refine r_end ?_ | refine l_split (fun hc => ?_) (fun hc => ?_) | refine r_split (fun hc => ?_) (fun hc => ?_) | refine k_draw 4 [] [(0, 0), (1, 0), (2, 0), (3, 0), (4, 0), (5, 0), (6, 0)] [] ?_ | refine k_draw 5 [] [(0, 0), (1, 0), (2, 0), (3, 0), (4, 0), (5, 1), (6, 4)] [7] ?_ | refine k_cond (fun hc => ?_) (fun hc => ?_))
    exact k_retM () rfl trivial
  · intro D pre hpre
    exact w_open (X := Empty) (Lx := fun _ => []) (p := fun _ => False) .here (fun h hh => hh.elim) (fun q hq => hq.elim)
theorem nOutAll_ok : Enters 58 ∧ Spec Tryz.prog 58 #[nilP] [] [] (RetV (.slice none 0 0)) := by
  have n1 := nKind_ok 18
  refine ⟨enters_of Tryz.func58 (by kernel_rfl) rfl, spec_of (vs := [_]) Tryz.func58 rfl Tryz.ntmps58 rfl fun G w hp => ?_⟩
  repeat' (first | refine l_run ?_ | refine l_nil ?_ | refine l_one ?_ | refine k_reg ?_ | refine l_ld ?_ | refine l_ldF ?_ | refine l_st ?_ | refine l_al (fun b => ?_) | refine l_bs (fun b => ?_) | refine k_condT ?_ | refine k_condF ?_ | refine k_brk ?_ | refine l_call (n1) (fun _ _ => ?_) | refine l_call0 (n1) (fun _ _ => ?_) | refine l_split (fun hc => ?_) (fun hc => ?_) | refine k_cond (fun hc => ?_) (fun hc => ?_))
  refine k_lp (X := Unit) (fun _ => [(3, .slice none 0 0), (12, .int .i64 0), (13, .int .i64 0)]) (fun _ => []) (fun _ => []) (fun _ => 0) () ⟨rfl, rfl, rfl, trivial⟩ ?_
  rintro ⟨⟩
  repeat' (first | refine l_run ?_ | refine l_nil ?_ | refine l_one ?_ | refine k_reg ?_ | refine l_ld ?_ | refine l_ldF ?_ | refine l_st ?_ | refine l_al (fun b => ?_) | refine l_bs (fun b => ?_) | refine k_condT ?_ | refine k_condF ?_ | refine k_brk ?_ | (refine l_split (fun hc => ?_) (fun hc => ?_) <;> (try simp at hc) <;> (try omega)) | (refine k_cond (fun hc => ?_) (fun hc => ?_) <;> (try simp at hc) <;> (try omega)))
  exact k_ret () rfl trivial

theorem nPrefix1_ok (c : Nat) : Enters 55 ∧ Spec Tryz.prog 55 #[nilP, .pointer (some ⟨c, 0, none⟩)] [LgF c []] [] (RetV (.bool true)) := by
  have n2 := lgAll_ok c []
  have n3 := fun o1 c1 o2 c2 => equalLf_ok o1 o2 c1 c2 [] [] (by simp) (by simp)
  rw [decide_eq_true (show ([] : List Lf) = [] from rfl)] at n3
  refine ⟨enters_of Tryz.func55 (by kernel_rfl) rfl, spec_of (vs := [_, _]) Tryz.func55 rfl Tryz.ntmps55 rfl fun G w hp => ?_⟩
  refine k_add (sl_nil0 80 lff) ?_
  repeat' (first | refine l_run ?_ | refine l_nil ?_ | refine l_one ?_ | refine k_reg ?_ | refine l_ld ?_ | refine l_ldF ?_ | refine l_st ?_ | refine l_al (fun b => ?_) | refine l_bs (fun b => ?_) | refine k_condT ?_ | refine k_condF ?_ | refine k_brk ?_ | refine l_call (nAll_ok) (fun _ _ => ?_) | refine l_call0 (nAll_ok) (fun _ _ => ?_) | refine l_call (n2) (fun _ _ => ?_) | refine l_call0 (n2) (fun _ _ => ?_) | refine l_call (n3 _ _ _ _) (fun _ _ => ?_) | refine l_call0 (n3 _ _ _ _) (fun _ _ => ?_) | refine l_slH (es := ([] : List Lf)) 0 (by simp) (fun o' => ?_) | (refine l_split (fun hc => ?_) (fun hc => ?_) <;> (try simp at hc) <;> (try omega)) | (refine k_cond (fun hc => ?_) (fun hc => ?_) <;> (try simp at hc) <;> (try omega)))
  exact k_ret () rfl trivial
theorem nPrefix2_ok (b : Nat) : Enters 55 ∧ Spec Tryz.prog 55 #[.pointer (some ⟨b, 0, none⟩), nilP] [LgF b []] [] (RetV (.bool true)) := by
  have n2 := lgAll_ok b []
  have n3 := fun o1 c1 o2 c2 => equalLf_ok o1 o2 c1 c2 [] [] (by simp) (by simp)
  rw [decide_eq_true (show ([] : List Lf) = [] from rfl)] at n3
  refine ⟨enters_of Tryz.func55 (by kernel_rfl) rfl, spec_of (vs := [_, _]) Tryz.func55 rfl Tryz.ntmps55 rfl fun G w hp => ?_⟩
  refine k_add (sl_nil0 80 lff) ?_
  repeat' (first | refine l_run ?_ | refine l_nil ?_ | refine l_one ?_ | refine k_reg ?_ | refine l_ld ?_ | refine l_ldF ?_ | refine l_st ?_ | refine l_al (fun b => ?_) | refine l_bs (fun b => ?_) | refine k_condT ?_ | refine k_condF ?_ | refine k_brk ?_ | refine l_call (nAll_ok) (fun _ _ => ?_) | refine l_call0 (nAll_ok) (fun _ _ => ?_) | refine l_call (n2) (fun _ _ => ?_) | refine l_call0 (n2) (fun _ _ => ?_) | refine l_call (n3 _ _ _ _) (fun _ _ => ?_) | refine l_call0 (n3 _ _ _ _) (fun _ _ => ?_) | refine l_slH (es := ([] : List Lf)) 0 (by simp) (fun o' => ?_) | (refine l_split (fun hc => ?_) (fun hc => ?_) <;> (try simp at hc) <;> (try omega)) | (refine k_cond (fun hc => ?_) (fun hc => ?_) <;> (try simp at hc) <;> (try omega)))
  exact k_ret () rfl trivial
theorem nEqual_ok : Enters 54 ∧ Spec Tryz.prog 54 #[nilP, nilP] [] [] (RetV (.bool true)) := by
  have n3 := fun o1 c1 o2 c2 => equalLf_ok o1 o2 c1 c2 [] [] (by simp) (by simp)
  rw [decide_eq_true (show ([] : List Lf) = [] from rfl)] at n3
  refine ⟨enters_of Tryz.func54 (by kernel_rfl) rfl, spec_of (vs := [_, _]) Tryz.func54 rfl Tryz.ntmps54 rfl fun G w hp => ?_⟩
  refine k_add (sl_nil0 80 lff) ?_
  repeat' (first | refine l_run ?_ | refine l_nil ?_ | refine l_one ?_ | refine k_reg ?_ | refine l_ld ?_ | refine l_ldF ?_ | refine l_st ?_ | refine l_al (fun b => ?_) | refine l_bs (fun b => ?_) | refine k_condT ?_ | refine k_condF ?_ | refine k_brk ?_ | refine l_call (nAll_ok) (fun _ _ => ?_) | refine l_call0 (nAll_ok) (fun _ _ => ?_) | refine l_call (n3 none 0 none 0) (fun _ _ => ?_) | refine l_call0 (n3 none 0 none 0) (fun _ _ => ?_) | (refine l_split (fun hc => ?_) (fun hc => ?_) <;> (try simp at hc)) | (refine k_cond (fun hc => ?_) (fun hc => ?_) <;> (try simp at hc)))
  exact k_ret () rfl trivial
theorem nEqual1_ok (c : Nat) : Enters 54 ∧ Spec Tryz.prog 54 #[nilP, .pointer (some ⟨c, 0, none⟩)] [] [] (RetV (.bool false)) := by
  refine ⟨enters_of Tryz.func54 (by kernel_rfl) rfl, spec_of (vs := [_, _]) Tryz.func54 rfl Tryz.ntmps54 rfl fun G w hp => ?_⟩
  repeat' (first | refine l_run ?_ | refine l_nil ?_ | refine l_one ?_ | refine k_reg ?_ | refine l_ld ?_ | refine l_ldF ?_ | refine l_st ?_ | refine l_al (fun b => ?_) | refine l_bs (fun b => ?_) | refine k_condT ?_ | refine k_condF ?_ | refine k_brk ?_ | (refine l_split (fun hc => ?_) (fun hc => ?_) <;> (try simp at hc)) | (refine k_cond (fun hc => ?_) (fun hc => ?_) <;> (try simp at hc)))
  exact k_ret () rfl trivial
theorem nEqual2_ok (b : Nat) : Enters 54 ∧ Spec Tryz.prog 54 #[.pointer (some ⟨b, 0, none⟩), nilP] [] [] (RetV (.bool false)) := by
  refine ⟨enters_of Tryz.func54 (by kernel_rfl) rfl, spec_of (vs := [_, _]) Tryz.func54 rfl Tryz.ntmps54 rfl fun G w hp => ?_⟩
  repeat' (first | refine l_run ?_ | refine l_nil ?_ | refine l_one ?_ | refine k_reg ?_ | refine l_ld ?_ | refine l_ldF ?_ | refine l_st ?_ | refine l_al (fun b => ?_) | refine l_bs (fun b => ?_) | refine k_condT ?_ | refine k_condF ?_ | refine k_brk ?_ | (refine l_split (fun hc => ?_) (fun hc => ?_) <;> (try simp at hc)) | (refine k_cond (fun hc => ?_) (fun hc => ?_) <;> (try simp at hc)))
  exact k_ret () rfl trivial
end Go.Proofs.YtijaglinajfplaaGreatDoor
