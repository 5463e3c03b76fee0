/-
  Contracts of the package process where the view is nil; an operation of the statements' model in it.
  Conditions: those that each theorem states.
-/
import Derived.Test.YtaijnpkdlopomaaGreatDoorReg
import Derived.Test.YtaijnpkdlopomaaGreatDoorPro5
set_option maxRecDepth 10000
namespace Go.Proofs.YtaijnpkdlopomaaGreatDoor
open Go.RowKit

abbrev nilW : Value := .pointer none
abbrev zPr : Value := .agg #[.int .i64 0, .int .i64 0, .int .i64 0, .int .i64 0, .int .i64 0, .slice none 0 0, .string ⟨#[]⟩, .int .i64 0, .string ⟨#[]⟩, .int .i64 0, .int .i64 0]
theorem wGet_ok (s : ByteArray) : Enters 30 ∧ Spec Tryz.prog 30 #[nilW, .string s] [] [] (RetV (.tuple #[zPr, .int .i64 1])) := by
  refine ⟨enters_of Tryz.func30 (by kernel_rfl) rfl, spec_of (vs := [_, _]) Tryz.func30 rfl Tryz.ntmps30 rfl fun G w hp => ?_⟩
  repeat' (first | refine l_run ?_ | refine l_nil ?_ | refine l_one ?_ | refine k_reg ?_ | refine l_ld ?_ | refine l_ldF ?_ | refine l_st ?_ | refine l_al (fun b => ?_) | refine l_bs (fun b => ?_) | refine k_condT ?_ | refine k_condF ?_ | refine k_brk ?_ | (refine l_split (fun hc => ?_) (fun hc => ?_) <;> (try simp at hc)) | (refine k_cond (fun hc => ?_) (fun hc => ?_) <;> (try simp at hc)))
  exact k_ret () rfl trivial
theorem wRunning_ok (s : ByteArray) : Enters 72 ∧ Spec Tryz.prog 72 #[nilW, .string s] [] [] (RetV (.tuple #[zPr, .int .i64 1])) := by
  have n1 := wGet_ok s
  refine ⟨enters_of Tryz.func72 (by kernel_rfl) rfl, spec_of (vs := [_, _]) Tryz.func72 rfl Tryz.ntmps72 rfl fun G w hp => ?_⟩
  repeat' (first | refine l_run ?_ | refine l_nil ?_ | refine l_one ?_ | refine k_reg ?_ | refine l_ld ?_ | refine l_ldF ?_ | refine l_st ?_ | refine l_al (fun b => ?_) | refine l_bs (fun b => ?_) | refine k_condT ?_ | refine k_condF ?_ | refine k_brk ?_ | refine l_call (n1) (fun _ _ => ?_) | refine l_call0 (n1) (fun _ _ => ?_) | (refine l_split (fun hc => ?_) (fun hc => ?_) <;> (try simp at hc) <;> (try omega)) | (refine k_cond (fun hc => ?_) (fun hc => ?_) <;> (try simp at hc) <;> (try omega)))
  exact k_ret () rfl trivial
theorem wRuns_ok (s : ByteArray) : Enters 25 ∧ Spec Tryz.prog 25 #[nilW, .string s] [] [] (RetV (.bool false)) := by
  have n1 := wRunning_ok s
  refine ⟨enters_of Tryz.func25 (by kernel_rfl) rfl, spec_of (vs := [_, _]) Tryz.func25 rfl Tryz.ntmps25 rfl fun G w hp => ?_⟩
  repeat' (first | refine l_run ?_ | refine l_nil ?_ | refine l_one ?_ | refine k_reg ?_ | refine l_ld ?_ | refine l_ldF ?_ | refine l_st ?_ | refine l_al (fun b => ?_) | refine l_bs (fun b => ?_) | refine k_condT ?_ | refine k_condF ?_ | refine k_brk ?_ | refine l_call (n1) (fun _ _ => ?_) | refine l_call0 (n1) (fun _ _ => ?_) | (refine l_split (fun hc => ?_) (fun hc => ?_) <;> (try simp at hc) <;> (try omega)) | (refine k_cond (fun hc => ?_) (fun hc => ?_) <;> (try simp at hc) <;> (try omega)))
  exact k_ret () rfl trivial
theorem wEpoch_ok : Enters 26 ∧ Spec Tryz.prog 26 #[nilW] [] [] (RetV (.tuple #[.int .i64 0, .int .i64 1])) := by
  refine ⟨enters_of Tryz.func26 (by kernel_rfl) rfl, spec_of (vs := [_]) Tryz.func26 rfl Tryz.ntmps26 rfl fun G w hp => ?_⟩
  repeat' (first | refine l_run ?_ | refine l_nil ?_ | refine l_one ?_ | refine k_reg ?_ | refine l_ld ?_ | refine l_ldF ?_ | refine l_st ?_ | refine l_al (fun b => ?_) | refine l_bs (fun b => ?_) | refine k_condT ?_ | refine k_condF ?_ | refine k_brk ?_ | (refine l_split (fun hc => ?_) (fun hc => ?_) <;> (try simp at hc)) | (refine k_cond (fun hc => ?_) (fun hc => ?_) <;> (try simp at hc)))
  exact k_ret () rfl trivial
theorem wBoot_ok : Enters 70 ∧ Spec Tryz.prog 70 #[nilW] [] [] (RetV (.tuple #[.int .i64 0, .int .i64 1])) := by
  have n1 := wEpoch_ok
  refine ⟨enters_of Tryz.func70 (by kernel_rfl) rfl, spec_of (vs := [_]) Tryz.func70 rfl Tryz.ntmps70 rfl fun G w hp => ?_⟩
  repeat' (first | refine l_run ?_ | refine l_nil ?_ | refine l_one ?_ | refine k_reg ?_ | refine l_ld ?_ | refine l_ldF ?_ | refine l_st ?_ | refine l_al (fun b => ?_) | refine l_bs (fun b => ?_) | refine k_condT ?_ | refine k_condF ?_ | refine k_brk ?_ | refine l_call (n1) (fun _ _ => ?_) | refine l_call0 (n1) (fun _ _ => ?_) | (refine l_split (fun hc => ?_) (fun hc => ?_) <;> (try simp at hc) <;> (try omega)) | (refine k_cond (fun hc => ?_) (fun hc => ?_) <;> (try simp at hc) <;> (try omega)))
  exact k_ret () rfl trivial
theorem wSpawn_ok (s : ByteArray) (sh : Bool) : Enters 62 ∧ Spec Tryz.prog 62 #[nilW, .string s, .bool sh] [] [] (RetV (.tuple #[.string ⟨#[]⟩, .int .i64 1])) := by
  have n1 := wRunning_ok s
  refine ⟨enters_of Tryz.func62 (by kernel_rfl) rfl, spec_of (vs := [_, _, _]) Tryz.func62 rfl Tryz.ntmps62 rfl fun G w hp => ?_⟩
  repeat' (first | refine l_run ?_ | refine l_nil ?_ | refine l_one ?_ | refine k_reg ?_ | refine l_ld ?_ | refine l_ldF ?_ | refine l_st ?_ | refine l_al (fun b => ?_) | refine l_bs (fun b => ?_) | refine k_condT ?_ | refine k_condF ?_ | refine k_brk ?_ | refine l_call (n1) (fun _ _ => ?_) | refine l_call0 (n1) (fun _ _ => ?_) | (refine l_split (fun hc => ?_) (fun hc => ?_) <;> (try simp at hc) <;> (try omega)) | (refine k_cond (fun hc => ?_) (fun hc => ?_) <;> (try simp at hc) <;> (try omega)))
  exact k_ret () rfl trivial
theorem wFork_ok (s : ByteArray) : Enters 20 ∧ Spec Tryz.prog 20 #[nilW, .string s] [] [] (RetV (.tuple #[.string ⟨#[]⟩, .int .i64 1])) := by
  have n1 := fun sh => wSpawn_ok s sh
  refine ⟨enters_of Tryz.func20 (by kernel_rfl) rfl, spec_of (vs := [_, _]) Tryz.func20 rfl Tryz.ntmps20 rfl fun G w hp => ?_⟩
  repeat' (first | refine l_run ?_ | refine l_nil ?_ | refine l_one ?_ | refine k_reg ?_ | refine l_ld ?_ | refine l_ldF ?_ | refine l_st ?_ | refine l_al (fun b => ?_) | refine l_bs (fun b => ?_) | refine k_condT ?_ | refine k_condF ?_ | refine k_brk ?_ | refine l_call (n1 _) (fun _ _ => ?_) | refine l_call0 (n1 _) (fun _ _ => ?_) | (refine l_split (fun hc => ?_) (fun hc => ?_) <;> (try simp at hc)) | (refine k_cond (fun hc => ?_) (fun hc => ?_) <;> (try simp at hc)))
  exact k_ret () rfl trivial
theorem wThread_ok (s : ByteArray) : Enters 66 ∧ Spec Tryz.prog 66 #[nilW, .string s] [] [] (RetV (.tuple #[.string ⟨#[]⟩, .int .i64 1])) := by
  have n1 := fun sh => wSpawn_ok s sh
  refine ⟨enters_of Tryz.func66 (by kernel_rfl) rfl, spec_of (vs := [_, _]) Tryz.func66 rfl Tryz.ntmps66 rfl fun G w hp => ?_⟩
  repeat' (first | refine l_run ?_ | refine l_nil ?_ | refine l_one ?_ | refine k_reg ?_ | refine l_ld ?_ | refine l_ldF ?_ | refine l_st ?_ | refine l_al (fun b => ?_) | refine l_bs (fun b => ?_) | refine k_condT ?_ | refine k_condF ?_ | refine k_brk ?_ | refine l_call (n1 _) (fun _ _ => ?_) | refine l_call0 (n1 _) (fun _ _ => ?_) | (refine l_split (fun hc => ?_) (fun hc => ?_) <;> (try simp at hc)) | (refine k_cond (fun hc => ?_) (fun hc => ?_) <;> (try simp at hc)))
  exact k_ret () rfl trivial
theorem wChange_ok (s : ByteArray) (f : FuncId) (cs : Array Value) : Enters 87 ∧ Spec Tryz.prog 87 #[nilW, .string s, .func (.func f) #[] cs] [] [] (RetV (.int .i64 1)) := by
  have n1 := wRunning_ok s
  refine ⟨enters_of Tryz.func87 (by kernel_rfl) rfl, spec_of (vs := [_, _, _]) Tryz.func87 rfl Tryz.ntmps87 rfl fun G w hp => ?_⟩
  repeat' (first | refine l_run ?_ | refine l_nil ?_ | refine l_one ?_ | refine k_reg ?_ | refine l_ld ?_ | refine l_ldF ?_ | refine l_st ?_ | refine l_al (fun b => ?_) | refine l_bs (fun b => ?_) | refine k_condT ?_ | refine k_condF ?_ | refine k_brk ?_ | refine l_call (n1) (fun _ _ => ?_) | refine l_call0 (n1) (fun _ _ => ?_) | (refine l_split (fun hc => ?_) (fun hc => ?_) <;> (try simp at hc) <;> (try omega)) | (refine k_cond (fun hc => ?_) (fun hc => ?_) <;> (try simp at hc) <;> (try omega)))
  exact k_ret () rfl trivial
theorem wExit_ok (s : ByteArray) (z : Int) : Enters 43 ∧ Spec Tryz.prog 43 #[nilW, .string s, .int .i64 z] [] [] (RetV (.int .i64 1)) := by
  have n1 := fun f cs => wChange_ok s f cs
  refine ⟨enters_of Tryz.func43 (by kernel_rfl) rfl, spec_of (vs := [_, _, _]) Tryz.func43 rfl Tryz.ntmps43 rfl fun G w hp => ?_⟩
  repeat' (first | refine l_run ?_ | refine l_nil ?_ | refine l_one ?_ | refine k_reg ?_ | refine l_ld ?_ | refine l_ldF ?_ | refine l_st ?_ | refine l_al (fun b => ?_) | refine l_bs (fun b => ?_) | refine k_condT ?_ | refine k_condF ?_ | refine k_brk ?_ | refine l_call (n1 _ _) (fun _ _ => ?_) | refine l_call0 (n1 _ _) (fun _ _ => ?_) | (refine l_split (fun hc => ?_) (fun hc => ?_) <;> (try simp at hc) <;> (try omega)) | (refine k_cond (fun hc => ?_) (fun hc => ?_) <;> (try simp at hc) <;> (try omega)))
  exact k_ret () rfl trivial
theorem wWait_ok (s : ByteArray) (z : Int) : Enters 42 ∧ Spec Tryz.prog 42 #[nilW, .string s, .int .i64 z] [] [] (RetV (.tuple #[.int .i64 0, .int .i64 1])) := by
  have n1 := wGet_ok s
  refine ⟨enters_of Tryz.func42 (by kernel_rfl) rfl, spec_of (vs := [_, _, _]) Tryz.func42 rfl Tryz.ntmps42 rfl fun G w hp => ?_⟩
  repeat' (first | refine l_run ?_ | refine l_nil ?_ | refine l_one ?_ | refine k_reg ?_ | refine l_ld ?_ | refine l_ldF ?_ | refine l_st ?_ | refine l_al (fun b => ?_) | refine l_bs (fun b => ?_) | refine k_condT ?_ | refine k_condF ?_ | refine k_brk ?_ | refine l_call (n1) (fun _ _ => ?_) | refine l_call0 (n1) (fun _ _ => ?_) | (refine l_split (fun hc => ?_) (fun hc => ?_) <;> (try simp at hc) <;> (try omega)) | (refine k_cond (fun hc => ?_) (fun hc => ?_) <;> (try simp at hc) <;> (try omega)))
  exact k_ret () rfl trivial
theorem wStart_ok (s : ByteArray) (p : Pr) (o : Option Addr) (c : Nat) : Enters 31 ∧ Spec Tryz.prog 31 #[nilW, .string s, p.v o c] [] [] (RetV (.int .i64 1)) := by
  obtain ⟨x1, x2, x3, x4, x5, xs, x7, x8, ⟨x9, x10⟩, x11⟩ := p
  simp only [Pr.v]
  refine ⟨enters_of Tryz.func31 (by kernel_rfl) rfl, spec_of (vs := [_, _, _]) Tryz.func31 rfl Tryz.ntmps31 rfl fun G w hp => ?_⟩
  repeat' (first | refine l_run ?_ | refine l_nil ?_ | refine l_one ?_ | refine k_reg ?_ | refine l_ld ?_ | refine l_ldF ?_ | refine l_st ?_ | refine l_al (fun b => ?_) | refine l_bs (fun b => ?_) | refine k_condT ?_ | refine k_condF ?_ | refine k_brk ?_ | (refine l_split (fun hc => ?_) (fun hc => ?_) <;> (try simp at hc) <;> (try omega)) | (refine k_cond (fun hc => ?_) (fun hc => ?_) <;> (try simp at hc) <;> (try omega)))
  exact k_ret () rfl trivial
theorem wSetP_ok (s : ByteArray) (p : Pr) (o : Option Addr) (c : Nat) : Enters 67 ∧ Spec Tryz.prog 67 #[nilW, .string s, p.v o c] [] [] (RetV (.int .i64 1)) := by
  obtain ⟨x1, x2, x3, x4, x5, xs, x7, x8, ⟨x9, x10⟩, x11⟩ := p
  simp only [Pr.v]
  refine ⟨enters_of Tryz.func67 (by kernel_rfl) rfl, spec_of (vs := [_, _, _]) Tryz.func67 rfl Tryz.ntmps67 rfl fun G w hp => ?_⟩
  repeat' (first | refine l_run ?_ | refine l_nil ?_ | refine l_one ?_ | refine k_reg ?_ | refine l_ld ?_ | refine l_ldF ?_ | refine l_st ?_ | refine l_al (fun b => ?_) | refine l_bs (fun b => ?_) | refine k_condT ?_ | refine k_condF ?_ | refine k_brk ?_ | (refine l_split (fun hc => ?_) (fun hc => ?_) <;> (try simp at hc) <;> (try omega)) | (refine k_cond (fun hc => ?_) (fun hc => ?_) <;> (try simp at hc) <;> (try omega)))
  exact k_ret () rfl trivial
theorem wMemOf_ok (s : ByteArray) : Enters 52 ∧ Spec Tryz.prog 52 #[nilW, .string s] [] [] (RetV (.tuple #[zPr, zPr, .int .i64 1])) := by
  have n1 := wGet_ok s
  refine ⟨enters_of Tryz.func52 (by kernel_rfl) rfl, spec_of (vs := [_, _]) Tryz.func52 rfl Tryz.ntmps52 rfl fun G w hp => ?_⟩
  repeat' (first | refine l_run ?_ | refine l_nil ?_ | refine l_one ?_ | refine k_reg ?_ | refine l_ld ?_ | refine l_ldF ?_ | refine l_st ?_ | refine l_al (fun b => ?_) | refine l_bs (fun b => ?_) | refine k_condT ?_ | refine k_condF ?_ | refine k_brk ?_ | refine l_call (n1) (fun _ _ => ?_) | refine l_call0 (n1) (fun _ _ => ?_) | (refine l_split (fun hc => ?_) (fun hc => ?_) <;> (try simp at hc) <;> (try omega)) | (refine k_cond (fun hc => ?_) (fun hc => ?_) <;> (try simp at hc) <;> (try omega)))
  exact k_ret () rfl trivial
theorem wMemory_ok (s : ByteArray) : Enters 17 ∧ Spec Tryz.prog 17 #[nilW, .string s] [] [] (RetV (.tuple #[nilW, .int .i64 1])) := by
  have n1 := wMemOf_ok s
  refine ⟨enters_of Tryz.func17 (by kernel_rfl) rfl, spec_of (vs := [_, _]) Tryz.func17 rfl Tryz.ntmps17 rfl fun G w hp => ?_⟩
  repeat' (first | refine l_run ?_ | refine l_nil ?_ | refine l_one ?_ | refine k_reg ?_ | refine l_ld ?_ | refine l_ldF ?_ | refine l_st ?_ | refine l_al (fun b => ?_) | refine l_bs (fun b => ?_) | refine k_condT ?_ | refine k_condF ?_ | refine k_brk ?_ | refine l_call (n1) (fun _ _ => ?_) | refine l_call0 (n1) (fun _ _ => ?_) | (refine l_split (fun hc => ?_) (fun hc => ?_) <;> (try simp at hc) <;> (try omega)) | (refine k_cond (fun hc => ?_) (fun hc => ?_) <;> (try simp at hc) <;> (try omega)))
  exact k_ret () rfl trivial
theorem wGrow_ok (s : ByteArray) (z : Int) : Enters 68 ∧ Spec Tryz.prog 68 #[nilW, .string s, .int .i64 z] [] [] (RetV (.tuple #[.int .i64 0, .int .i64 1])) := by
  refine ⟨enters_of Tryz.func68 (by kernel_rfl) rfl, spec_of (vs := [_, _, _]) Tryz.func68 rfl Tryz.ntmps68 rfl fun G w hp => ?_⟩
  repeat' (first | refine l_run ?_ | refine l_nil ?_ | refine l_one ?_ | refine k_reg ?_ | refine l_ld ?_ | refine l_ldF ?_ | refine l_st ?_ | refine l_al (fun b => ?_) | refine l_bs (fun b => ?_) | refine k_condT ?_ | refine k_condF ?_ | refine k_brk ?_ | (refine l_split (fun hc => ?_) (fun hc => ?_) <;> (try simp at hc) <;> (try omega)) | (refine k_cond (fun hc => ?_) (fun hc => ?_) <;> (try simp at hc) <;> (try omega)))
  exact k_ret () rfl trivial
theorem wLoad_ok (s c1 c2 : ByteArray) (z1 z2 : Int) : Enters 69 ∧ Spec Tryz.prog 69 #[nilW, .string s, .agg #[.string c1, .string c2, .int .i64 z1, .int .i64 z2]] [] [] (RetV (.int .i64 1)) := by
  refine ⟨enters_of Tryz.func69 (by kernel_rfl) rfl, spec_of (vs := [_, _, _]) Tryz.func69 rfl Tryz.ntmps69 rfl fun G w hp => ?_⟩
  repeat' (first | refine l_run ?_ | refine l_nil ?_ | refine l_one ?_ | refine k_reg ?_ | refine l_ld ?_ | refine l_ldF ?_ | refine l_st ?_ | refine l_al (fun b => ?_) | refine l_bs (fun b => ?_) | refine k_condT ?_ | refine k_condF ?_ | refine k_brk ?_ | (refine l_split (fun hc => ?_) (fun hc => ?_) <;> (try simp at hc) <;> (try omega)) | (refine k_cond (fun hc => ?_) (fun hc => ?_) <;> (try simp at hc) <;> (try omega)))
  exact k_ret () rfl trivial
theorem wSetRegs_ok (s : ByteArray) (g : List Int) (h : g.length = 9) : Enters 16 ∧ Spec Tryz.prog 16 #[nilW, .string s, rgV g] [] [] (RetV (.int .i64 1)) := by
  obtain _ | ⟨a1, _ | ⟨a2, _ | ⟨a3, _ | ⟨a4, _ | ⟨a5, _ | ⟨a6, _ | ⟨a7, _ | ⟨a8, _ | ⟨a9, _ | ⟨a10, l⟩⟩⟩⟩⟩⟩⟩⟩⟩⟩ := g
  all_goals try (simp at h; done)
  refine ⟨enters_of Tryz.func16 (by kernel_rfl) rfl, spec_of (vs := [_, _, _]) Tryz.func16 rfl Tryz.ntmps16 rfl fun G w hp => ?_⟩
  repeat' (first | refine l_run ?_ | refine l_nil ?_ | refine l_one ?_ | refine k_reg ?_ | refine l_ld ?_ | refine l_ldF ?_ | refine l_st ?_ | refine l_al (fun b => ?_) | refine l_bs (fun b => ?_) | refine k_condT ?_ | refine k_condF ?_ | refine k_brk ?_ | (refine l_split (fun hc => ?_) (fun hc => ?_) <;> (try simp at hc) <;> (try omega)) | (refine k_cond (fun hc => ?_) (fun hc => ?_) <;> (try simp at hc) <;> (try omega)))
  exact k_ret () rfl trivial

section
variable {n : Nat} {C : Cx} {Q : Exit → Act → World → Prop} {E E' : List (Nat × Value)} {F F' F1 Fs F0 : List Pf} {R R' R0 Rs N N' A : List HP} {k k' : List Fr} {ops l : List Oper} {L L' : List (Nat × Nat)} {Tl : List Nat}
  {i d : Nat} {t ty0 : TypeId} {x y : Operand} {pos : String} {aft : Array Edge} {gd : Option (Nat × Bool)} {b off : Nat} {cs : Array Value} {ty : TypeId} {fzn : Nat × Nat} {v : Value}
/-- The address of an element, by an index of any kind. -/
theorem run_indexAtK {T sz : Nat} {o : Option Addr} {m cap i : Nat} {w : World} {rs tr : TRow} (hts : lookT tab t = some rs) (hrs : rs.k = .slice T) (hT : lookT tab T = some tr) (hsz : tr.size = sz) {z : Int} {kd : IntKind} (hz : z = (i : Int)) (hi : i < m) {p : Addr} (ho : o.map (·.add (i * sz)) = some p) :
    (Instr.indexAt t (.slice o m cap) (.int kd z)).run Tryz.prog w = .ok (.pointer (some p)) w := by
  obtain ⟨d1, hd1, hk1⟩ := tab_ok.und hts
  rw [hrs] at hk1
  have hu1 : (underlying t).run Tryz.prog w = .ok (.slice T) w := by
    cases d1 <;> simp [chkKind] at hk1
    subst hk1
    simp [underlying, hd1, go_sem]
  have hs1 := tab_ok.sizeOf hT w
  rw [hsz] at hs1
  cases o with
  | none => cases ho
  | some a =>
    subst hz
    simp only [Option.map_some, Option.some.injEq] at ho
    unfold Instr.indexAt
    simp only [asIntOf, Sem.run_bind, Sem.run_pure, Result.andThen, hu1]
    have hc : (0 : Int) ≤ (i : Int) ∧ (i : Int) < ((m : Nat) : Int) := ⟨by omega, by omega⟩
    rw [if_pos hc]
    simp only [Sem.run_bind, hs1, Result.andThen, Sem.run_pure, Int.toNat_natCast, ho]
theorem r_ixPK {T sz m cap : Nat} {z : Int} {kd : IntKind} {rs tr : TRow} (j : Nat) (hlt : j < m) (nx : Wr n C ops k Q Tl Fs R L ((d, .pointer (some ⟨b, j * sz, none⟩)) :: E) F N)
    (ho : nth ops i = some ⟨some d, .indexAddr t x y, ty0, pos, aft, gd⟩ := by rfl) (hw : wantL ops E ⟨some d, .indexAddr t x y, ty0, pos, aft, gd⟩ = some true := by rfl) (hx : ev E x = some (.slice (some ⟨b, 0, none⟩) m cap) := by rfl) (hy : ev E y = some (.int kd z) := by rfl)
    (hts : lookT tab t = some rs := by rfl) (hrs : rs.k = .slice T := by rfl) (hT : lookT tab T = some tr := by rfl) (hsz : tr.size = sz := by rfl) (hz : z = (j : Int) := by first | rfl | omega) : Wr n C ops k Q Tl Fs R ((i, 0) :: L) E F N :=
  r_q (fun a w ha => by
    have hr1 := run_indexAtK (kd := kd) (o := some ⟨b, 0, none⟩) (m := m) (cap := cap) (w := w) hts hrs hT hsz hz hlt (p := ⟨b, j * sz, none⟩) (by simp [add_add rfl])
    simp only [execOp, ha.ev (x := x) (by rw [evf_look]; exact hx), ha.ev (x := y) (by rw [evf_look]; exact hy), Sem.run_bind, Result.andThen, hr1, Sem.run_pure]) nx ho hw
end
/-- The names of the model. -/
def nm35 : List ByteArray := [⟨#[49]⟩, ⟨#[50]⟩, ⟨#[49, 46, 49]⟩, ⟨#[49, 46, 50]⟩, ⟨#[49, 46, 49, 46, 49]⟩, ⟨#[50, 46, 49]⟩, ⟨#[120]⟩]
abbrev sf : ByteArray → List Value := fun s => [.string s]
theorem names35_ok : Enters 65 ∧ Spec Tryz.prog 65 #[] [] [] ⟨Nat, fun b => .slice (some ⟨b, 0, none⟩) 7 7, fun _ => True, fun _ => [], fun b => [Ax 25 sf b nm35 ([], (0, 0))]⟩ := by
  refine ⟨enters_of Tryz.func65 (by kernel_rfl) rfl, spec_of (vs := []) Tryz.func65 rfl Tryz.ntmps65 rfl fun G w hp => ?_⟩
  repeat' (first | refine l_run ?_ | refine l_nil ?_ | refine l_one ?_ | refine k_reg ?_ | refine l_ld ?_ | refine l_ldF ?_ | refine l_st ?_ | refine l_al (fun b => ?_) | refine l_bs (fun b => ?_) | refine k_condT ?_ | refine k_condF ?_ | refine k_brk ?_ | (refine l_split (fun hc => ?_) (fun hc => ?_) <;> (try simp at hc)) | (refine k_cond (fun hc => ?_) (fun hc => ?_) <;> (try simp at hc)))
  exact k_ret b rfl trivial

/-- An operation of the model. -/
structure Oq where
  k : Nat
  w : Nat
  n : Int
  a : Int
  t : ByteArray
  p : Pr
  ic : ByteArray
  id : ByteArray
  iz : Int
  ie : Int
def Oq.v (q : Oq) (o : Option Addr) (c : Nat) : Value := .agg #[.int .u8 q.k, .int .u8 q.w, .int .i64 q.n, .int .i64 q.a, .string q.t, .int .i64 q.p.kd, .int .i64 q.p.st, .int .i64 q.p.cd, .int .i64 q.p.ep, .int .i64 q.p.us, .slice o q.p.gs.length c, .string q.p.sp, .int .i64 q.p.pg, .string q.p.dr.mkr, .int .i64 q.p.dr.nu, .int .i64 q.p.tm, .string q.ic, .string q.id, .int .i64 q.iz, .int .i64 q.ie]
def cutQ (q : Oq) : Oq := { q with t := cutS q.t 300, p := shP q.p }
theorem cut35_ok (q : Oq) (o : Option Addr) (c : Nat) (hl : q.p.gs.length ≤ 1099511627776) : Enters 23 ∧ Spec Tryz.prog 23 #[q.v o c] [Sl 3 zf o c q.p.gs] []
    ⟨Option Addr, fun o' => (cutQ q).v o' c, fun _ => True, fun o' => [Sl 3 zf o' c (cutQ q).p.gs], fun _ => []⟩ := by
  have n1 := short35_ok q.p o c hl
  obtain ⟨y1, y2, y3, y4, y5, ⟨x1, x2, x3, x4, x5, xs, x7, x8, ⟨x9, x10⟩, x11⟩, y7, y8, y9, y10⟩ := q
  simp only [Pr.v, shP] at n1
  simp only [Oq.v, cutQ, shP]
  refine ⟨enters_of Tryz.func23 (by kernel_rfl) rfl, spec_of (vs := [_]) Tryz.func23 rfl Tryz.ntmps23 rfl fun G w hp => ?_⟩
  repeat' (first | refine l_run ?_ | refine l_nil ?_ | refine l_one ?_ | refine k_reg ?_ | refine l_ld ?_ | refine l_ldF ?_ | refine l_st ?_ | refine l_al (fun b => ?_) | refine l_bs (fun b => ?_) | refine k_condT ?_ | refine k_condF ?_ | refine k_brk ?_ | refine l_call (n1) (fun _ _ => ?_) | refine l_call0 (n1) (fun _ _ => ?_) | refine l_cutS 300 ?_ | (refine l_split (fun hc => ?_) (fun hc => ?_) <;> (try simp at hc)) | (refine k_cond (fun hc => ?_) (fun hc => ?_) <;> (try simp at hc)))
  rename_i o' _
  exact k_ret o' rfl trivial

abbrev zRs : Value := .agg #[.int .i64 0, .string ⟨#[]⟩, .int .i64 0, .int .i64 0, .int .i64 0, .int .i64 0, .int .i64 0, .slice none 0 0, .string ⟨#[]⟩, .int .i64 0, .string ⟨#[]⟩, .int .i64 0, .int .i64 0, .int .i64 1]
theorem and7 (z : Int) : ∃ j : Nat, j < 8 ∧ IntKind.i64.wrap (((BitVec.ofInt IntKind.i64.bits z &&& BitVec.ofInt IntKind.i64.bits 7).toNat : Nat) : Int) = (j : Int) := by
  have h1 : (BitVec.ofInt IntKind.i64.bits z &&& BitVec.ofInt IntKind.i64.bits 7).toNat ≤ 7 := by
    rw [BitVec.toNat_and]
    have : (BitVec.ofInt IntKind.i64.bits 7).toNat = 7 := by decide
    rw [this]
    exact Nat.and_le_right
  exact ⟨_, by omega, wrapi (by omega) (by omega)⟩
def RgP : Post := ⟨{ g : List Int // g.length = 9 }, fun g => rgV g.1, fun _ => True, fun _ => [], fun _ => []⟩
theorem regs35_ok (z : Int) : Enters 71 ∧ Spec Tryz.prog 71 #[.int .i64 z] [] [] RgP := by
  obtain ⟨j, hj, hw⟩ := and7 z
  rcases (show j = 0 ∨ j = 1 ∨ j = 2 ∨ j = 3 ∨ j = 4 ∨ j = 5 ∨ j = 6 ∨ j = 7 by omega) with rfl | rfl | rfl | rfl | rfl | rfl | rfl | rfl
  all_goals
    (refine ⟨enters_of Tryz.func71 (by kernel_rfl) rfl, spec_of (vs := [_]) Tryz.func71 rfl Tryz.ntmps71 rfl fun G w hp => ?_⟩
     repeat' (first | refine l_run ?_ | refine l_nil ?_ | refine l_one ?_ | refine k_reg ?_ | refine l_ld ?_ | refine l_ldF ?_ | refine l_st ?_ | refine l_al (fun b => ?_) | refine l_bs (fun b => ?_) | refine k_condT ?_ | refine k_condF ?_ | refine k_brk ?_ | refine l_ixA (m := 8) _ hj ?_ (hz := hw) | (refine l_split (fun hc => ?_) (fun hc => ?_) <;> (try simp at hc)) | (refine k_cond (fun hc => ?_) (fun hc => ?_) <;> (try simp at hc)))
     exact k_ret (post := RgP) ⟨[_, _, _, _, _, _, _, _, _], rfl⟩ rfl trivial)
set_option maxHeartbeats 4000000 in
theorem wPerform_ok (q : Oq) (o : Option Addr) (c : Nat) : Enters 24 ∧ Spec Tryz.prog 24 #[nilW, q.v o c] [] [] (RetV zRs) := by
  have n0 := names35_ok
  have m1 := fun s => wGet_ok s
  have m2 := fun s p o c => wStart_ok s p o c
  have m3 := fun s => wFork_ok s
  have m4 := fun s => wThread_ok s
  have m5 := fun s z => wExit_ok s z
  have m6 := fun s z => wWait_ok s z
  have m7 := fun s p o c => wSetP_ok s p o c
  have m8 := fun s => wMemory_ok s
  have m9 := fun s z => wGrow_ok s z
  have m10 := fun s c1 c2 z1 z2 => wLoad_ok s c1 c2 z1 z2
  have m11 := wBoot_ok
  have m12 := fun z => regs35_ok z
  have m13 := fun s (g : { g : List Int // g.length = 9 }) => wSetRegs_ok s g.1 g.2
  obtain ⟨y1, y2, y3, y4, y5, ⟨x1, x2, x3, x4, x5, xs, x7, x8, ⟨x9, x10⟩, x11⟩, y7, y8, y9, y10⟩ := q
  obtain ⟨nw, hnw⟩ : ∃ s, nm35[y2 % 7]? = some s := ⟨_, List.getElem?_eq_getElem (show y2 % 7 < 7 by omega)⟩
  have hlt7 : y2 % 7 < 7 := by omega
  have w1 : (y2 : Int).tmod 7 = ((y2 % 7 : Nat) : Int) := (Int.ofNat_tmod y2 7).symm
  have e2 := m2 nw ⟨x1, x2, x3, x4, x5, xs, x7, x8, ⟨x9, x10⟩, x11⟩ o c
  have e7 := m7 nw ⟨x1, x2, x3, x4, x5, xs, x7, x8, ⟨x9, x10⟩, x11⟩ o c
  simp only [Pr.v] at e2 e7
  simp only [Oq.v]
  generalize hk : (y1 : Int).tmod 12 = kk
  refine ⟨enters_of Tryz.func24 (by kernel_rfl) rfl, spec_of (vs := [_, _]) Tryz.func24 rfl Tryz.ntmps24 rfl fun G w hp => ?_⟩
  repeat' (first | refine l_run ?_ | refine l_nil ?_ | refine l_one ?_ | refine k_reg ?_ | refine l_ld ?_ | refine l_ldF ?_ | refine l_st ?_ | refine l_al (fun b => ?_) | refine l_bs (fun b => ?_) | refine k_condT ?_ | refine k_condF ?_ | refine k_brk ?_ | refine r_run ?_ | refine r_one ?_ | refine r_ld ?_ | refine r_ldF ?_ | refine r_ldN ?_ | refine r_al (fun b => ?_) | refine r_bs (fun b => ?_) | refine r_st ?_ | refine r_end ?_ | refine l_call (n0) (fun _ _ => ?_) | refine l_call0 (n0) (fun _ _ => ?_) | refine r_call (n0) (fun _ _ => ?_) | refine l_call (m1 _) (fun _ _ => ?_) | refine l_call0 (m1 _) (fun _ _ => ?_) | refine r_call (m1 _) (fun _ _ => ?_) | refine l_call (e2) (fun _ _ => ?_) | refine l_call0 (e2) (fun _ _ => ?_) | refine r_call (e2) (fun _ _ => ?_) | refine l_call (m3 _) (fun _ _ => ?_) | refine l_call0 (m3 _) (fun _ _ => ?_) | refine r_call (m3 _) (fun _ _ => ?_) | refine l_call (m4 _) (fun _ _ => ?_) | refine l_call0 (m4 _) (fun _ _ => ?_) | refine r_call (m4 _) (fun _ _ => ?_) | refine l_call (m5 _ _) (fun _ _ => ?_) | refine l_call0 (m5 _ _) (fun _ _ => ?_) | refine r_call (m5 _ _) (fun _ _ => ?_) | refine l_call (m6 _ _) (fun _ _ => ?_) | refine l_call0 (m6 _ _) (fun _ _ => ?_) | refine r_call (m6 _ _) (fun _ _ => ?_) | refine l_call (e7) (fun _ _ => ?_) | refine l_call0 (e7) (fun _ _ => ?_) | refine r_call (e7) (fun _ _ => ?_) | refine l_call (m8 _) (fun _ _ => ?_) | refine l_call0 (m8 _) (fun _ _ => ?_) | refine r_call (m8 _) (fun _ _ => ?_) | refine l_call (m9 _ _) (fun _ _ => ?_) | refine l_call0 (m9 _ _) (fun _ _ => ?_) | refine r_call (m9 _ _) (fun _ _ => ?_) | refine l_call (m10 _ _ _ _ _) (fun _ _ => ?_) | refine l_call0 (m10 _ _ _ _ _) (fun _ _ => ?_) | refine r_call (m10 _ _ _ _ _) (fun _ _ => ?_) | refine l_call (m11) (fun _ _ => ?_) | refine l_call0 (m11) (fun _ _ => ?_) | refine r_call (m11) (fun _ _ => ?_) | refine l_call (m12 _) (fun _ _ => ?_) | refine l_call0 (m12 _) (fun _ _ => ?_) | refine r_call (m12 _) (fun _ _ => ?_) | refine l_call (m13 _ _) (fun _ _ => ?_) | refine l_call0 (m13 _ _) (fun _ _ => ?_) | refine r_call (m13 _ _) (fun _ _ => ?_) | rw [w1] | rw [hk] | refine r_ixPK (m := 7) (y2 % 7) hlt7 ?_ | refine r_ldEN 1 (y2 % 7) 0 hnw ?_ | (refine l_split (fun hc => ?_) (fun hc => ?_) <;> (try simp at hc) <;> (try omega)) | (refine r_split (fun hc => ?_) (fun hc => ?_) <;> (try simp at hc) <;> (try omega)) | refine k_draw 2 [] [(1, 0), (2, 0), (3, 0), (0, 4), (4, 0), (5, 3), (6, 0)] [] ?_ | (refine k_cond (fun hc => ?_) (fun hc => ?_) <;> (try simp at hc) <;> (try omega)))
  all_goals refine k_ret () ?_ trivial
  all_goals rfl
end Go.Proofs.YtaijnpkdlopomaaGreatDoor
