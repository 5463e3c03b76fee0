/-
  The law ConsequenceTexts, walked.
  Conditions: those that each theorem states.
-/
import Derived.Test.YtijaglinajfplaaGreatDoorTx
set_option maxRecDepth 10000
namespace Go.Proofs.YtijaglinajfplaaGreatDoor
open Go.RowKit

def Cq.v (c : Cq) : Value := .agg #[.int .i64 c.kind, .string c.who, .int .i64 c.nu, .int .i64 c.place, .int .i64 c.old.ch, .string c.old.tg, .string c.old.tx, .int .i64 c.old.us, .int .i64 c.oldAt, .int .i64 c.new.ch, .string c.new.tg, .string c.new.tx, .int .i64 c.new.us, .int .i64 c.newAt]

/-- The text of a consequence. -/
def cqt (c : Cq) : ByteArray :=
  let pl := itB c.place ++ ⟨#[32]⟩
  let wh := c.who ++ ⟨#[35]⟩ ++ itB c.nu ++ ⟨#[32]⟩
  if c.kind = 1 then ⟨#[115, 97, 109, 101, 32]⟩ ++ pl ++ wh ++ otx c.old
  else if c.kind = 2 then ⟨#[109, 105, 115, 115, 105, 110, 103, 32]⟩ ++ pl ++ wh ++ otx c.old
  else if c.kind = 3 then ⟨#[99, 104, 97, 110, 103, 101, 100, 32]⟩ ++ pl ++ wh ++ otx c.old ++ ⟨#[32, 45, 62, 32]⟩ ++ otx c.new
  else if c.kind = 4 then ⟨#[110, 101, 119, 32]⟩ ++ wh ++ otx c.new
  else ⟨#[]⟩

structure CqOK (c : Cq) : Prop where
  n0 : -9223372036854775808 ≤ c.nu
  n1 : c.nu ≤ 9223372036854775807
  p0 : -9223372036854775808 ≤ c.place
  p1 : c.place ≤ 9223372036854775807
  o0 : -9223372036854775808 ≤ c.old.ch
  o1 : c.old.ch ≤ 9223372036854775807
  w0 : -9223372036854775808 ≤ c.new.ch
  w1 : c.new.ch ≤ 9223372036854775807
structure CqSh (c : Cq) : Prop where
  wh : c.who.size ≤ 300
  og : c.old.tg.size ≤ 300
  ox : c.old.tx.size ≤ 300
  ng : c.new.tg.size ≤ 300
  nx : c.new.tx.size ≤ 300

theorem jn_len : ∀ (xs : List (List UInt8)) (m : Nat), (∀ x ∈ xs, x.length ≤ m) → (Lib.join xs [32]).length ≤ xs.length * (m + 1)
  | [], m, _ => by simp [Lib.join]
  | [x], m, h => by have := h x (by simp); simp [Lib.join]; omega
  | x :: y :: xs, m, h => by
    have h1 := h x (by simp)
    have h2 := jn_len (y :: xs) m (fun z hz => h z (by simp at hz ⊢; exact .inr hz))
    simp only [Lib.join, List.intercalate_cons_cons, List.length_append, List.length_cons, List.length_nil] at h2 ⊢
    rw [show (xs.length + 1 + 1) * (m + 1) = (xs.length + 1) * (m + 1) + (m + 1) from Nat.succ_mul _ _]
    omega

set_option maxHeartbeats 4000000 in
theorem cText_ok (c : Cq) (h : CqOK c) (hs : CqSh c) : Enters 16 ∧ Spec Tryz.prog 16 #[c.v] [P10] [] (RetV (.string (cqt c))) := by
  have s1 := itoaB_ok c.nu h.n0 h.n1
  have s2 := itoaB_ok c.place h.p0 h.p1
  have s3 := ctext_ok c.old h.o0 h.o1 hs.og hs.ox
  have s4 := ctext_ok c.new h.w0 h.w1 hs.ng hs.nx
  have z1 := itB_size c.nu h.n0 h.n1
  have z2 := itB_size c.place h.p0 h.p1
  have z3 := otx_size c.old h.o0 h.o1 hs.og hs.ox
  have z4 := otx_size c.new h.w0 h.w1 hs.ng hs.nx
  have z5 := hs.wh
  have zb : (c.who ++ ⟨#[35]⟩ ++ itB c.nu).data.toList.length ≤ 1000 := by
    show (c.who ++ ⟨#[35]⟩ ++ itB c.nu).size ≤ 1000
    simp only [ByteArray.size_append, bsz, List.size_toArray, List.length_cons, List.length_nil]; omega
  have zp : (itB c.place).data.toList.length ≤ 1000 := Nat.le_trans z2 (by decide)
  have zo : (otx c.old).data.toList.length ≤ 1000 := z3
  have zn : (otx c.new).data.toList.length ≤ 1000 := z4
  have lim : ∀ (xs : List ByteArray), xs.length ≤ 6 → (∀ x ∈ xs, x.data.toList.length ≤ 1000) → (Lib.join (xs.map (·.data.toList)) [32]).length ≤ 1000000 := fun xs h1 h2 => by
    have := jn_len (xs.map (·.data.toList)) 1000 (fun x hx => by obtain ⟨y, hy, rfl⟩ := List.mem_map.1 hx; exact h2 y hy)
    rw [List.length_map] at this
    omega
  have j1 := fun b => sjoinL_ok b [⟨#[115, 97, 109, 101]⟩, itB c.place, c.who ++ ⟨#[35]⟩ ++ itB c.nu, otx c.old] 9 (by simp) (lim _ (by simp) (by simp only [List.forall_mem_cons]; exact ⟨by simp, zp, zb, zo, by simp⟩))
  have j2 := fun b => sjoinL_ok b [⟨#[109, 105, 115, 115, 105, 110, 103]⟩, itB c.place, c.who ++ ⟨#[35]⟩ ++ itB c.nu, otx c.old] 9 (by simp) (lim _ (by simp) (by simp only [List.forall_mem_cons]; exact ⟨by simp, zp, zb, zo, by simp⟩))
  have j3 := fun b => sjoinL_ok b [⟨#[99, 104, 97, 110, 103, 101, 100]⟩, itB c.place, c.who ++ ⟨#[35]⟩ ++ itB c.nu, otx c.old, ⟨#[45, 62]⟩, otx c.new] 9 (by simp) (lim _ (by simp) (by simp only [List.forall_mem_cons]; exact ⟨by simp, zp, zb, zo, by simp, zn, by simp⟩))
  have j4 := fun b => sjoinL_ok b [⟨#[110, 101, 119]⟩, c.who ++ ⟨#[35]⟩ ++ itB c.nu, otx c.new] 9 (by simp) (lim _ (by simp) (by simp only [List.forall_mem_cons]; exact ⟨by simp, zb, zn, by simp⟩))
  refine ⟨enters_of Tryz.func16 (by kernel_rfl) rfl, spec_of (vs := [_]) Tryz.func16 rfl Tryz.ntmps16 rfl fun G w hp => ?_⟩
  repeat' (first | refine l_run ?_ | refine l_nil ?_ | refine l_one ?_ | refine k_reg ?_ | refine l_ld ?_ | refine l_ldF ?_ | refine l_st ?_ | refine l_al (fun b => ?_) | refine l_bs (fun b => ?_) | refine k_condT ?_ | refine k_condF ?_ | refine k_brk ?_ | refine r_run ?_ | refine r_one ?_ | refine r_ld ?_ | refine r_ldF ?_ | refine r_ldN ?_ | refine r_al (fun b => ?_) | refine r_bs (fun b => ?_) | refine r_st ?_ | refine r_end ?_ | refine l_call (s1) (fun _ _ => ?_) | refine l_call0 (s1) (fun _ _ => ?_) | refine r_call (s1) (fun _ _ => ?_) | refine l_call (s2) (fun _ _ => ?_) | refine l_call0 (s2) (fun _ _ => ?_) | refine r_call (s2) (fun _ _ => ?_) | refine l_call (s3) (fun _ _ => ?_) | refine l_call0 (s3) (fun _ _ => ?_) | refine r_call (s3) (fun _ _ => ?_) | refine l_call (s4) (fun _ _ => ?_) | refine l_call0 (s4) (fun _ _ => ?_) | refine r_call (s4) (fun _ _ => ?_) | refine l_call (j1 _) (fun _ _ => ?_) | refine l_call0 (j1 _) (fun _ _ => ?_) | refine r_call (j1 _) (fun _ _ => ?_) | refine l_call (j2 _) (fun _ _ => ?_) | refine l_call0 (j2 _) (fun _ _ => ?_) | refine r_call (j2 _) (fun _ _ => ?_) | refine l_call (j3 _) (fun _ _ => ?_) | refine l_call0 (j3 _) (fun _ _ => ?_) | refine r_call (j3 _) (fun _ _ => ?_) | refine l_call (j4 _) (fun _ _ => ?_) | refine l_call0 (j4 _) (fun _ _ => ?_) | refine r_call (j4 _) (fun _ _ => ?_) | refine l_call (sjoin0_ok _) (fun _ _ => ?_) | refine l_call0 (sjoin0_ok _) (fun _ _ => ?_) | refine r_call (sjoin0_ok _) (fun _ _ => ?_) | refine l_cat ?_ | refine r_cat ?_ | (refine l_split (fun hc => ?_) (fun hc => ?_) <;> (try simp at hc)) | (refine r_split (fun hc => ?_) (fun hc => ?_) <;> (try simp at hc)) | refine k_draw 1 [] [(0, 0), (1, 0), (2, 0), (3, 0), (4, 0), (5, 4), (6, 0), (7, 0)] [] ?_ | refine k_draw 10 [] [(0, 0), (1, 0), (2, 0), (3, 0), (5, 0), (6, 0), (4, 4), (7, 4), (8, 1), (9, 0)] [] ?_ | (refine k_cond (fun hc => ?_) (fun hc => ?_) <;> (try simp at hc)))
  all_goals refine k_ret () ?_ trivial
  all_goals show Value.string _ = Value.string _
  all_goals congr 1
  all_goals apply ByteArray.ext
  all_goals simp_all [cqt, Lib.join, List.intercalate_cons_cons, ByteArray.data_append]

set_option maxHeartbeats 4000000 in
theorem lText_ok (c : Cq) (h : CqOK c) (hs : CqSh c) : Enters 17 ∧ Spec Tryz.prog 17 #[c.v] [] [] (RetV (.string (cqt c))) := by
  have s1 := decimalB_ok c.nu h.n0 h.n1
  have s2 := decimalB_ok c.place h.p0 h.p1
  have s3 := one_ok c.old h.o0 h.o1 hs.og hs.ox
  have s4 := one_ok c.new h.w0 h.w1 hs.ng hs.nx
  have z1 := itB_size c.nu h.n0 h.n1
  have z2 := itB_size c.place h.p0 h.p1
  have z3 := otx_size c.old h.o0 h.o1 hs.og hs.ox
  have z4 := otx_size c.new h.w0 h.w1 hs.ng hs.nx
  have z5 := hs.wh
  refine ⟨enters_of Tryz.func17 (by kernel_rfl) rfl, spec_of (vs := [_]) Tryz.func17 rfl Tryz.ntmps17 rfl fun G w hp => ?_⟩
  repeat' (first | refine l_run ?_ | refine l_nil ?_ | refine l_one ?_ | refine k_reg ?_ | refine l_ld ?_ | refine l_ldF ?_ | refine l_st ?_ | refine l_al (fun b => ?_) | refine l_bs (fun b => ?_) | refine k_condT ?_ | refine k_condF ?_ | refine k_brk ?_ | refine r_run ?_ | refine r_one ?_ | refine r_ld ?_ | refine r_ldF ?_ | refine r_ldN ?_ | refine r_al (fun b => ?_) | refine r_bs (fun b => ?_) | refine r_st ?_ | refine r_end ?_ | refine l_call (s1) (fun _ _ => ?_) | refine l_call0 (s1) (fun _ _ => ?_) | refine r_call (s1) (fun _ _ => ?_) | refine l_call (s2) (fun _ _ => ?_) | refine l_call0 (s2) (fun _ _ => ?_) | refine r_call (s2) (fun _ _ => ?_) | refine l_call (s3) (fun _ _ => ?_) | refine l_call0 (s3) (fun _ _ => ?_) | refine r_call (s3) (fun _ _ => ?_) | refine l_call (s4) (fun _ _ => ?_) | refine l_call0 (s4) (fun _ _ => ?_) | refine r_call (s4) (fun _ _ => ?_) | refine l_cat ?_ | refine r_cat ?_ | (refine l_split (fun hc => ?_) (fun hc => ?_) <;> (try simp at hc)) | (refine r_split (fun hc => ?_) (fun hc => ?_) <;> (try simp at hc)) | refine k_draw 1 [] [(0, 0), (1, 0), (4, 0), (5, 0), (6, 0), (7, 0), (8, 0), (2, 4), (3, 0), (9, 4), (10, 0), (11, 0), (12, 0), (13, 0)] [] ?_ | refine k_draw 8 [] [(0, 0), (1, 0), (2, 0), (3, 0), (4, 0), (5, 0), (9, 0), (10, 0), (6, 4), (7, 0), (8, 0), (11, 4), (12, 0), (13, 0)] [] ?_ | (refine k_cond (fun hc => ?_) (fun hc => ?_) <;> (try simp at hc)))
  all_goals refine k_ret () ?_ trivial
  all_goals show Value.string _ = Value.string _
  all_goals congr 1
  all_goals simp_all [cqt]
end Go.Proofs.YtijaglinajfplaaGreatDoor
