/-
  The text of a consequence.
  Conditions: those that each theorem states.
-/
import Derived.Test.YtijaglinajfplaaGreatDoorDec
import Derived.Test.YtijaglinajfplaaGreatDoorLaw2
set_option maxRecDepth 10000
namespace Go.Proofs.YtijaglinajfplaaGreatDoor
open Go.RowKit

def itB (n : Int) : ByteArray := ⟨(Lib.itoa n).toArray⟩
/-- The word of a channel. -/
def chw (c : Int) : ByteArray := if c = 1 then ⟨#[109, 97, 105, 108]⟩ else if c = 2 then ⟨#[112, 114, 105, 110, 116]⟩ else if c = 3 then ⟨#[111, 114, 100, 101, 114]⟩ else if c = 4 then ⟨#[112, 97, 99, 107, 101, 116]⟩ else itB c
/-- The text of an output. -/
def otx (o : Ou) : ByteArray := chw o.ch ++ ⟨#[32]⟩ ++ o.tg ++ ⟨#[32, 40]⟩ ++ itB o.tx.size ++ ⟨#[41]⟩
theorem itB_size (n : Int) (h0 : -9223372036854775808 ≤ n) (h1 : n ≤ 9223372036854775807) : (itB n).size ≤ 22 := by
  show (Lib.itoa n).toArray.size ≤ 22
  rw [List.size_toArray]; exact itoa_len n h0 h1
theorem chw_size (n : Int) (h0 : -9223372036854775808 ≤ n) (h1 : n ≤ 9223372036854775807) : (chw n).size ≤ 22 := by
  have := itB_size n h0 h1
  unfold chw
  repeat' split
  all_goals first | exact this | (show _ ≤ 22; simp [bsz])
theorem otx_size (o : Ou) (h0 : -9223372036854775808 ≤ o.ch) (h1 : o.ch ≤ 9223372036854775807) (ht : o.tg.size ≤ 300) (hx : o.tx.size ≤ 300) : (otx o).size ≤ 1000 := by
  have a := chw_size o.ch h0 h1
  have b := itB_size (o.tx.size : Int) (by omega) (by omega)
  simp only [otx, ByteArray.size_append, bsz, List.size_toArray, List.length_cons, List.length_nil]
  omega
theorem itoaB_ok (n : Int) (h0 : -9223372036854775808 ≤ n) (h1 : n ≤ 9223372036854775807) : Enters 76 ∧ Spec Tryz.prog 76 #[.int .i64 n] [P10] [] (RetV (.string (itB n))) := itoa_ok n h0 h1
theorem decimalB_ok (n : Int) (h0 : -9223372036854775808 ≤ n) (h1 : n ≤ 9223372036854775807) : Enters 79 ∧ Spec Tryz.prog 79 #[.int .i64 n] [] [] (RetV (.string (itB n))) := decimal_ok (n.natAbs + 1) n (by omega) h0 h1

set_option maxHeartbeats 4000000 in
theorem ctext_ok (o : Ou) (h0 : -9223372036854775808 ≤ o.ch) (h1 : o.ch ≤ 9223372036854775807) (ht : o.tg.size ≤ 300) (hx : o.tx.size ≤ 300) :
    Enters 77 ∧ Spec Tryz.prog 77 #[o.v] [P10] [] (RetV (.string (otx o))) := by
  have s1 := itoaB_ok o.ch h0 h1
  have s2 := itoaB_ok (o.tx.size : Int) (by omega) (by omega)
  have z1 := itB_size o.ch h0 h1
  have z2 := itB_size (o.tx.size : Int) (by omega) (by omega)
  refine ⟨enters_of Tryz.func77 (by kernel_rfl) rfl, spec_of (vs := [_]) Tryz.func77 rfl Tryz.ntmps77 rfl fun G w hp => ?_⟩
  repeat' (first | refine l_run ?_ | refine l_nil ?_ | refine l_one ?_ | refine k_reg ?_ | refine l_ld ?_ | refine l_ldF ?_ | refine l_st ?_ | refine l_al (fun b => ?_) | refine l_bs (fun b => ?_) | refine k_condT ?_ | refine k_condF ?_ | refine k_brk ?_ | refine r_run ?_ | refine r_one ?_ | refine r_ld ?_ | refine r_ldF ?_ | refine r_ldN ?_ | refine r_al (fun b => ?_) | refine r_bs (fun b => ?_) | refine r_st ?_ | refine r_end ?_ | refine l_call (s1) (fun _ _ => ?_) | refine l_call0 (s1) (fun _ _ => ?_) | refine r_call (s1) (fun _ _ => ?_) | refine l_call (s2) (fun _ _ => ?_) | refine l_call0 (s2) (fun _ _ => ?_) | refine r_call (s2) (fun _ _ => ?_) | refine l_cat ?_ | refine r_cat ?_ | (refine l_split (fun hc => ?_) (fun hc => ?_) <;> (try simp at hc)) | (refine r_split (fun hc => ?_) (fun hc => ?_) <;> (try simp at hc)) | refine k_draw 11 [] [(0, 0), (1, 0), (2, 0), (3, 0), (4, 0), (5, 0), (6, 0), (7, 0), (8, 0), (9, 4), (10, 0), (11, 0), (12, 0)] [] ?_ | (refine k_cond (fun hc => ?_) (fun hc => ?_) <;> (try simp at hc)))
  all_goals refine k_ret () ?_ trivial
  all_goals show Value.string _ = Value.string _
  all_goals congr 1
  all_goals simp_all [otx, chw]

set_option maxHeartbeats 4000000 in
theorem one_ok (o : Ou) (h0 : -9223372036854775808 ≤ o.ch) (h1 : o.ch ≤ 9223372036854775807) (ht : o.tg.size ≤ 300) (hx : o.tx.size ≤ 300) :
    Enters 80 ∧ Spec Tryz.prog 80 #[o.v] [] [] (RetV (.string (otx o))) := by
  have s1 := decimalB_ok o.ch h0 h1
  have s2 := decimalB_ok (o.tx.size : Int) (by omega) (by omega)
  have z1 := itB_size o.ch h0 h1
  have z2 := itB_size (o.tx.size : Int) (by omega) (by omega)
  refine ⟨enters_of Tryz.func80 (by kernel_rfl) rfl, spec_of (vs := [_]) Tryz.func80 rfl Tryz.ntmps80 rfl fun G w hp => ?_⟩
  repeat' (first | refine l_run ?_ | refine l_nil ?_ | refine l_one ?_ | refine k_reg ?_ | refine l_ld ?_ | refine l_ldF ?_ | refine l_st ?_ | refine l_al (fun b => ?_) | refine l_bs (fun b => ?_) | refine k_condT ?_ | refine k_condF ?_ | refine k_brk ?_ | refine r_run ?_ | refine r_one ?_ | refine r_ld ?_ | refine r_ldF ?_ | refine r_ldN ?_ | refine r_al (fun b => ?_) | refine r_bs (fun b => ?_) | refine r_st ?_ | refine r_end ?_ | refine l_call (s1) (fun _ _ => ?_) | refine l_call0 (s1) (fun _ _ => ?_) | refine r_call (s1) (fun _ _ => ?_) | refine l_call (s2) (fun _ _ => ?_) | refine l_call0 (s2) (fun _ _ => ?_) | refine r_call (s2) (fun _ _ => ?_) | refine l_cat ?_ | refine r_cat ?_ | (refine l_split (fun hc => ?_) (fun hc => ?_) <;> (try simp at hc)) | (refine r_split (fun hc => ?_) (fun hc => ?_) <;> (try simp at hc)) | refine k_draw 11 [] [(0, 0), (1, 0), (2, 0), (3, 0), (4, 0), (5, 0), (6, 0), (7, 0), (8, 0), (9, 4), (10, 0), (11, 0), (12, 0)] [] ?_ | (refine k_cond (fun hc => ?_) (fun hc => ?_) <;> (try simp at hc)))
  all_goals refine k_ret () ?_ trivial
  all_goals show Value.string _ = Value.string _
  all_goals congr 1
  all_goals simp_all [otx, chw]
end Go.Proofs.YtijaglinajfplaaGreatDoor
