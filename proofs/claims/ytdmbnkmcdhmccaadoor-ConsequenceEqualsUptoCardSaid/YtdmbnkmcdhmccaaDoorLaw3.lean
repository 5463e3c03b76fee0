/-
  The statement ConsequenceEquals, walked.
  Conditions: those that each theorem states.
-/
import Derived.Test.YtdmbnkmcdhmccaaDoorLaw2
set_option maxRecDepth 10000
namespace Go.Proofs.YtdmbnkmcdhmccaaDoor
open Go.RowKit

section
variable {n : Nat} {C : Cx} {Q : Exit → Act → World → Prop} {E E' : List (Nat × Value)} {F F' F1 Fs F0 : List Pf} {R R' R0 Rs N N' A : List HP} {k k' : List Fr} {ops l : List Oper} {L L' : List (Nat × Nat)} {Tl : List Nat}
  {i d : Nat} {t t2 ty0 : TypeId} {x y : Operand} {pos : String} {aft : Array Edge} {gd : Option (Nat × Bool)} {xs ys : Array Value}
theorem r_seq {b : Bool} (nx : Wr n C ops k Q Tl Fs R L ((d, .bool b) :: E) F N) (ho : nth ops i = some ⟨some d, .binOp .eql t x y t2, ty0, pos, aft, gd⟩ := by rfl) (hw : wantL ops E ⟨some d, .binOp .eql t x y t2, ty0, pos, aft, gd⟩ = some true := by rfl)
    (hx : ev E x = some (.agg xs) := by rfl) (hy : ev E y = some (.agg ys) := by rfl) (hm : memN eqS t = true := by rfl) (he : eqC eqS 20 t (.agg xs) (.agg ys) = some b := by rfl) : Wr n C ops k Q Tl Fs R ((i, 0) :: L) E F N :=
  r_q (fun a w ha => by
    have hc := List.all_eq_true.1 eqS_ok t (memN_mem hm)
    simp only [chkE, Bool.and_eq_true, beq_iff_eq] at hc
    have h1 := eqC_ok eqS_ok 20 10000 t _ _ b w (by omega) he
    simp only [execOp, ha.ev (x := x) (by rw [evf_look]; exact hx), ha.ev (x := y) (by rw [evf_look]; exact hy), Sem.run_bind, run_eqGuard_agg w .eql t x y xs ys hc.2, Result.andThen, run_eql_struct, h1, Sem.run_pure]) nx ho hw
/-- Two texts are joined. -/
theorem l_sadd {a b : ByteArray} (h : a.size + b.size ≤ 9223372036854775807) (nx : Wl n C ops.toArray k Q l ((d, .string (a ++ b)) :: E) F R) (hw : wantL ops E ⟨some d, .binOp .add t x y t2, ty0, pos, aft, gd⟩ = some true := by rfl) (hn : Nat.blt d n = true := by rfl)
    (hx : ev E x = some (.string a) := by rfl) (hy : ev E y = some (.string b) := by rfl) : Wl n C ops.toArray k Q (⟨some d, .binOp .add t x y t2, ty0, pos, aft, gd⟩ :: l) E F R :=
  l_q (fun ac w ha => by
    have h1 : ¬ (((a.size + b.size : Nat) : Int) > IntKind.i64.max) := by
      have : IntKind.i64.max = 9223372036854775807 := by decide
      omega
    have hg : (eqGuard .add t x y (.string a) (.string b)).run Tryd.prog w = .ok () w := by simp [eqGuard]
    have hb : (binOp .add t (.string a) (.string b)).run Tryd.prog w = .ok (.string (a ++ b)) w := by
      simp only [binOp, Op.stringOp]
      rw [if_neg h1]; rfl
    simp only [execOp, ha.ev (x := x) (by rw [evf_look]; exact hx), ha.ev (x := y) (by rw [evf_look]; exact hy), Sem.run_bind, hg, Result.andThen, hb, Sem.run_pure]) nx (by intro c h; cases h) hw hn
end

def Cq.v (c : Cq) : Value := .agg #[.int .i64 c.kind, .string c.who, .int .i64 c.nu, .int .i64 c.place, .int .i64 c.old.ch, .string c.old.tg, .string c.old.tx, .int .i64 c.old.us, .int .i64 c.oldAt, .int .i64 c.new.ch, .string c.new.tg, .string c.new.tx, .int .i64 c.new.us, .int .i64 c.newAt]

/-- Whether two consequences are equal, field by field. -/
def eqq (a b : Cq) : Bool := (a.kind == b.kind) && ((a.who.toList == b.who.toList) && ((a.nu == b.nu) && ((a.place == b.place) && (((a.old.ch == b.old.ch) && ((a.old.tg.toList == b.old.tg.toList) && ((a.old.tx.toList == b.old.tx.toList) && ((a.old.us == b.old.us) && true)))) && ((a.oldAt == b.oldAt) && (((a.new.ch == b.new.ch) && ((a.new.tg.toList == b.new.tg.toList) && ((a.new.tx.toList == b.new.tx.toList) && ((a.new.us == b.new.us) && true)))) && ((a.newAt == b.newAt) && true)))))))
theorem eqq_iff (a b : Cq) : eqq a b = decide (a = b) := by
  obtain ⟨a1, a2, a3, a4, ⟨a5, a6, a7, a8⟩, a9, ⟨a10, a11, a12, a13⟩, a14⟩ := a
  obtain ⟨b1, b2, b3, b4, ⟨b5, b6, b7, b8⟩, b9, ⟨b10, b11, b12, b13⟩, b14⟩ := b
  unfold eqq
  simp only [beqS, beqI, Cq.mk.injEq, Ou.mk.injEq]
  rw [Bool.eq_iff_iff]
  simp [and_assoc]
theorem equalC_ok (a b : Cq) : Enters 15 ∧ Spec Tryd.prog 15 #[a.v, b.v] [] [] (RetV (.bool (decide (a = b)))) := by
  rw [← eqq_iff]
  generalize b = b' at *
  refine ⟨enters_of Tryd.func15 (by kernel_rfl) rfl, spec_of (vs := [_, _]) Tryd.func15 rfl Tryd.ntmps15 rfl fun G w hp => ?_⟩
  repeat' (first | refine l_run ?_ | refine l_nil ?_ | refine l_one ?_ | refine k_reg ?_ | refine l_ld ?_ | refine l_ldF ?_ | refine l_st ?_ | refine l_al (fun b => ?_) | refine l_bs (fun b => ?_) | refine k_condT ?_ | refine k_condF ?_ | refine k_brk ?_ | refine l_seq ?_ | refine l_split (fun hc => ?_) (fun hc => ?_) | refine k_cond (fun hc => ?_) (fun hc => ?_))
  exact k_ret () rfl trivial

theorem wrap_ne (k : Int) : k ≠ IntKind.i64.wrap (k + 1) := by
  intro h
  simp [IntKind.wrap, IntKind.bits, IntKind.signed] at h
  omega
theorem app_ne (s : ByteArray) : s ≠ s ++ ⟨#[120]⟩ := fun h => by
  have h1 := congrArg ByteArray.size h
  rw [ByteArray.size_append] at h1
  have : (ByteArray.mk #[120]).size = 1 := rfl
  omega

set_option maxHeartbeats 4000000 in
theorem lawEquals_ok (a b : Cq) (ch : UInt8) (h1 : a.who.size ≤ 1152921504606846976) (h2 : a.old.tx.size ≤ 1152921504606846976) : Enters 5 ∧ Spec Tryd.prog 5 #[a.v, b.v, .int .u8 (ch.toNat : Int)] [Usg] [] (RetV (.bool true)) := by
  have t9 : (ch.toNat : Int).tmod 9 = ((ch.toNat % 9 : Nat) : Int) := tmodN _ 9
  have hx1 : (ByteArray.mk #[120]).size = 1 := rfl
  have n1 := equalC_ok a b
  have he := eqq_iff a b
  generalize b = b' at *
  refine ⟨enters_of Tryd.func5 (by kernel_rfl) rfl, spec_of (vs := [_, _, _]) Tryd.func5 rfl Tryd.ntmps5 rfl fun G w hp => ?_⟩
  repeat' (first | refine l_run ?_ | refine l_nil ?_ | refine l_one ?_ | refine k_reg ?_ | refine l_ld ?_ | refine l_ldF ?_ | refine l_st ?_ | refine l_al (fun b => ?_) | refine l_bs (fun b => ?_) | refine k_condT ?_ | refine k_condF ?_ | refine k_brk ?_ | rw [t9] | refine l_sadd (a := a.who) (b := ⟨#[120]⟩) (by omega) ?_ | refine l_sadd (a := a.old.tx) (b := ⟨#[120]⟩) (by omega) ?_ | (refine l_split (fun hc => ?_) (fun hc => ?_) <;> (try simp at hc) <;> (try omega)) | (refine k_cond (fun hc => ?_) (fun hc => ?_) <;> (try simp at hc) <;> (try omega)))
  · have n2 := equalC_ok a { a with kind := IntKind.i64.wrap (a.kind + 1) }
    have n3 := equalC_ok { a with kind := IntKind.i64.wrap (a.kind + 1) } a
    have hne : a ≠ { a with kind := IntKind.i64.wrap (a.kind + 1) } := fun h => absurd (congrArg Cq.kind h) (wrap_ne _)
    rw [decide_eq_false hne] at n2
    rw [decide_eq_false (fun h => hne h.symm)] at n3
    have e9 : (((ch.toNat % 9 : Nat) : Int) == 0) = false := by simp; omega
    cases hd : decide (a = b')
    all_goals rw [hd] at he n1
    all_goals repeat' (first | refine l_run ?_ | refine l_nil ?_ | refine l_one ?_ | refine k_reg ?_ | refine l_ld ?_ | refine l_ldF ?_ | refine l_st ?_ | refine l_al (fun b => ?_) | refine l_bs (fun b => ?_) | refine k_condT ?_ | refine k_condF ?_ | refine k_brk ?_ | refine r_run ?_ | refine r_one ?_ | refine r_ld ?_ | refine r_ldF ?_ | refine r_al (fun b => ?_) | refine r_bs (fun b => ?_) | refine r_st ?_ | refine r_end ?_ | refine l_call (known_ok) (fun _ _ => ?_) | refine l_call0 (known_ok) (fun _ _ => ?_) | refine r_call (known_ok) (fun _ _ => ?_) | refine l_call (n1) (fun _ _ => ?_) | refine l_call0 (n1) (fun _ _ => ?_) | refine r_call (n1) (fun _ _ => ?_) | refine l_call (n2) (fun _ _ => ?_) | refine l_call0 (n2) (fun _ _ => ?_) | refine r_call (n2) (fun _ _ => ?_) | refine l_call (n3) (fun _ _ => ?_) | refine l_call0 (n3) (fun _ _ => ?_) | refine r_call (n3) (fun _ _ => ?_) | refine r_seq (b := eqq a b') ?_ | rw [he] | rw [t9] | rw [e9] | refine l_split (fun hc => ?_) (fun hc => ?_) | refine r_split (fun hc => ?_) (fun hc => ?_) | refine k_draw 19 [] [(0, 2), (1, 0), (2, 0), (3, 0), (5, 0), (6, 0), (7, 0), (4, 2), (8, 0), (9, 0), (10, 0), (11, 0), (12, 0), (14, 0), (15, 0), (16, 0), (13, 2), (17, 0), (18, 0), (19, 0), (20, 0), (21, 0), (23, 0), (24, 0), (22, 2), (25, 2), (26, 0), (27, 0), (28, 0)] [] ?_ | refine k_cond (fun hc => ?_) (fun hc => ?_))
    all_goals exact k_ret () rfl trivial
  · have n2 := equalC_ok a { a with who := a.who ++ ⟨#[120]⟩ }
    have n3 := equalC_ok { a with who := a.who ++ ⟨#[120]⟩ } a
    have hne : a ≠ { a with who := a.who ++ ⟨#[120]⟩ } := fun h => absurd (congrArg Cq.who h) (app_ne _)
    rw [decide_eq_false hne] at n2
    rw [decide_eq_false (fun h => hne h.symm)] at n3
    have e9 : (((ch.toNat % 9 : Nat) : Int) == 0) = false := by simp; omega
    cases hd : decide (a = b')
    all_goals rw [hd] at he n1
    all_goals repeat' (first | refine l_run ?_ | refine l_nil ?_ | refine l_one ?_ | refine k_reg ?_ | refine l_ld ?_ | refine l_ldF ?_ | refine l_st ?_ | refine l_al (fun b => ?_) | refine l_bs (fun b => ?_) | refine k_condT ?_ | refine k_condF ?_ | refine k_brk ?_ | refine r_run ?_ | refine r_one ?_ | refine r_ld ?_ | refine r_ldF ?_ | refine r_al (fun b => ?_) | refine r_bs (fun b => ?_) | refine r_st ?_ | refine r_end ?_ | refine l_call (known_ok) (fun _ _ => ?_) | refine l_call0 (known_ok) (fun _ _ => ?_) | refine r_call (known_ok) (fun _ _ => ?_) | refine l_call (n1) (fun _ _ => ?_) | refine l_call0 (n1) (fun _ _ => ?_) | refine r_call (n1) (fun _ _ => ?_) | refine l_call (n2) (fun _ _ => ?_) | refine l_call0 (n2) (fun _ _ => ?_) | refine r_call (n2) (fun _ _ => ?_) | refine l_call (n3) (fun _ _ => ?_) | refine l_call0 (n3) (fun _ _ => ?_) | refine r_call (n3) (fun _ _ => ?_) | refine r_seq (b := eqq a b') ?_ | rw [he] | rw [t9] | rw [e9] | refine l_split (fun hc => ?_) (fun hc => ?_) | refine r_split (fun hc => ?_) (fun hc => ?_) | refine k_draw 19 [] [(0, 2), (1, 0), (2, 0), (3, 0), (5, 0), (6, 0), (7, 0), (4, 2), (8, 0), (9, 0), (10, 0), (11, 0), (12, 0), (14, 0), (15, 0), (16, 0), (13, 2), (17, 0), (18, 0), (19, 0), (20, 0), (21, 0), (23, 0), (24, 0), (22, 2), (25, 2), (26, 0), (27, 0), (28, 0)] [] ?_ | refine k_cond (fun hc => ?_) (fun hc => ?_))
    all_goals exact k_ret () rfl trivial
  · have n2 := equalC_ok a { a with nu := IntKind.i64.wrap (a.nu + 1) }
    have n3 := equalC_ok { a with nu := IntKind.i64.wrap (a.nu + 1) } a
    have hne : a ≠ { a with nu := IntKind.i64.wrap (a.nu + 1) } := fun h => absurd (congrArg Cq.nu h) (wrap_ne _)
    rw [decide_eq_false hne] at n2
    rw [decide_eq_false (fun h => hne h.symm)] at n3
    have e9 : (((ch.toNat % 9 : Nat) : Int) == 0) = false := by simp; omega
    cases hd : decide (a = b')
    all_goals rw [hd] at he n1
    all_goals repeat' (first | refine l_run ?_ | refine l_nil ?_ | refine l_one ?_ | refine k_reg ?_ | refine l_ld ?_ | refine l_ldF ?_ | refine l_st ?_ | refine l_al (fun b => ?_) | refine l_bs (fun b => ?_) | refine k_condT ?_ | refine k_condF ?_ | refine k_brk ?_ | refine r_run ?_ | refine r_one ?_ | refine r_ld ?_ | refine r_ldF ?_ | refine r_al (fun b => ?_) | refine r_bs (fun b => ?_) | refine r_st ?_ | refine r_end ?_ | refine l_call (known_ok) (fun _ _ => ?_) | refine l_call0 (known_ok) (fun _ _ => ?_) | refine r_call (known_ok) (fun _ _ => ?_) | refine l_call (n1) (fun _ _ => ?_) | refine l_call0 (n1) (fun _ _ => ?_) | refine r_call (n1) (fun _ _ => ?_) | refine l_call (n2) (fun _ _ => ?_) | refine l_call0 (n2) (fun _ _ => ?_) | refine r_call (n2) (fun _ _ => ?_) | refine l_call (n3) (fun _ _ => ?_) | refine l_call0 (n3) (fun _ _ => ?_) | refine r_call (n3) (fun _ _ => ?_) | refine r_seq (b := eqq a b') ?_ | rw [he] | rw [t9] | rw [e9] | refine l_split (fun hc => ?_) (fun hc => ?_) | refine r_split (fun hc => ?_) (fun hc => ?_) | refine k_draw 19 [] [(0, 2), (1, 0), (2, 0), (3, 0), (5, 0), (6, 0), (7, 0), (4, 2), (8, 0), (9, 0), (10, 0), (11, 0), (12, 0), (14, 0), (15, 0), (16, 0), (13, 2), (17, 0), (18, 0), (19, 0), (20, 0), (21, 0), (23, 0), (24, 0), (22, 2), (25, 2), (26, 0), (27, 0), (28, 0)] [] ?_ | refine k_cond (fun hc => ?_) (fun hc => ?_))
    all_goals exact k_ret () rfl trivial
  · have n2 := equalC_ok a { a with place := IntKind.i64.wrap (a.place + 1) }
    have n3 := equalC_ok { a with place := IntKind.i64.wrap (a.place + 1) } a
    have hne : a ≠ { a with place := IntKind.i64.wrap (a.place + 1) } := fun h => absurd (congrArg Cq.place h) (wrap_ne _)
    rw [decide_eq_false hne] at n2
    rw [decide_eq_false (fun h => hne h.symm)] at n3
    have e9 : (((ch.toNat % 9 : Nat) : Int) == 0) = false := by simp; omega
    cases hd : decide (a = b')
    all_goals rw [hd] at he n1
    all_goals repeat' (first | refine l_run ?_ | refine l_nil ?_ | refine l_one ?_ | refine k_reg ?_ | refine l_ld ?_ | refine l_ldF ?_ | refine l_st ?_ | refine l_al (fun b => ?_) | refine l_bs (fun b => ?_) | refine k_condT ?_ | refine k_condF ?_ | refine k_brk ?_ | refine r_run ?_ | refine r_one ?_ | refine r_ld ?_ | refine r_ldF ?_ | refine r_al (fun b => ?_) | refine r_bs (fun b => ?_) | refine r_st ?_ | refine r_end ?_ | refine l_call (known_ok) (fun _ _ => ?_) | refine l_call0 (known_ok) (fun _ _ => ?_) | refine r_call (known_ok) (fun _ _ => ?_) | refine l_call (n1) (fun _ _ => ?_) | refine l_call0 (n1) (fun _ _ => ?_) | refine r_call (n1) (fun _ _ => ?_) | refine l_call (n2) (fun _ _ => ?_) | refine l_call0 (n2) (fun _ _ => ?_) | refine r_call (n2) (fun _ _ => ?_) | refine l_call (n3) (fun _ _ => ?_) | refine l_call0 (n3) (fun _ _ => ?_) | refine r_call (n3) (fun _ _ => ?_) | refine r_seq (b := eqq a b') ?_ | rw [he] | rw [t9] | rw [e9] | refine l_split (fun hc => ?_) (fun hc => ?_) | refine r_split (fun hc => ?_) (fun hc => ?_) | refine k_draw 19 [] [(0, 2), (1, 0), (2, 0), (3, 0), (5, 0), (6, 0), (7, 0), (4, 2), (8, 0), (9, 0), (10, 0), (11, 0), (12, 0), (14, 0), (15, 0), (16, 0), (13, 2), (17, 0), (18, 0), (19, 0), (20, 0), (21, 0), (23, 0), (24, 0), (22, 2), (25, 2), (26, 0), (27, 0), (28, 0)] [] ?_ | refine k_cond (fun hc => ?_) (fun hc => ?_))
    all_goals exact k_ret () rfl trivial
  · have n2 := equalC_ok a { a with old := { a.old with tx := a.old.tx ++ ⟨#[120]⟩ } }
    have n3 := equalC_ok { a with old := { a.old with tx := a.old.tx ++ ⟨#[120]⟩ } } a
    have hne : a ≠ { a with old := { a.old with tx := a.old.tx ++ ⟨#[120]⟩ } } := fun h => absurd (congrArg (fun c => c.old.tx) h) (app_ne _)
    rw [decide_eq_false hne] at n2
    rw [decide_eq_false (fun h => hne h.symm)] at n3
    have e9 : (((ch.toNat % 9 : Nat) : Int) == 0) = false := by simp; omega
    cases hd : decide (a = b')
    all_goals rw [hd] at he n1
    all_goals repeat' (first | refine l_run ?_ | refine l_nil ?_ | refine l_one ?_ | refine k_reg ?_ | refine l_ld ?_ | refine l_ldF ?_ | refine l_st ?_ | refine l_al (fun b => ?_) | refine l_bs (fun b => ?_) | refine k_condT ?_ | refine k_condF ?_ | refine k_brk ?_ | refine r_run ?_ | refine r_one ?_ | refine r_ld ?_ | refine r_ldF ?_ | refine r_al (fun b => ?_) | refine r_bs (fun b => ?_) | refine r_st ?_ | refine r_end ?_ | refine l_call (known_ok) (fun _ _ => ?_) | refine l_call0 (known_ok) (fun _ _ => ?_) | refine r_call (known_ok) (fun _ _ => ?_) | refine l_call (n1) (fun _ _ => ?_) | refine l_call0 (n1) (fun _ _ => ?_) | refine r_call (n1) (fun _ _ => ?_) | refine l_call (n2) (fun _ _ => ?_) | refine l_call0 (n2) (fun _ _ => ?_) | refine r_call (n2) (fun _ _ => ?_) | refine l_call (n3) (fun _ _ => ?_) | refine l_call0 (n3) (fun _ _ => ?_) | refine r_call (n3) (fun _ _ => ?_) | refine r_seq (b := eqq a b') ?_ | rw [he] | rw [t9] | rw [e9] | refine l_split (fun hc => ?_) (fun hc => ?_) | refine r_split (fun hc => ?_) (fun hc => ?_) | refine k_draw 19 [] [(0, 2), (1, 0), (2, 0), (3, 0), (5, 0), (6, 0), (7, 0), (4, 2), (8, 0), (9, 0), (10, 0), (11, 0), (12, 0), (14, 0), (15, 0), (16, 0), (13, 2), (17, 0), (18, 0), (19, 0), (20, 0), (21, 0), (23, 0), (24, 0), (22, 2), (25, 2), (26, 0), (27, 0), (28, 0)] [] ?_ | refine k_cond (fun hc => ?_) (fun hc => ?_))
    all_goals exact k_ret () rfl trivial
  · have n2 := equalC_ok a { a with oldAt := IntKind.i64.wrap (a.oldAt + 1) }
    have n3 := equalC_ok { a with oldAt := IntKind.i64.wrap (a.oldAt + 1) } a
    have hne : a ≠ { a with oldAt := IntKind.i64.wrap (a.oldAt + 1) } := fun h => absurd (congrArg Cq.oldAt h) (wrap_ne _)
    rw [decide_eq_false hne] at n2
    rw [decide_eq_false (fun h => hne h.symm)] at n3
    have e9 : (((ch.toNat % 9 : Nat) : Int) == 0) = false := by simp; omega
    cases hd : decide (a = b')
    all_goals rw [hd] at he n1
    all_goals repeat' (first | refine l_run ?_ | refine l_nil ?_ | refine l_one ?_ | refine k_reg ?_ | refine l_ld ?_ | refine l_ldF ?_ | refine l_st ?_ | refine l_al (fun b => ?_) | refine l_bs (fun b => ?_) | refine k_condT ?_ | refine k_condF ?_ | refine k_brk ?_ | refine r_run ?_ | refine r_one ?_ | refine r_ld ?_ | refine r_ldF ?_ | refine r_al (fun b => ?_) | refine r_bs (fun b => ?_) | refine r_st ?_ | refine r_end ?_ | refine l_call (known_ok) (fun _ _ => ?_) | refine l_call0 (known_ok) (fun _ _ => ?_) | refine r_call (known_ok) (fun _ _ => ?_) | refine l_call (n1) (fun _ _ => ?_) | refine l_call0 (n1) (fun _ _ => ?_) | refine r_call (n1) (fun _ _ => ?_) | refine l_call (n2) (fun _ _ => ?_) | refine l_call0 (n2) (fun _ _ => ?_) | refine r_call (n2) (fun _ _ => ?_) | refine l_call (n3) (fun _ _ => ?_) | refine l_call0 (n3) (fun _ _ => ?_) | refine r_call (n3) (fun _ _ => ?_) | refine r_seq (b := eqq a b') ?_ | rw [he] | rw [t9] | rw [e9] | refine l_split (fun hc => ?_) (fun hc => ?_) | refine r_split (fun hc => ?_) (fun hc => ?_) | refine k_draw 19 [] [(0, 2), (1, 0), (2, 0), (3, 0), (5, 0), (6, 0), (7, 0), (4, 2), (8, 0), (9, 0), (10, 0), (11, 0), (12, 0), (14, 0), (15, 0), (16, 0), (13, 2), (17, 0), (18, 0), (19, 0), (20, 0), (21, 0), (23, 0), (24, 0), (22, 2), (25, 2), (26, 0), (27, 0), (28, 0)] [] ?_ | refine k_cond (fun hc => ?_) (fun hc => ?_))
    all_goals exact k_ret () rfl trivial
  · have n2 := equalC_ok a { a with new := { a.new with ch := IntKind.i64.wrap (a.new.ch + 1) } }
    have n3 := equalC_ok { a with new := { a.new with ch := IntKind.i64.wrap (a.new.ch + 1) } } a
    have hne : a ≠ { a with new := { a.new with ch := IntKind.i64.wrap (a.new.ch + 1) } } := fun h => absurd (congrArg (fun c => c.new.ch) h) (wrap_ne _)
    rw [decide_eq_false hne] at n2
    rw [decide_eq_false (fun h => hne h.symm)] at n3
    have e9 : (((ch.toNat % 9 : Nat) : Int) == 0) = false := by simp; omega
    cases hd : decide (a = b')
    all_goals rw [hd] at he n1
    all_goals repeat' (first | refine l_run ?_ | refine l_nil ?_ | refine l_one ?_ | refine k_reg ?_ | refine l_ld ?_ | refine l_ldF ?_ | refine l_st ?_ | refine l_al (fun b => ?_) | refine l_bs (fun b => ?_) | refine k_condT ?_ | refine k_condF ?_ | refine k_brk ?_ | refine r_run ?_ | refine r_one ?_ | refine r_ld ?_ | refine r_ldF ?_ | refine r_al (fun b => ?_) | refine r_bs (fun b => ?_) | refine r_st ?_ | refine r_end ?_ | refine l_call (known_ok) (fun _ _ => ?_) | refine l_call0 (known_ok) (fun _ _ => ?_) | refine r_call (known_ok) (fun _ _ => ?_) | refine l_call (n1) (fun _ _ => ?_) | refine l_call0 (n1) (fun _ _ => ?_) | refine r_call (n1) (fun _ _ => ?_) | refine l_call (n2) (fun _ _ => ?_) | refine l_call0 (n2) (fun _ _ => ?_) | refine r_call (n2) (fun _ _ => ?_) | refine l_call (n3) (fun _ _ => ?_) | refine l_call0 (n3) (fun _ _ => ?_) | refine r_call (n3) (fun _ _ => ?_) | refine r_seq (b := eqq a b') ?_ | rw [he] | rw [t9] | rw [e9] | refine l_split (fun hc => ?_) (fun hc => ?_) | refine r_split (fun hc => ?_) (fun hc => ?_) | refine k_draw 19 [] [(0, 2), (1, 0), (2, 0), (3, 0), (5, 0), (6, 0), (7, 0), (4, 2), (8, 0), (9, 0), (10, 0), (11, 0), (12, 0), (14, 0), (15, 0), (16, 0), (13, 2), (17, 0), (18, 0), (19, 0), (20, 0), (21, 0), (23, 0), (24, 0), (22, 2), (25, 2), (26, 0), (27, 0), (28, 0)] [] ?_ | refine k_cond (fun hc => ?_) (fun hc => ?_))
    all_goals exact k_ret () rfl trivial
  · have n2 := equalC_ok a { a with newAt := IntKind.i64.wrap (a.newAt + 1) }
    have n3 := equalC_ok { a with newAt := IntKind.i64.wrap (a.newAt + 1) } a
    have hne : a ≠ { a with newAt := IntKind.i64.wrap (a.newAt + 1) } := fun h => absurd (congrArg Cq.newAt h) (wrap_ne _)
    rw [decide_eq_false hne] at n2
    rw [decide_eq_false (fun h => hne h.symm)] at n3
    have e9 : (((ch.toNat % 9 : Nat) : Int) == 0) = false := by simp; omega
    cases hd : decide (a = b')
    all_goals rw [hd] at he n1
    all_goals repeat' (first | refine l_run ?_ | refine l_nil ?_ | refine l_one ?_ | refine k_reg ?_ | refine l_ld ?_ | refine l_ldF ?_ | refine l_st ?_ | refine l_al (fun b => ?_) | refine l_bs (fun b => ?_) | refine k_condT ?_ | refine k_condF ?_ | refine k_brk ?_ | refine r_run ?_ | refine r_one ?_ | refine r_ld ?_ | refine r_ldF ?_ | refine r_al (fun b => ?_) | refine r_bs (fun b => ?_) | refine r_st ?_ | refine r_end ?_ | refine l_call (known_ok) (fun _ _ => ?_) | refine l_call0 (known_ok) (fun _ _ => ?_) | refine r_call (known_ok) (fun _ _ => ?_) | refine l_call (n1) (fun _ _ => ?_) | refine l_call0 (n1) (fun _ _ => ?_) | refine r_call (n1) (fun _ _ => ?_) | refine l_call (n2) (fun _ _ => ?_) | refine l_call0 (n2) (fun _ _ => ?_) | refine r_call (n2) (fun _ _ => ?_) | refine l_call (n3) (fun _ _ => ?_) | refine l_call0 (n3) (fun _ _ => ?_) | refine r_call (n3) (fun _ _ => ?_) | refine r_seq (b := eqq a b') ?_ | rw [he] | rw [t9] | rw [e9] | refine l_split (fun hc => ?_) (fun hc => ?_) | refine r_split (fun hc => ?_) (fun hc => ?_) | refine k_draw 19 [] [(0, 2), (1, 0), (2, 0), (3, 0), (5, 0), (6, 0), (7, 0), (4, 2), (8, 0), (9, 0), (10, 0), (11, 0), (12, 0), (14, 0), (15, 0), (16, 0), (13, 2), (17, 0), (18, 0), (19, 0), (20, 0), (21, 0), (23, 0), (24, 0), (22, 2), (25, 2), (26, 0), (27, 0), (28, 0)] [] ?_ | refine k_cond (fun hc => ?_) (fun hc => ?_))
    all_goals exact k_ret () rfl trivial
  · have n2 := equalC_ok a a
    rw [decide_eq_true rfl] at n2
    have n3 := n2
    have e9 : (((ch.toNat % 9 : Nat) : Int) == 0) = true := by simp; omega
    cases hd : decide (a = b')
    all_goals rw [hd] at he n1
    all_goals repeat' (first | refine l_run ?_ | refine l_nil ?_ | refine l_one ?_ | refine k_reg ?_ | refine l_ld ?_ | refine l_ldF ?_ | refine l_st ?_ | refine l_al (fun b => ?_) | refine l_bs (fun b => ?_) | refine k_condT ?_ | refine k_condF ?_ | refine k_brk ?_ | refine r_run ?_ | refine r_one ?_ | refine r_ld ?_ | refine r_ldF ?_ | refine r_al (fun b => ?_) | refine r_bs (fun b => ?_) | refine r_st ?_ | refine r_end ?_ | refine l_call (known_ok) (fun _ _ => ?_) | refine l_call0 (known_ok) (fun _ _ => ?_) | refine r_call (known_ok) (fun _ _ => ?_) | refine l_call (n1) (fun _ _ => ?_) | refine l_call0 (n1) (fun _ _ => ?_) | refine r_call (n1) (fun _ _ => ?_) | refine l_call (n2) (fun _ _ => ?_) | refine l_call0 (n2) (fun _ _ => ?_) | refine r_call (n2) (fun _ _ => ?_) | refine l_call (n3) (fun _ _ => ?_) | refine l_call0 (n3) (fun _ _ => ?_) | refine r_call (n3) (fun _ _ => ?_) | refine r_seq (b := eqq a b') ?_ | rw [he] | rw [t9] | rw [e9] | refine l_split (fun hc => ?_) (fun hc => ?_) | refine r_split (fun hc => ?_) (fun hc => ?_) | refine k_draw 19 [] [(0, 2), (1, 0), (2, 0), (3, 0), (5, 0), (6, 0), (7, 0), (4, 2), (8, 0), (9, 0), (10, 0), (11, 0), (12, 0), (14, 0), (15, 0), (16, 0), (13, 2), (17, 0), (18, 0), (19, 0), (20, 0), (21, 0), (23, 0), (24, 0), (22, 2), (25, 2), (26, 0), (27, 0), (28, 0)] [] ?_ | refine k_cond (fun hc => ?_) (fun hc => ?_))
    all_goals exact k_ret () rfl trivial
end Go.Proofs.YtdmbnkmcdhmccaaDoor
