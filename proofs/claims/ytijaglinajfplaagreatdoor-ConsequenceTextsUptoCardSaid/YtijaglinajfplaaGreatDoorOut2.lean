/-
  Contracts of the package output: ledgers, All.
  Conditions: those that each theorem states.
-/
import Derived.Test.YtijaglinajfplaaGreatDoorOut
set_option maxRecDepth 10000
namespace Go.Proofs.YtijaglinajfplaaGreatDoor
open Go.RowKit

section
variable {n : Nat} {C : Cx} {Q : Exit → Act → World → Prop} {E E' : List (Nat × Value)} {F F' F1 Fs F0 : List Pf} {R R' R0 Rs N N' A : List HP} {k k' : List Fr} {ops l : List Oper} {L L' : List (Nat × Nat)} {Tl : List Nat}
  {i d : Nat} {t ty0 : TypeId} {x y : Operand} {pos : String} {aft : Array Edge} {gd : Option (Nat × Bool)} {b off : Nat} {cs : Array Value} {ty : TypeId} {fzn : Nat × Nat} {v : Value}

/-- The address of an element, by the slice alone. -/
theorem r_ixP {T sz m cap : Nat} {z : Int} {rs tr : TRow} (j : Nat) (hlt : j < m) (nx : Wr n C ops k Q Tl Fs R L ((d, .pointer (some ⟨b, j * sz, none⟩)) :: E) F N)
    (ho : nth ops i = some ⟨some d, .indexAddr t x y, ty0, pos, aft, gd⟩ := by rfl) (hw : wantL ops E ⟨some d, .indexAddr t x y, ty0, pos, aft, gd⟩ = some true := by rfl) (hx : ev E x = some (.slice (some ⟨b, 0, none⟩) m cap) := by rfl) (hy : ev E y = some (.int .i64 z) := by rfl)
    (hts : lookT tab t = some rs := by rfl) (hrs : rs.k = .slice T := by rfl) (hT : lookT tab T = some tr := by rfl) (hsz : tr.size = sz := by rfl) (hz : z = (j : Int) := by first | rfl | omega) : Wr n C ops k Q Tl Fs R ((i, 0) :: L) E F N :=
  r_q (fun a w ha => by
    have hr1 := run_indexAt (o := some ⟨b, 0, none⟩) (m := m) (cap := cap) (w := w) hts hrs hT hsz hz hlt (p := ⟨b, j * sz, none⟩) (by simp [add_add rfl])
    simp only [execOp, ha.ev (x := x) (by rw [evf_look]; exact hx), ha.ev (x := y) (by rw [evf_look]; exact hy), Sem.run_bind, Result.andThen, hr1, Sem.run_pure]) nx ho hw
/-- A load out of a part of an owned block. -/
theorem r_ldX {off' o : Nat} {pre xs post : List Value} (nx : Wr n C ops k Q Tl Fs R L ((d, v) :: E) F N) (hcs : cs.toList = pre ++ (xs ++ post)) (ho : off' = pre.length + o) (hop : nth ops i = some ⟨some d, .load t x, ty0, pos, aft, gd⟩ := by rfl) (hw : wantL ops E ⟨some d, .load t x, ty0, pos, aft, gd⟩ = some true := by rfl)
    (hx : ev E x = some (.pointer (some ⟨b, off', none⟩)) := by rfl) (hs : Sel (Pt b (.cells cs ty fzn)) R R0 := by (repeat (first | exact Sel.here | apply Sel.there)); first | done | fail) (hv : ldv t xs o = some v := by rfl) :
    Wr n C ops k Q Tl Fs R ((i, 0) :: L) E F N :=
  wr_go hop fun hp hr w st hz sb => by
    simp only [wantL_ok hw]
    refine ⟨v, fun a w ha hin => ?_, nx hp hr w st hz sb⟩
    have hr := ldv_ok (off := off') (t := t) (v := v) (hin _ _ (sb _ _ (stat_pt st hs))) (by rw [hcs, ho]; exact ldv_in hv)
    simp only [execOp, Instr.loadAt, ha.ev (by rw [evf_look]; exact hx), Instr.sureAddr, Sem.run_bind, Sem.run_pure, Result.andThen, hr]
end

/-- An output with its maker, number and tick. -/
structure En where
  who : ByteArray
  nu : Int
  tk : Int
  o : Ou
  deriving DecidableEq
def enf (e : En) : List Value := [.string e.who, .int .i64 e.nu, .int .i64 e.tk, .int .i64 e.o.ch, .string e.o.tg, .string e.o.tx, .int .i64 e.o.us]
/-- What has left. -/
structure Lf where
  e : En
  tm : Int
  rd : Int
  deriving DecidableEq
def lff (x : Lf) : List Value := [.string x.e.who, .int .i64 x.e.nu, .int .i64 x.e.tk, .int .i64 x.e.o.ch, .string x.e.o.tg, .string x.e.o.tx, .int .i64 x.e.o.us, .int .i64 x.tm, .int .i64 x.rd]
def Lf.v (x : Lf) : Value := .agg #[.string x.e.who, .int .i64 x.e.nu, .int .i64 x.e.tk, .int .i64 x.e.o.ch, .string x.e.o.tg, .string x.e.o.tx, .int .i64 x.e.o.us, .int .i64 x.tm, .int .i64 x.rd]

def tick (z : Int) : Bool := decide (0 ≤ z) && decide (z ≤ 1073741824)
def lchk (x : Lf) : Int :=
  if lvalid x.e.who.data.toList = false then 12
  else if x.e.nu < 0 ∨ 1048576 < x.e.nu ∨ tick x.e.tk = false ∨ tick x.tm = false ∨ x.rd < 0 ∨ 1048576 < x.rd then 2
  else ochk x.e.o

set_option maxHeartbeats 1000000 in
theorem leftCheck_ok (x : Lf) (hx : x.e.who.size ≤ 1099511627776) : Enters 121 ∧ Spec Tryz.prog 121 #[x.v] [] [] (RetV (.int .i64 (lchk x))) := by
  have n1 := valid_ok x.e.who hx
  have n2 := outCheck_ok x.e.o
  have n3 := isTick_ok x.e.tk
  have n4 := isTick_ok x.tm
  rw [show (decide (0 ≤ x.e.tk) && decide (x.e.tk ≤ 1073741824)) = tick x.e.tk from rfl] at n3
  rw [show (decide (0 ≤ x.tm) && decide (x.tm ≤ 1073741824)) = tick x.tm from rfl] at n4
  generalize hr : lchk x = r
  unfold lchk at hr
  refine ⟨enters_of Tryz.func121 (by kernel_rfl) rfl, spec_of (vs := [_]) Tryz.func121 rfl Tryz.ntmps121 rfl fun G w hp => ?_⟩
  cases hv : lvalid x.e.who.data.toList <;> cases ht1 : tick x.e.tk <;> cases ht2 : tick x.tm
  all_goals rw [hv] at n1 hr
  all_goals rw [ht1] at n3 hr
  all_goals rw [ht2] at n4 hr
  all_goals simp only [Bool.true_eq_false, Bool.false_eq_true, if_true, if_false, true_or, or_true, false_or] at hr
  all_goals repeat' (first | refine l_run ?_ | refine l_nil ?_ | refine l_one ?_ | refine k_reg ?_ | refine l_ld ?_ | refine l_ldF ?_ | refine l_st ?_ | refine l_al (fun b => ?_) | refine l_bs (fun b => ?_) | refine k_condT ?_ | refine k_condF ?_ | refine k_brk ?_ | refine l_call (n1) (fun _ _ => ?_) | refine l_call0 (n1) (fun _ _ => ?_) | refine l_call (n2) (fun _ _ => ?_) | refine l_call0 (n2) (fun _ _ => ?_) | refine l_call (n3) (fun _ _ => ?_) | refine l_call0 (n3) (fun _ _ => ?_) | refine l_call (n4) (fun _ _ => ?_) | refine l_call0 (n4) (fun _ _ => ?_) | (refine l_split (fun hc => ?_) (fun hc => ?_) <;> (try simp at hc) <;> (try omega)) | (refine k_cond (fun hc => ?_) (fun hc => ?_) <;> (try simp at hc) <;> (try omega)))
  all_goals first
    | (subst hr; exact k_ret () rfl trivial)
    | (rw [if_pos (by omega)] at hr; subst hr; exact k_ret () rfl trivial)
    | (rw [if_neg (by omega)] at hr; subst hr; exact k_ret () rfl trivial)

/-- A ledger that is owned. -/
abbrev LgL (b : Nat) (ls : List Lf) (q : Option Addr × Nat) : List HP := [Pt b (.cells #[.slice q.1 ls.length q.2] 119), Row 80 9 q.1 ls.length q.2 (ls.flatMap lff)]
def Lg (b : Nat) (ls : List Lf) : HP := fun h => ∃ q, True ∧ Sep (LgL b ls q) h
/-- A ledger that stays. -/
def LgF (b : Nat) (ls : List Lf) : Pf := ⟨fun h => ∃ q : Option Addr × Nat, (Blk b (.cells #[.slice q.1 ls.length q.2] 119)).p h ∧ (Sl 80 lff q.1 q.2 ls).p h, fun _ _ s ⟨q, h1, h2⟩ => ⟨q, Pf.m _ _ _ s h1, Pf.m _ _ _ s h2⟩⟩

theorem newLedger_ok : Enters 60 ∧ Spec Tryz.prog 60 #[] [] [] ⟨Nat, fun b => .pointer (some ⟨b, 0, none⟩), fun _ => True, fun _ => [], fun b => [Lg b []]⟩ := by
  refine ⟨enters_of Tryz.func60 (by kernel_rfl) rfl, spec_of (vs := []) Tryz.func60 rfl Tryz.ntmps60 rfl fun G w hp => ?_⟩
  repeat' (first | refine l_run ?_ | refine l_nil ?_ | refine l_one ?_ | refine k_reg ?_ | refine l_ld ?_ | refine l_ldF ?_ | refine l_st ?_ | refine l_al (fun b => ?_) | refine l_bs (fun b => ?_) | refine k_condT ?_ | refine k_condF ?_ | refine k_brk ?_ | refine l_split (fun hc => ?_) (fun hc => ?_) | refine k_cond (fun hc => ?_) (fun hc => ?_))
  refine k_shut (Lx := []) (r := Row 80 9 none 0 0 []) (fun h _ => row_nil _ _ h) ?_
  refine k_shut (Lx := LgL b [] (none, 0)) (r := Lg b []) (fun h hh => ⟨(none, 0), trivial, hh⟩) ?_
  exact k_ret b rfl trivial

/-- What Leave answers. -/
def late (ls : List Lf) (x : Lf) : Bool := match ls.getLast? with | some y => decide (x.tm < y.tm) || decide (x.rd < y.rd) | none => false
def leaveE (ls : List Lf) (x : Lf) : Int := if lchk x ≠ 0 then lchk x else if late ls x then 32 else if 100000 ≤ ls.length then 9 else 0

section
variable {n : Nat} {C : Cx} {Q : Exit → Act → World → Prop} {E E' : List (Nat × Value)} {F : List Pf} {R R0 : List HP} {k : List Fr}
/-- An owned slice that is not empty is opened. -/
structure RowAt (sz m cap : Nat) (xs : List Value) (o : Option Addr) (q : Nat × List Value × (Nat × Nat)) : Prop where
  o : o = some ⟨q.1, 0, none⟩
  l : xs.length = m * sz
  c : (xs ++ q.2.1).length = cap * sz
  m : m ≤ cap
  f : q.2.2 = (0, 0) ∨ (xs ++ q.2.1).length ≤ q.2.2.1
theorem k_row {T sz m cap : Nat} {o : Option Addr} {xs : List Value} (hm : 0 < m) (t : ∀ q, RowAt sz m cap xs o q → Wk n C k Q E F (Pt q.1 (.cells (xs ++ q.2.1).toArray T q.2.2) :: R0)) (hs : Sel (Row T sz o m cap xs) R R0 := by (repeat (first | exact Sel.here | apply Sel.there)); first | done | fail) : Wk n C k Q E F R :=
  k_open (X := Nat × List Value × (Nat × Nat)) (Lx := fun q => [Pt q.1 (.cells (xs ++ q.2.1).toArray T q.2.2)]) (p := fun q => RowAt sz m cap xs o q) (r := Row T sz o m cap xs) hs (fun h hh => by
    rcases hh with ⟨_, h2, _⟩ | ⟨b, rest, fz, h1, h2, h3, h4, h5, h6⟩
    · omega
    · exact ⟨(b, rest, fz), ⟨h1, h3, h4, h5, h6⟩, h, emp, (fun _ => .inr rfl), Sub.refl _, (fun _ _ e => by cases e), h2, trivial⟩) t
theorem row_shut {T sz m cap : Nat} {o : Option Addr} {xs : List Value} {q : Nat × List Value × (Nat × Nat)} (hq : RowAt sz m cap xs o q) (h : H) (hh : Sep [Pt q.1 (.cells (xs ++ q.2.1).toArray T q.2.2)] h) : Row T sz o m cap xs h := by
  obtain ⟨h1, h2, _, s1, _, hx, _⟩ := hh
  exact .inr ⟨q.1, q.2.1, q.2.2, hq.o, s1 _ _ hx, hq.l, hq.c, hq.m, hq.f⟩
end

def LvPost (b : Nat) (ls : List Lf) (x : Lf) : Post := ⟨Unit, fun _ => .tuple #[.int .i64 (if leaveE ls x = 0 then (ls.length : Int) else 0), .int .i64 (leaveE ls x)], fun _ => True, fun _ => [], fun _ => [Lg b (if leaveE ls x = 0 then ls ++ [x] else ls)]⟩

theorem lvPost_no {b : Nat} {ls : List Lf} {x : Lf} {e : Int} (he : leaveE ls x = e) (h0 : e ≠ 0) : LvPost b ls x = ⟨Unit, fun _ => .tuple #[.int .i64 0, .int .i64 e], fun _ => True, fun _ => [], fun _ => [Lg b ls]⟩ := by
  simp [LvPost, he, h0]
theorem lvPost_ok {b : Nat} {ls : List Lf} {x : Lf} (he : leaveE ls x = 0) : LvPost b ls x = ⟨Unit, fun _ => .tuple #[.int .i64 (ls.length : Int), .int .i64 0], fun _ => True, fun _ => [], fun _ => [Lg b (ls ++ [x])]⟩ := by
  simp [LvPost, he]

section
variable {n : Nat} {C : Cx} {Q : Exit → Act → World → Prop} {E E' : List (Nat × Value)} {F : List Pf} {R R0 : List HP} {k : List Fr}
theorem k_lg {b : Nat} {ls : List Lf} (t : ∀ q, Wk n C k Q E F (LgL b ls q ++ R0)) (hs : Sel (Lg b ls) R R0 := by (repeat (first | exact Sel.here | apply Sel.there)); first | done | fail) : Wk n C k Q E F R :=
  k_open (X := Option Addr × Nat) (Lx := fun q => LgL b ls q) (p := fun _ => True) (r := Lg b ls) hs (fun h hh => hh) (fun q _ => t q)
theorem k_lg' {b m : Nat} {ls : List Lf} {xs : List Value} {o : Option Addr} {cap : Nat} (t : Wk n C k Q E F (Lg b ls :: R0)) (hm : m = ls.length) (hx : xs = ls.flatMap lff) (hs : Sels [Pt b (.cells #[.slice o m cap] 119), Row 80 9 o m cap xs] R R0 := by (repeat (first | exact Sels.nil | exact Sel.here | apply Sel.there | apply Sels.cons)); first | done | fail) : Wk n C k Q E F R := by
  subst hm; subst hx
  exact k_shut (fun h hh => ⟨(o, cap), trivial, hh⟩) t hs
end

theorem leave_bad (b : Nat) (ls : List Lf) (x : Lf) (hx : x.e.who.size ≤ 1099511627776) (h0 : lchk x ≠ 0) : Enters 52 ∧ Spec Tryz.prog 52 #[.pointer (some ⟨b, 0, none⟩), x.v] [] [Lg b ls] (LvPost b ls x) := by
  have n1 := leftCheck_ok x hx
  generalize b = bl at *
  rw [lvPost_no (e := lchk x) (by simp [leaveE, h0]) h0]
  refine ⟨enters_of Tryz.func52 (by kernel_rfl) rfl, spec_of (vs := [_, _]) Tryz.func52 rfl Tryz.ntmps52 rfl fun G w hp => ?_⟩
  repeat' (first | refine l_run ?_ | refine l_nil ?_ | refine l_one ?_ | refine k_reg ?_ | refine l_ld ?_ | refine l_ldF ?_ | refine l_st ?_ | refine l_al (fun b => ?_) | refine l_bs (fun b => ?_) | refine k_condT ?_ | refine k_condF ?_ | refine k_brk ?_ | refine r_run ?_ | refine r_one ?_ | refine r_ld ?_ | refine r_ldF ?_ | refine r_ldN ?_ | refine r_al (fun b => ?_) | refine r_bs (fun b => ?_) | refine r_st ?_ | refine r_end ?_ | refine l_call (n1) (fun _ _ => ?_) | refine l_call0 (n1) (fun _ _ => ?_) | refine r_call (n1) (fun _ _ => ?_) | (refine l_split (fun hc => ?_) (fun hc => ?_) <;> (try simp at hc) <;> (try omega)) | (refine r_split (fun hc => ?_) (fun hc => ?_) <;> (try simp at hc) <;> (try omega)) | refine k_draw 7 [] [(0, 0), (1, 0), (2, 0), (3, 0), (4, 0), (5, 0), (6, 0), (7, 0), (8, 0), (9, 0), (10, 0), (11, 0), (12, 0), (13, 0), (14, 0), (15, 0), (16, 0), (17, 0), (18, 0), (19, 0), (20, 0), (21, 0), (22, 0), (23, 0), (24, 0), (25, 0), (26, 0), (27, 0), (28, 0), (29, 0)] [] ?_ | refine k_draw 11 [] [(0, 0), (1, 0), (2, 0), (3, 0), (4, 0), (5, 0), (6, 1), (7, 4), (8, 0), (9, 0)] [10] ?_ | (refine k_cond (fun hc => ?_) (fun hc => ?_) <;> (try simp at hc) <;> (try omega)))
  exact k_ret () rfl trivial

theorem leave_nil (b : Nat) (x : Lf) (hx : x.e.who.size ≤ 1099511627776) (h0 : lchk x = 0) : Enters 52 ∧ Spec Tryz.prog 52 #[.pointer (some ⟨b, 0, none⟩), x.v] [] [Lg b []] (LvPost b [] x) := by
  have n1 := leftCheck_ok x hx
  generalize b = bl at *
  rw [lvPost_ok (by simp [leaveE, h0, late])]
  rw [h0] at n1
  refine ⟨enters_of Tryz.func52 (by kernel_rfl) rfl, spec_of (vs := [_, _]) Tryz.func52 rfl Tryz.ntmps52 rfl fun G w hp => ?_⟩
  refine k_lg fun q => ?_
  repeat' (first | refine l_run ?_ | refine l_nil ?_ | refine l_one ?_ | refine k_reg ?_ | refine l_ld ?_ | refine l_ldF ?_ | refine l_st ?_ | refine l_al (fun b => ?_) | refine l_bs (fun b => ?_) | refine k_condT ?_ | refine k_condF ?_ | refine k_brk ?_ | refine r_run ?_ | refine r_one ?_ | refine r_ld ?_ | refine r_ldF ?_ | refine r_ldN ?_ | refine r_al (fun b => ?_) | refine r_bs (fun b => ?_) | refine r_st ?_ | refine r_end ?_ | refine l_call (n1) (fun _ _ => ?_) | refine l_call0 (n1) (fun _ _ => ?_) | refine r_call (n1) (fun _ _ => ?_) | refine r_app1 (fun o' cap' => ?_) | (refine l_split (fun hc => ?_) (fun hc => ?_) <;> (try simp at hc) <;> (try omega)) | (refine r_split (fun hc => ?_) (fun hc => ?_) <;> (try simp at hc) <;> (try omega)) | refine k_draw 7 [] [(0, 0), (1, 0), (2, 0), (3, 0), (4, 0), (5, 0), (6, 0), (7, 0), (8, 0), (9, 0), (10, 0), (11, 0), (12, 0), (13, 0), (14, 0), (15, 0), (16, 0), (17, 0), (18, 0), (19, 0), (20, 0), (21, 0), (22, 0), (23, 0), (24, 0), (25, 0), (26, 0), (27, 0), (28, 0), (29, 0)] [] ?_ | refine k_draw 11 [Row _ _ _ _ _ _] [(0, 0), (1, 0), (2, 0), (3, 0), (4, 0), (5, 0), (6, 1), (7, 4), (8, 0), (9, 0)] [10] ?_ | (refine k_cond (fun hc => ?_) (fun hc => ?_) <;> (try simp at hc) <;> (try omega)))
  refine k_lg' (ls := [] ++ [x]) (o := o') (cap := cap') ?_ rfl rfl
  exact k_ret () rfl trivial

set_option maxHeartbeats 2000000 in
theorem leave_cons (b : Nat) (init : List Lf) (y x : Lf) (hx : x.e.who.size ≤ 1099511627776) (h0 : lchk x = 0) (hl : init.length ≤ 1000000) : Enters 52 ∧ Spec Tryz.prog 52 #[.pointer (some ⟨b, 0, none⟩), x.v] [] [Lg b (init ++ [y])] (LvPost b (init ++ [y]) x) := by
  have n1 := leftCheck_ok x hx
  rw [h0] at n1
  generalize b = bl at *
  have hlen : (init ++ [y]).length = init.length + 1 := by simp
  have hlate : late (init ++ [y]) x = (decide (x.tm < y.tm) || decide (x.rd < y.rd)) := by simp [late]
  have hpre : (init.flatMap lff).length = init.length * 9 := flat_len (sz := 9) (fun _ => rfl) init
  generalize hpost : LvPost bl (init ++ [y]) x = post
  refine ⟨enters_of Tryz.func52 (by kernel_rfl) rfl, spec_of (vs := [_, _]) Tryz.func52 rfl Tryz.ntmps52 rfl fun G w hp => ?_⟩
  refine k_lg fun q => ?_
  dsimp only [LgL]
  rw [hlen]
  refine k_row (T := 80) (sz := 9) (o := q.1) (m := init.length + 1) (cap := q.2) (xs := (init ++ [y]).flatMap lff) (by omega) (fun r hr => ?_)
  have ho := hr.o
  obtain ⟨q1, q2⟩ := q
  dsimp only at ho
  subst ho
  obtain ⟨rb, rest, fz⟩ := r
  dsimp only at hr ⊢
  have hcs : (((init ++ [y]).flatMap lff ++ rest).toArray).toList = init.flatMap lff ++ (lff y ++ rest) := by simp
  repeat' (first | refine l_run ?_ | refine l_nil ?_ | refine l_one ?_ | refine k_reg ?_ | refine l_ld ?_ | refine l_ldF ?_ | refine l_st ?_ | refine l_al (fun b => ?_) | refine l_bs (fun b => ?_) | refine k_condT ?_ | refine k_condF ?_ | refine k_brk ?_ | refine r_run ?_ | refine r_one ?_ | refine r_ld ?_ | refine r_ldF ?_ | refine r_ldN ?_ | refine r_al (fun b => ?_) | refine r_bs (fun b => ?_) | refine r_st ?_ | refine r_end ?_ | refine l_call (n1) (fun _ _ => ?_) | refine l_call0 (n1) (fun _ _ => ?_) | refine r_call (n1) (fun _ _ => ?_) | refine r_ixP (m := init.length + 1) init.length (by omega) ?_ | refine r_ldX (o := 7) (off' := init.length * 9 + (6 + 1)) (pre := init.flatMap lff) (xs := lff y) (post := rest) ?_ hcs (by rw [hpre]) | refine r_ldX (o := 8) (off' := init.length * 9 + (7 + 1)) (pre := init.flatMap lff) (xs := lff y) (post := rest) ?_ hcs (by rw [hpre]) | rw [wrapi (z := ((init.length + 1 : Nat) : Int) - 1) (by omega) (by omega)] | (refine l_split (fun hc => ?_) (fun hc => ?_) <;> (try simp at hc) <;> (try omega)) | (refine r_split (fun hc => ?_) (fun hc => ?_) <;> (try simp at hc) <;> (try omega)) | refine k_draw 7 [] [(0, 0), (1, 0), (2, 0), (3, 0), (4, 0), (5, 0), (6, 0), (7, 0), (8, 0), (9, 0), (10, 0), (11, 0), (12, 0), (13, 0), (14, 0), (15, 0), (16, 0), (17, 0), (18, 0), (19, 0), (20, 0), (21, 0), (22, 0), (23, 0), (24, 0), (25, 0), (26, 0), (27, 0), (28, 0), (29, 0)] [] ?_ | (refine k_cond (fun hc => ?_) (fun hc => ?_) <;> (try simp at hc) <;> (try omega)))
  all_goals refine k_shut (Lx := [Pt rb (.cells ((init ++ [y]).flatMap lff ++ rest).toArray 80 fz)]) (r := Row 80 9 (some ⟨rb, 0, none⟩) (init.length + 1) q2 ((init ++ [y]).flatMap lff)) (fun h hh => row_shut hr h hh) ?_
  · have e : leaveE (init ++ [y]) x = 32 := by simp [leaveE, h0, hlate, hc]
    rw [lvPost_no (e := 32) e (by decide)] at hpost
    subst hpost
    refine k_lg' (ls := init ++ [y]) (o := some ⟨rb, 0, none⟩) (cap := q2) ?_ hlen.symm rfl
    exact k_ret () rfl trivial
  · have e : leaveE (init ++ [y]) x = 32 := by simp [leaveE, h0, hlate, hc]
    rw [lvPost_no (e := 32) e (by decide)] at hpost
    subst hpost
    refine k_lg' (ls := init ++ [y]) (o := some ⟨rb, 0, none⟩) (cap := q2) ?_ hlen.symm rfl
    exact k_ret () rfl trivial
  · rename_i h1 h2 _
    have e : leaveE (init ++ [y]) x = 9 := by
      rw [leaveE, if_neg (by simp [h0]), if_neg (by rw [hlate]; simp; omega), if_pos (by rw [hlen]; omega)]
    rw [lvPost_no (e := 9) e (by decide)] at hpost
    subst hpost
    refine k_lg' (ls := init ++ [y]) (o := some ⟨rb, 0, none⟩) (cap := q2) ?_ hlen.symm rfl
    exact k_ret () rfl trivial
  · have e : leaveE (init ++ [y]) x = 0 := by
      rw [leaveE, if_neg (by simp [h0]), if_neg (by rw [hlate]; simp; omega), if_neg (by rw [hlen]; omega)]
    rw [lvPost_ok e, hlen] at hpost
    subst hpost
    repeat' (first | refine l_run ?_ | refine l_nil ?_ | refine l_one ?_ | refine k_reg ?_ | refine l_ld ?_ | refine l_ldF ?_ | refine l_st ?_ | refine l_al (fun b => ?_) | refine l_bs (fun b => ?_) | refine k_condT ?_ | refine k_condF ?_ | refine k_brk ?_ | refine r_run ?_ | refine r_one ?_ | refine r_ld ?_ | refine r_ldF ?_ | refine r_ldN ?_ | refine r_al (fun b => ?_) | refine r_bs (fun b => ?_) | refine r_st ?_ | refine r_end ?_ | refine r_app1 (fun o' cap' => ?_) | (refine l_split (fun hc => ?_) (fun hc => ?_) <;> (try simp at hc)) | (refine r_split (fun hc => ?_) (fun hc => ?_) <;> (try simp at hc)) | refine k_draw 7 [] [(0, 0), (1, 0), (2, 0), (3, 0), (4, 0), (5, 0), (6, 0), (7, 0), (8, 0), (9, 0), (10, 0), (11, 0), (12, 0), (13, 0), (14, 0), (15, 0), (16, 0), (17, 0), (18, 0), (19, 0), (20, 0), (21, 0), (22, 0), (23, 0), (24, 0), (25, 0), (26, 0), (27, 0), (28, 0), (29, 0)] [] ?_ | refine k_draw 11 [Row _ _ _ _ _ _] [(0, 0), (1, 0), (2, 0), (3, 0), (4, 0), (5, 0), (6, 1), (7, 4), (8, 0), (9, 0)] [10] ?_ | (refine k_cond (fun hc => ?_) (fun hc => ?_) <;> (try simp at hc)))
    refine k_lg' (m := init.length + 1 + 1) (xs := (init ++ [y]).flatMap lff ++ lff x) (ls := init ++ [y] ++ [x]) (o := o') (cap := cap') ?_ (by simp) (by simp)
    exact k_ret () rfl trivial

theorem leave_ok (b : Nat) (ls : List Lf) (x : Lf) (hx : x.e.who.size ≤ 1099511627776) (hl : ls.length ≤ 1000000) : Enters 52 ∧ Spec Tryz.prog 52 #[.pointer (some ⟨b, 0, none⟩), x.v] [] [Lg b ls] (LvPost b ls x) := by
  by_cases h0 : lchk x = 0
  · rcases List.eq_nil_or_concat ls with rfl | ⟨init, y, rfl⟩
    · exact leave_nil b x hx h0
    · simp only [List.concat_eq_append] at hl ⊢
      exact leave_cons b init y x hx h0 (by simp at hl; omega)
  · exact leave_bad b ls x hx h0

/-! A ledger that stays. -/
section
variable {n : Nat} {C : Cx} {Q : Exit → Act → World → Prop} {E E' : List (Nat × Value)} {F F0 : List Pf} {R R0 : List HP} {k : List Fr}
theorem k_lgf {b : Nat} {ls : List Lf} (t : ∀ o cap, Wk n C k Q E (Blk b (.cells #[.slice o ls.length cap] 119) :: Sl 80 lff o cap ls :: F) R) (hs : Sel (LgF b ls) F F0 := by (repeat (first | exact Sel.here | apply Sel.there)); first | done | fail) : Wk n C k Q E F R :=
  k_fact (X := Option Addr × Nat) (Fx := fun q => [Blk b (.cells #[.slice q.1 ls.length q.2] 119), Sl 80 lff q.1 q.2 ls]) (p := fun _ => True) (f := LgF b ls) hs (fun h ⟨q, h1, h2⟩ => ⟨q, trivial, fun f hf => by
    simp only [List.mem_cons, List.not_mem_nil, or_false] at hf
    rcases hf with rfl | rfl
    · exact h1
    · exact h2⟩) (fun q _ => t q.1 q.2)
/-- A ledger is no more written. -/
theorem k_lgz {b : Nat} {ls : List Lf} (t : Wk n C k Q E (LgF b ls :: F) R0) (hs : Sel (Lg b ls) R R0 := by (repeat (first | exact Sel.here | apply Sel.there)); first | done | fail) : Wk n C k Q E F R := by
  refine k_open (X := Option Addr × Nat) (Lx := fun q => LgL b ls q) (p := fun _ => True) (r := Lg b ls) hs (fun h hh => hh) (fun q _ => ?_)
  refine k_fz (b := b) (o := .cells #[.slice q.1 ls.length q.2] 119) ?_
  refine k_frz (T := 80) (sz := 9) (f := lff) (o := q.1) (cap := q.2) ls ?_ rfl rfl
  refine k_mk (F1 := [Blk b (.cells #[.slice q.1 ls.length q.2] 119), Sl 80 lff q.1 q.2 ls]) (f := LgF b ls) (fun hp hF => ⟨q, hF _ (by simp), hF _ (by simp)⟩) ?_
  intro a w ha hs
  exact t a w ha (hs.facts fun hp hF x hx => by
    rcases List.mem_cons.1 hx with rfl | hx
    · exact hF _ (by simp)
    · exact hF _ (by simp [hx]))
end

theorem lgAll_ok (b : Nat) (ls : List Lf) : Enters 117 ∧ Spec Tryz.prog 117 #[.pointer (some ⟨b, 0, none⟩)] [LgF b ls] []
    ⟨Option Addr × Nat, fun q => .slice q.1 ls.length q.2, fun _ => True, fun q => [Sl 80 lff q.1 q.2 ls], fun _ => []⟩ := by
  refine ⟨enters_of Tryz.func117 (by kernel_rfl) rfl, spec_of (vs := [_]) Tryz.func117 rfl Tryz.ntmps117 rfl fun G w hp => ?_⟩
  refine k_lgf fun o cap => ?_
  repeat' (first | refine l_run ?_ | refine l_nil ?_ | refine l_one ?_ | refine k_reg ?_ | refine l_ld ?_ | refine l_ldF ?_ | refine l_st ?_ | refine l_al (fun b => ?_) | refine l_bs (fun b => ?_) | refine k_condT ?_ | refine k_condF ?_ | refine k_brk ?_ | refine l_split (fun hc => ?_) (fun hc => ?_) | refine k_cond (fun hc => ?_) (fun hc => ?_))
  exact k_ret (o, cap) rfl trivial
theorem lgLen_ok (b : Nat) (ls : List Lf) : Enters 47 ∧ Spec Tryz.prog 47 #[.pointer (some ⟨b, 0, none⟩)] [LgF b ls] [] (RetV (.int .i64 (ls.length : Int))) := by
  refine ⟨enters_of Tryz.func47 (by kernel_rfl) rfl, spec_of (vs := [_]) Tryz.func47 rfl Tryz.ntmps47 rfl fun G w hp => ?_⟩
  repeat' (first | refine l_run ?_ | refine l_nil ?_ | refine l_one ?_ | refine k_reg ?_ | refine l_ld ?_ | refine l_ldF ?_ | refine l_st ?_ | refine l_al (fun b => ?_) | refine l_bs (fun b => ?_) | refine k_condT ?_ | refine k_condF ?_ | refine k_brk ?_ | refine l_call (lgAll_ok _ ls) (fun _ _ => ?_) | refine l_call0 (lgAll_ok _ ls) (fun _ _ => ?_) | refine l_split (fun hc => ?_) (fun hc => ?_) | refine k_cond (fun hc => ?_) (fun hc => ?_))
  exact k_ret () rfl trivial
theorem lgGet_ok (b : Nat) (ls : List Lf) (i : Nat) (x : Lf) (hi : ls[i]? = some x) : Enters 48 ∧ Spec Tryz.prog 48 #[.pointer (some ⟨b, 0, none⟩), .int .i64 (i : Int)] [LgF b ls] [] (RetV (.tuple #[x.v, .int .i64 0])) := by
  have hlt := (List.getElem?_eq_some_iff.1 hi).1
  refine ⟨enters_of Tryz.func48 (by kernel_rfl) rfl, spec_of (vs := [_, _]) Tryz.func48 rfl Tryz.ntmps48 rfl fun G w hp => ?_⟩
  refine k_lgf fun o cap => ?_
  repeat' (first | refine l_run ?_ | refine l_nil ?_ | refine l_one ?_ | refine k_reg ?_ | refine l_ld ?_ | refine l_ldF ?_ | refine l_st ?_ | refine l_al (fun b => ?_) | refine l_bs (fun b => ?_) | refine k_condT ?_ | refine k_condF ?_ | refine k_brk ?_ | refine l_ixe (es := ls) i x hi (fun b off => ?_) | refine l_ldC ?_ | (refine l_split (fun hc => ?_) (fun hc => ?_) <;> (try simp at hc) <;> (try omega)) | (refine k_cond (fun hc => ?_) (fun hc => ?_) <;> (try simp at hc) <;> (try omega)))
  exact k_ret () rfl trivial
end Go.Proofs.YtijaglinajfplaaGreatDoor
