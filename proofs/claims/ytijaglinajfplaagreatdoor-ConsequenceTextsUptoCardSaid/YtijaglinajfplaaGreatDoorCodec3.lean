/-
  Contracts of the package codec: the reader.
  Conditions: those that each theorem states.
-/
import Derived.Test.YtijaglinajfplaaGreatDoorCodec2
set_option maxRecDepth 10000
namespace Go.Proofs.YtijaglinajfplaaGreatDoor
open Go.RowKit

section
variable {n : Nat} {C : Cx} {Q : Exit → Act → World → Prop} {E E' : List (Nat × Value)} {F F' F1 Fs F0 : List Pf} {R R' R0 Rs N N' A : List HP} {k k' : List Fr} {ops l : List Oper} {L L' : List (Nat × Nat)} {Tl : List Nat}
  {i d : Nat} {t ty0 : TypeId} {x y : Operand} {pos : String} {aft : Array Edge} {gd : Option (Nat × Bool)}

theorem run_callF {f : FuncId} {fs cs : Array Value} (hf : Enters f) {args : Array Operand} {tys : Array TypeId} {vs : List Value} (hx : ev E x = some (.func (.func f) fs cs)) (hargs : evs (ev E) args.toList some = some vs) {a : Act} {ds : List Deferred} (ha : Agree n ds (look E) a) (w : World) (dst : Option Tmp) :
    (execOp a.eval ⟨dst, .call ⟨.value x, args, tys⟩, ty0, pos, aft, gd⟩).run Tryz.prog w = .ok (.enter f (fs ++ vs.toArray ++ cs)) w := by
  obtain ⟨us, _, h2, h3⟩ := evs_eq _ _ _ hargs
  obtain rfl := Option.some.inj h2
  have e1 := h3 a.eval fun x _ u hu => ha.ev (by rw [evf_look]; exact hu)
  have e3 : args.map a.eval = us.toArray := by rw [← Array.toList_inj]; simpa using e1
  have e0 := ha.ev (x := x) (by rw [evf_look]; exact hx)
  simp only [execOp, resolve, e0, Deferred.ofValue, Sem.run_bind, Sem.run_pure, Result.andThen, invoke]
  have e4 : (args.map fun x => a.eval x) = us.toArray := e3
  rw [e4]
  exact hf _ w

/-- A call of a function value. -/
theorem l_callF {f : FuncId} {fs cs : Array Value} {args : Array Operand} {tys : Array TypeId} {vs us : List Value} {post : Post} (spec : Enters f ∧ Spec Tryz.prog f us.toArray F1 A post)
    (nx : ∀ x, post.pure x → Wl n C ops.toArray k Q l ((d, post.val x) :: E) (post.F x ++ F) (post.R x ++ R')) (hw : wantL ops E ⟨some d, .call ⟨.value x, args, tys⟩, ty0, pos, aft, gd⟩ = some true := by rfl) (hn : Nat.blt d n = true := by rfl)
    (hx : ev E x = some (.func (.func f) fs cs) := by rfl) (hargs : evs (ev E) args.toList some = some vs := by rfl) (has : fs.toList ++ vs ++ cs.toList = us := by rfl) (sel : Sels A R R' := by (repeat (first | exact Sels.nil | exact Sel.here | apply Sel.there | apply Sels.cons)); first | done | fail)
    (hF : EntF F F1 := by (repeat (first | exact trivial | exact Sel.here | apply Sel.there | apply EntF.cons)); first | done | fail) :
    Wl n C ops.toArray k Q (⟨some d, .call ⟨.value x, args, tys⟩, ty0, pos, aft, gd⟩ :: l) E F R :=
  wl_op (fun t ht => by cases ht; exact Nat.le_of_ble_eq_true hn) (fun c hc => by cases hc) hw fun a w ha hsat => by
    unfold OpRes
    rw [run_callF spec.1 hx hargs ha w]
    have e : fs ++ vs.toArray ++ cs = us.toArray := by rw [← has, ← Array.toList_inj]; simp
    rw [e]
    refine sat_call spec.2 hsat sel hF.all fun x w' hx hs' => ?_
    exact fun a' ha' => nx x hx a' w' ha' hs'
end

theorem dval_lt : ∀ l : List UInt8, dval l < 128 ^ l.length
  | [] => by simp [dval]
  | b :: l => by
    have := dval_lt l
    rw [dval, List.length_cons, Nat.pow_succ]
    omega

theorem pnat_le (bs : List UInt8) : (pnat bs 9).1 < 9223372036854775808 ∧ (pnat bs 9).2.1 ≤ bs.length := by
  have hl := lastN_le bs 9
  have hd := dval_lt (bs.take (lastN bs 9 + 1))
  unfold pnat
  dsimp only
  split
  · simp
  · rename_i hne
    split
    · simp
    · rename_i b hb
      have hlt := (List.getElem?_eq_some_iff.1 hb).1
      split
      · simp
      · split
        · simp
        · refine ⟨?_, by dsimp only; omega⟩
          have h1 : (bs.take (lastN bs 9 + 1)).length ≤ 9 := by simp; omega
          have h2 : 128 ^ (bs.take (lastN bs 9 + 1)).length ≤ 128 ^ 9 := Nat.pow_le_pow_right (by omega) h1
          have h3 : (128 : Nat) ^ 9 = 9223372036854775808 := by decide
          have := Nat.mod_le (dval (bs.take (lastN bs 9 + 1))) 18446744073709551616
          dsimp only; omega

theorem parse_ok (o : Option Addr) (cap : Nat) (bs : List UInt8) (hlen : bs.length ≤ 1099511627776) :
    Enters 167 ∧ Spec Tryz.prog 167 #[.slice o bs.length cap] [Sl 5 bf o cap bs] []
      (RetV (.tuple #[.int .i64 ((pnat bs 9).1 : Int), .int .i64 ((pnat bs 9).2.1 : Int), .int .i64 (pnat bs 9).2.2])) := by
  have h1 := pnat_le bs
  refine ⟨enters_of Tryz.func167 (by kernel_rfl) rfl, spec_of (vs := [_]) Tryz.func167 rfl Tryz.ntmps167 rfl fun G w hp => ?_⟩
  repeat' (first | refine l_run ?_ | refine l_nil ?_ | refine l_one ?_ | refine k_reg ?_ | refine l_ld ?_ | refine l_ldF ?_ | refine l_st ?_ | refine l_al (fun b => ?_) | refine l_bs (fun b => ?_) | refine k_condT ?_ | refine k_condF ?_ | refine k_brk ?_ | refine l_call (parseNatural_ok _ _ _ 9 hlen) (fun _ _ => ?_) | refine l_call0 (parseNatural_ok _ _ _ 9 hlen) (fun _ _ => ?_) | (refine l_split (fun hc => ?_) (fun hc => ?_) <;> (try simp at hc)) | (refine k_cond (fun hc => ?_) (fun hc => ?_) <;> (try simp at hc)))
  rw [wrapi (z := ((pnat bs 9).1 : Int)) (by omega) (by omega)]
  exact k_ret () rfl trivial

/-- What the reader's number makes of bytes. -/
def pnum (bs : List UInt8) (most : Int) : Int × Nat × Int :=
  ((pnat bs 9).1, (pnat bs 9).2.1, if (pnat bs 9).2.2 = 0 ∧ most < (pnat bs 9).1 then 2 else (pnat bs 9).2.2)

theorem numberF_ok (o : Option Addr) (cap : Nat) (bs : List UInt8) (b : Nat) (most : Int) (hlen : bs.length ≤ 1099511627776) :
    Enters 166 ∧ Spec Tryz.prog 166 #[.slice o bs.length cap, .pointer (some ⟨b, 0, none⟩)] [Sl 5 bf o cap bs] [Pt b (.cells #[.int .i64 most] 3)]
      ⟨Unit, fun _ => .tuple #[.int .i64 (pnum bs most).1, .int .i64 ((pnum bs most).2.1 : Int), .int .i64 (pnum bs most).2.2], fun _ => True, fun _ => [], fun _ => [Pt b (.cells #[.int .i64 most] 3)]⟩ := by
  refine ⟨enters_of Tryz.func166 (by kernel_rfl) rfl, spec_of (vs := [_, _]) Tryz.func166 rfl Tryz.ntmps166 rfl fun G w hp => ?_⟩
  repeat' (first | refine l_run ?_ | refine l_nil ?_ | refine l_one ?_ | refine k_reg ?_ | refine l_ld ?_ | refine l_ldF ?_ | refine l_st ?_ | refine l_al (fun b => ?_) | refine l_bs (fun b => ?_) | refine k_condT ?_ | refine k_condF ?_ | refine k_brk ?_ | refine l_call (parse_ok _ _ _ hlen) (fun _ _ => ?_) | refine l_call0 (parse_ok _ _ _ hlen) (fun _ _ => ?_) | (refine l_split (fun hc => ?_) (fun hc => ?_) <;> (try simp at hc)) | (refine k_cond (fun hc => ?_) (fun hc => ?_) <;> (try simp at hc)))
  all_goals (refine k_ret () ?_ trivial; simp_all [pnum, resV] <;> omega)

/-- What the reader's text makes of bytes. -/
def ptext (bs : List UInt8) (most : Int) : ByteArray × Nat × Int :=
  if (pnat bs 9).2.2 ≠ 0 then (⟨#[]⟩, 0, (pnat bs 9).2.2)
  else if most < (pnat bs 9).1 ∨ 16777216 < (pnat bs 9).1 then (⟨#[]⟩, 0, 5)
  else if bs.length < (pnat bs 9).2.1 + (pnat bs 9).1 then (⟨#[]⟩, 0, 28)
  else (⟨((bs.take ((pnat bs 9).2.1 + (pnat bs 9).1)).drop (pnat bs 9).2.1).toArray⟩, (pnat bs 9).2.1 + (pnat bs 9).1, 0)

theorem textF_ok (o : Option Addr) (cap : Nat) (bs : List UInt8) (b : Nat) (most : Int) (hlen : bs.length ≤ 1099511627776) :
    Enters 169 ∧ Spec Tryz.prog 169 #[.slice o bs.length cap, .pointer (some ⟨b, 0, none⟩)] [Sl 5 bf o cap bs] [Pt b (.cells #[.int .i64 most] 3)]
      ⟨Unit, fun _ => .tuple #[.string (ptext bs most).1, .int .i64 ((ptext bs most).2.1 : Int), .int .i64 (ptext bs most).2.2], fun _ => True, fun _ => [], fun _ => [Pt b (.cells #[.int .i64 most] 3)]⟩ := by
  obtain ⟨h1, h2⟩ := pnat_le bs
  refine ⟨enters_of Tryz.func169 (by kernel_rfl) rfl, spec_of (vs := [_, _]) Tryz.func169 rfl Tryz.ntmps169 rfl fun G w hp => ?_⟩
  generalize hp : ptext bs most = p
  unfold ptext at hp
  generalize hq : pnat bs 9 = q at *
  have hpar := parse_ok o cap bs hlen
  rw [hq] at hpar
  obtain ⟨u, sz, e⟩ := q
  dsimp only at *
  repeat' (first | refine l_run ?_ | refine l_nil ?_ | refine l_one ?_ | refine k_reg ?_ | refine l_ld ?_ | refine l_ldF ?_ | refine l_st ?_ | refine l_al (fun b => ?_) | refine l_bs (fun b => ?_) | refine k_condT ?_ | refine k_condF ?_ | refine k_brk ?_ | refine l_call (hpar) (fun _ _ => ?_) | refine l_call0 (hpar) (fun _ _ => ?_) | rw [wrapi (z := (bs.length : Int) - (sz : Int)) (by omega) (by omega)] | rw [wrapi (z := (sz : Int) + (u : Int)) (by omega) (by omega)] | refine l_slLH (es := bs) sz (sz + u) (by omega) (by omega) (fun o' => ?_) | refine l_b2s ?_ | (refine l_split (fun hc => ?_) (fun hc => ?_) <;> (try simp at hc)) | (refine k_cond (fun hc => ?_) (fun hc => ?_) <;> (try simp at hc)))
  all_goals refine k_ret () ?_ trivial
  all_goals rw [← hp]
  all_goals repeat (first | rw [if_pos (by omega)] | rw [if_neg (by omega)])
  all_goals simp [resV]

/-- A reader: the bytes that are left, where they begin, the error. -/
structure RS where
  rest : List UInt8
  pos : Nat
  err : Int

def Rdr (b : Nat) (o : Option Addr) (cap : Nat) (s : RS) : HP := Pt b (.cells #[.slice o s.rest.length cap, .int .i64 (s.pos : Int), .int .i64 s.err] 258)

def rstep {α : Type} (zero : α) (s : RS) (p : α × Nat × Int) : α × RS :=
  if s.err ≠ 0 then (zero, s) else if p.2.2 ≠ 0 then (zero, ⟨s.rest, s.pos, p.2.2⟩) else (p.1, ⟨s.rest.drop p.2.1, s.pos + p.2.1, 0⟩)

theorem readInt_ok (b g : Nat) (o : Option Addr) (cap : Nat) (s : RS) (c : Value) (bx : Nat) (obj : Obj) (p : Int × Nat × Int) (hb : s.pos + s.rest.length ≤ 1099511627776) (hpl : p.2.1 ≤ s.rest.length)
    (hg : Enters g ∧ Spec Tryz.prog g #[.slice o s.rest.length cap, c] [Sl 5 bf o cap s.rest] [Pt bx obj] ⟨Unit, fun _ => .tuple #[.int .i64 p.1, .int .i64 (p.2.1 : Int), .int .i64 p.2.2], fun _ => True, fun _ => [], fun _ => [Pt bx obj]⟩) :
    Enters 165 ∧ Spec Tryz.prog 165 #[.pointer (some ⟨b, 0, none⟩), .func (.func g) #[] #[c]] [Sl 5 bf o cap s.rest] [Rdr b o cap s, Pt bx obj]
      ⟨Option Addr × Nat, fun _ => .int .i64 (rstep 0 s p).1, fun _ => True, fun q => [Sl 5 bf q.1 q.2 (rstep 0 s p).2.rest], fun q => [Rdr b q.1 q.2 (rstep 0 s p).2]⟩ := by
  obtain ⟨bs, at0, er⟩ := s
  obtain ⟨v, sz, e⟩ := p
  generalize hr : rstep 0 (RS.mk bs at0 er) (v, sz, e) = r
  unfold rstep at hr
  unfold Rdr
  dsimp only at *
  refine ⟨enters_of Tryz.func165 (by kernel_rfl) rfl, spec_of (vs := [_, _]) Tryz.func165 rfl Tryz.ntmps165 rfl fun G w hp => ?_⟩
  repeat' (first | refine l_run ?_ | refine l_nil ?_ | refine l_one ?_ | refine k_reg ?_ | refine l_ld ?_ | refine l_ldF ?_ | refine l_st ?_ | refine l_al (fun b => ?_) | refine l_bs (fun b => ?_) | refine k_condT ?_ | refine k_condF ?_ | refine k_brk ?_ | refine l_callF hg (fun _ _ => ?_) | refine l_slL (es := bs) sz hpl (fun o' => ?_) | rw [wrapi (z := (at0 : Int) + (sz : Int)) (by omega) (by omega), ← Int.natCast_add] | (refine l_split (fun hc => ?_) (fun hc => ?_) <;> (try simp at hc)) | (refine k_cond (fun hc => ?_) (fun hc => ?_) <;> (try simp at hc)))
  · rw [if_pos hc] at hr
    subst hr
    exact k_ret (o, cap) rfl trivial
  · rw [if_neg (by omega), if_pos hc] at hr
    subst hr
    exact k_ret (o, cap) rfl trivial
  · rename_i h0 _ _
    subst h0
    rw [if_neg (by omega), if_neg (by omega)] at hr
    subst hr
    exact k_ret (o', cap - sz) rfl trivial

theorem readStr_ok (b g : Nat) (o : Option Addr) (cap : Nat) (s : RS) (c : Value) (bx : Nat) (obj : Obj) (p : ByteArray × Nat × Int) (hb : s.pos + s.rest.length ≤ 1099511627776) (hpl : p.2.1 ≤ s.rest.length)
    (hg : Enters g ∧ Spec Tryz.prog g #[.slice o s.rest.length cap, c] [Sl 5 bf o cap s.rest] [Pt bx obj] ⟨Unit, fun _ => .tuple #[.string p.1, .int .i64 (p.2.1 : Int), .int .i64 p.2.2], fun _ => True, fun _ => [], fun _ => [Pt bx obj]⟩) :
    Enters 168 ∧ Spec Tryz.prog 168 #[.pointer (some ⟨b, 0, none⟩), .func (.func g) #[] #[c]] [Sl 5 bf o cap s.rest] [Rdr b o cap s, Pt bx obj]
      ⟨Option Addr × Nat, fun _ => .string (rstep ⟨#[]⟩ s p).1, fun _ => True, fun q => [Sl 5 bf q.1 q.2 (rstep ⟨#[]⟩ s p).2.rest], fun q => [Rdr b q.1 q.2 (rstep ⟨#[]⟩ s p).2]⟩ := by
  obtain ⟨bs, at0, er⟩ := s
  obtain ⟨v, sz, e⟩ := p
  generalize hr : rstep ⟨#[]⟩ (RS.mk bs at0 er) (v, sz, e) = r
  unfold rstep at hr
  unfold Rdr
  dsimp only at *
  refine ⟨enters_of Tryz.func168 (by kernel_rfl) rfl, spec_of (vs := [_, _]) Tryz.func168 rfl Tryz.ntmps168 rfl fun G w hp => ?_⟩
  repeat' (first | refine l_run ?_ | refine l_nil ?_ | refine l_one ?_ | refine k_reg ?_ | refine l_ld ?_ | refine l_ldF ?_ | refine l_st ?_ | refine l_al (fun b => ?_) | refine l_bs (fun b => ?_) | refine k_condT ?_ | refine k_condF ?_ | refine k_brk ?_ | refine l_callF hg (fun _ _ => ?_) | refine l_slL (es := bs) sz hpl (fun o' => ?_) | rw [wrapi (z := (at0 : Int) + (sz : Int)) (by omega) (by omega), ← Int.natCast_add] | (refine l_split (fun hc => ?_) (fun hc => ?_) <;> (try simp at hc)) | (refine k_cond (fun hc => ?_) (fun hc => ?_) <;> (try simp at hc)))
  · rw [if_pos hc] at hr
    subst hr
    exact k_ret (o, cap) rfl trivial
  · rw [if_neg (by omega), if_pos hc] at hr
    subst hr
    exact k_ret (o, cap) rfl trivial
  · rename_i h0 _ _
    subst h0
    rw [if_neg (by omega), if_neg (by omega)] at hr
    subst hr
    exact k_ret (o', cap - sz) rfl trivial

def rnum (s : RS) (most : Int) : Int × RS := rstep 0 s (pnum s.rest most)
def rtext (s : RS) (most : Int) : ByteArray × RS := rstep ⟨#[]⟩ s (ptext s.rest most)

theorem pnum_le (bs : List UInt8) (most : Int) : (pnum bs most).2.1 ≤ bs.length := (pnat_le bs).2
theorem ptext_le (bs : List UInt8) (most : Int) : (ptext bs most).2.1 ≤ bs.length := by
  have := (pnat_le bs).2
  unfold ptext
  split
  · simp
  · split
    · simp
    · split
      · simp
      · dsimp only; omega
theorem rstep_le {α : Type} (z : α) (s : RS) (p : α × Nat × Int) (hp : p.2.1 ≤ s.rest.length) : (rstep z s p).2.pos + (rstep z s p).2.rest.length ≤ s.pos + s.rest.length := by
  unfold rstep
  split
  · simp
  · split
    · simp
    · simp; omega

theorem rdrNumber_ok (b : Nat) (o : Option Addr) (cap : Nat) (s : RS) (most : Int) (hb : s.pos + s.rest.length ≤ 1099511627776) :
    Enters 99 ∧ Spec Tryz.prog 99 #[.pointer (some ⟨b, 0, none⟩), .int .i64 most] [Sl 5 bf o cap s.rest] [Rdr b o cap s]
      ⟨Option Addr × Nat, fun _ => .int .i64 (rnum s most).1, fun _ => True, fun q => [Sl 5 bf q.1 q.2 (rnum s most).2.rest], fun q => [Rdr b q.1 q.2 (rnum s most).2]⟩ := by
  refine ⟨enters_of Tryz.func99 (by kernel_rfl) rfl, spec_of (vs := [_, _]) Tryz.func99 rfl Tryz.ntmps99 rfl fun G w hp => ?_⟩
  repeat' (first | refine l_run ?_ | refine l_nil ?_ | refine l_one ?_ | refine k_reg ?_ | refine l_ld ?_ | refine l_ldF ?_ | refine l_st ?_ | refine l_al (fun b => ?_) | refine l_bs (fun b => ?_) | refine k_condT ?_ | refine k_condF ?_ | refine k_brk ?_ | refine l_call (readInt_ok _ _ _ _ s _ _ _ (pnum s.rest most) hb (pnum_le _ _) (numberF_ok _ _ _ _ most (by omega))) (fun _ _ => ?_) | refine l_call0 (readInt_ok _ _ _ _ s _ _ _ (pnum s.rest most) hb (pnum_le _ _) (numberF_ok _ _ _ _ most (by omega))) (fun _ _ => ?_) | (refine l_split (fun hc => ?_) (fun hc => ?_) <;> (try simp at hc)) | (refine k_cond (fun hc => ?_) (fun hc => ?_) <;> (try simp at hc)))
  rename_i q _
  exact k_ret q rfl trivial
theorem rdrText_ok (b : Nat) (o : Option Addr) (cap : Nat) (s : RS) (most : Int) (hb : s.pos + s.rest.length ≤ 1099511627776) :
    Enters 100 ∧ Spec Tryz.prog 100 #[.pointer (some ⟨b, 0, none⟩), .int .i64 most] [Sl 5 bf o cap s.rest] [Rdr b o cap s]
      ⟨Option Addr × Nat, fun _ => .string (rtext s most).1, fun _ => True, fun q => [Sl 5 bf q.1 q.2 (rtext s most).2.rest], fun q => [Rdr b q.1 q.2 (rtext s most).2]⟩ := by
  refine ⟨enters_of Tryz.func100 (by kernel_rfl) rfl, spec_of (vs := [_, _]) Tryz.func100 rfl Tryz.ntmps100 rfl fun G w hp => ?_⟩
  repeat' (first | refine l_run ?_ | refine l_nil ?_ | refine l_one ?_ | refine k_reg ?_ | refine l_ld ?_ | refine l_ldF ?_ | refine l_st ?_ | refine l_al (fun b => ?_) | refine l_bs (fun b => ?_) | refine k_condT ?_ | refine k_condF ?_ | refine k_brk ?_ | refine l_call (readStr_ok _ _ _ _ s _ _ _ (ptext s.rest most) hb (ptext_le _ _) (textF_ok _ _ _ _ most (by omega))) (fun _ _ => ?_) | refine l_call0 (readStr_ok _ _ _ _ s _ _ _ (ptext s.rest most) hb (ptext_le _ _) (textF_ok _ _ _ _ most (by omega))) (fun _ _ => ?_) | (refine l_split (fun hc => ?_) (fun hc => ?_) <;> (try simp at hc)) | (refine k_cond (fun hc => ?_) (fun hc => ?_) <;> (try simp at hc)))
  rename_i q _
  exact k_ret q rfl trivial

theorem newReader_ok (o : Option Addr) (cap : Nat) (bs : List UInt8) (hlen : bs.length ≤ 1099511627776) :
    Enters 98 ∧ Spec Tryz.prog 98 #[.slice o bs.length cap] [] [Row 5 1 o bs.length cap (byt bs)]
      ⟨Nat × Option Addr × Nat, fun q => .pointer (some ⟨q.1, 0, none⟩), fun _ => True, fun q => [Sl 5 bf q.2.1 q.2.2 bs], fun q => [Rdr q.1 q.2.1 q.2.2 ⟨bs, 0, 0⟩, Row 5 1 o bs.length cap (byt bs)]⟩ := by
  refine ⟨enters_of Tryz.func98 (by kernel_rfl) rfl, spec_of (vs := [_]) Tryz.func98 rfl Tryz.ntmps98 rfl fun G w hp => ?_⟩
  repeat' (first | refine l_run ?_ | refine l_nil ?_ | refine l_one ?_ | refine k_reg ?_ | refine l_ld ?_ | refine l_ldF ?_ | refine l_st ?_ | refine l_al (fun b => ?_) | refine l_bs (fun b => ?_) | refine k_condT ?_ | refine k_condF ?_ | refine k_brk ?_ | refine l_call (clone_ok _ _ _ hlen) (fun _ _ => ?_) | refine l_call0 (clone_ok _ _ _ hlen) (fun _ _ => ?_) | (refine l_split (fun hc => ?_) (fun hc => ?_) <;> (try simp at hc)) | (refine k_cond (fun hc => ?_) (fun hc => ?_) <;> (try simp at hc)))
  rename_i q _
  refine k_frz (sz := 1) (f := bf) (o := q.1) (cap := q.2) bs ?_ (byt_flat bs) rfl
  exact k_ret (b, q.1, q.2) rfl trivial

theorem rdrClose_ok (b : Nat) (o : Option Addr) (cap : Nat) (s : RS) :
    Enters 101 ∧ Spec Tryz.prog 101 #[.pointer (some ⟨b, 0, none⟩)] [] [Rdr b o cap s]
      ⟨Unit, fun _ => .int .i64 (if s.err ≠ 0 then s.err else if s.rest = [] then 0 else 5), fun _ => True, fun _ => [], fun _ => [Rdr b o cap s]⟩ := by
  refine ⟨enters_of Tryz.func101 (by kernel_rfl) rfl, spec_of (vs := [_]) Tryz.func101 rfl Tryz.ntmps101 rfl fun G w hp => ?_⟩
  unfold Rdr
  repeat' (first | refine l_run ?_ | refine l_nil ?_ | refine l_one ?_ | refine k_reg ?_ | refine l_ld ?_ | refine l_ldF ?_ | refine l_st ?_ | refine l_al (fun b => ?_) | refine l_bs (fun b => ?_) | refine k_condT ?_ | refine k_condF ?_ | refine k_brk ?_ | (refine l_split (fun hc => ?_) (fun hc => ?_) <;> (try simp at hc)) | (refine k_cond (fun hc => ?_) (fun hc => ?_) <;> (try simp at hc)))
  all_goals (refine k_ret () ?_ trivial; simp_all [resV, List.length_pos_iff])
end Go.Proofs.YtijaglinajfplaaGreatDoor
