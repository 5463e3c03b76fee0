/-
  The contract of a ledger's Waiting, for at most 20 outputs.
  The contract of a ledger's Waiting, for at most 19 outputs.
  The example of layer 39, in plain numbers.
  The contract of the example of layer 39, known.
  Contracts of the statements' own functions of layer 39: shortO, short, check, put, value, leave, find, encoding.
  Conditions: those that each theorem states.
-/
import Derived.Test.YtiggkcknmjgicaaGreatDoorMT
import Derived.Test.YtiggkcknmjgicaaGreatDoorMF
import Derived.Test.YtiggkcknmjgicaaGreatDoorME
set_option maxRecDepth 10000
namespace Go.Proofs.YtiggkcknmjgicaaGreatDoor
open Go.RowKit

theorem waitCmp_ok (a c : En) : Enters 81 ∧ Spec Tryz.prog 81 #[a.w, c.w] [] [] (RetV (.int .i64 (cmpT a c))) := by
  have n1 := cmp_int a.tk c.tk
  refine ⟨enters_of Tryz.func81 (by kernel_rfl) rfl, spec_of (vs := [_, _]) Tryz.func81 rfl Tryz.ntmps81 rfl fun G w hp => ?_⟩
  repeat' (first | refine l_run ?_ | refine l_nil ?_ | refine l_one ?_ | refine k_reg ?_ | refine l_ld ?_ | refine l_ldF ?_ | refine l_st ?_ | refine l_al (fun b => ?_) | refine l_bs (fun b => ?_) | refine k_condT ?_ | refine k_condF ?_ | refine k_brk ?_ | refine l_call (n1) (fun _ _ => ?_) | refine l_call0 (n1) (fun _ _ => ?_) | (refine l_split (fun hc => ?_) (fun hc => ?_) <;> (try simp at hc)) | (refine k_cond (fun hc => ?_) (fun hc => ?_) <;> (try simp at hc)))
  exact k_ret () rfl trivial

set_option maxHeartbeats 1000000 in
theorem stableE_ok (b cap : Nat) (es : List En) (q : List Value × (Nat × Nat)) (fv : FuncId) (Fc : Pf) (c : En → En → Int) (hn : es.length ≤ 20) (hq : AxOK (es.length * 7) q)
    (hcmp : ∀ x y, x ∈ es → y ∈ es → Enters fv ∧ Spec Tryz.prog fv #[x.w, y.w] [Fc] [] (RetV (.int .i64 (c x y)))) :
    Enters 79 ∧ Spec Tryz.prog 79 #[.slice (some ⟨b, 0, none⟩) es.length cap, .int .i64 (es.length : Int), .func (.func fv) #[] #[]] [Fc] [Ax 74 enf b es q]
      ⟨Unit, fun _ => .tuple #[], fun _ => True, fun _ => [], fun _ => [Ax 74 enf b (isR c es) q]⟩ := by
  have s1 : Enters 130 ∧ Spec Tryz.prog 130 #[.slice (some ⟨b, 0, none⟩) es.length cap, .int .i64 0, .int .i64 (es.length : Int), .func (.func fv) #[] #[]] [Fc] [Ax 74 enf b es q]
      ⟨Unit, fun _ => .tuple #[], fun _ => True, fun _ => [], fun _ => [Ax 74 enf b (isR c es) q]⟩ := by
    have h := insWE_ok b cap q fv Fc c (fun x => x ∈ es) (fun x y hx hy => hcmp x y hx hy) [] es [] es.length (by simp) (by omega) hq (fun x hx => by simpa using hx)
    simp only [List.nil_append, List.append_nil, List.length_nil, Nat.zero_add] at h
    exact h
  by_cases h20 : es.length = 20
  · have hl := isR_len (c := c) es
    have hm : ∀ x, x ∈ isR c es → x ∈ es := fun x hx => (isR_perm es).mem_iff.1 hx
    have s2 : Enters 130 ∧ Spec Tryz.prog 130 #[.slice (some ⟨b, 0, none⟩) es.length cap, .int .i64 20, .int .i64 (es.length : Int), .func (.func fv) #[] #[]] [Fc] [Ax 74 enf b (isR c es) q]
        ⟨Unit, fun _ => .tuple #[], fun _ => True, fun _ => [], fun _ => [Ax 74 enf b (isR c es) q]⟩ := by
      have h := insWE_ok b cap q fv Fc c (fun x => x ∈ es) (fun x y hx hy => hcmp x y hx hy) (isR c es) [] [] es.length (by simp [hl]) (by omega) hq (fun x hx => by simp at hx; exact hm x hx)
      simp only [List.nil_append, List.append_nil, List.length_nil, Nat.add_zero, hl, show isR c ([] : List En) = [] from rfl] at h
      rw [h20] at h ⊢
      exact h
    rw [h20] at s1 s2 ⊢
    refine ⟨enters_of Tryz.func79 (by kernel_rfl) rfl, spec_of (vs := [_, _, _]) Tryz.func79 rfl Tryz.ntmps79 rfl fun G w hp => ?_⟩
    repeat' (first | refine l_run ?_ | refine l_nil ?_ | refine l_one ?_ | refine k_reg ?_ | refine l_ld ?_ | refine l_ldF ?_ | refine l_st ?_ | refine l_al (fun b => ?_) | refine l_bs (fun b => ?_) | refine k_condT ?_ | refine k_condF ?_ | refine k_brk ?_ | refine l_split (fun hc => ?_) (fun hc => ?_) | refine k_cond (fun hc => ?_) (fun hc => ?_))
    refine k_lp (X := Bool) (fun r => [(0, .slice (some ⟨b, 0, none⟩) 20 cap), (1, .int .i64 ((20 : Nat) : Int)), (2, .func (.func fv) #[] #[]), (6, .int .i64 20), (7, .int .i64 (if r then 20 else 0)), (8, .int .i64 (if r then 40 else 20))]) (fun _ => [Fc]) (fun r => [Ax 74 enf b (if r then isR c es else es) q]) (fun r => if r then 0 else 1) false ⟨rfl, rfl, rfl, rfl, rfl, rfl, trivial⟩ ?_
    rintro (_ | _)
    · repeat' (first | refine l_run ?_ | refine l_nil ?_ | refine l_one ?_ | refine k_reg ?_ | refine l_ld ?_ | refine l_ldF ?_ | refine l_st ?_ | refine l_al (fun b => ?_) | refine l_bs (fun b => ?_) | refine k_condT ?_ | refine k_condF ?_ | refine l_call (s1) (fun _ _ => ?_) | refine l_call0 (s1) (fun _ _ => ?_) | (refine l_split (fun hc => ?_) (fun hc => ?_) <;> (try simp at hc) <;> (try omega)) | (refine k_cond (fun hc => ?_) (fun hc => ?_) <;> (try simp at hc) <;> (try omega)))
      exact k_next true (by decide) ⟨rfl, rfl, rfl, rfl, rfl, rfl, trivial⟩
    · repeat' (first | refine l_run ?_ | refine l_nil ?_ | refine l_one ?_ | refine k_reg ?_ | refine l_ld ?_ | refine l_ldF ?_ | refine l_st ?_ | refine l_al (fun b => ?_) | refine l_bs (fun b => ?_) | refine k_condT ?_ | refine k_condF ?_ | refine k_brk ?_ | refine l_call (s2) (fun _ _ => ?_) | refine l_call0 (s2) (fun _ _ => ?_) | (refine l_split (fun hc => ?_) (fun hc => ?_) <;> (try simp at hc) <;> (try omega)) | (refine k_cond (fun hc => ?_) (fun hc => ?_) <;> (try simp at hc) <;> (try omega)))
      refine k_lp (X := Unit) (fun _ => [(1, .int .i64 ((20 : Nat) : Int)), (6, .int .i64 20)]) (fun _ => []) (fun _ => [Ax 74 enf b (isR c es) q]) (fun _ => 0) () ⟨rfl, rfl, trivial⟩ ?_
      rintro ⟨⟩
      repeat' (first | refine l_run ?_ | refine l_nil ?_ | refine l_one ?_ | refine k_reg ?_ | refine l_ld ?_ | refine l_ldF ?_ | refine l_st ?_ | refine l_al (fun b => ?_) | refine l_bs (fun b => ?_) | refine k_condT ?_ | refine k_condF ?_ | refine k_brk ?_ | (refine l_split (fun hc => ?_) (fun hc => ?_) <;> (try simp at hc) <;> (try omega)) | (refine k_cond (fun hc => ?_) (fun hc => ?_) <;> (try simp at hc) <;> (try omega)))
      exact k_end () rfl trivial
  · refine ⟨enters_of Tryz.func79 (by kernel_rfl) rfl, spec_of (vs := [_, _, _]) Tryz.func79 rfl Tryz.ntmps79 rfl fun G w hp => ?_⟩
    repeat' (first | refine l_run ?_ | refine l_nil ?_ | refine l_one ?_ | refine k_reg ?_ | refine l_ld ?_ | refine l_ldF ?_ | refine l_st ?_ | refine l_al (fun b => ?_) | refine l_bs (fun b => ?_) | refine k_condT ?_ | refine k_condF ?_ | refine k_brk ?_ | refine l_split (fun hc => ?_) (fun hc => ?_) | refine k_cond (fun hc => ?_) (fun hc => ?_))
    refine k_lp (X := Unit) (fun _ => [(0, .slice (some ⟨b, 0, none⟩) es.length cap), (1, .int .i64 (es.length : Int)), (2, .func (.func fv) #[] #[]), (6, .int .i64 20), (7, .int .i64 0), (8, .int .i64 20)]) (fun _ => [Fc]) (fun _ => [Ax 74 enf b es q]) (fun _ => 0) () ⟨rfl, rfl, rfl, rfl, rfl, rfl, trivial⟩ ?_
    rintro ⟨⟩
    repeat' (first | refine l_run ?_ | refine l_nil ?_ | refine l_one ?_ | refine k_reg ?_ | refine l_ld ?_ | refine l_ldF ?_ | refine l_st ?_ | refine l_al (fun b => ?_) | refine l_bs (fun b => ?_) | refine k_condT ?_ | refine k_condF ?_ | refine k_brk ?_ | refine l_call (s1) (fun _ _ => ?_) | refine l_call0 (s1) (fun _ _ => ?_) | (refine l_split (fun hc => ?_) (fun hc => ?_) <;> (try simp at hc) <;> (try omega)) | (refine k_cond (fun hc => ?_) (fun hc => ?_) <;> (try simp at hc) <;> (try omega)))
    refine k_lp (X := Unit) (fun _ => [(1, .int .i64 (es.length : Int)), (6, .int .i64 20)]) (fun _ => []) (fun _ => [Ax 74 enf b (isR c es) q]) (fun _ => 0) () ⟨rfl, rfl, trivial⟩ ?_
    rintro ⟨⟩
    repeat' (first | refine l_run ?_ | refine l_nil ?_ | refine l_one ?_ | refine k_reg ?_ | refine l_ld ?_ | refine l_ldF ?_ | refine l_st ?_ | refine l_al (fun b => ?_) | refine l_bs (fun b => ?_) | refine k_condT ?_ | refine k_condF ?_ | refine k_brk ?_ | (refine l_split (fun hc => ?_) (fun hc => ?_) <;> (try simp at hc) <;> (try omega)) | (refine k_cond (fun hc => ?_) (fun hc => ?_) <;> (try simp at hc) <;> (try omega)))
    exact k_end () rfl trivial

theorem insE0b_ok (o : Option Addr) (cap : Nat) (fv : FuncId) : Enters 79 ∧ Spec Tryz.prog 79 #[.slice o 0 cap, .int .i64 0, .func (.func fv) #[] #[]] [] [] ⟨Unit, fun _ => .tuple #[], fun _ => True, fun _ => [], fun _ => []⟩ := by
  have s1 := insE0_ok o cap fv
  refine ⟨enters_of Tryz.func79 (by kernel_rfl) rfl, spec_of (vs := [_, _, _]) Tryz.func79 rfl Tryz.ntmps79 rfl fun G w hp => ?_⟩
  repeat' (first | refine l_run ?_ | refine l_nil ?_ | refine l_one ?_ | refine k_reg ?_ | refine l_ld ?_ | refine l_ldF ?_ | refine l_st ?_ | refine l_al (fun b => ?_) | refine l_bs (fun b => ?_) | refine k_condT ?_ | refine k_condF ?_ | refine k_brk ?_ | refine l_split (fun hc => ?_) (fun hc => ?_) | refine k_cond (fun hc => ?_) (fun hc => ?_))
  refine k_lp (X := Unit) (fun _ => [(0, .slice o 0 cap), (1, .int .i64 0), (2, .func (.func fv) #[] #[]), (6, .int .i64 20), (7, .int .i64 0), (8, .int .i64 20)]) (fun _ => []) (fun _ => []) (fun _ => 0) () ⟨rfl, rfl, rfl, rfl, rfl, rfl, trivial⟩ ?_
  rintro ⟨⟩
  repeat' (first | refine l_run ?_ | refine l_nil ?_ | refine l_one ?_ | refine k_reg ?_ | refine l_ld ?_ | refine l_ldF ?_ | refine l_st ?_ | refine l_al (fun b => ?_) | refine l_bs (fun b => ?_) | refine k_condT ?_ | refine k_condF ?_ | refine k_brk ?_ | refine l_call (s1) (fun _ _ => ?_) | refine l_call0 (s1) (fun _ _ => ?_) | (refine l_split (fun hc => ?_) (fun hc => ?_) <;> (try simp at hc) <;> (try omega)) | (refine k_cond (fun hc => ?_) (fun hc => ?_) <;> (try simp at hc) <;> (try omega)))
  refine k_lp (X := Unit) (fun _ => [(1, .int .i64 0), (6, .int .i64 20)]) (fun _ => []) (fun _ => []) (fun _ => 0) () ⟨rfl, rfl, trivial⟩ ?_
  rintro ⟨⟩
  repeat' (first | refine l_run ?_ | refine l_nil ?_ | refine l_one ?_ | refine k_reg ?_ | refine l_ld ?_ | refine l_ldF ?_ | refine l_st ?_ | refine l_al (fun b => ?_) | refine l_bs (fun b => ?_) | refine k_condT ?_ | refine k_condF ?_ | refine k_brk ?_ | (refine l_split (fun hc => ?_) (fun hc => ?_) <;> (try simp at hc) <;> (try omega)) | (refine k_cond (fun hc => ?_) (fun hc => ?_) <;> (try simp at hc) <;> (try omega)))
  exact k_end () rfl trivial

theorem sortStableE_ok (o : Option Addr) (cap : Nat) (es : List En) (fv : FuncId) (Fc : Pf) (c : En → En → Int) (hn : es.length ≤ 20)
    (hcmp : ∀ x y, x ∈ es → y ∈ es → Enters fv ∧ Spec Tryz.prog fv #[x.w, y.w] [Fc] [] (RetV (.int .i64 (c x y)))) :
    Enters 31 ∧ Spec Tryz.prog 31 #[.slice o es.length cap, .func (.func fv) #[] #[]] [Fc] [Row 74 7 o es.length cap (es.flatMap enf)]
      ⟨Unit, fun _ => .tuple #[], fun _ => True, fun _ => [], fun _ => [Row 74 7 o es.length cap ((isR c es).flatMap enf)]⟩ := by
  by_cases h0 : es = []
  · subst h0
    refine ⟨enters_of Tryz.func31 (by kernel_rfl) rfl, spec_of (vs := [_, _]) Tryz.func31 rfl Tryz.ntmps31 rfl fun G w hp => ?_⟩
    have s3 := insE0b_ok o cap fv
    repeat' (first | refine l_run ?_ | refine l_nil ?_ | refine l_one ?_ | refine k_reg ?_ | refine l_ld ?_ | refine l_ldF ?_ | refine l_st ?_ | refine l_al (fun b => ?_) | refine l_bs (fun b => ?_) | refine k_condT ?_ | refine k_condF ?_ | refine k_brk ?_ | refine l_call (s3) (fun _ _ => ?_) | refine l_call0 (s3) (fun _ _ => ?_) | (refine l_split (fun hc => ?_) (fun hc => ?_) <;> (try simp at hc)) | (refine k_cond (fun hc => ?_) (fun hc => ?_) <;> (try simp at hc)))
    exact k_end () rfl trivial
  · have hlen : 0 < es.length := List.length_pos_iff.2 h0
    refine ⟨enters_of Tryz.func31 (by kernel_rfl) rfl, spec_of (vs := [_, _]) Tryz.func31 rfl Tryz.ntmps31 rfl fun G w hp => ?_⟩
    refine k_row hlen fun p hp => ?_
    have hq : AxOK (es.length * 7) p.2 := by
      rcases hp.f with h | h
      · exact .inl h
      · exact .inr (by rw [List.length_append, hp.l] at h; exact h)
    have ho := hp.o
    subst ho
    have s3 := stableE_ok p.1 cap es p.2 fv Fc c hn hq hcmp
    repeat' (first | refine l_run ?_ | refine l_nil ?_ | refine l_one ?_ | refine k_reg ?_ | refine l_ld ?_ | refine l_ldF ?_ | refine l_st ?_ | refine l_al (fun b => ?_) | refine l_bs (fun b => ?_) | refine k_condT ?_ | refine k_condF ?_ | refine k_brk ?_ | refine l_call (s3) (fun _ _ => ?_) | refine l_call0 (s3) (fun _ _ => ?_) | (refine l_split (fun hc => ?_) (fun hc => ?_) <;> (try simp at hc)) | (refine k_cond (fun hc => ?_) (fun hc => ?_) <;> (try simp at hc)))
    have hll := isR_len (c := c) es
    generalize isR c es = l at *
    refine k_shut (r := Row 74 7 (some ⟨p.1, 0, none⟩) es.length cap (l.flatMap enf)) (Lx := [Ax 74 enf p.1 l p.2]) (fun h hh => row_shut (q := p) ⟨rfl, by rw [flat_len (f := enf) (sz := 7) (fun _ => rfl), hll], by rw [← hp.c, List.length_append, List.length_append, flat_len (f := enf) (sz := 7) (fun _ => rfl), flat_len (f := enf) (sz := 7) (fun _ => rfl), hll], hp.m, by rw [List.length_append, flat_len (f := enf) (sz := 7) (fun _ => rfl), hll]; rcases hp.f with h | h; exact .inl h; exact .inr (by rw [List.length_append, hp.l] at h; exact h)⟩ h hh) ?_
    exact k_end () rfl trivial
end Go.Proofs.YtiggkcknmjgicaaGreatDoor

set_option maxRecDepth 10000
namespace Go.Proofs.YtiggkcknmjgicaaGreatDoor
open Go.RowKit

section
variable {n : Nat} {C : Cx} {Q : Exit → Act → World → Prop} {E E' : List (Nat × Value)} {F F' F1 Fs F0 : List Pf} {R R' R0 Rs N N' A : List HP} {k k' : List Fr} {ops l : List Oper}
  {i d : Nat} {t ty0 : TypeId} {x y z : Operand} {pos : String} {aft : Array Edge} {gd : Option (Nat × Bool)} {α β : Type} [DecidableEq α] {K : α → Value} {V : β → Value}
theorem l_mgetN {kt et r : Nat} {rs te : TRow} {m : List (α × β)} {zv : Value} (hk : KeyOK kt K) (a : α) (o : Option β) (ho : mget a m = o) (nx : Wl n C ops.toArray k Q l ((d, (o.map V).getD zv) :: E) F R) (hw : wantL ops E ⟨some d, .lookup t x y false, ty0, pos, aft, gd⟩ = some true := by rfl) (hn : Nat.blt d n = true := by rfl)
    (hx : ev E x = some (.map (some r)) := by rfl) (hy : ev E y = some (K a) := by rfl) (hts : lookT tab t = some rs := by rfl) (hrs : rs.k = .map kt et := by rfl) (hte : lookT tab et = some te := by rfl) (hzv : zval te = some zv := by rfl)
    (hs : Sel (Mp K V r m) R R0 := by (repeat (first | exact Sel.here | apply Sel.there)); first | done | fail) : Wl n C ops.toArray k Q (⟨some d, .lookup t x y false, ty0, pos, aft, gd⟩ :: l) E F R := by
  rw [← ho] at nx
  exact l_mget hk a nx hw hn hx hy hts hrs hte hzv hs
end

def tv (_ : Unit) : Value := .bool true
/-- The identities of what has left. -/
def idm (ls : List Lf) : List (Idn × Unit) := ls.foldl (fun m x => mset x.e.id () m) []
theorem idm_snoc (ls : List Lf) (x : Lf) : idm (ls ++ [x]) = mset x.e.id () (idm ls) := by simp [idm]
/-- What waits. -/
def wtL (m : List (Idn × Unit)) (l : List En) : List En := l.filter fun e => (mget e.id m).isNone
theorem wtL_snoc (m : List (Idn × Unit)) (l : List En) (e : En) : wtL m (l ++ [e]) = if (mget e.id m).isNone then wtL m l ++ [e] else wtL m l := by
  unfold wtL
  rw [List.filter_append]
  by_cases h : (mget e.id m).isNone
  · simp [h]
  · simp [h]
def wtE (es : Al) (ls : List Lf) : List En := wtL (idm ls) (allE es)

structure WX (m : List (Idn × Unit)) (all : List En) where
  i : Nat
  o : Option Addr
  cap : Nat
  hi : i ≤ all.length

def WtPost (b : Nat) (es : Al) (ls : List Lf) : Post := ⟨List En × Option Addr × Nat, fun q => .slice q.2.1 q.1.length q.2.2, fun q => q.1 = isR cmpT (wtE es ls), fun _ => [], fun q => [Lg b ls, Row 74 7 q.2.1 q.1.length q.2.2 (q.1.flatMap enf)]⟩

def WtG (b : Nat) (all : List En) (ls : List Lf) : Post := ⟨List En × Option Addr × Nat, fun q => .slice q.2.1 q.1.length q.2.2, fun q => q.1 = isR cmpT (wtL (idm ls) all), fun _ => [], fun q => [Lg b ls, Row 74 7 q.2.1 q.1.length q.2.2 (q.1.flatMap enf)]⟩
set_option maxHeartbeats 2000000 in
theorem waitG_ok (b : Nat) (ps : Option Addr) (Sf : Pf) (all : List En) (ls : List Lf) (hl : all.length ≤ 20) (hls : ls.length ≤ 1000000) (nA : Enters 25 ∧ Spec Tryz.prog 25 #[.pointer ps] [Sf] []
    ⟨Option Addr × Nat, fun q => .slice q.1 all.length q.2, fun _ => True, fun q => [Sl 74 enf q.1 q.2 all], fun _ => []⟩) :
    Enters 33 ∧ Spec Tryz.prog 33 #[.pointer (some ⟨b, 0, none⟩), .pointer ps] [Sf, Usg] [Lg b ls] (WtG b all ls) := by
  refine ⟨enters_of Tryz.func33 (by kernel_rfl) rfl, spec_of (vs := [_, _]) Tryz.func33 rfl Tryz.ntmps33 rfl fun G w hp => ?_⟩
  refine k_lg fun q => ?_
  obtain ⟨o, cap⟩ := q
  repeat' (first | refine l_run ?_ | refine l_nil ?_ | refine l_one ?_ | refine k_reg ?_ | refine l_ld ?_ | refine l_ldF ?_ | refine l_st ?_ | refine l_al (fun b => ?_) | refine l_bs (fun b => ?_) | refine k_condT ?_ | refine k_condF ?_ | refine k_brk ?_ | refine l_mkm (K := Idn.v) (kt := 157) (et := 4) key_id tv (fun r => ?_) | (refine l_split (fun hc => ?_) (fun hc => ?_) <;> (try simp at hc)) | (refine k_cond (fun hc => ?_) (fun hc => ?_) <;> (try simp at hc)))
  refine k_lpx (X := { i : Nat // i ≤ ls.length }) (Y := Unit) (fun i => [(0, .pointer (some ⟨b, 0, none⟩)), (1, .pointer ps), (5, .map (some r)), (17, .slice o ls.length cap), (18, .int .i64 (ls.length : Int)), (19, .int .i64 (i.1 : Int))]) (fun _ => [Sf, Usg])
    (fun i => [Mp Idn.v tv r (idm (ls.take i.1)), Pt b (.cells #[.slice o ls.length cap] 153), Row 89 9 o ls.length cap (ls.flatMap lff)]) (fun i => ls.length - i.1)
    (fun _ => [(1, .pointer ps), (5, .map (some r))]) (fun _ => [Sf, Usg]) (fun _ => [Mp Idn.v tv r (idm ls), Pt b (.cells #[.slice o ls.length cap] 153), Row 89 9 o ls.length cap (ls.flatMap lff)]) ⟨0, by omega⟩ ⟨rfl, rfl, rfl, rfl, rfl, rfl, trivial⟩ ?_ ?_
  · rintro ⟨⟩
    repeat' (first | refine l_run ?_ | refine l_nil ?_ | refine l_one ?_ | refine k_reg ?_ | refine l_ld ?_ | refine l_ldF ?_ | refine l_st ?_ | refine l_al (fun b => ?_) | refine l_bs (fun b => ?_) | refine k_condT ?_ | refine k_condF ?_ | refine k_brk ?_ | refine l_call (nA) (fun _ _ => ?_) | refine l_call0 (nA) (fun _ _ => ?_) | (refine l_split (fun hc => ?_) (fun hc => ?_) <;> (try simp at hc)) | (refine k_cond (fun hc => ?_) (fun hc => ?_) <;> (try simp at hc)))
    rename_i qa _
    obtain ⟨ao, ac⟩ := qa
    refine k_shut (r := Row 74 7 none 0 0 []) (Lx := []) (fun h _ => row_nil _ _ h) ?_
    refine k_lpx (X := { t : Nat × Option Addr × Nat // t.1 ≤ all.length }) (Y := Option Addr × Nat)
      (fun t => [(5, .map (some r)), (8, .slice t.1.2.1 (wtL (idm ls) (all.take t.1.1)).length t.1.2.2), (29, .slice ao all.length ac), (30, .int .i64 (all.length : Int)), (31, .int .i64 (t.1.1 : Int))]) (fun _ => [Sl 74 enf ao ac all, Usg])
      (fun t => [Mp Idn.v tv r (idm ls), Pt b (.cells #[.slice o ls.length cap] 153), Row 89 9 o ls.length cap (ls.flatMap lff), Row 74 7 t.1.2.1 (wtL (idm ls) (all.take t.1.1)).length t.1.2.2 ((wtL (idm ls) (all.take t.1.1)).flatMap enf)]) (fun t => all.length - t.1.1)
      (fun q => [(8, .slice q.1 (wtL (idm ls) all).length q.2)]) (fun _ => [Usg]) (fun q => [Pt b (.cells #[.slice o ls.length cap] 153), Row 89 9 o ls.length cap (ls.flatMap lff), Row 74 7 q.1 (wtL (idm ls) all).length q.2 ((wtL (idm ls) all).flatMap enf)])
      ⟨(0, none, 0), by omega⟩ ⟨rfl, rfl, rfl, rfl, rfl, trivial⟩ ?_ ?_
    · rintro ⟨qo, qc⟩
      have hwl : (wtL (idm ls) all).length ≤ 20 := Nat.le_trans (List.length_filter_le ..) hl
      have n2 := sortStableE_ok qo qc (wtL (idm ls) all) 81 Usg cmpT hwl (fun x y _ _ => ⟨(waitCmp_ok x y).1, (waitCmp_ok x y).2.more⟩)
      repeat' (first | refine l_run ?_ | refine l_nil ?_ | refine l_one ?_ | refine k_reg ?_ | refine l_ld ?_ | refine l_ldF ?_ | refine l_st ?_ | refine l_al (fun b => ?_) | refine l_bs (fun b => ?_) | refine k_condT ?_ | refine k_condF ?_ | refine k_brk ?_ | refine l_call (n2) (fun _ _ => ?_) | refine l_call0 (n2) (fun _ _ => ?_) | (refine l_split (fun hc => ?_) (fun hc => ?_) <;> (try simp at hc)) | (refine k_cond (fun hc => ?_) (fun hc => ?_) <;> (try simp at hc)))
      obtain ⟨l, hl2⟩ : ∃ l, l = isR cmpT (wtL (idm ls) all) := ⟨_, rfl⟩
      rw [← hl2]
      have e3 : (wtL (idm ls) all).length = l.length := by rw [hl2, isR_len]
      refine k_rowc (T := 74) (sz := 7) (o := qo) (cap := qc) (m := (wtL (idm ls) all).length) _ _ e3 rfl ?_
      refine k_lg' (ls := ls) (o := o) (cap := cap) ?_ rfl rfl
      exact k_ret (post := WtG b all ls) (l, qo, qc) (by show resV [Value.slice qo (wtL (idm ls) all).length qc] = _; rw [e3]; rfl) hl2
    · intro hx
      rintro ⟨⟨i, wo, wc⟩, hi⟩
      dsimp only at hi ⊢
      by_cases hlt : i < all.length
      · have hgt := List.getElem?_eq_getElem hlt
        obtain ⟨x, hxx⟩ : ∃ x, all[i] = x := ⟨_, rfl⟩
        rw [hxx] at hgt
        have n1 := identity_ok x
        have hwl : (wtL (idm ls) (all.take i)).length ≤ 19 := Nat.le_trans (List.length_filter_le ..) (by simp; omega)
        have et : all.take (i + 1) = all.take i ++ [x] := by rw [List.take_succ_eq_append_getElem hlt, hxx]
        cases hm : mget x.id (idm ls) with
        | none =>
          have e0 : wtL (idm ls) (all.take (i + 1)) = wtL (idm ls) (all.take i) ++ [x] := by rw [et, wtL_snoc, hm]; rfl
          repeat' (first | refine l_run ?_ | refine l_nil ?_ | refine l_one ?_ | refine k_reg ?_ | refine l_ld ?_ | refine l_ldF ?_ | refine l_st ?_ | refine l_al (fun b => ?_) | refine l_bs (fun b => ?_) | refine k_condT ?_ | refine k_condF ?_ | refine l_call (n1) (fun _ _ => ?_) | refine l_call0 (n1) (fun _ _ => ?_) | refine l_ixe i x hgt (fun b off => ?_) | refine l_ldC ?_ | refine l_mgetN (V := tv) key_id x.id none hm ?_ | refine l_app1 (fun o' cap' => ?_) | (refine l_split (fun hc => ?_) (fun hc => ?_) <;> (try simp at hc) <;> (try omega)) | (refine k_cond (fun hc => ?_) (fun hc => ?_) <;> (try simp at hc) <;> (try omega)))
          rw [wrapi (z := (i : Int) + 1) (by omega) (by omega)]
          have e1 : (wtL (idm ls) (all.take i)).length + 1 = (wtL (idm ls) (all.take (i + 1))).length := by rw [e0]; simp
          have e2 : (wtL (idm ls) (all.take i)).flatMap enf ++ enf x = (wtL (idm ls) (all.take (i + 1))).flatMap enf := by rw [e0]; simp
          refine k_rowc (T := 74) (sz := 7) (o := o') (cap := cap') (m := (wtL (idm ls) (all.take i)).length + 1) _ _ e1 e2 ?_
          exact k_next ⟨(i + 1, o', cap'), by simp; omega⟩ (by show all.length - (i + 1) < all.length - i; omega) ⟨rfl, (by show look _ _ = some (Value.slice o' (wtL (idm ls) (all.take (i + 1))).length cap'); rw [← e1]; rfl), rfl, rfl, rfl, trivial⟩
        | some u =>
          have e0 : wtL (idm ls) (all.take (i + 1)) = wtL (idm ls) (all.take i) := by rw [et, wtL_snoc, hm]; rfl
          repeat' (first | refine l_run ?_ | refine l_nil ?_ | refine l_one ?_ | refine k_reg ?_ | refine l_ld ?_ | refine l_ldF ?_ | refine l_st ?_ | refine l_al (fun b => ?_) | refine l_bs (fun b => ?_) | refine k_condT ?_ | refine k_condF ?_ | refine l_call (n1) (fun _ _ => ?_) | refine l_call0 (n1) (fun _ _ => ?_) | refine l_ixe i x hgt (fun b off => ?_) | refine l_ldC ?_ | refine l_mgetN (V := tv) key_id x.id (some u) hm ?_ | (refine l_split (fun hc => ?_) (fun hc => ?_) <;> (try simp at hc) <;> (try omega)) | (refine k_cond (fun hc => ?_) (fun hc => ?_) <;> (try simp at hc) <;> (try omega)))
          rw [wrapi (z := (i : Int) + 1) (by omega) (by omega)]
          rw [← e0]
          exact k_next ⟨(i + 1, wo, wc), by simp; omega⟩ (by show all.length - (i + 1) < all.length - i; omega) ⟨rfl, rfl, rfl, rfl, rfl, trivial⟩
      · obtain rfl : i = all.length := by omega
        rw [List.take_length]
        repeat' (first | refine l_run ?_ | refine l_nil ?_ | refine l_one ?_ | refine k_reg ?_ | refine l_ld ?_ | refine l_ldF ?_ | refine l_st ?_ | refine l_al (fun b => ?_) | refine l_bs (fun b => ?_) | refine k_condT ?_ | refine k_condF ?_ | (refine l_split (fun hc => ?_) (fun hc => ?_) <;> (try simp at hc) <;> (try omega)) | (refine k_cond (fun hc => ?_) (fun hc => ?_) <;> (try simp at hc) <;> (try omega)))
        exact k_out hx (wo, wc) ⟨rfl, trivial⟩
  · intro hx
    rintro ⟨i, hi⟩
    dsimp only at hi ⊢
    by_cases hlt : i < ls.length
    · have hgt := List.getElem?_eq_getElem hlt
      obtain ⟨x, hxx⟩ : ∃ x, ls[i] = x := ⟨_, rfl⟩
      rw [hxx] at hgt
      have n1 := identity_ok x.e
      refine k_row (m := ls.length) (by omega) fun p hp => ?_
      have ho := hp.o
      subst ho
      have hsp : Ax 89 lff p.1 ls p.2 = Pt p.1 (.cells (ls.flatMap lff ++ p.2.1).toArray 89 p.2.2) := rfl
      rw [← hsp]
      repeat' (first | refine l_run ?_ | refine l_nil ?_ | refine l_one ?_ | refine k_reg ?_ | refine l_ld ?_ | refine l_ldF ?_ | refine l_st ?_ | refine l_al (fun b => ?_) | refine l_bs (fun b => ?_) | refine k_condT ?_ | refine k_condF ?_ | refine l_call (n1) (fun _ _ => ?_) | refine l_call0 (n1) (fun _ _ => ?_) | refine l_ixS (m := ls.length) i hlt ?_ | refine l_ldE 9 i 0 hgt ?_ | refine l_mset (V := tv) key_id x.e.id () ?_ | (refine l_split (fun hc => ?_) (fun hc => ?_) <;> (try simp at hc) <;> (try omega)) | (refine k_cond (fun hc => ?_) (fun hc => ?_) <;> (try simp at hc) <;> (try omega)))
      rw [wrapi (z := (i : Int) + 1) (by omega) (by omega)]
      have e1 : mset x.e.id () (idm (ls.take i)) = idm (ls.take (i + 1)) := by rw [List.take_succ_eq_append_getElem hlt, hxx, idm_snoc]
      rw [e1]
      refine k_shut (r := Row 89 9 (some ⟨p.1, 0, none⟩) ls.length cap (ls.flatMap lff)) (Lx := [Ax 89 lff p.1 ls p.2]) (fun h hh => row_shut hp h hh) ?_
      exact k_next ⟨i + 1, by omega⟩ (by show ls.length - (i + 1) < ls.length - i; omega) ⟨rfl, rfl, rfl, rfl, rfl, rfl, trivial⟩
    · obtain rfl : i = ls.length := by omega
      rw [List.take_length]
      repeat' (first | refine l_run ?_ | refine l_nil ?_ | refine l_one ?_ | refine k_reg ?_ | refine l_ld ?_ | refine l_ldF ?_ | refine l_st ?_ | refine l_al (fun b => ?_) | refine l_bs (fun b => ?_) | refine k_condT ?_ | refine k_condF ?_ | (refine l_split (fun hc => ?_) (fun hc => ?_) <;> (try simp at hc) <;> (try omega)) | (refine k_cond (fun hc => ?_) (fun hc => ?_) <;> (try simp at hc) <;> (try omega)))
      exact k_out hx () ⟨rfl, rfl, trivial⟩
theorem waiting_ok (b : Nat) (ps : Option Addr) (es : Al) (ls : List Lf) (hl : (allE es).length ≤ 20) (hls : ls.length ≤ 1000000) :
    Enters 33 ∧ Spec Tryz.prog 33 #[.pointer (some ⟨b, 0, none⟩), .pointer ps] [St ps es, Usg] [Lg b ls] (WtPost b es ls) :=
  waitG_ok b ps (St ps es) (allE es) ls hl hls (outAll_ok ps es)
end Go.Proofs.YtiggkcknmjgicaaGreatDoor

set_option maxRecDepth 10000
namespace Go.Proofs.YtiggkcknmjgicaaGreatDoor
open Go.RowKit

def w31 : ByteArray := ⟨#[51, 46, 49]⟩
def kA : Ou := ⟨1, ⟨#[97, 64, 98]⟩, ⟨#[104, 101, 108, 108, 111]⟩, 0⟩
def kB : Ou := ⟨2, ⟨#[108, 112]⟩, ⟨#[]⟩, 0⟩
theorem w31_valid : lvalid w31.data.toList = true := by
  have h := (prts_step [51, 46, 49] 0 0 (by simp)).2.2.2
  rw [show ffirst (([51, 46, 49] : List UInt8).drop 0) 0 0 = (⟨3, 0, 0⟩, 1) from rfl] at h
  have h2 := (prts_step [51, 46, 49] 2 1 (by simp)).2.2.2
  rw [show ffirst (([51, 46, 49] : List UInt8).drop 2) 2 1 = (⟨1, 2, 0⟩, 3) from rfl] at h2
  simp at h h2
  simp [w31, lvalid, lparts, h, h2]
theorem kA_chk : ochk kA = 0 := by
  have h1 : isE kA.tg = false := by simp [kA, isE, toList_data]
  have h3 : (kA.tg.data.toList.any bad2) = false := by simp [kA, bad2]
  unfold ochk
  rw [if_neg (by simp [kA]), if_neg (by simp [h1]), if_neg (by show ¬ 64 < (ByteArray.mk #[97, 64, 98]).size; decide), if_neg (by simp [h3]), if_neg (by show ¬ 4096 < (ByteArray.mk #[104, 101, 108, 108, 111]).size; decide), if_neg (by simp [kA])]
theorem kB_chk : ochk kB = 0 := by
  have h1 : isE kB.tg = false := by simp [kB, isE, toList_data]
  have h3 : (kB.tg.data.toList.any bad2) = false := by simp [kB, bad2]
  unfold ochk
  rw [if_neg (by simp [kB]), if_neg (by simp [h1]), if_neg (by show ¬ 64 < (ByteArray.mk #[108, 112]).size; decide), if_neg (by simp [h3]), if_neg (by show ¬ 4096 < (ByteArray.mk #[]).size; decide), if_neg (by simp [kB])]

theorem cnm_chk {who : ByteArray} (h : lvalid who.data.toList = true) : nchk (cnm who) = 0 := by
  have h2 : isE ⟨#[]⟩ = true := by simp [isE]
  rw [nchk, if_pos (by simp [cnm])]
  show uchk ⟨_, true, false, false, false, 0⟩ (cnm who) = 0
  have h1 : lvalid (cnm who).owner.data.toList = true := h
  simp [uchk, h, h2, cnm]
theorem onm_chk {who : ByteArray} {n t : Int} (h : lvalid who.data.toList = true) (hn : 0 ≤ n ∧ n ≤ 1073741824) (ht : 0 ≤ t ∧ t ≤ 1073741824) : nchk (onm who n t) = 0 := by
  have h2 : isE (onm who n t).text = true := by simp [onm, isE]
  rw [nchk, if_pos (by simp [onm])]
  show uchk ⟨_, true, true, true, false, 1073741824⟩ (onm who n t) = 0
  have h1 : lvalid (onm who n t).owner.data.toList = true := h
  have h3 : within (onm who n t).number 1073741824 = true := by simp [within, onm, hn]
  have h4 : within (onm who n t).index 1073741824 = true := by simp [within, onm, ht]
  simp [uchk, h1, h2, h3, h4]
theorem cdec_enc {c : Ct} (h : CtOK c) : cdec ⟨(cenc c).toArray⟩ = some c := by
  obtain ⟨h1, h2, h3, h4, h5, h6⟩ := h
  have e1 : ((c.b.toNat : Nat) : Int) = c.b := by omega
  have e2 : ((c.o.toNat : Nat) : Int) = c.o := by omega
  have e3 : ((c.c.toNat : Nat) : Int) = c.c := by omega
  unfold cdec cread
  have r1 := rnum_venc c.b.toNat (by omega) (venc c.o.toNat ++ venc c.c.toNat) 0 1048576 (by omega)
  have hl : cenc c = venc c.b.toNat ++ (venc c.o.toNat ++ venc c.c.toNat) := by simp [cenc]
  have r2 := rnum_venc c.o.toNat (by omega) (venc c.c.toNat) (0 + (venc c.b.toNat).length) 1048576 (by omega)
  have r3 := rnum_venc c.c.toNat (by omega) [] (0 + (venc c.b.toNat).length + (venc c.o.toNat).length) 1048576 (by omega)
  rw [List.append_nil] at r3
  simp only [hl, r1, r2, r3, e1, e2, e3]
  simp

def kc1 : Ct := ⟨0, 1, 0⟩
def kc2 : Ct := ⟨0, 2, 0⟩
theorem ctz_ok : CtOK Ct.z := by constructor <;> decide
theorem kc1_ok : CtOK kc1 := by constructor <;> decide
def cvl (c : Ct) : ByteArray := ⟨(cenc c).toArray⟩
def kcs1 : List Ch := snt w31 Ct.z 5 kA
def kcs2 : List Ch := kcs1 ++ snt w31 kc1 6 kB
def kes : Al := [(cnm w31, cvl kc2), (onm w31 0 5, oencS kA), (onm w31 1 6, oencS kB)]
def kEA : En := ⟨w31, 0, 5, kA⟩
def kEB : En := ⟨w31, 1, 6, kB⟩

theorem vget0 : vget [] [] (cnm w31) = (⟨#[]⟩, false) := by
  unfold vget
  rw [if_neg (by simp [cnm_chk w31_valid])]
  rfl
theorem made0 : madeE [] [] w31 = (Ct.z, 0) := by
  rw [madeE, if_pos w31_valid, vget0]; rfl
theorem vget1 : vget [] kcs1 (cnm w31) = (cvl kc1, true) := by
  unfold vget
  rw [if_neg (by simp [cnm_chk w31_valid])]
  have h : vcall kcs1 (cnm w31) = some ⟨cnm w31, cvl kc1, false⟩ := by
    show vcall ([⟨onm w31 0 5, oencS kA, false⟩] ++ [⟨cnm w31, cvl kc1, false⟩]) (cnm w31) = _
    rw [vcall_snoc, if_pos rfl]
  rw [h]; rfl
theorem made1 : madeE [] kcs1 w31 = (kc1, 0) := by
  unfold madeE
  rw [if_pos w31_valid, vget1]
  simp [cvl, cdec_enc kc1_ok]

theorem cmp_co (w : ByteArray) (n t : Int) : cmpO (cnm w) (onm w n t) < 0 := by
  have h : cmpI (cnm w).kind (onm w n t).kind = -1 := rfl
  unfold cmpO; rw [h, if_pos (by decide)]; decide
theorem cmp_oc (w : ByteArray) (n t : Int) : 0 < cmpO (onm w n t) (cnm w) := (cmpO_anti _ _).1 (cmp_co w n t)
theorem cmp_oo (w : ByteArray) (n n' t t' : Int) (h : n < n') : cmpO (onm w n t) (onm w n' t') < 0 := by
  have h1 : cmpI (onm w n t).kind (onm w n' t').kind = 0 := rfl
  have h2 : cmpN (onm w n t).owner (onm w n' t').owner = 0 := ord_lin.self _
  have h3 : cmpI (onm w n t).number (onm w n' t').number = -1 := by show cmpI n n' = -1; simp [cmpI, h]
  unfold cmpO; rw [h1, h2, h3, if_neg (by simp), if_neg (by simp), if_pos (by decide)]; decide

theorem klast : lastL kcs2 = [(onm w31 0 5, 0), (cnm w31, 3), (onm w31 1 6, 2)] := by
  have m1 : onm w31 0 5 ≠ cnm w31 := by simp [onm, cnm]
  have m2 : cnm w31 ≠ onm w31 0 5 := by simp [onm, cnm]
  have m3 : onm w31 1 6 ≠ cnm w31 := by simp [onm, cnm]
  have m4 : cnm w31 ≠ onm w31 1 6 := by simp [onm, cnm]
  have m5 : onm w31 1 6 ≠ onm w31 0 5 := by simp [onm]
  show lastG [⟨onm w31 0 5, oencS kA, false⟩, ⟨cnm w31, cvl kc1, false⟩, ⟨onm w31 1 6, oencS kB, false⟩, ⟨cnm w31, cvl kc2, false⟩] 0 [] = _
  simp [lastG, mset, m2, m3, m5]
theorem kvwr : vwr kcs2 = [⟨cnm w31, cvl kc2, false⟩, ⟨onm w31 0 5, oencS kA, false⟩, ⟨onm w31 1 6, oencS kB, false⟩] := by
  have h1 : cmpO (cnm w31) (onm w31 1 6) < 0 := cmp_co _ _ _
  have h2 : ¬ cmpO (onm w31 0 5) (cnm w31) < 0 := by have := cmp_oc w31 0 5; omega
  have h3 : cmpO (onm w31 0 5) (onm w31 1 6) < 0 := cmp_oo _ _ _ _ _ (by decide)
  have hl : (lastL kcs2).map (chAt kcs2) = [⟨onm w31 0 5, oencS kA, false⟩, ⟨cnm w31, cvl kc2, false⟩, ⟨onm w31 1 6, oencS kB, false⟩] := by rw [klast]; rfl
  show srtC ((lastL kcs2).map (chAt kcs2)) = _
  rw [hl]
  show srtC [⟨onm w31 0 5, oencS kA, false⟩, ⟨cnm w31, cvl kc2, false⟩, ⟨onm w31 1 6, oencS kB, false⟩] = _
  simp [srtC, insC, cmpC, h1, h2, h3]
theorem kapp : applyE [] (vwr kcs2) = kes := by
  rw [kvwr]
  have h1 := cmp_oc w31 0 5
  have h1' : ¬ cmpO (onm w31 0 5) (cnm w31) < 0 := by omega
  have h2 := cmp_oc w31 1 6
  have h2' : ¬ cmpO (onm w31 1 6) (cnm w31) < 0 := by omega
  have h3 : 0 < cmpO (onm w31 1 6) (onm w31 0 5) := (cmpO_anti _ _).1 (cmp_oo _ _ _ _ _ (by decide))
  have h3' : ¬ cmpO (onm w31 1 6) (onm w31 0 5) < 0 := by omega
  simp [applyE, insO, h1, h1', h2, h2', h3, h3', kes]
theorem kall : allE kes = [kEA, kEB] := by
  have hk : kn kes 18 = [onm w31 0 5, onm w31 1 6] := by simp [kn, kes, onm, cnm]
  have h1 : ¬ cmpO (onm w31 0 5) (cnm w31) = 0 := by have := cmp_oc w31 0 5; omega
  have h2 : ¬ cmpO (onm w31 1 6) (cnm w31) = 0 := by have := cmp_oc w31 1 6; omega
  have h3 : ¬ cmpO (onm w31 1 6) (onm w31 0 5) = 0 := by have := (cmpO_anti _ _).1 (cmp_oo w31 0 1 5 6 (by decide)); omega
  have g1 : getO (onm w31 0 5) kes = some (oencS kA) := by simp [getO, kes, h1, ord_obj.self]
  have g2 : getO (onm w31 1 6) kes = some (oencS kB) := by simp [getO, kes, h2, h3, ord_obj.self]
  rw [allE, hk]
  unfold allN
  simp only [List.filterMap_cons, List.filterMap_nil, entO, g1, g2, Option.getD_some, odec_enc kA_chk, odec_enc kB_chk, Option.map_some]
  rfl
theorem fit_snt {who : ByteArray} {c : Ct} {tk : Int} {o : Ou} (hw : who.size ≤ 1000) (hv : lvalid who.data.toList = true) (hc : CtOK c) (h1 : c.o < 1048576) (ht : 0 ≤ tk ∧ tk ≤ 1073741824) (ho : ochk o = 0) : ∀ x ∈ snt who c tk o, FitC x := by
  intro x hx
  have hc2 : CtOK { c with o := c.o + 1 } := ⟨hc.b0, hc.b1, by have := hc.o0; show 0 ≤ c.o + 1; omega, by show c.o + 1 ≤ _; omega, hc.c0, hc.c1⟩
  simp only [snt, List.mem_cons, List.not_mem_nil, or_false] at hx
  rcases hx with rfl | rfl
  · refine ⟨onm_chk hv ⟨hc.o0, by omega⟩ ht, ?_, rfl, ?_, ?_⟩
    · have := oenc_len ho
      show (oencS o).size ≤ _
      rw [oencS, if_pos ho]
      show (oenc o).toArray.size ≤ _
      rw [List.size_toArray]; omega
    · show who.size ≤ _; omega
    · show (ByteArray.mk #[]).size ≤ _; decide
  · refine ⟨cnm_chk hv, ?_, rfl, ?_, ?_⟩
    · have := cenc_len hc2
      show (cenc _).toArray.size ≤ _
      rw [List.size_toArray]; omega
    · show who.size ≤ _; omega
    · show (ByteArray.mk #[]).size ≤ _; decide
end Go.Proofs.YtiggkcknmjgicaaGreatDoor

set_option maxRecDepth 10000
namespace Go.Proofs.YtiggkcknmjgicaaGreatDoor
open Go.RowKit

theorem Spec.to {P : Program} {f : FuncId} {args : Array Value} {F : List Pf} {R : List HP} {post post' : Post} (h : Spec P f args F R post)
    (k : ∀ x, post.pure x → ∃ y, post.val x = post'.val y ∧ post'.pure y ∧ post.F x = post'.F y ∧ post.R x = post'.R y) : Spec P f args F R post' :=
  h.imp fun G w hp x w' hx hs => by
    obtain ⟨y, e1, e2, e3, e4⟩ := k x hx
    exact ⟨y, by rw [e1], e2, by rw [← e3, ← e4]; exact hs⟩

def wtP (b : Nat) (ls : List Lf) (l : List En) : Post := ⟨Option Addr × Nat, fun q => .slice q.1 l.length q.2, fun _ => True, fun _ => [], fun q => [Lg b ls, Row 74 7 q.1 l.length q.2 (l.flatMap enf)]⟩
theorem srd2 {l : List En} (hp : l.Perm [kEA, kEB]) (hs : Srd cmpT l) : l = [kEA, kEB] := by
  have h1 : cmpT kEA kEB < 0 := by decide
  have hl := hp.length_eq
  match l, hl with
  | [a, b], _ =>
    have ha := hp.mem_iff.1 (show a ∈ [a, b] by simp)
    have hb := hp.mem_iff.1 (show b ∈ [a, b] by simp)
    have hab : a ≠ b := fun e => by
      have hn : [a, b].Nodup := hp.nodup_iff.2 (by decide)
      rw [e] at hn; simp at hn
    have hs1 : ¬ cmpT b a < 0 := by
      have := (List.pairwise_cons.1 hs).1 b (by simp)
      exact this
    simp only [List.mem_cons, List.not_mem_nil, or_false] at ha hb
    rcases ha with rfl | rfl <;> rcases hb with rfl | rfl
    · exact absurd rfl hab
    · rfl
    · exact absurd h1 hs1
    · exact absurd rfl hab
theorem cmpT_w : Wk0 cmpT := ⟨cmpT_a, fun x y z => cmpT_t x y z⟩
theorem wait0_ok (b bs : Nat) : Enters 33 ∧ Spec Tryz.prog 33 #[.pointer (some ⟨b, 0, none⟩), .pointer (some ⟨bs, 0, none⟩)] [St (some ⟨bs, 0, none⟩) kes, Usg] [Lg b []] (wtP b [] [kEA, kEB]) := by
  have h := waiting_ok b (some ⟨bs, 0, none⟩) kes [] (by rw [kall]; decide) (by simp)
  refine ⟨h.1, h.2.to fun x hx => ?_⟩
  obtain ⟨l, o, c⟩ := x
  have e : wtE kes [] = [kEA, kEB] := by rw [wtE, kall]; rfl
  have hx' : l.Perm (wtE kes []) ∧ Srd cmpT l := by
    rw [show l = isR cmpT (wtE kes []) from hx]; exact ⟨isR_perm _, isR_srd cmpT_w _⟩
  rw [e] at hx'
  obtain rfl := srd2 hx'.1 hx'.2
  exact ⟨(o, c), rfl, trivial, rfl, rfl⟩
def kLA : Lf := ⟨kEA, 7, 0⟩
theorem wait1_ok (b bs : Nat) : Enters 33 ∧ Spec Tryz.prog 33 #[.pointer (some ⟨b, 0, none⟩), .pointer (some ⟨bs, 0, none⟩)] [St (some ⟨bs, 0, none⟩) kes, Usg] [Lg b [kLA]] (wtP b [kLA] [kEB]) := by
  have h := waiting_ok b (some ⟨bs, 0, none⟩) kes [kLA] (by rw [kall]; decide) (by simp)
  refine ⟨h.1, h.2.to fun x hx => ?_⟩
  obtain ⟨l, o, c⟩ := x
  have e : wtE kes [kLA] = [kEB] := by
    rw [wtE, kall]
    have h1 : mget kEA.id (idm [kLA]) = some () := by simp [idm, kLA, mset, mget]
    have h2 : mget kEB.id (idm [kLA]) = none := by simp [idm, kLA, mset, mget, kEA, kEB, En.id]
    simp [wtL, h1, h2]
  have hx' : l.Perm (wtE kes [kLA]) ∧ Srd cmpT l := by
    rw [show l = isR cmpT (wtE kes [kLA]) from hx]; exact ⟨isR_perm _, isR_srd cmpT_w _⟩
  rw [e] at hx'
  obtain rfl := List.perm_singleton.1 hx'.1
  exact ⟨(o, c), rfl, trivial, rfl, rfl⟩

set_option maxHeartbeats 2000000 in
theorem known39_ok : Enters 23 ∧ Spec Tryz.prog 23 #[] [Usg] [] (RetV (.bool true)) := by
  have hw : w31.size ≤ 1000 := by decide
  have v0 : (vget [] [] (cnm w31)).1.size ≤ 1099511627776 := by
    unfold vget
    rw [if_neg (by simp [cnm_chk w31_valid])]
    exact Nat.zero_le _
  have v1 : (vget [] kcs1 (cnm w31)).1.size ≤ 1099511627776 := by
    rw [vget1]
    have := cenc_len kc1_ok
    show (cenc kc1).toArray.size ≤ _
    rw [List.size_toArray]; omega
  have n1 := fun b bs => send_ok b (some ⟨bs, 0, none⟩) [] [] [] w31 5 kA Ct.z (by omega) w31_valid v0 kA_chk rfl made0 ctz_ok (by decide) (onm_chk w31_valid (by decide) (by decide)) (cnm_chk w31_valid) (by simp)
  have n2 := fun b bs rs => send_ok b (some ⟨bs, 0, none⟩) [] rs kcs1 w31 6 kB kc1 (by omega) w31_valid v1 kB_chk rfl made1 kc1_ok (by decide) (onm_chk w31_valid (by decide) (by decide)) (cnm_chk w31_valid) (by simp [kcs1, snt])
  have f1 := fit_snt hw w31_valid ctz_ok (by decide) (show (0 : Int) ≤ 5 ∧ (5 : Int) ≤ 1073741824 by decide) kA_chk
  have f2 := fit_snt hw w31_valid kc1_ok (by decide) (show (0 : Int) ≤ 6 ∧ (6 : Int) ≤ 1073741824 by decide) kB_chk
  have hfit : ∀ c ∈ kcs2, FitC c := fun c hc => by
    rcases List.mem_append.1 hc with h | h
    · exact f1 c h
    · exact f2 c h
  have n3 := fun b bs rs => vwAfter_ok b bs [] rs kcs2 (by rw [klast]; decide) hfit (by simp)
  rw [kapp] at n3
  have hlv : leaveE [] kLA = 0 := by
    have h1 : lchk kLA = 0 := by
      unfold lchk
      rw [if_neg (by simp [kLA, kEA, w31_valid]), if_neg (by simp [kLA, kEA, tick])]
      exact kA_chk
    simp [leaveE, h1, late]
  have n4 := fun b => leave_ok b [] kLA (by show w31.size ≤ _; omega) (by simp)
  simp only [lvPost_ok hlv] at n4
  refine ⟨enters_of Tryz.func23 (by kernel_rfl) rfl, spec_of (vs := []) Tryz.func23 rfl Tryz.ntmps23 rfl fun G w hp => ?_⟩
  repeat' (first | refine l_run ?_ | refine l_nil ?_ | refine l_one ?_ | refine k_reg ?_ | refine l_ld ?_ | refine l_ldF ?_ | refine l_st ?_ | refine l_al (fun b => ?_) | refine l_bs (fun b => ?_) | refine k_condT ?_ | refine k_condF ?_ | refine k_brk ?_ | refine l_call (stateNew_ok) (fun _ _ => ?_) | refine l_call0 (stateNew_ok) (fun _ _ => ?_) | refine l_call (viewNew_ok _) (fun _ _ => ?_) | refine l_call0 (viewNew_ok _) (fun _ _ => ?_) | refine l_call (n1 _ _) (fun _ _ => ?_) | refine l_call0 (n1 _ _) (fun _ _ => ?_) | refine l_call (n2 _ _ _) (fun _ _ => ?_) | refine l_call0 (n2 _ _ _) (fun _ _ => ?_) | refine l_call (n3 _ _ _) (fun _ _ => ?_) | refine l_call0 (n3 _ _ _) (fun _ _ => ?_) | refine l_call (newLedger_ok) (fun _ _ => ?_) | refine l_call0 (newLedger_ok) (fun _ _ => ?_) | refine l_call (wait0_ok _ _) (fun _ _ => ?_) | refine l_call0 (wait0_ok _ _) (fun _ _ => ?_) | refine l_call (n4 _) (fun _ _ => ?_) | refine l_call0 (n4 _) (fun _ _ => ?_) | refine l_call (wait1_ok _ _) (fun _ _ => ?_) | refine l_call0 (wait1_ok _ _) (fun _ _ => ?_) | refine l_frz (T := 74) (sz := 7) (f := enf) [kEA, kEB] ?_ rfl rfl | refine l_frz (T := 74) (sz := 7) (f := enf) [kEB] ?_ rfl rfl | refine l_ixe (es := [kEA, kEB]) 0 kEA rfl (fun b off => ?_) | refine l_ixe (es := [kEB]) 0 kEB rfl (fun b off => ?_) | refine l_ldC ?_ | (refine l_split (fun hc => ?_) (fun hc => ?_) <;> (try simp at hc)) | (refine k_cond (fun hc => ?_) (fun hc => ?_) <;> (try simp at hc)))
  exact k_ret () rfl trivial
end Go.Proofs.YtiggkcknmjgicaaGreatDoor

set_option maxRecDepth 10000
namespace Go.Proofs.YtiggkcknmjgicaaGreatDoor
open Go.RowKit

def shO (o : Ou) : Ou := ⟨o.ch, cutS o.tg 80, cutS o.tx 4200, o.us⟩
def shL (x : Lf) : Lf := ⟨⟨cutS x.e.who 80, x.e.nu, x.e.tk, shO x.e.o⟩, x.tm, x.rd⟩
theorem shortO_ok (o : Ou) : Enters 60 ∧ Spec Tryz.prog 60 #[o.v] [] [] (RetV (shO o).v) := by
  refine ⟨enters_of Tryz.func60 (by kernel_rfl) rfl, spec_of (vs := [_]) Tryz.func60 rfl Tryz.ntmps60 rfl fun G w hp => ?_⟩
  repeat' (first | refine l_run ?_ | refine l_nil ?_ | refine l_one ?_ | refine k_reg ?_ | refine l_ld ?_ | refine l_ldF ?_ | refine l_st ?_ | refine l_al (fun b => ?_) | refine l_bs (fun b => ?_) | refine k_condT ?_ | refine k_condF ?_ | refine k_brk ?_ | refine r_run ?_ | refine r_one ?_ | refine r_ld ?_ | refine r_ldF ?_ | refine r_ldN ?_ | refine r_al (fun b => ?_) | refine r_bs (fun b => ?_) | refine r_st ?_ | refine r_end ?_ | refine l_cutS 80 ?_ | refine r_cutS 80 ?_ | refine r_cutS 4200 ?_ | refine r_up ?_ | (refine l_split (fun hc => ?_) (fun hc => ?_) <;> (try simp at hc)) | (refine r_split (fun hc => ?_) (fun hc => ?_) <;> (try simp at hc)) | refine k_draw 1 [Pt _ _, Pt _ _] [(0, 0), (2, 0), (7, 0), (9, 0), (1, 3), (3, 3), (4, 0), (5, 0), (6, 0), (8, 3), (10, 3), (11, 0), (12, 0), (13, 0), (14, 0), (15, 4), (16, 0)] [17] ?_ | (refine k_cond (fun hc => ?_) (fun hc => ?_) <;> (try simp at hc)))
  exact k_ret () rfl trivial
set_option maxHeartbeats 1000000 in
theorem mcheck_ok (o : Ou) : Enters 61 ∧ Spec Tryz.prog 61 #[o.v] [] [] (RetV (.int .i64 (ochk o))) := by
  have hsz : o.tg.data.toList.length = o.tg.size := by simp
  generalize hr : ochk o = r
  unfold ochk at hr
  refine ⟨enters_of Tryz.func61 (by kernel_rfl) rfl, spec_of (vs := [_]) Tryz.func61 rfl Tryz.ntmps61 rfl fun G w hp => ?_⟩
  repeat' (first | refine l_run ?_ | refine l_nil ?_ | refine l_one ?_ | refine k_reg ?_ | refine l_ld ?_ | refine l_ldF ?_ | refine l_st ?_ | refine l_al (fun b => ?_) | refine l_bs (fun b => ?_) | refine k_condT ?_ | refine k_condF ?_ | refine k_brk ?_ | (refine l_split (fun hc => ?_) (fun hc => ?_) <;> (try simp at hc)) | (refine k_cond (fun hc => ?_) (fun hc => ?_) <;> (try simp at hc)))
  · rw [if_pos (by omega)] at hr; subst hr; exact k_ret () rfl trivial
  · rw [if_pos (by omega)] at hr; subst hr; exact k_ret () rfl trivial
  · have hc : isE o.tg = true := by simpa [isE] using hc
    rw [if_neg (by omega), if_pos hc] at hr; subst hr; exact k_ret () rfl trivial
  · rename_i h1
    have h1 : isE o.tg = false := by simpa [isE] using h1
    rw [if_neg (by omega), if_neg (by simp [h1]), if_pos (by omega)] at hr; subst hr; exact k_ret () rfl trivial
  rename_i h1
  have h1 : isE o.tg = false := by simpa [isE] using h1
  rw [if_neg (by omega), if_neg (by simp [h1]), if_neg (by omega)] at hr
  refine k_lp (X := { i : Nat // i ≤ o.tg.size ∧ ∀ j, j < i → ∀ c, o.tg.data.toList[j]? = some c → bad2 c = false }) (fun i => [(1, .pointer (some ⟨b, 0, none⟩)), (3, .int .i64 (i.1 : Int))]) (fun _ => []) (fun _ => [Pt b (.cells #[.int .i64 o.ch, .string o.tg, .string o.tx, .int .i64 o.us] 72)]) (fun i => o.tg.size - i.1) ⟨0, by omega, fun j hj => by omega⟩ ⟨rfl, rfl, trivial⟩ ?_
  rintro ⟨i, hi1, hi2⟩
  dsimp only
  by_cases hlt : i < o.tg.data.toList.length
  · obtain ⟨c, hcc⟩ : ∃ c, o.tg.data.toList[i]? = some c := ⟨_, List.getElem?_eq_getElem hlt⟩
    have bad : bad2 c = true → r = 6 := fun hb => by
      rw [← hr, if_pos]
      rw [List.any_eq_true]
      exact ⟨c, List.mem_of_getElem? hcc, hb⟩
    repeat' (first | refine l_run ?_ | refine l_nil ?_ | refine l_one ?_ | refine k_reg ?_ | refine l_ld ?_ | refine l_ldF ?_ | refine l_st ?_ | refine l_al (fun b => ?_) | refine l_bs (fun b => ?_) | refine k_condT ?_ | refine k_condF ?_ | refine l_six (s := o.tg) i c hcc ?_ | (refine l_split (fun hc => ?_) (fun hc => ?_) <;> (try simp at hc) <;> (try omega)) | (refine k_cond (fun hc => ?_) (fun hc => ?_) <;> (try simp at hc) <;> (try omega)))
    all_goals try (
      have e := bad (by simp [bad2]; omega)
      exact k_rt (w_lq (w_rv (congrArg (Value.int .i64) e) (w_ret () rfl trivial))))
    rw [wrapi (z := (i : Int) + 1) (by omega) (by omega)]
    refine k_next ⟨i + 1, by omega, fun j hj c' hc' => ?_⟩ (by show o.tg.size - (i + 1) < o.tg.size - i; omega) ⟨rfl, rfl, trivial⟩
    by_cases hij : j = i
    · subst hij
      obtain rfl := Option.some.inj (hcc.symm.trans hc')
      simp [bad2]; omega
    · exact hi2 j (by omega) c' hc'
  · have e : ¬ (o.tg.data.toList.any bad2 = true) := by
      rw [List.any_eq_true]
      rintro ⟨c, hc, hb⟩
      obtain ⟨j, hj, rfl⟩ := List.mem_iff_getElem.1 hc
      rw [hi2 j (by omega) _ (List.getElem?_eq_getElem hj)] at hb
      cases hb
    rw [if_neg e] at hr
    repeat' (first | refine l_run ?_ | refine l_nil ?_ | refine l_one ?_ | refine k_reg ?_ | refine l_ld ?_ | refine l_ldF ?_ | refine l_st ?_ | refine l_al (fun b => ?_) | refine l_bs (fun b => ?_) | refine k_condT ?_ | refine k_condF ?_ | refine k_brk ?_ | (refine l_split (fun hc => ?_) (fun hc => ?_) <;> (try simp at hc) <;> (try omega)) | (refine k_cond (fun hc => ?_) (fun hc => ?_) <;> (try simp at hc) <;> (try omega)))
    · rw [if_pos (by omega)] at hr; subst hr; exact k_ret () rfl trivial
    · rw [if_neg (by omega), if_pos (by omega)] at hr; subst hr; exact k_ret () rfl trivial
    · rw [if_neg (by omega), if_pos (by omega)] at hr; subst hr; exact k_ret () rfl trivial
    · rw [if_neg (by omega), if_neg (by omega)] at hr; subst hr; exact k_ret () rfl trivial

/-! The list's own Leave. -/
def mleaveE (ls : List Lf) (x : Lf) : Int := if lchk x ≠ 0 then lchk x else if late ls x then 32 else 0
theorem mleave_leave {ls : List Lf} {x : Lf} (h : ls.length < 100000) : leaveE ls x = mleaveE ls x := by
  unfold leaveE mleaveE
  rw [if_neg (show ¬ 100000 ≤ ls.length by omega)]

def MLv (o : Option Addr) (cap : Nat) (ls : List Lf) (e : Int) : Post := ⟨Unit, fun _ => .int .i64 e, fun _ => True, fun _ => [], fun _ => [Row 89 9 o ls.length cap (ls.flatMap lff)]⟩

theorem lchk_cases (x : Lf) : (lvalid x.e.who.data.toList = false ∧ lchk x = 12) ∨ (lvalid x.e.who.data.toList = true ∧ (x.e.nu < 0 ∨ 1048576 < x.e.nu ∨ x.e.tk < 0 ∨ 1073741824 < x.e.tk ∨ x.tm < 0 ∨ 1073741824 < x.tm ∨ x.rd < 0 ∨ 1048576 < x.rd) ∧ lchk x = 2) ∨
    (lvalid x.e.who.data.toList = true ∧ (0 ≤ x.e.nu ∧ x.e.nu ≤ 1048576 ∧ 0 ≤ x.e.tk ∧ x.e.tk ≤ 1073741824 ∧ 0 ≤ x.tm ∧ x.tm ≤ 1073741824 ∧ 0 ≤ x.rd ∧ x.rd ≤ 1048576) ∧ lchk x = ochk x.e.o) := by
  have ht : ∀ z : Int, tick z = false ↔ z < 0 ∨ 1073741824 < z := fun z => by
    unfold tick
    by_cases h1 : 0 ≤ z <;> by_cases h2 : z ≤ 1073741824 <;> simp [h1, h2] <;> omega
  unfold lchk
  cases hv : lvalid x.e.who.data.toList
  · exact .inl ⟨rfl, by simp⟩
  · right
    rw [if_neg (by simp)]
    by_cases h : x.e.nu < 0 ∨ 1048576 < x.e.nu ∨ tick x.e.tk = false ∨ tick x.tm = false ∨ x.rd < 0 ∨ 1048576 < x.rd
    · left
      rw [if_pos h]
      rw [ht, ht] at h
      exact ⟨rfl, by omega, rfl⟩
    · right
      rw [if_neg h]
      rw [ht, ht] at h
      exact ⟨rfl, by omega, rfl⟩

/-! find, encoding: of a list that stays. -/
theorem tl_iff (a b : ByteArray) : a.toList = b.toList ↔ a = b := by
  rw [toList_data, toList_data]
  exact ⟨fun h => ba_ext h, fun h => by rw [h]⟩
def idq (x : Lf) (w : ByteArray) (nu tk : Int) : Bool := decide (x.e.who = w) && (decide (x.e.nu = nu) && decide (x.e.tk = tk))
/-- The greatest place, of the first m. -/
def lfind (ls : List Lf) (w : ByteArray) (nu tk : Int) : Nat → Option Nat
  | 0 => none
  | m + 1 => match ls[m]? with | some x => if idq x w nu tk then some m else lfind ls w nu tk m | none => lfind ls w nu tk m
def fndv (r : Option Nat) : Int := match r with | some j => (j : Int) | none => -1

def lenc (x : Lf) : List UInt8 := venc x.e.who.size ++ x.e.who.data.toList ++ venc x.e.nu.toNat ++ venc x.e.tk.toNat ++ oenc x.e.o ++ venc x.tm.toNat ++ venc x.rd.toNat
def lencs (ls : List Lf) : List UInt8 := venc ls.length ++ ls.flatMap lenc
end Go.Proofs.YtiggkcknmjgicaaGreatDoor
