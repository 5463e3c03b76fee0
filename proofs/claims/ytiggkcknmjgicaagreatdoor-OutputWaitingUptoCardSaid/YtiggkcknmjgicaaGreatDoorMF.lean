/-
  The contracts of package view: New, Get, Set, Delete.
  The contracts of package view: Writes.
  The contracts of package view: Reads.
  The contract of view's Writes, for a view that is only read.
  The contracts of package view: After, for views whose writes fit.
  The counts of a process: EncodeCounts (for counts that fit), DecodeCounts.
  What is written is read again; no program in sight.
  The counts of a process: EncodeCounts, DecodeCounts, Made, SetMade.
  The contract of output.Send, where it sends.
  What a reader accepts is what a writer would have written.
  What insertion does to the names of a kind and to the outputs of a state.
  What a state holds behind a view's changes.
  Conditions: those that each theorem states.
-/
import Derived.Test.YtiggkcknmjgicaaGreatDoorME
import Derived.Test.YtiggkcknmjgicaaGreatDoorMQ
import Derived.Test.YtiggkcknmjgicaaGreatDoorMB
set_option maxRecDepth 10000
namespace Go.Proofs.YtiggkcknmjgicaaGreatDoor
open Go.RowKit

section
variable {n : Nat} {C : Cx} {Q : Exit → Act → World → Prop} {E E' : List (Nat × Value)} {F F' F1 Fs F0 : List Pf} {R R' R0 Rs N N' A : List HP} {k k' : List Fr} {ops l : List Oper} {L L' : List (Nat × Nat)} {Tl : List Nat}
  {i d : Nat} {t ty0 : TypeId} {x y z : Operand} {pos : String} {aft : Array Edge} {gd : Option (Nat × Bool)} {α β : Type} [DecidableEq α] {K : α → Value} {V : β → Value}
/-- An element of a map that stays is looked up. -/
theorem r_mgetE2 {kt et r : Nat} {rs te : TRow} {m : List (α × β)} {zv : Value} (hk : KeyOK kt K) (a : α) (o : Option β) (ho : mget a m = o) (nx : Wr n C ops k Q Tl Fs R L ((d, .tuple #[(o.map V).getD zv, .bool o.isSome]) :: E) F N)
    (hop : nth ops i = some ⟨some d, .lookup t x y true, ty0, pos, aft, gd⟩ := by rfl) (hw : wantL ops E ⟨some d, .lookup t x y true, ty0, pos, aft, gd⟩ = some true := by rfl)
    (hx : ev E x = some (.map (some r)) := by rfl) (hy : ev E y = some (K a) := by rfl) (hts : lookT tab t = some rs := by rfl) (hrs : rs.k = .map kt et := by rfl) (hte : lookT tab et = some te := by rfl) (hzv : zval te = some zv := by rfl)
    (hs : Sel (Mp K V r m) R R0 := by (repeat (first | exact Sel.here | apply Sel.there)); first | done | fail) : Wr n C ops k Q Tl Fs R ((i, 0) :: L) E F N :=
  wr_go hop fun hp hr w st hz sb => by
    simp only [wantL_ok hw]
    refine ⟨.tuple #[(o.map V).getD zv, .bool o.isSome], fun ac w ha hin => ?_, nx hp hr w st hz sb⟩
    obtain ⟨h1, h2, _, s1, _, hmp, _⟩ := hs.sep st.r
    obtain ⟨es, clock, hes, he, hB⟩ := hmp
    have hb : w.heap[r]? = some (.map es clock) := hin _ _ (sb _ _ (sub_un_left _ _ _ _ (s1 _ _ hes)))
    have hu := run_undM (w := w) hts hrs
    have hg : (getObj r).run Tryz.prog w = .ok (.map es clock) w := by simp [getObj, Sem.run, hb]
    have hc := hk.chk a es.isEmpty w
    have hf := findKey_ok hk a es.toList m w he
    have hz0 := zval_ok hte hzv w
    have hfg := mfind_get a m 0
    simp only [execOp, ha.ev (x := x) (by rw [evf_look]; exact hx), ha.ev (x := y) (by rw [evf_look]; exact hy), Instr.lookup, Sem.run_bind, hu, Result.andThen, hg, hc, hf, Sem.run_pure]
    cases hm : mfind a m 0 with
    | none =>
      rw [hm] at hfg
      simp only [Option.map_none, Sem.run_bind, hz0, Result.andThen, Sem.run_pure, if_true]
      rw [← ho, ← hfg]; rfl
    | some q =>
      rw [hm] at hfg
      simp only [Option.map_some, if_true]
      rw [← ho, ← hfg]; rfl
end

section
variable {n : Nat} {C : Cx} {Q : Exit → Act → World → Prop} {E E' : List (Nat × Value)} {F F' F1 Fs F0 : List Pf} {R R' R0 Rs N N' A : List HP} {k k' : List Fr} {ops l : List Oper} {L L' : List (Nat × Nat)} {Tl : List Nat}
  {i d : Nat} {t t2 ty0 : TypeId} {x y z : Operand} {pos : String} {aft : Array Edge} {gd : Option (Nat × Bool)}
/-- A map that is there is not nil. -/
theorem l_mnil {kt et r : Nat} {rs : TRow} (nx : Wl n C ops.toArray k Q l ((d, .bool false) :: E) F R) (hw : wantL ops E ⟨some d, .binOp .eql t x y t2, ty0, pos, aft, gd⟩ = some true := by rfl) (hn : Nat.blt d n = true := by rfl)
    (hx : ev E x = some (.map (some r)) := by rfl) (hy : ev E y = some (.map none) := by rfl) (hts : lookT tab t = some rs := by rfl) (hrs : rs.k = .map kt et := by rfl) : Wl n C ops.toArray k Q (⟨some d, .binOp .eql t x y t2, ty0, pos, aft, gd⟩ :: l) E F R :=
  l_q (fun ac w ha => by
    have hu := run_undM (w := w) hts hrs
    have hg : (eqGuard .eql t x y (.map (some r)) (.map none)).run Tryz.prog w = .ok () w := by simp [eqGuard]
    have hb : (binOp .eql t (.map (some r)) (.map none)).run Tryz.prog w = .ok (.bool false) w := by
      have he : (Op.equal t (.map (some r)) (.map none)).run Tryz.prog w = .ok false w := by
        show (Op.equalIn (9999 + 1) t (.map (some r)) (.map none)).run Tryz.prog w = .ok false w
        rw [Op.equalIn]
        simp only [Sem.run_bind, hu, Result.andThen, Sem.run_pure]
      simp only [binOp, Sem.run_bind, he, Result.andThen, Sem.run_pure]
    simp only [execOp, ha.ev (x := x) (by rw [evf_look]; exact hx), ha.ev (x := y) (by rw [evf_look]; exact hy), Sem.run_bind, hg, Result.andThen, hb, Sem.run_pure]) nx (by intro c h; cases h) hw hn
end

/-- A view: what it has read, and its calls. -/
abbrev VwL (b : Nat) (ps : Option Addr) (rs : List (Nm × Ch)) (cs : List Ch) (q : Nat × Nat × Option Addr × Nat) : List HP :=
  [Pt b (.cells #[.pointer ps, .map (some q.1), .slice q.2.2.1 cs.length q.2.2.2, .map (some q.2.1)] 103), Mp Nm.v Ch.v q.1 rs, Row 119 7 q.2.2.1 cs.length q.2.2.2 (cs.flatMap chf), Mp Nm.v iv q.2.1 (lastL cs)]
def Vw (b : Nat) (ps : Option Addr) (rs : List (Nm × Ch)) (cs : List Ch) : HP := fun h => ∃ q, True ∧ Sep (VwL b ps rs cs q) h

section
variable {n : Nat} {C : Cx} {Q : Exit → Act → World → Prop} {E E' : List (Nat × Value)} {F : List Pf} {R R0 : List HP} {k : List Fr}
theorem k_vw {b : Nat} {ps : Option Addr} {rs : List (Nm × Ch)} {cs : List Ch} (t : ∀ q, Wk n C k Q E F (VwL b ps rs cs q ++ R0)) (hs : Sel (Vw b ps rs cs) R R0 := by (repeat (first | exact Sel.here | apply Sel.there)); first | done | fail) : Wk n C k Q E F R :=
  k_open (X := Nat × Nat × Option Addr × Nat) (Lx := fun q => VwL b ps rs cs q) (p := fun _ => True) (r := Vw b ps rs cs) hs (fun _h hh => hh) (fun q _ => t q)
theorem k_vw' {b r1 r2 m cap : Nat} {o ps : Option Addr} {rs : List (Nm × Ch)} {cs : List Ch} {xs : List Value} {ll : List (Nm × Nat)} (t : Wk n C k Q E F (Vw b ps rs cs :: R0)) (hm : m = cs.length) (hx : xs = cs.flatMap chf) (hl : ll = lastL cs)
    (hs : Sels [Pt b (.cells #[.pointer ps, .map (some r1), .slice o m cap, .map (some r2)] 103), Mp Nm.v Ch.v r1 rs, Row 119 7 o m cap xs, Mp Nm.v iv r2 ll] R R0 := by (repeat (first | exact Sels.nil | exact Sel.here | apply Sel.there | apply Sels.cons)); first | done | fail) : Wk n C k Q E F R := by
  subst hm; subst hx; subst hl
  exact k_shut (fun h hh => ⟨(r1, r2, o, cap), trivial, hh⟩) t hs
end

theorem viewNew_ok (b0 : Nat) : Enters 10 ∧ Spec Tryz.prog 10 #[.pointer (some ⟨b0, 0, none⟩)] [] [] ⟨Nat, fun b => .pointer (some ⟨b, 0, none⟩), fun _ => True, fun _ => [], fun b => [Vw b (some ⟨b0, 0, none⟩) [] []]⟩ := by
  refine ⟨enters_of Tryz.func10 (by kernel_rfl) rfl, spec_of (vs := [_]) Tryz.func10 rfl Tryz.ntmps10 rfl fun G w hp => ?_⟩
  repeat' (first | refine l_run ?_ | refine l_nil ?_ | refine l_one ?_ | refine k_reg ?_ | refine l_ld ?_ | refine l_ldF ?_ | refine l_st ?_ | refine l_al (fun b => ?_) | refine l_bs (fun b => ?_) | refine k_condT ?_ | refine k_condF ?_ | refine k_brk ?_ | refine l_mkm (K := Nm.v) (kt := 78) (et := 119) key_nm Ch.v (fun r => ?_) | refine l_mkm (K := Nm.v) (kt := 78) (et := 3) key_nm iv (fun r => ?_) | (refine l_split (fun hc => ?_) (fun hc => ?_) <;> (try simp at hc)) | (refine k_cond (fun hc => ?_) (fun hc => ?_) <;> (try simp at hc)))
  refine k_shut (r := Row 119 7 none 0 0 []) (Lx := []) (fun h _ => row_nil _ _ h) ?_
  refine k_vw' (cs := []) (rs := []) ?_ rfl rfl rfl
  exact k_ret (post := ⟨Nat, fun b => .pointer (some ⟨b, 0, none⟩), fun _ => True, fun _ => [], fun b => [Vw b (some ⟨b0, 0, none⟩) [] []]⟩) _ rfl trivial

theorem vwRead_ok (b r1 : Nat) (v0 v2 v3 : Value) (T : Nat) (rs : List (Nm × Ch)) (c : Ch) :
    Enters 99 ∧ Spec Tryz.prog 99 #[.pointer (some ⟨b, 0, none⟩), c.v] [] [Pt b (.cells #[v0, .map (some r1), v2, v3] T), Mp Nm.v Ch.v r1 rs]
      ⟨Unit, fun _ => .tuple #[], fun _ => True, fun _ => [], fun _ => [Pt b (.cells #[v0, .map (some r1), v2, v3] T), Mp Nm.v Ch.v r1 (mset c.nm c rs)]⟩ := by
  refine ⟨enters_of Tryz.func99 (by kernel_rfl) rfl, spec_of (vs := [_, _]) Tryz.func99 rfl Tryz.ntmps99 rfl fun G w hp => ?_⟩
  repeat' (first | refine l_run ?_ | refine l_nil ?_ | refine l_one ?_ | refine k_reg ?_ | refine l_ld ?_ | refine l_ldF ?_ | refine l_st ?_ | refine l_al (fun b => ?_) | refine l_bs (fun b => ?_) | refine k_condT ?_ | refine k_condF ?_ | refine k_brk ?_ | refine r_run ?_ | refine r_one ?_ | refine r_ld ?_ | refine r_ldF ?_ | refine r_ldN ?_ | refine r_al (fun b => ?_) | refine r_bs (fun b => ?_) | refine r_st ?_ | refine r_end ?_ | refine l_mnil ?_ | refine l_mset (V := Ch.v) key_nm c.nm c ?_ | (refine l_split (fun hc => ?_) (fun hc => ?_) <;> (try simp at hc)) | (refine r_split (fun hc => ?_) (fun hc => ?_) <;> (try simp at hc)) | refine k_draw 3 [] [(0, 0), (1, 0), (2, 0), (3, 0), (4, 0), (5, 0), (6, 0)] [7] ?_ | (refine k_cond (fun hc => ?_) (fun hc => ?_) <;> (try simp at hc)))
  exact k_end () rfl trivial

theorem vwCall_ok (b : Nat) (ps : Option Addr) (rs : List (Nm × Ch)) (cs : List Ch) (c : Ch) (hl : cs.length ≤ 1000000) :
    Enters 136 ∧ Spec Tryz.prog 136 #[.pointer (some ⟨b, 0, none⟩), c.v] [] [Vw b ps rs cs] ⟨Unit, fun _ => .tuple #[], fun _ => True, fun _ => [], fun _ => [Vw b ps rs (cs ++ [c])]⟩ := by
  refine ⟨enters_of Tryz.func136 (by kernel_rfl) rfl, spec_of (vs := [_, _]) Tryz.func136 rfl Tryz.ntmps136 rfl fun G w hp => ?_⟩
  refine k_vw fun q => ?_
  obtain ⟨r1, r2, o, cap⟩ := q
  repeat' (first | refine l_run ?_ | refine l_nil ?_ | refine l_one ?_ | refine k_reg ?_ | refine l_ld ?_ | refine l_ldF ?_ | refine l_st ?_ | refine l_al (fun b => ?_) | refine l_bs (fun b => ?_) | refine k_condT ?_ | refine k_condF ?_ | refine k_brk ?_ | refine r_run ?_ | refine r_one ?_ | refine r_ld ?_ | refine r_ldF ?_ | refine r_ldN ?_ | refine r_al (fun b => ?_) | refine r_bs (fun b => ?_) | refine r_st ?_ | refine r_end ?_ | refine l_mnil ?_ | refine l_mset (V := iv) key_nm c.nm cs.length ?_ | refine r_app1 (fun o' cap' => ?_) | (refine l_split (fun hc => ?_) (fun hc => ?_) <;> (try simp at hc)) | (refine r_split (fun hc => ?_) (fun hc => ?_) <;> (try simp at hc)) | refine k_draw 3 [] [(0, 0), (1, 0), (2, 0), (3, 0), (4, 0), (5, 0), (6, 0), (7, 0), (8, 0), (9, 0), (10, 0)] [11] ?_ | refine k_draw 4 [Row _ _ _ _ _ _] [(0, 0), (1, 0), (2, 0), (3, 0), (4, 0), (5, 0), (6, 1), (7, 4), (8, 0), (9, 0)] [10] ?_ | (refine k_cond (fun hc => ?_) (fun hc => ?_) <;> (try simp at hc)))
  refine k_vw' (cs := cs ++ [c]) (rs := rs) ?t ?hm ?hx ?hl
  case hm => simp
  case hx => simp [chf]
  case hl => exact (lastL_snoc cs c).symm
  exact k_end () rfl trivial

theorem vwSet_ok (b : Nat) (ps : Option Addr) (rs : List (Nm × Ch)) (cs : List Ch) (a : Nm) (v : ByteArray) (ha : a.owner.size ≤ 1099511627776) (hat : a.text.size ≤ 1099511627776) (hl : cs.length ≤ 1000000) :
    Enters 95 ∧ Spec Tryz.prog 95 #[.pointer (some ⟨b, 0, none⟩), a.v, .string v] [Usg] [Vw b ps rs cs] ⟨Unit, fun _ => .int .i64 (vset cs a v).1, fun _ => True, fun _ => [], fun _ => [Vw b ps rs (vset cs a v).2]⟩ := by
  have n1 := nameCheck_ok a ha hat
  have n2 := vwCall_ok b ps rs cs ⟨a, v, false⟩ hl
  by_cases h1 : nchk a = 0
  · by_cases h2 : 65536 < v.size
    · have e : vset cs a v = (5, cs) := by unfold vset; rw [if_neg (by simp [h1]), if_pos h2]
      rw [e]
      refine ⟨enters_of Tryz.func95 (by kernel_rfl) rfl, spec_of (vs := [_, _, _]) Tryz.func95 rfl Tryz.ntmps95 rfl fun G w hp => ?_⟩
      repeat' (first | refine l_run ?_ | refine l_nil ?_ | refine l_one ?_ | refine k_reg ?_ | refine l_ld ?_ | refine l_ldF ?_ | refine l_st ?_ | refine l_al (fun b => ?_) | refine l_bs (fun b => ?_) | refine k_condT ?_ | refine k_condF ?_ | refine k_brk ?_ | refine l_call (n1) (fun _ _ => ?_) | refine l_call0 (n1) (fun _ _ => ?_) | refine l_call (n2) (fun _ _ => ?_) | refine l_call0 (n2) (fun _ _ => ?_) | (refine l_split (fun hc => ?_) (fun hc => ?_) <;> (try simp at hc) <;> (try omega)) | (refine k_cond (fun hc => ?_) (fun hc => ?_) <;> (try simp at hc) <;> (try omega)))
      exact k_ret () rfl trivial
    · have e : vset cs a v = (0, cs ++ [⟨a, v, false⟩]) := by unfold vset; rw [if_neg (by simp [h1]), if_neg h2]
      rw [e]
      refine ⟨enters_of Tryz.func95 (by kernel_rfl) rfl, spec_of (vs := [_, _, _]) Tryz.func95 rfl Tryz.ntmps95 rfl fun G w hp => ?_⟩
      repeat' (first | refine l_run ?_ | refine l_nil ?_ | refine l_one ?_ | refine k_reg ?_ | refine l_ld ?_ | refine l_ldF ?_ | refine l_st ?_ | refine l_al (fun b => ?_) | refine l_bs (fun b => ?_) | refine k_condT ?_ | refine k_condF ?_ | refine k_brk ?_ | refine l_call (n1) (fun _ _ => ?_) | refine l_call0 (n1) (fun _ _ => ?_) | refine l_call (n2) (fun _ _ => ?_) | refine l_call0 (n2) (fun _ _ => ?_) | (refine l_split (fun hc => ?_) (fun hc => ?_) <;> (try simp at hc) <;> (try omega)) | (refine k_cond (fun hc => ?_) (fun hc => ?_) <;> (try simp at hc) <;> (try omega)))
      exact k_ret () rfl trivial
  · have e : vset cs a v = (12, cs) := by unfold vset; rw [if_pos h1]
    rw [e]
    refine ⟨enters_of Tryz.func95 (by kernel_rfl) rfl, spec_of (vs := [_, _, _]) Tryz.func95 rfl Tryz.ntmps95 rfl fun G w hp => ?_⟩
    repeat' (first | refine l_run ?_ | refine l_nil ?_ | refine l_one ?_ | refine k_reg ?_ | refine l_ld ?_ | refine l_ldF ?_ | refine l_st ?_ | refine l_al (fun b => ?_) | refine l_bs (fun b => ?_) | refine k_condT ?_ | refine k_condF ?_ | refine k_brk ?_ | refine l_call (n1) (fun _ _ => ?_) | refine l_call0 (n1) (fun _ _ => ?_) | refine l_call (n2) (fun _ _ => ?_) | refine l_call0 (n2) (fun _ _ => ?_) | (refine l_split (fun hc => ?_) (fun hc => ?_) <;> (try simp at hc) <;> (try omega)) | (refine k_cond (fun hc => ?_) (fun hc => ?_) <;> (try simp at hc) <;> (try omega)))
    exact k_ret () rfl trivial

set_option maxHeartbeats 1000000 in
theorem vwGet_ok (b : Nat) (ps : Option Addr) (es : Al) (rs : List (Nm × Ch)) (cs : List Ch) (a : Nm) (ha : a.owner.size ≤ 1099511627770) (hat : a.text.size ≤ 1099511627776) :
    Enters 41 ∧ Spec Tryz.prog 41 #[.pointer (some ⟨b, 0, none⟩), a.v] [St ps es, Usg] [Vw b ps rs cs] ⟨Unit, fun _ => .tuple #[.string (vget es cs a).1, .bool (vget es cs a).2], fun _ => True, fun _ => [], fun _ => [Vw b ps (vread es rs cs a) cs]⟩ := by
  have n1 := nameCheck_ok a (by omega) hat
  have n2 := stateGet_ok ps es a ha
  by_cases h1 : nchk a = 0
  · obtain ⟨l1, l2⟩ := lastL_get a cs
    cases hm : mget a (lastL cs) with
    | some i =>
      obtain ⟨c, hc1, hc2⟩ := l1 i hm
      have hil := (List.getElem?_eq_some_iff.1 hc1).1
      have e1 : vget es cs a = (c.val, !c.abs) := by unfold vget; rw [if_neg (by simp [h1]), hc2]
      have e2 : vread es rs cs a = rs := by unfold vread; rw [if_neg (by simp [h1]), hc2]
      rw [e1, e2]
      refine ⟨enters_of Tryz.func41 (by kernel_rfl) rfl, spec_of (vs := [_, _]) Tryz.func41 rfl Tryz.ntmps41 rfl fun G w hp => ?_⟩
      refine k_vw fun q => ?_
      obtain ⟨r1, r2, o, cap⟩ := q
      refine k_row (m := cs.length) (by omega) fun p hp => ?_
      have ho := hp.o
      subst ho
      have hsp : Ax 119 chf p.1 cs p.2 = Pt p.1 (.cells (cs.flatMap chf ++ p.2.1).toArray 119 p.2.2) := rfl
      rw [← hsp]
      repeat' (first | refine l_run ?_ | refine l_nil ?_ | refine l_one ?_ | refine k_reg ?_ | refine l_ld ?_ | refine l_ldF ?_ | refine l_st ?_ | refine l_al (fun b => ?_) | refine l_bs (fun b => ?_) | refine k_condT ?_ | refine k_condF ?_ | refine k_brk ?_ | refine r_run ?_ | refine r_one ?_ | refine r_ld ?_ | refine r_ldF ?_ | refine r_ldN ?_ | refine r_al (fun b => ?_) | refine r_bs (fun b => ?_) | refine r_st ?_ | refine r_end ?_ | refine l_call (n1) (fun _ _ => ?_) | refine l_call0 (n1) (fun _ _ => ?_) | refine r_call (n1) (fun _ _ => ?_) | refine r_mgetE2 key_nm a (some i) hm ?_ | refine r_ixP (m := cs.length) i hil ?_ | refine r_ldE 7 i 5 hc1 ?_ | refine r_ldE 7 i 6 hc1 ?_ | (refine l_split (fun hc => ?_) (fun hc => ?_) <;> (try simp at hc) <;> (try omega)) | (refine r_split (fun hc => ?_) (fun hc => ?_) <;> (try simp at hc) <;> (try omega)) | refine k_draw 3 [] [(0, 0), (1, 0), (2, 0), (3, 0), (4, 0), (5, 0), (6, 0), (7, 0), (8, 0), (9, 0), (10, 0)] [] ?_ | refine k_draw 5 [] [(0, 0), (1, 0), (2, 0), (3, 0), (4, 0), (5, 0), (6, 0), (7, 0), (8, 0), (9, 0), (10, 0), (11, 0), (12, 0), (13, 0), (14, 0), (15, 0), (16, 0), (17, 0), (18, 0)] [] ?_ | refine k_draw 6 [] [(0, 0), (1, 0), (2, 0), (3, 0), (4, 0), (5, 4), (6, 0), (7, 0), (8, 0), (9, 0), (10, 0)] [] ?_ | (refine k_cond (fun hc => ?_) (fun hc => ?_) <;> (try simp at hc) <;> (try omega)))
      refine k_shut (r := Row 119 7 (some ⟨p.1, 0, none⟩) cs.length cap (cs.flatMap chf)) (Lx := [Ax 119 chf p.1 cs p.2]) (fun h hh => row_shut hp h hh) ?_
      refine k_vw' (cs := cs) (rs := rs) ?_ rfl rfl rfl
      exact k_ret () rfl trivial
    | none =>
      have hc2 := l2 hm
      have e1 : vget es cs a = ((getO a es).getD ⟨#[]⟩, (getO a es).isSome) := by unfold vget; rw [if_neg (by simp [h1]), hc2]
      have e2 : vread es rs cs a = mset a ⟨a, (getO a es).getD ⟨#[]⟩, !(getO a es).isSome⟩ rs := by unfold vread; rw [if_neg (by simp [h1]), hc2]
      rw [e1, e2]
      have n3 := fun (r1 : Nat) (v2 v3 : Value) => vwRead_ok b r1 (.pointer ps) v2 v3 103 rs ⟨a, (getO a es).getD ⟨#[]⟩, !(getO a es).isSome⟩
      refine ⟨enters_of Tryz.func41 (by kernel_rfl) rfl, spec_of (vs := [_, _]) Tryz.func41 rfl Tryz.ntmps41 rfl fun G w hp => ?_⟩
      refine k_vw fun q => ?_
      obtain ⟨r1, r2, o, cap⟩ := q
      repeat' (first | refine l_run ?_ | refine l_nil ?_ | refine l_one ?_ | refine k_reg ?_ | refine l_ld ?_ | refine l_ldF ?_ | refine l_st ?_ | refine l_al (fun b => ?_) | refine l_bs (fun b => ?_) | refine k_condT ?_ | refine k_condF ?_ | refine k_brk ?_ | refine r_run ?_ | refine r_one ?_ | refine r_ld ?_ | refine r_ldF ?_ | refine r_ldN ?_ | refine r_al (fun b => ?_) | refine r_bs (fun b => ?_) | refine r_st ?_ | refine r_end ?_ | refine l_call (n1) (fun _ _ => ?_) | refine l_call0 (n1) (fun _ _ => ?_) | refine r_call (n1) (fun _ _ => ?_) | refine l_call (n2) (fun _ _ => ?_) | refine l_call0 (n2) (fun _ _ => ?_) | refine r_call (n2) (fun _ _ => ?_) | refine l_call (n3 _ _ _) (fun _ _ => ?_) | refine l_call0 (n3 _ _ _) (fun _ _ => ?_) | refine r_call (n3 _ _ _) (fun _ _ => ?_) | refine r_mgetE2 key_nm a none hm ?_ | (refine l_split (fun hc => ?_) (fun hc => ?_) <;> (try simp at hc) <;> (try omega)) | (refine r_split (fun hc => ?_) (fun hc => ?_) <;> (try simp at hc) <;> (try omega)) | refine k_draw 3 [] [(0, 0), (1, 0), (2, 0), (3, 0), (4, 0), (5, 0), (6, 0), (7, 0), (8, 0), (9, 0), (10, 0)] [] ?_ | refine k_draw 5 [] [(0, 0), (1, 0), (2, 0), (3, 0), (4, 0), (5, 0), (6, 0), (7, 0), (8, 0), (9, 0), (10, 0), (11, 0), (12, 0), (13, 0), (14, 0), (15, 0), (16, 0), (17, 0), (18, 0)] [] ?_ | refine k_draw 6 [] [(0, 0), (1, 0), (2, 0), (3, 0), (4, 0), (5, 4), (6, 0), (7, 0), (8, 0), (9, 0), (10, 0)] [] ?_ | (refine k_cond (fun hc => ?_) (fun hc => ?_) <;> (try simp at hc) <;> (try omega)))
      refine k_vw' (cs := cs) (rs := mset a ⟨a, (getO a es).getD ⟨#[]⟩, !(getO a es).isSome⟩ rs) ?_ rfl rfl rfl
      exact k_ret () rfl trivial
  · have e1 : vget es cs a = (⟨#[]⟩, false) := by unfold vget; rw [if_pos h1]
    have e2 : vread es rs cs a = rs := by unfold vread; rw [if_pos h1]
    rw [e1, e2]
    refine ⟨enters_of Tryz.func41 (by kernel_rfl) rfl, spec_of (vs := [_, _]) Tryz.func41 rfl Tryz.ntmps41 rfl fun G w hp => ?_⟩
    repeat' (first | refine l_run ?_ | refine l_nil ?_ | refine l_one ?_ | refine k_reg ?_ | refine l_ld ?_ | refine l_ldF ?_ | refine l_st ?_ | refine l_al (fun b => ?_) | refine l_bs (fun b => ?_) | refine k_condT ?_ | refine k_condF ?_ | refine k_brk ?_ | refine l_call (n1) (fun _ _ => ?_) | refine l_call0 (n1) (fun _ _ => ?_) | (refine l_split (fun hc => ?_) (fun hc => ?_) <;> (try simp at hc) <;> (try omega)) | (refine k_cond (fun hc => ?_) (fun hc => ?_) <;> (try simp at hc) <;> (try omega)))
    exact k_ret () rfl trivial
end Go.Proofs.YtiggkcknmjgicaaGreatDoor

set_option maxRecDepth 10000
namespace Go.Proofs.YtiggkcknmjgicaaGreatDoor
open Go.RowKit

def cmpC (a b : Ch) : Int := cmpO a.nm b.nm
theorem cmpC_a (a b : Ch) (h : cmpC a b < 0) : ¬ cmpC b a < 0 := by
  have := (cmpO_anti a.nm b.nm).1 h
  unfold cmpC; omega
theorem cmpO_le {a b d : Nm} (h1 : ¬ cmpO b a < 0) (h2 : ¬ cmpO d b < 0) : ¬ cmpO d a < 0 := fun h => by
  by_cases h3 : cmpO a b < 0
  · exact h2 (cmpO_trans h h3)
  · have h4 : ¬ 0 < cmpO a b := fun h5 => h1 ((cmpO_anti b a).2 h5)
    have h5 : cmpO a b = 0 := by omega
    obtain rfl := (cmpO_eq a b).1 h5
    exact h2 h
theorem cmpC_t (a b d : Ch) (h1 : ¬ cmpC b a < 0) (h2 : ¬ cmpC d b < 0) : ¬ cmpC d a < 0 := cmpO_le h1 h2

theorem Spec.more {P : Program} {f : FuncId} {args : Array Value} {F : List Pf} {R : List HP} {post : Post} (h : Spec P f args [] R post) : Spec P f args F R post := fun G w hp hs =>
  (h G w hp (hs.facts fun _ _ _ hx => by cases hx))

theorem byName_ok (a c : Ch) (ha : a.nm.owner.size ≤ 1099511627770) (hc : c.nm.owner.size ≤ 1099511627770) : Enters 52 ∧ Spec Tryz.prog 52 #[a.v, c.v] [] [] (RetV (.int .i64 (cmpC a c))) := by
  have n1 := compareO_ok a.nm c.nm ha hc
  refine ⟨enters_of Tryz.func52 (by kernel_rfl) rfl, spec_of (vs := [_, _]) Tryz.func52 rfl Tryz.ntmps52 rfl fun G w hp => ?_⟩
  repeat' (first | refine l_run ?_ | refine l_nil ?_ | refine l_one ?_ | refine k_reg ?_ | refine l_ld ?_ | refine l_ldF ?_ | refine l_st ?_ | refine l_al (fun b => ?_) | refine l_bs (fun b => ?_) | refine k_condT ?_ | refine k_condF ?_ | refine k_brk ?_ | refine l_call (n1) (fun _ _ => ?_) | refine l_call0 (n1) (fun _ _ => ?_) | (refine l_split (fun hc => ?_) (fun hc => ?_) <;> (try simp at hc)) | (refine k_cond (fun hc => ?_) (fun hc => ?_) <;> (try simp at hc)))
  exact k_ret () rfl trivial

/-- The last calls, sorted by names. -/
def Ch.z : Ch := ⟨⟨0, ⟨#[]⟩, 0, 0, ⟨#[]⟩⟩, ⟨#[]⟩, false⟩
def chAt (cs : List Ch) (p : Nm × Nat) : Ch := (cs[p.2]?).getD Ch.z
def insC (c : Ch) : List Ch → List Ch
  | [] => [c]
  | d :: l => if cmpC c d < 0 then c :: d :: l else d :: insC c l
def srtC (l : List Ch) : List Ch := l.foldr insC []
def vwr (cs : List Ch) : List Ch := srtC ((lastL cs).map (chAt cs))

theorem insC_perm (c : Ch) : ∀ l, (insC c l).Perm (c :: l)
  | [] => List.Perm.refl _
  | d :: l => by
    unfold insC
    split
    · exact List.Perm.refl _
    · exact ((insC_perm c l).cons d).trans (List.Perm.swap _ _ _)
theorem srtC_perm : ∀ l, (srtC l).Perm l
  | [] => List.Perm.refl _
  | c :: l => (insC_perm c _).trans ((srtC_perm l).cons c)
theorem insC_srd (c : Ch) : ∀ l, Srd cmpC l → Srd cmpC (insC c l)
  | [], _ => List.pairwise_singleton _ _
  | d :: l, h => by
    obtain ⟨h1, h2⟩ := List.pairwise_cons.1 h
    unfold insC
    split
    · rename_i hlt
      refine List.pairwise_cons.2 ⟨fun x hx => ?_, h⟩
      rcases List.mem_cons.1 hx with rfl | hx
      · exact cmpC_a _ _ hlt
      · exact cmpC_t _ _ _ (cmpC_a _ _ hlt) (h1 x hx)
    · rename_i hge
      refine List.pairwise_cons.2 ⟨fun x hx => ?_, insC_srd c l h2⟩
      rcases List.mem_cons.1 ((insC_perm c l).mem_iff.1 hx) with rfl | hx
      · exact hge
      · exact h1 x hx
theorem srtC_srd : ∀ l, Srd cmpC (srtC l)
  | [] => List.Pairwise.nil
  | c :: l => insC_srd c _ (srtC_srd l)
/-- Two sorted lists of the same changes, with different names, are equal. -/
theorem srd_eq : ∀ (a b : List Ch), a.Perm b → Srd cmpC a → Srd cmpC b → (a.map (·.nm)).Nodup → a = b
  | [], b, hp, _, _, _ => (List.nil_perm.1 hp).symm
  | x :: a, [], hp, _, _, _ => by have := hp.length_eq; simp at this
  | x :: a, y :: b, hp, ha, hb, hn => by
    obtain ⟨a1, a2⟩ := List.pairwise_cons.1 ha
    obtain ⟨b1, b2⟩ := List.pairwise_cons.1 hb
    have hxy : x = y := by
      rcases List.mem_cons.1 (hp.mem_iff.1 (List.mem_cons_self (a := x))) with h | h
      · exact h
      · rcases List.mem_cons.1 (hp.mem_iff.2 (List.mem_cons_self (a := y))) with h' | h'
        · exact h'.symm
        · have h1 := a1 y h'
          have h2 := b1 x h
          have h3 : cmpO x.nm y.nm = 0 := by
            have := cmpO_anti x.nm y.nm
            have := cmpO_anti y.nm x.nm
            unfold cmpC at h1 h2
            omega
          have h4 := (cmpO_eq _ _).1 h3
          simp only [List.map_cons, List.nodup_cons] at hn
          exact absurd (List.mem_map.2 ⟨y, h', h4.symm⟩) hn.1
    subst hxy
    simp only [List.map_cons, List.nodup_cons] at hn
    rw [srd_eq a b (List.Perm.cons_inv hp) a2 b2 hn.2]
theorem chAt_nm {cs : List Ch} {p : Nm × Nat} (h : p ∈ lastL cs) : cs[p.2]? = some (chAt cs p) ∧ (chAt cs p).nm = p.1 := by
  have h1 := (mget_mem (lastL cs) (lastL_nodup cs) p.1 p.2).2 h
  obtain ⟨c, h2, h3⟩ := (lastL_get p.1 cs).1 p.2 h1
  unfold chAt
  rw [h2]
  exact ⟨rfl, (vcall_nm h3).1⟩
theorem vwr_eq {cs l : List Ch} (hp : l.Perm ((lastL cs).map (chAt cs))) (hs : Srd cmpC l) : l = vwr cs := by
  refine srd_eq _ _ (hp.trans (srtC_perm _).symm) hs (srtC_srd _) ?_
  have h1 := hp.map (·.nm)
  refine h1.nodup_iff.2 ?_
  rw [List.map_map]
  have h2 : (lastL cs).map ((·.nm) ∘ chAt cs) = (lastL cs).map (·.1) := List.map_congr_left fun p hp => (chAt_nm hp).2
  rw [h2]
  exact lastL_nodup cs

def WrPost (b : Nat) (ps : Option Addr) (rs : List (Nm × Ch)) (cs : List Ch) : Post := ⟨Option Addr × Nat, fun q => .slice q.1 (vwr cs).length q.2, fun _ => True, fun _ => [], fun q => [Vw b ps rs cs, Row 119 7 q.1 (vwr cs).length q.2 ((vwr cs).flatMap chf)]⟩
theorem vwr_len (cs : List Ch) : (vwr cs).length = (lastL cs).length := by
  unfold vwr; rw [(srtC_perm _).length_eq, List.length_map]

set_option maxHeartbeats 2000000 in
theorem vwWrites_ok (b : Nat) (ps : Option Addr) (rs : List (Nm × Ch)) (cs : List Ch) (hl : (lastL cs).length ≤ 200) (hsz : ∀ c ∈ cs, c.nm.owner.size ≤ 1099511627770) :
    Enters 19 ∧ Spec Tryz.prog 19 #[.pointer (some ⟨b, 0, none⟩)] [Usg] [Vw b ps rs cs] (WrPost b ps rs cs) := by
  by_cases hcs : cs = []
  · subst hcs
    have n1 := sortC_ok none 0 [] 52 Usg cmpC (by simp) cmpC_a cmpC_t (by simp)
    refine ⟨enters_of Tryz.func19 (by kernel_rfl) rfl, spec_of (vs := [_]) Tryz.func19 rfl Tryz.ntmps19 rfl fun G w hp => ?_⟩
    refine k_vw fun q => ?_
    obtain ⟨r1, r2, o, cap⟩ := q
    repeat' (first | refine l_run ?_ | refine l_nil ?_ | refine l_one ?_ | refine k_reg ?_ | refine l_ld ?_ | refine l_ldF ?_ | refine l_st ?_ | refine l_al (fun b => ?_) | refine l_bs (fun b => ?_) | refine k_condT ?_ | refine k_condF ?_ | refine k_brk ?_ | refine l_rng (K := Nm.v) (V := iv) (fun it => ?_) | (refine l_split (fun hc => ?_) (fun hc => ?_) <;> (try simp at hc)) | (refine k_cond (fun hc => ?_) (fun hc => ?_) <;> (try simp at hc)))
    refine k_lp (X := Unit) (fun _ => [(0, .pointer (some ⟨b, 0, none⟩)), (3, .slice none 0 0), (12, .pointer (some ⟨it, 0, none⟩))]) (fun _ => [Usg]) (fun _ => [Pt b (.cells #[.pointer ps, .map (some r1), .slice o 0 cap, .map (some r2)] 103), Mp Nm.v Ch.v r1 rs, Row 119 7 o 0 cap [], MpI Nm.v iv r2 it [] []]) (fun _ => 0) () ⟨rfl, rfl, rfl, trivial⟩ ?_
    rintro ⟨⟩
    refine k_shut (r := Row 119 7 none 0 0 []) (Lx := []) (fun h _ => row_nil _ _ h) ?_
    repeat' (first | refine l_run ?_ | refine l_nil ?_ | refine l_one ?_ | refine k_reg ?_ | refine l_ld ?_ | refine l_ldF ?_ | refine l_st ?_ | refine l_al (fun b => ?_) | refine l_bs (fun b => ?_) | refine k_condT ?_ | refine k_condF ?_ | refine k_brk ?_ | refine l_call (n1) (fun _ _ => ?_) | refine l_call0 (n1) (fun _ _ => ?_) | refine l_nxt (K := Nm.v) (V := iv) (fun p hp => ?_) (fun hp => ?_) | (refine l_split (fun hc => ?_) (fun hc => ?_) <;> (try simp at hc)) | (refine k_cond (fun hc => ?_) (fun hc => ?_) <;> (try simp at hc)))
    · exfalso
      obtain ⟨rest, h⟩ := hp
      have := h.length_eq
      simp at this
    · rename_i l hl2
      obtain rfl : l = [] := List.perm_nil.1 hl2.1
      refine k_rngE (r := r2) (it := it) (K := Nm.v) (V := iv) (m := []) ?_
      refine k_vw' (cs := []) (rs := rs) ?_ rfl rfl rfl
      exact k_ret (post := WrPost b ps rs []) (none, 0) rfl trivial
  · have hpos : 0 < cs.length := List.length_pos_iff.2 hcs
    refine ⟨enters_of Tryz.func19 (by kernel_rfl) rfl, spec_of (vs := [_]) Tryz.func19 rfl Tryz.ntmps19 rfl fun G w hp => ?_⟩
    refine k_vw fun q => ?_
    obtain ⟨r1, r2, o, cap⟩ := q
    refine k_row (m := cs.length) hpos fun p hp => ?_
    have ho := hp.o
    subst ho
    have hsp : Ax 119 chf p.1 cs p.2 = Pt p.1 (.cells (cs.flatMap chf ++ p.2.1).toArray 119 p.2.2) := rfl
    rw [← hsp]
    repeat' (first | refine l_run ?_ | refine l_nil ?_ | refine l_one ?_ | refine k_reg ?_ | refine l_ld ?_ | refine l_ldF ?_ | refine l_st ?_ | refine l_al (fun b => ?_) | refine l_bs (fun b => ?_) | refine k_condT ?_ | refine k_condF ?_ | refine k_brk ?_ | refine l_rng (K := Nm.v) (V := iv) (fun it => ?_) | (refine l_split (fun hc => ?_) (fun hc => ?_) <;> (try simp at hc)) | (refine k_cond (fun hc => ?_) (fun hc => ?_) <;> (try simp at hc)))
    refine k_shut (r := Row 119 7 none 0 0 []) (Lx := []) (fun h _ => row_nil _ _ h) ?_
    refine k_lp (X := { t : List (Nm × Nat) × Option Addr × Nat // ∃ rest, (t.1 ++ rest).Perm (lastL cs) }) (fun t => [(0, .pointer (some ⟨b, 0, none⟩)), (3, .slice t.1.2.1 (t.1.1.map (chAt cs)).length t.1.2.2), (12, .pointer (some ⟨it, 0, none⟩))]) (fun _ => [Usg])
      (fun t => [Pt b (.cells #[.pointer ps, .map (some r1), .slice (some ⟨p.1, 0, none⟩) cs.length cap, .map (some r2)] 103), Mp Nm.v Ch.v r1 rs, Ax 119 chf p.1 cs p.2, MpI Nm.v iv r2 it (lastL cs) t.1.1, Row 119 7 t.1.2.1 (t.1.1.map (chAt cs)).length t.1.2.2 ((t.1.1.map (chAt cs)).flatMap chf)]) (fun t => (lastL cs).length - t.1.1.length)
      ⟨([], none, 0), lastL cs, by simp⟩ ⟨rfl, rfl, rfl, trivial⟩ ?_
    rintro ⟨⟨pre, o, oc⟩, rest, hrest⟩
    have hprel := hrest.length_eq
    rw [List.length_append] at hprel
    dsimp only
    repeat' (first | refine l_run ?_ | refine l_nil ?_ | refine l_one ?_ | refine k_reg ?_ | refine l_ld ?_ | refine l_ldF ?_ | refine l_st ?_ | refine l_al (fun b => ?_) | refine l_bs (fun b => ?_) | refine k_condT ?_ | refine k_condF ?_ | refine k_brk ?_ | refine l_nxt (K := Nm.v) (V := iv) (fun e he => ?_) (fun he => ?_) | refine l_ent (K := Nm.v) (V := iv) e ?_ | (refine l_split (fun hc => ?_) (fun hc => ?_) <;> (try simp at hc)) | (refine k_cond (fun hc => ?_) (fun hc => ?_) <;> (try simp at hc)))
    · have hem : e ∈ lastL cs := by
        obtain ⟨rest', h⟩ := he
        exact h.mem_iff.1 (by simp)
      obtain ⟨he1, he2⟩ := chAt_nm hem
      have hil := (List.getElem?_eq_some_iff.1 he1).1
      have hlen2 : pre.length < (lastL cs).length := by
        obtain ⟨rest', h⟩ := he
        have := h.length_eq
        simp at this; omega
      have hpl : (List.map (chAt cs) pre).length ≤ 200 := by simp; omega
      repeat' (first | refine l_run ?_ | refine l_nil ?_ | refine l_one ?_ | refine k_reg ?_ | refine l_ld ?_ | refine l_ldF ?_ | refine l_st ?_ | refine l_al (fun b => ?_) | refine l_bs (fun b => ?_) | refine k_condT ?_ | refine k_condF ?_ | refine k_brk ?_ | refine l_ixS (m := cs.length) e.2 hil ?_ | refine l_ldE 7 e.2 0 he1 ?_ | refine l_app1 (fun o' cap' => ?_) | (refine l_split (fun hc => ?_) (fun hc => ?_) <;> (try simp at hc)) | (refine k_cond (fun hc => ?_) (fun hc => ?_) <;> (try simp at hc)))
      have e1 : (List.map (chAt cs) pre).length + 1 = (List.map (chAt cs) (pre ++ [e])).length := by simp
      have e2 : List.flatMap chf (List.map (chAt cs) pre) ++ chf (chAt cs e) = List.flatMap chf (List.map (chAt cs) (pre ++ [e])) := by simp
      refine k_rowc (T := 119) (sz := 7) (o := o') (cap := cap') (m := (List.map (chAt cs) pre).length + 1) _ _ e1 e2 ?_
      exact k_next ⟨(pre ++ [e], o', cap'), he⟩ (by show (lastL cs).length - (pre ++ [e]).length < (lastL cs).length - pre.length; simp; omega) ⟨rfl, (by show look _ _ = some (Value.slice o' (List.map (chAt cs) (pre ++ [e])).length cap'); rw [← e1]; rfl), rfl, trivial⟩
    · have hpm : (pre.map (chAt cs)).Perm ((lastL cs).map (chAt cs)) := he.map _
      have n1 := sortC_ok o oc (pre.map (chAt cs)) 52 Usg cmpC (by rw [hpm.length_eq, List.length_map]; exact hl) cmpC_a cmpC_t (fun x y hx hy => by
        have hz : ∀ x ∈ pre.map (chAt cs), x.nm.owner.size ≤ 1099511627770 := fun x hx => by
          obtain ⟨p, hp1, hp2⟩ := List.mem_map.1 (hpm.mem_iff.1 hx)
          rw [← hp2]
          exact hsz _ (List.mem_of_getElem? (chAt_nm hp1).1)
        have := byName_ok x y (hz x hx) (hz y hy)
        exact ⟨this.1, this.2.more⟩)
      repeat' (first | refine l_run ?_ | refine l_nil ?_ | refine l_one ?_ | refine k_reg ?_ | refine l_ld ?_ | refine l_ldF ?_ | refine l_st ?_ | refine l_al (fun b => ?_) | refine l_bs (fun b => ?_) | refine k_condT ?_ | refine k_condF ?_ | refine k_brk ?_ | refine l_call (n1) (fun _ _ => ?_) | refine l_call0 (n1) (fun _ _ => ?_) | (refine l_split (fun hc => ?_) (fun hc => ?_) <;> (try simp at hc)) | (refine k_cond (fun hc => ?_) (fun hc => ?_) <;> (try simp at hc)))
      rename_i l hl2
      have hle : l = vwr cs := vwr_eq (hl2.1.trans hpm) hl2.2
      subst hle
      have e3 : (pre.map (chAt cs)).length = (vwr cs).length := hl2.1.length_eq.symm
      refine k_rngE (r := r2) (it := it) (K := Nm.v) (V := iv) (m := lastL cs) (pre := pre) ?_
      refine k_shut (r := Row 119 7 (some ⟨p.1, 0, none⟩) cs.length cap (cs.flatMap chf)) (Lx := [Ax 119 chf p.1 cs p.2]) (fun h hh => row_shut hp h hh) ?_
      refine k_vw' (cs := cs) (rs := rs) (o := some ⟨p.1, 0, none⟩) (m := cs.length) (xs := cs.flatMap chf) ?_ rfl rfl rfl
      refine k_rowc (T := 119) (sz := 7) (o := o) (cap := oc) (m := (pre.map (chAt cs)).length) _ _ e3 rfl ?_
      exact k_ret (post := WrPost b ps rs cs) (o, oc) (by show resV [Value.slice o (pre.map (chAt cs)).length oc] = _; rw [e3]; rfl) trivial
end Go.Proofs.YtiggkcknmjgicaaGreatDoor

set_option maxRecDepth 10000
namespace Go.Proofs.YtiggkcknmjgicaaGreatDoor
open Go.RowKit

theorem mapsValues_ok (r : Nat) : Enters 51 ∧ Spec Tryz.prog 51 #[.map (some r)] [] []
    ⟨Nat, fun b => .func (.func 108) #[] #[.pointer (some ⟨b, 0, none⟩)], fun _ => True, fun b => [Blk b (.cells #[.map (some r)] 100)], fun _ => []⟩ := by
  refine ⟨enters_of Tryz.func51 (by kernel_rfl) rfl, spec_of (vs := [_]) Tryz.func51 rfl Tryz.ntmps51 rfl fun G w hp => ?_⟩
  repeat' (first | refine l_run ?_ | refine l_nil ?_ | refine l_one ?_ | refine k_reg ?_ | refine l_ld ?_ | refine l_ldF ?_ | refine l_st ?_ | refine l_al (fun b => ?_) | refine l_bs (fun b => ?_) | refine k_condT ?_ | refine k_condF ?_ | refine k_brk ?_ | refine l_split (fun hc => ?_) (fun hc => ?_) | refine k_cond (fun hc => ?_) (fun hc => ?_))
  refine k_fz ?_
  exact k_ret b rfl trivial

abbrev chv (p : Nm × Ch) : Value := p.2.v
def OkP {γ : Type} (m pre : List γ) : Prop := ∃ rest, (pre ++ rest).Perm m
theorem mapsValues_iter (b r : Nat) (m : List (Nm × Ch)) : IterU 108 [.pointer (some ⟨b, 0, none⟩)] chv (OkP m) (fun xs => xs.Perm m) [Blk b (.cells #[.map (some r)] 100)] [Mp Nm.v Ch.v r m] [Mp Nm.v Ch.v r m] := by
  intro v Y I Ix hy
  refine ⟨enters_of Tryz.func108 (by kernel_rfl) rfl, spec_of (vs := [_, _]) Tryz.func108 rfl Tryz.ntmps108 rfl fun G w hp => ?_⟩
  repeat' (first | refine l_run ?_ | refine l_nil ?_ | refine l_one ?_ | refine k_reg ?_ | refine l_ld ?_ | refine l_ldF ?_ | refine l_st ?_ | refine l_al (fun b => ?_) | refine l_bs (fun b => ?_) | refine k_condT ?_ | refine k_condF ?_ | refine k_brk ?_ | refine l_rng (K := Nm.v) (V := Ch.v) (fun it => ?_) | (refine l_split (fun hc => ?_) (fun hc => ?_) <;> (try simp at hc)) | (refine k_cond (fun hc => ?_) (fun hc => ?_) <;> (try simp at hc)))
  refine k_lp (X := { pre : List (Nm × Ch) // OkP m pre }) (fun _ => [(0, v), (6, .pointer (some ⟨it, 0, none⟩))]) (fun _ => [Y]) (fun t => [I t.1, MpI Nm.v Ch.v r it m t.1]) (fun t => m.length - t.1.length) ⟨[], m, by simp⟩ ⟨rfl, rfl, trivial⟩ ?_
  rintro ⟨pre, hpre⟩
  dsimp only
  repeat' (first | refine l_run ?_ | refine l_nil ?_ | refine l_one ?_ | refine k_reg ?_ | refine l_ld ?_ | refine l_ldF ?_ | refine l_st ?_ | refine l_al (fun b => ?_) | refine l_bs (fun b => ?_) | refine k_condT ?_ | refine k_condF ?_ | refine k_brk ?_ | refine l_nxt (K := Nm.v) (V := Ch.v) (fun e he => ?_) (fun he => ?_) | refine l_ent (K := Nm.v) (V := Ch.v) e ?_ | refine l_callV (hy pre e he) (fun x _ => ?_) | (refine l_split (fun hc => ?_) (fun hc => ?_) <;> (try simp at hc)) | (refine k_cond (fun hc => ?_) (fun hc => ?_) <;> (try simp at hc)))
  · cases x with
    | true => simp at hc
    | false =>
      refine k_rngE (r := r) (it := it) (K := Nm.v) (V := Ch.v) (m := m) (pre := pre ++ [e]) ?_
      exact k_rt (w_lq (w_ret (some (pre ++ [e]), []) rfl trivial))
  · cases x with
    | false => simp at hc
    | true =>
      exact k_next ⟨pre ++ [e], he⟩ (by
        obtain ⟨rest, h⟩ := he
        have := h.length_eq
        show m.length - (pre ++ [e]).length < m.length - pre.length
        simp at this ⊢; omega) ⟨rfl, rfl, trivial⟩
  · refine k_rngE (r := r) (it := it) (K := Nm.v) (V := Ch.v) (m := m) (pre := pre) ?_
    exact k_end (none, pre) rfl he

theorem sels_all : ∀ A : List HP, Sels A A []
  | [] => .nil
  | _ :: A => .cons .here (sels_all A)
theorem sel_last (x : HP) : ∀ A : List HP, Sel x (A ++ [x]) A
  | [] => .here
  | _ :: A => .there (sel_last x A)
theorem sels_tl : ∀ (A : List HP) (X : HP), Sels A (X :: A) [X]
  | [], _ => .nil
  | _ :: A, X => .cons (.there .here) (sels_tl A X)
theorem sels_app0 : ∀ A : List HP, Sels A (A ++ []) []
  | [] => .nil
  | _ :: A => .cons .here (sels_app0 A)
theorem entF_app : ∀ (F1 F0 : List Pf), EntF (F0 ++ F1) F1
  | [], _ => trivial
  | f :: F1, F0 => ⟨by
      induction F0 with
      | nil => exact ⟨_, .here⟩
      | cons g F0 ih => obtain ⟨F', s⟩ := ih; exact ⟨_, .there s⟩, by
      have := entF_app F1 (F0 ++ [f])
      rwa [List.append_assoc, List.singleton_append] at this⟩
theorem entF_self (F : List Pf) : EntF F F := by simpa using entF_app F []
abbrev JAL (b : Nat) (pre : List (Nm × Ch)) (q : Option Addr × Nat) : List HP := [Pt b (.cells #[.slice q.1 (pre.map (·.2)).length q.2] 58), Row 119 7 q.1 (pre.map (·.2)).length q.2 ((pre.map (·.2)).flatMap chf)]
def JA (b : Nat) (pre : List (Nm × Ch)) : HP := fun h => ∃ q, True ∧ Sep (JAL b pre q) h

set_option maxHeartbeats 1000000 in
theorem appendSeq_ok (gf : FuncId) (lb : Array Value) (Ok All : List (Nm × Ch) → Prop) (Fg : List Pf) (A A' : List HP) (hit : IterU gf lb.toList chv Ok All Fg A A') (hlen : ∀ pre, Ok pre → pre.length ≤ 1000000) :
    Enters 145 ∧ Spec Tryz.prog 145 #[.slice none 0 0, .func (.func gf) #[] lb] Fg A
      ⟨List (Nm × Ch) × Option Addr × Nat, fun q => .slice q.2.1 (q.1.map (·.2)).length q.2.2, fun q => All q.1, fun _ => [], fun q => Row 119 7 q.2.1 (q.1.map (·.2)).length q.2.2 ((q.1.map (·.2)).flatMap chf) :: A'⟩ := by
  refine ⟨enters_of Tryz.func145 (by kernel_rfl) rfl, spec_ofM (vs := [_, _]) Tryz.func145 rfl Tryz.ntmps145 rfl fun G w hp => ?_⟩
  repeat' (first | refine l_run ?_ | refine l_nil ?_ | refine l_one ?_ | refine k_reg ?_ | refine l_ld ?_ | refine l_ldF ?_ | refine l_st ?_ | refine l_al (fun b => ?_) | refine l_bs (fun b => ?_) | refine k_condT ?_ | refine k_condF ?_ | refine k_brk ?_ | refine l_split (fun hc => ?_) (fun hc => ?_) | refine k_cond (fun hc => ?_) (fun hc => ?_))
  generalize b = b2
  refine k_shut (Lx := []) (r := Row 119 7 none 0 0 []) (fun h _ => row_nil _ _ h) ?_
  refine k_shut (Lx := JAL b2 [] (none, 0)) (r := JA b2 []) (fun h hh => ⟨(none, 0), trivial, hh⟩) ?_
  refine k_rangeU (α := Nm × Ch) (enc := chv) (Ok := Ok) (All := All) (JA b2) (fun _ _ => False) hit ?_ ?_ ?_ (sel := .cons .here (sels_all A)) (hFg := entF_self Fg)
  · intro lr l pre e hpre G w0 hp0
    have hple := hlen _ hpre
    simp only [List.length_append, List.length_singleton] at hple
    refine k_open (X := Option Addr × Nat) (Lx := fun q => JAL b2 pre q) (p := fun _ => True) (r := JA b2 pre) (.there .here) (fun h hh => hh) (fun q _ => ?_)
    have hpl : (List.map (·.2) pre).length ≤ 1000000 := by simp; omega
    obtain ⟨o, cap⟩ := q
    repeat' (first | refine l_run ?_ | refine l_nil ?_ | refine l_one ?_ | refine k_reg ?_ | refine l_ld ?_ | refine l_ldF ?_ | refine l_st ?_ | refine l_al (fun b => ?_) | refine l_bs (fun b => ?_) | refine k_condT ?_ | refine k_condF ?_ | refine k_brk ?_ | refine k_beg ?_ | refine l_app1 (fun o' cap' => ?_) | refine l_split (fun hc => ?_) (fun hc => ?_) | refine k_cond (fun hc => ?_) (fun hc => ?_))
    have e1 : (List.map (·.2) pre).length + 1 = (List.map (·.2) (pre ++ [e])).length := by simp
    have e2 : List.flatMap chf (List.map (·.2) pre) ++ chf e.2 = List.flatMap chf (List.map (·.2) (pre ++ [e])) := by simp
    refine k_rowc (T := 119) (sz := 7) (o := o') (cap := cap') (m := (List.map (·.2) pre).length + 1) _ _ e1 e2 ?_
    rw [e1]
    refine k_shut (Lx := JAL b2 (pre ++ [e]) (o', cap')) (r := JA b2 (pre ++ [e])) (fun h hh => ⟨(o', cap'), trivial, hh⟩) ?_
    exact k_rn
  · intro D xs hxs
    refine k_open (X := Option Addr × Nat) (Lx := fun q => JAL b2 xs q) (p := fun _ => True) (r := JA b2 xs) .here (fun h hh => hh) (fun q _ => ?_)
    dsimp only [JAL]
    repeat' (first | refine l_run ?_ | refine l_nil ?_ | refine l_one ?_ | refine k_reg ?_ | refine l_ld ?_ | refine l_ldF ?_ | refine l_st ?_ | refine l_al (fun b => ?_) | refine l_bs (fun b => ?_) | refine k_condT ?_ | refine k_condF ?_ | refine k_brk ?_ | refine l_split (fun hc => ?_) (fun hc => ?_) | refine k_cond (fun hc => ?_) (fun hc => ?_))
    obtain ⟨o, cap⟩ := q
    exact k_retM (xs, o, cap) rfl hxs (hD := .there (.there (sel_last _ A'))) (hR := .cons (.there .here) (sels_tl A' _))
  · intro D pre
    exact w_open (X := Empty) (Lx := fun _ => []) (p := fun _ => False) .here (fun h hh => hh.elim) (fun q hq => hq.elim)

theorem collect_ok (gf : FuncId) (lb : Array Value) (Ok All : List (Nm × Ch) → Prop) (Fg : List Pf) (A A' : List HP) (hit : IterU gf lb.toList chv Ok All Fg A A') (hlen : ∀ pre, Ok pre → pre.length ≤ 1000000) :
    Enters 107 ∧ Spec Tryz.prog 107 #[.func (.func gf) #[] lb] Fg A
      ⟨List (Nm × Ch) × Option Addr × Nat, fun q => .slice q.2.1 (q.1.map (·.2)).length q.2.2, fun q => All q.1, fun _ => [], fun q => Row 119 7 q.2.1 (q.1.map (·.2)).length q.2.2 ((q.1.map (·.2)).flatMap chf) :: A'⟩ := by
  have n1 := appendSeq_ok gf lb Ok All Fg A A' hit hlen
  refine ⟨enters_of Tryz.func107 (by kernel_rfl) rfl, spec_of (vs := [_]) Tryz.func107 rfl Tryz.ntmps107 rfl fun G w hp => ?_⟩
  repeat' (first | refine l_run ?_ | refine l_nil ?_ | refine l_one ?_ | refine k_reg ?_ | refine l_ld ?_ | refine l_ldF ?_ | refine l_st ?_ | refine l_al (fun b => ?_) | refine l_bs (fun b => ?_) | refine k_condT ?_ | refine k_condF ?_ | refine k_brk ?_ | (refine l_split (fun hc => ?_) (fun hc => ?_) <;> (try simp at hc)) | (refine k_cond (fun hc => ?_) (fun hc => ?_) <;> (try simp at hc)))
  refine l_call n1 (fun q hq => ?_) (sel := sels_all A) (hF := entF_self Fg)
  repeat' (first | refine l_run ?_ | refine l_nil ?_ | refine l_one ?_ | refine k_reg ?_ | refine l_ld ?_ | refine l_ldF ?_ | refine l_st ?_ | refine l_al (fun b => ?_) | refine l_bs (fun b => ?_) | refine k_condT ?_ | refine k_condF ?_ | refine k_brk ?_ | (refine l_split (fun hc => ?_) (fun hc => ?_) <;> (try simp at hc)) | (refine k_cond (fun hc => ?_) (fun hc => ?_) <;> (try simp at hc)))
  exact k_ret q rfl hq (R0 := []) (hR := sels_app0 _)

/-- What was read: each name once. -/
structure RdOK (rs : List (Nm × Ch)) : Prop where
  nd : (rs.map (·.1)).Nodup
  nm : ∀ p ∈ rs, p.2.nm = p.1
  sz : ∀ p ∈ rs, p.1.owner.size ≤ 1099511627770
/-- The reads, sorted by names. -/
def vrd (rs : List (Nm × Ch)) : List Ch := srtC (rs.map (·.2))
theorem vrd_len (rs : List (Nm × Ch)) : (vrd rs).length = rs.length := by
  unfold vrd; rw [(srtC_perm _).length_eq, List.length_map]
theorem vrd_eq {rs : List (Nm × Ch)} {l : List Ch} (h : RdOK rs) (hp : l.Perm (rs.map (·.2))) (hs : Srd cmpC l) : l = vrd rs := by
  refine srd_eq _ _ (hp.trans (srtC_perm _).symm) hs (srtC_srd _) ?_
  refine (hp.map (·.nm)).nodup_iff.2 ?_
  rw [List.map_map]
  have h2 : rs.map ((·.nm) ∘ (·.2)) = rs.map (·.1) := List.map_congr_left fun p hp => h.nm p hp
  rw [h2]
  exact h.nd

theorem sortedFunc_ok (b r : Nat) (rs : List (Nm × Ch)) (h : RdOK rs) (hl : rs.length ≤ 200) :
    Enters 50 ∧ Spec Tryz.prog 50 #[.func (.func 108) #[] #[.pointer (some ⟨b, 0, none⟩)], .func (.func 52) #[] #[]]
      [Blk b (.cells #[.map (some r)] 100), Usg] [Mp Nm.v Ch.v r rs]
      ⟨Option Addr × Nat, fun q => .slice q.1 (vrd rs).length q.2, fun _ => True, fun _ => [], fun q => [Row 119 7 q.1 (vrd rs).length q.2 ((vrd rs).flatMap chf), Mp Nm.v Ch.v r rs]⟩ := by
  have n1 := collect_ok 108 #[.pointer (some ⟨b, 0, none⟩)] _ _ _ _ _ (mapsValues_iter b r rs) (fun pre hp => by
    obtain ⟨rest, hp⟩ := hp
    have := hp.length_eq
    simp at this; omega)
  refine ⟨enters_of Tryz.func50 (by kernel_rfl) rfl, spec_of (vs := [_, _]) Tryz.func50 rfl Tryz.ntmps50 rfl fun G w hp => ?_⟩
  repeat' (first | refine l_run ?_ | refine l_nil ?_ | refine l_one ?_ | refine k_reg ?_ | refine l_ld ?_ | refine l_ldF ?_ | refine l_st ?_ | refine l_al (fun b => ?_) | refine l_bs (fun b => ?_) | refine k_condT ?_ | refine k_condF ?_ | refine k_brk ?_ | refine l_call (n1) (fun _ _ => ?_) | refine l_call0 (n1) (fun _ _ => ?_) | (refine l_split (fun hc => ?_) (fun hc => ?_) <;> (try simp at hc)) | (refine k_cond (fun hc => ?_) (fun hc => ?_) <;> (try simp at hc)))
  rename_i q hq
  obtain ⟨xs, o, cap⟩ := q
  have hpm : (xs.map (·.2)).Perm (rs.map (·.2)) := List.Perm.map _ hq
  have n2 := sortC_ok o cap (xs.map (·.2)) 52 Usg cmpC (by rw [hpm.length_eq, List.length_map]; exact hl) cmpC_a cmpC_t (fun x y hx hy => by
    have hz : ∀ x ∈ xs.map (·.2), x.nm.owner.size ≤ 1099511627770 := fun x hx => by
      obtain ⟨p, hp1, hp2⟩ := List.mem_map.1 (hpm.mem_iff.1 hx)
      rw [← hp2, h.nm p hp1]
      exact h.sz p hp1
    have := byName_ok x y (hz x hx) (hz y hy)
    exact ⟨this.1, this.2.more⟩)
  repeat' (first | refine l_run ?_ | refine l_nil ?_ | refine l_one ?_ | refine k_reg ?_ | refine l_ld ?_ | refine l_ldF ?_ | refine l_st ?_ | refine l_al (fun b => ?_) | refine l_bs (fun b => ?_) | refine k_condT ?_ | refine k_condF ?_ | refine k_brk ?_ | refine l_call (n2) (fun _ _ => ?_) | refine l_call0 (n2) (fun _ _ => ?_) | (refine l_split (fun hc => ?_) (fun hc => ?_) <;> (try simp at hc)) | (refine k_cond (fun hc => ?_) (fun hc => ?_) <;> (try simp at hc)))
  rename_i l hl2
  have hle : l = vrd rs := vrd_eq h (hl2.1.trans hpm) hl2.2
  subst hle
  have e3 : (xs.map (·.2)).length = (vrd rs).length := hl2.1.length_eq.symm
  refine k_rowc (T := 119) (sz := 7) (o := o) (cap := cap) (m := (xs.map (·.2)).length) _ _ e3 rfl ?_
  exact k_ret (o, cap) (by show resV [Value.slice o (xs.map (·.2)).length cap] = _; rw [e3]; rfl) trivial

theorem vwReads_ok (b : Nat) (ps : Option Addr) (rs : List (Nm × Ch)) (cs : List Ch) (h : RdOK rs) (hl : rs.length ≤ 200) :
    Enters 17 ∧ Spec Tryz.prog 17 #[.pointer (some ⟨b, 0, none⟩)] [Usg] [Vw b ps rs cs]
      ⟨Option Addr × Nat, fun q => .slice q.1 (vrd rs).length q.2, fun _ => True, fun _ => [], fun q => [Vw b ps rs cs, Row 119 7 q.1 (vrd rs).length q.2 ((vrd rs).flatMap chf)]⟩ := by
  have n2 := fun (r : Nat) (c : Nat) => sortedFunc_ok c r rs h hl
  refine ⟨enters_of Tryz.func17 (by kernel_rfl) rfl, spec_of (vs := [_]) Tryz.func17 rfl Tryz.ntmps17 rfl fun G w hp => ?_⟩
  refine k_vw fun q => ?_
  obtain ⟨r1, r2, o, cap⟩ := q
  repeat' (first | refine l_run ?_ | refine l_nil ?_ | refine l_one ?_ | refine k_reg ?_ | refine l_ld ?_ | refine l_ldF ?_ | refine l_st ?_ | refine l_al (fun b => ?_) | refine l_bs (fun b => ?_) | refine k_condT ?_ | refine k_condF ?_ | refine k_brk ?_ | refine l_call (mapsValues_ok _) (fun _ _ => ?_) | refine l_call0 (mapsValues_ok _) (fun _ _ => ?_) | refine l_call (n2 r1 _) (fun _ _ => ?_) | refine l_call0 (n2 r1 _) (fun _ _ => ?_) | (refine l_split (fun hc => ?_) (fun hc => ?_) <;> (try simp at hc)) | (refine k_cond (fun hc => ?_) (fun hc => ?_) <;> (try simp at hc)))
  rename_i q2 _
  refine k_vw' (cs := cs) (rs := rs) (o := o) (m := cs.length) (xs := cs.flatMap chf) ?_ rfl rfl rfl
  exact k_ret q2 rfl trivial
end Go.Proofs.YtiggkcknmjgicaaGreatDoor

set_option maxRecDepth 10000
namespace Go.Proofs.YtiggkcknmjgicaaGreatDoor
open Go.RowKit

def WrPostF (r2 : Nat) (o : Option Addr) (cap : Nat) (cs : List Ch) : Post := ⟨Option Addr × Nat, fun q => .slice q.1 (vwr cs).length q.2, fun _ => True, fun _ => [], fun q => [Row 119 7 o cs.length cap (cs.flatMap chf), Mp Nm.v iv r2 (lastL cs), Row 119 7 q.1 (vwr cs).length q.2 ((vwr cs).flatMap chf)]⟩

set_option maxHeartbeats 2000000 in
theorem vwWritesF_ok (b : Nat) (ps : Option Addr) (r1 r2 : Nat) (o : Option Addr) (cap : Nat) (cs : List Ch) (hl : (lastL cs).length ≤ 200) (hsz : ∀ c ∈ cs, c.nm.owner.size ≤ 1099511627770) :
    Enters 19 ∧ Spec Tryz.prog 19 #[.pointer (some ⟨b, 0, none⟩)] [Blk b (.cells #[.pointer ps, .map (some r1), .slice o cs.length cap, .map (some r2)] 103), Usg] [Row 119 7 o cs.length cap (cs.flatMap chf), Mp Nm.v iv r2 (lastL cs)] (WrPostF r2 o cap cs) := by
  by_cases hcs : cs = []
  · subst hcs
    have n1 := sortC_ok none 0 [] 52 Usg cmpC (by simp) cmpC_a cmpC_t (by simp)
    refine ⟨enters_of Tryz.func19 (by kernel_rfl) rfl, spec_of (vs := [_]) Tryz.func19 rfl Tryz.ntmps19 rfl fun G w hp => ?_⟩
    repeat' (first | refine l_run ?_ | refine l_nil ?_ | refine l_one ?_ | refine k_reg ?_ | refine l_ld ?_ | refine l_ldF ?_ | refine l_st ?_ | refine l_al (fun b => ?_) | refine l_bs (fun b => ?_) | refine k_condT ?_ | refine k_condF ?_ | refine k_brk ?_ | refine l_rng (K := Nm.v) (V := iv) (fun it => ?_) | (refine l_split (fun hc => ?_) (fun hc => ?_) <;> (try simp at hc)) | (refine k_cond (fun hc => ?_) (fun hc => ?_) <;> (try simp at hc)))
    refine k_lp (X := Unit) (fun _ => [(0, .pointer (some ⟨b, 0, none⟩)), (3, .slice none 0 0), (12, .pointer (some ⟨it, 0, none⟩))]) (fun _ => [Usg]) (fun _ => [Row 119 7 o 0 cap [], MpI Nm.v iv r2 it [] []]) (fun _ => 0) () ⟨rfl, rfl, rfl, trivial⟩ ?_
    rintro ⟨⟩
    refine k_shut (r := Row 119 7 none 0 0 []) (Lx := []) (fun h _ => row_nil _ _ h) ?_
    repeat' (first | refine l_run ?_ | refine l_nil ?_ | refine l_one ?_ | refine k_reg ?_ | refine l_ld ?_ | refine l_ldF ?_ | refine l_st ?_ | refine l_al (fun b => ?_) | refine l_bs (fun b => ?_) | refine k_condT ?_ | refine k_condF ?_ | refine k_brk ?_ | refine l_call (n1) (fun _ _ => ?_) | refine l_call0 (n1) (fun _ _ => ?_) | refine l_nxt (K := Nm.v) (V := iv) (fun p hp => ?_) (fun hp => ?_) | (refine l_split (fun hc => ?_) (fun hc => ?_) <;> (try simp at hc)) | (refine k_cond (fun hc => ?_) (fun hc => ?_) <;> (try simp at hc)))
    · exfalso
      obtain ⟨rest, h⟩ := hp
      have := h.length_eq
      simp at this
    · rename_i l hl2
      obtain rfl : l = [] := List.perm_nil.1 hl2.1
      refine k_rngE (r := r2) (it := it) (K := Nm.v) (V := iv) (m := []) ?_
      exact k_ret (post := WrPostF r2 o cap []) (none, 0) rfl trivial
  · have hpos : 0 < cs.length := List.length_pos_iff.2 hcs
    refine ⟨enters_of Tryz.func19 (by kernel_rfl) rfl, spec_of (vs := [_]) Tryz.func19 rfl Tryz.ntmps19 rfl fun G w hp => ?_⟩
    refine k_row (m := cs.length) hpos fun p hp => ?_
    have ho := hp.o
    subst ho
    have hsp : Ax 119 chf p.1 cs p.2 = Pt p.1 (.cells (cs.flatMap chf ++ p.2.1).toArray 119 p.2.2) := rfl
    rw [← hsp]
    repeat' (first | refine l_run ?_ | refine l_nil ?_ | refine l_one ?_ | refine k_reg ?_ | refine l_ld ?_ | refine l_ldF ?_ | refine l_st ?_ | refine l_al (fun b => ?_) | refine l_bs (fun b => ?_) | refine k_condT ?_ | refine k_condF ?_ | refine k_brk ?_ | refine l_rng (K := Nm.v) (V := iv) (fun it => ?_) | (refine l_split (fun hc => ?_) (fun hc => ?_) <;> (try simp at hc)) | (refine k_cond (fun hc => ?_) (fun hc => ?_) <;> (try simp at hc)))
    refine k_shut (r := Row 119 7 none 0 0 []) (Lx := []) (fun h _ => row_nil _ _ h) ?_
    refine k_lp (X := { t : List (Nm × Nat) × Option Addr × Nat // ∃ rest, (t.1 ++ rest).Perm (lastL cs) }) (fun t => [(0, .pointer (some ⟨b, 0, none⟩)), (3, .slice t.1.2.1 (t.1.1.map (chAt cs)).length t.1.2.2), (12, .pointer (some ⟨it, 0, none⟩))]) (fun _ => [Blk b (.cells #[.pointer ps, .map (some r1), .slice (some ⟨p.1, 0, none⟩) cs.length cap, .map (some r2)] 103), Usg])
      (fun t => [Ax 119 chf p.1 cs p.2, MpI Nm.v iv r2 it (lastL cs) t.1.1, Row 119 7 t.1.2.1 (t.1.1.map (chAt cs)).length t.1.2.2 ((t.1.1.map (chAt cs)).flatMap chf)]) (fun t => (lastL cs).length - t.1.1.length)
      ⟨([], none, 0), lastL cs, by simp⟩ ⟨rfl, rfl, rfl, trivial⟩ ?_
    rintro ⟨⟨pre, o, oc⟩, rest, hrest⟩
    have hprel := hrest.length_eq
    rw [List.length_append] at hprel
    dsimp only
    repeat' (first | refine l_run ?_ | refine l_nil ?_ | refine l_one ?_ | refine k_reg ?_ | refine l_ld ?_ | refine l_ldF ?_ | refine l_st ?_ | refine l_al (fun b => ?_) | refine l_bs (fun b => ?_) | refine k_condT ?_ | refine k_condF ?_ | refine k_brk ?_ | refine l_nxt (K := Nm.v) (V := iv) (fun e he => ?_) (fun he => ?_) | refine l_ent (K := Nm.v) (V := iv) e ?_ | (refine l_split (fun hc => ?_) (fun hc => ?_) <;> (try simp at hc)) | (refine k_cond (fun hc => ?_) (fun hc => ?_) <;> (try simp at hc)))
    · have hem : e ∈ lastL cs := by
        obtain ⟨rest', h⟩ := he
        exact h.mem_iff.1 (by simp)
      obtain ⟨he1, he2⟩ := chAt_nm hem
      have hil := (List.getElem?_eq_some_iff.1 he1).1
      have hlen2 : pre.length < (lastL cs).length := by
        obtain ⟨rest', h⟩ := he
        have := h.length_eq
        simp at this; omega
      have hpl : (List.map (chAt cs) pre).length ≤ 200 := by simp; omega
      repeat' (first | refine l_run ?_ | refine l_nil ?_ | refine l_one ?_ | refine k_reg ?_ | refine l_ld ?_ | refine l_ldF ?_ | refine l_st ?_ | refine l_al (fun b => ?_) | refine l_bs (fun b => ?_) | refine k_condT ?_ | refine k_condF ?_ | refine k_brk ?_ | refine l_ixS (m := cs.length) e.2 hil ?_ | refine l_ldE 7 e.2 0 he1 ?_ | refine l_app1 (fun o' cap' => ?_) | (refine l_split (fun hc => ?_) (fun hc => ?_) <;> (try simp at hc)) | (refine k_cond (fun hc => ?_) (fun hc => ?_) <;> (try simp at hc)))
      have e1 : (List.map (chAt cs) pre).length + 1 = (List.map (chAt cs) (pre ++ [e])).length := by simp
      have e2 : List.flatMap chf (List.map (chAt cs) pre) ++ chf (chAt cs e) = List.flatMap chf (List.map (chAt cs) (pre ++ [e])) := by simp
      refine k_rowc (T := 119) (sz := 7) (o := o') (cap := cap') (m := (List.map (chAt cs) pre).length + 1) _ _ e1 e2 ?_
      exact k_next ⟨(pre ++ [e], o', cap'), he⟩ (by show (lastL cs).length - (pre ++ [e]).length < (lastL cs).length - pre.length; simp; omega) ⟨rfl, (by show look _ _ = some (Value.slice o' (List.map (chAt cs) (pre ++ [e])).length cap'); rw [← e1]; rfl), rfl, trivial⟩
    · have hpm : (pre.map (chAt cs)).Perm ((lastL cs).map (chAt cs)) := he.map _
      have n1 := sortC_ok o oc (pre.map (chAt cs)) 52 Usg cmpC (by rw [hpm.length_eq, List.length_map]; exact hl) cmpC_a cmpC_t (fun x y hx hy => by
        have hz : ∀ x ∈ pre.map (chAt cs), x.nm.owner.size ≤ 1099511627770 := fun x hx => by
          obtain ⟨p, hp1, hp2⟩ := List.mem_map.1 (hpm.mem_iff.1 hx)
          rw [← hp2]
          exact hsz _ (List.mem_of_getElem? (chAt_nm hp1).1)
        have := byName_ok x y (hz x hx) (hz y hy)
        exact ⟨this.1, this.2.more⟩)
      repeat' (first | refine l_run ?_ | refine l_nil ?_ | refine l_one ?_ | refine k_reg ?_ | refine l_ld ?_ | refine l_ldF ?_ | refine l_st ?_ | refine l_al (fun b => ?_) | refine l_bs (fun b => ?_) | refine k_condT ?_ | refine k_condF ?_ | refine k_brk ?_ | refine l_call (n1) (fun _ _ => ?_) | refine l_call0 (n1) (fun _ _ => ?_) | (refine l_split (fun hc => ?_) (fun hc => ?_) <;> (try simp at hc)) | (refine k_cond (fun hc => ?_) (fun hc => ?_) <;> (try simp at hc)))
      rename_i l hl2
      have hle : l = vwr cs := vwr_eq (hl2.1.trans hpm) hl2.2
      subst hle
      have e3 : (pre.map (chAt cs)).length = (vwr cs).length := hl2.1.length_eq.symm
      refine k_rngE (r := r2) (it := it) (K := Nm.v) (V := iv) (m := lastL cs) (pre := pre) ?_
      refine k_shut (r := Row 119 7 (some ⟨p.1, 0, none⟩) cs.length cap (cs.flatMap chf)) (Lx := [Ax 119 chf p.1 cs p.2]) (fun h hh => row_shut hp h hh) ?_
      refine k_rowc (T := 119) (sz := 7) (o := o) (cap := oc) (m := (pre.map (chAt cs)).length) _ _ e3 rfl ?_
      exact k_ret (post := WrPostF r2 (some ⟨p.1, 0, none⟩) cap cs) (o, oc) (by show resV [Value.slice o (pre.map (chAt cs)).length oc] = _; rw [e3]; rfl) trivial
end Go.Proofs.YtiggkcknmjgicaaGreatDoor

set_option maxRecDepth 10000
namespace Go.Proofs.YtiggkcknmjgicaaGreatDoor
open Go.RowKit

theorem r_frz {n : Nat} {C : Cx} {Q : Exit → Act → World → Prop} {E : List (Nat × Value)} {F Fs : List Pf} {R N N' : List HP} {k : List Fr} {ops : List Oper} {L : List (Nat × Nat)} {Tl : List Nat} {α : Type} {T sz : Nat} {f : α → List Value} {o : Option Addr} {m cap : Nat} {xs : List Value} (es : List α)
    (t : Wr n C ops k Q Tl Fs R L E (Sl T f o cap es :: F) N') (hx : xs = es.flatMap f) (hm : m = es.length) (hs : Sel (Row T sz o m cap xs) N N' := by (repeat (first | exact Sel.here | apply Sel.there)); first | done | fail) (h5 : (L.all fun y => y.2 != 5) = true := by rfl) : Wr n C ops k Q Tl Fs R L E F N :=
  r_imp (fun _ _ _ _ h => frz_row hx hm hs h) t h5

/-- Changes that set values, and fit. -/
structure FitC (c : Ch) : Prop where
  ok : nchk c.nm = 0
  val : c.val.size ≤ 65536
  abs : c.abs = false
  own : c.nm.owner.size ≤ 1099511627770
  txt : c.nm.text.size ≤ 1099511627776
def applyE (es : Al) (l : List Ch) : Al := l.foldl (fun es c => insO c.nm c.val es) es
theorem applyE_snoc (es : Al) (l : List Ch) (c : Ch) : applyE es (l ++ [c]) = insO c.nm c.val (applyE es l) := by simp [applyE]
theorem applyE_len (es : Al) (l : List Ch) : (applyE es l).length ≤ es.length + l.length := by
  refine snoc_ind (P := fun l => (applyE es l).length ≤ es.length + l.length) (by simp [applyE]) (fun l c ih => ?_) l
  rw [applyE_snoc]
  have := insO_len c.nm c.val (applyE es l)
  simp; omega

set_option maxHeartbeats 1000000 in
theorem apply_ok (bs : Nat) (es : Al) (o : Option Addr) (cap : Nat) (l : List Ch) (hf : ∀ c ∈ l, FitC c) (hl : es.length + l.length ≤ 65536) :
    Enters 16 ∧ Spec Tryz.prog 16 #[.pointer (some ⟨bs, 0, none⟩), .slice o l.length cap] [St (some ⟨bs, 0, none⟩) es, Sl 119 chf o cap l, Usg] []
      ⟨Nat, fun b => .tuple #[.pointer (some ⟨b, 0, none⟩), .int .i64 0], fun _ => True, fun b => [St (some ⟨b, 0, none⟩) (applyE es l)], fun _ => []⟩ := by
  refine ⟨enters_of Tryz.func16 (by kernel_rfl) rfl, spec_of (vs := [_, _]) Tryz.func16 rfl Tryz.ntmps16 rfl fun G w hp => ?_⟩
  repeat' (first | refine l_run ?_ | refine l_nil ?_ | refine l_one ?_ | refine k_reg ?_ | refine l_ld ?_ | refine l_ldF ?_ | refine l_st ?_ | refine l_al (fun b => ?_) | refine l_bs (fun b => ?_) | refine k_condT ?_ | refine k_condF ?_ | refine k_brk ?_ | (refine l_split (fun hc => ?_) (fun hc => ?_) <;> (try simp at hc)) | (refine k_cond (fun hc => ?_) (fun hc => ?_) <;> (try simp at hc)))
  refine k_lp (X := { t : Nat × Nat // t.1 ≤ l.length }) (fun t => [(0, .pointer (some ⟨t.1.2, 0, none⟩)), (11, .slice o l.length cap), (12, .int .i64 (l.length : Int)), (13, .int .i64 (t.1.1 : Int))]) (fun t => [St (some ⟨t.1.2, 0, none⟩) (applyE es (l.take t.1.1)), Sl 119 chf o cap l, Usg]) (fun _ => []) (fun t => l.length - t.1.1)
    ⟨(0, bs), by simp⟩ ⟨rfl, rfl, rfl, rfl, trivial⟩ ?_
  rintro ⟨⟨i, b1⟩, hi⟩
  dsimp only at hi ⊢
  by_cases hlt : i < l.length
  · have hgt := List.getElem?_eq_getElem hlt
    obtain ⟨c, hcc⟩ : ∃ c, l[i] = c := ⟨_, rfl⟩
    rw [hcc] at hgt
    have hm : c ∈ l := by rw [← hcc]; exact List.getElem_mem hlt
    have fc := hf c hm
    have he : withE (applyE es (l.take i)) c.nm c.val = 0 := by
      have h1 := applyE_len es (l.take i)
      have h2 : (l.take i).length = i := by simp; omega
      have h3 := fc.ok
      have h4 := fc.val
      unfold withE
      rw [if_neg (by simp [h3]), if_neg (by omega), if_neg (fun h => by omega)]
    have n1 := stateWith_ok (some ⟨b1, 0, none⟩) (applyE es (l.take i)) c.nm c.val fc.own fc.txt
    rw [he] at n1
    have ea := fc.abs
    repeat' (first | refine l_run ?_ | refine l_nil ?_ | refine l_one ?_ | refine k_reg ?_ | refine l_ld ?_ | refine l_ldF ?_ | refine l_st ?_ | refine l_al (fun b => ?_) | refine l_bs (fun b => ?_) | refine k_condT ?_ | refine k_condF ?_ | refine k_brk ?_ | refine l_call (n1) (fun _ _ => ?_) | refine l_call0 (n1) (fun _ _ => ?_) | refine l_ixe i c hgt (fun b off => ?_) | refine l_ldC ?_ | rw [ea] | (refine l_split (fun hc => ?_) (fun hc => ?_) <;> (try simp at hc) <;> (try omega)) | (refine k_cond (fun hc => ?_) (fun hc => ?_) <;> (try simp at hc) <;> (try omega)))
    rename_i q _
    refine k_fact (X := Nat) (Fx := fun b => [St (some ⟨b, 0, none⟩) (applyE es (l.take (i + 1)))]) (p := fun b => q = some ⟨b, 0, none⟩) (f := StR q 0 (insO c.nm c.val (applyE es (l.take i)))) .here (fun h hh => ?_) (fun b2 hb2 => ?_)
    · have hh' : (St q (insO c.nm c.val (applyE es (l.take i)))).p h := hh
      obtain ⟨tr, g1, g2, b3, p3, g3, g4⟩ := hh'
      subst g3
      refine ⟨b3, rfl, fun g hg => ?_⟩
      obtain rfl := List.mem_singleton.1 hg
      rw [List.take_succ_eq_append_getElem hlt, hcc, applyE_snoc]
      exact ⟨tr, g1, g2, b3, p3, rfl, g4⟩
    · subst hb2
      rw [wrapi (z := (i : Int) + 1) (by omega) (by omega)]
      exact k_next ⟨(i + 1, b2), by simp; omega⟩ (by show l.length - (i + 1) < l.length - i; omega) ⟨rfl, rfl, rfl, rfl, trivial⟩
  · repeat' (first | refine l_run ?_ | refine l_nil ?_ | refine l_one ?_ | refine k_reg ?_ | refine l_ld ?_ | refine l_ldF ?_ | refine l_st ?_ | refine l_al (fun b => ?_) | refine l_bs (fun b => ?_) | refine k_condT ?_ | refine k_condF ?_ | refine k_brk ?_ | (refine l_split (fun hc => ?_) (fun hc => ?_) <;> (try simp at hc) <;> (try omega)) | (refine k_cond (fun hc => ?_) (fun hc => ?_) <;> (try simp at hc) <;> (try omega)))
    obtain rfl : i = l.length := by omega
    rw [List.take_length]
    exact k_ret b1 rfl trivial

theorem vcs_fit {cs : List Ch} (h : ∀ c ∈ cs, FitC c) : ∀ c ∈ vwr cs, FitC c := fun c hc => by
  have h1 := (srtC_perm _).mem_iff.1 hc
  obtain ⟨p, hp1, hp2⟩ := List.mem_map.1 h1
  rw [← hp2]
  exact h _ (List.mem_of_getElem? (chAt_nm hp1).1)

set_option maxHeartbeats 1000000 in
theorem vwAfter_ok (b bs : Nat) (es : Al) (rs : List (Nm × Ch)) (cs : List Ch) (hl : (lastL cs).length ≤ 200) (hf : ∀ c ∈ cs, FitC c) (hes : es.length ≤ 65000) :
    Enters 36 ∧ Spec Tryz.prog 36 #[.pointer (some ⟨b, 0, none⟩)] [St (some ⟨bs, 0, none⟩) es, Usg] [Vw b (some ⟨bs, 0, none⟩) rs cs]
      ⟨Nat, fun q => .tuple #[.pointer (some ⟨q, 0, none⟩), .int .i64 0], fun _ => True, fun q => [St (some ⟨q, 0, none⟩) (applyE es (vwr cs))], fun _ => [Vw b (some ⟨bs, 0, none⟩) rs cs]⟩ := by
  have n1 := fun (r1 r2 : Nat) (o : Option Addr) (cap : Nat) => vwWritesF_ok b (some ⟨bs, 0, none⟩) r1 r2 o cap cs hl (fun c hc => (hf c hc).own)
  have hw := vwr_len cs
  have n2 := fun (q : Option Addr × Nat) => apply_ok bs es q.1 q.2 (vwr cs) (vcs_fit hf) (by omega)
  refine ⟨enters_of Tryz.func36 (by kernel_rfl) rfl, spec_of (vs := [_]) Tryz.func36 rfl Tryz.ntmps36 rfl fun G w hp => ?_⟩
  refine k_vw fun q => ?_
  obtain ⟨r1, r2, o, cap⟩ := q
  repeat' (first | refine l_run ?_ | refine l_nil ?_ | refine l_one ?_ | refine k_reg ?_ | refine l_ld ?_ | refine l_ldF ?_ | refine l_st ?_ | refine l_al (fun b => ?_) | refine l_bs (fun b => ?_) | refine k_condT ?_ | refine k_condF ?_ | refine k_brk ?_ | refine r_run ?_ | refine r_one ?_ | refine r_ld ?_ | refine r_ldF ?_ | refine r_ldN ?_ | refine r_al (fun b => ?_) | refine r_bs (fun b => ?_) | refine r_st ?_ | refine r_end ?_ | refine r_callS (n1 r1 r2 o cap) (fun _ => rfl) (fun q _ => ?_) | (refine l_split (fun hc => ?_) (fun hc => ?_) <;> (try simp at hc)) | (refine r_split (fun hc => ?_) (fun hc => ?_) <;> (try simp at hc)) | refine k_draw 3 [Row _ _ _ _ _ _, Mp Nm.v iv _ _] [(0, 0), (1, 0), (2, 0), (3, 0), (4, 0), (5, 4), (6, 4), (7, 0), (8, 0), (9, 0), (10, 0)] [] ?_ | (refine k_cond (fun hc => ?_) (fun hc => ?_) <;> (try simp at hc)))
  obtain ⟨qo, qc⟩ := q
  have n2' := n2 (qo, qc)
  refine r_frz (T := 119) (sz := 7) (f := chf) (o := qo) (cap := qc) (m := (vwr cs).length) (xs := (vwr cs).flatMap chf) (vwr cs) ?_ rfl rfl (hs := .there (.there .here))
  repeat' (first | refine r_call n2' (fun _ _ => ?_) | refine l_run ?_ | refine l_nil ?_ | refine l_one ?_ | refine k_reg ?_ | refine l_ld ?_ | refine l_ldF ?_ | refine l_st ?_ | refine l_al (fun b => ?_) | refine l_bs (fun b => ?_) | refine k_condT ?_ | refine k_condF ?_ | refine k_brk ?_ | refine l_call (n2') (fun _ _ => ?_) | refine l_call0 (n2') (fun _ _ => ?_) | refine r_run ?_ | refine r_one ?_ | refine r_end ?_ | (refine l_split (fun hc => ?_) (fun hc => ?_) <;> (try simp at hc)) | (refine k_cond (fun hc => ?_) (fun hc => ?_) <;> (try simp at hc)))
  rename_i b' _
  refine k_vw' (cs := cs) (rs := rs) (o := o) (m := cs.length) (xs := cs.flatMap chf) ?_ rfl rfl rfl
  exact k_ret b' rfl trivial
end Go.Proofs.YtiggkcknmjgicaaGreatDoor

set_option maxRecDepth 10000
namespace Go.Proofs.YtiggkcknmjgicaaGreatDoor
open Go.RowKit

/-- Counts. -/
structure Ct where
  b : Int
  o : Int
  c : Int
  deriving DecidableEq
def Ct.v (c : Ct) : Value := .agg #[.int .i64 c.b, .int .i64 c.o, .int .i64 c.c]
def Ct.z : Ct := ⟨0, 0, 0⟩
structure CtOK (c : Ct) : Prop where
  b0 : 0 ≤ c.b
  b1 : c.b ≤ 1048576
  o0 : 0 ≤ c.o
  o1 : c.o ≤ 1048576
  c0 : 0 ≤ c.c
  c1 : c.c ≤ 1048576
def cenc (c : Ct) : List UInt8 := venc c.b.toNat ++ venc c.o.toNat ++ venc c.c.toNat

theorem iwithin_ok (x m : Int) : Enters 92 ∧ Spec Tryz.prog 92 #[.int .i64 x, .int .i64 m] [] [] (RetV (.bool (decide (0 ≤ x) && decide (x ≤ m)))) := by
  refine ⟨enters_of Tryz.func92 (by kernel_rfl) rfl, spec_of (vs := [_, _]) Tryz.func92 rfl Tryz.ntmps92 rfl fun G w hp => ?_⟩
  repeat' (first | refine l_run ?_ | refine l_nil ?_ | refine l_one ?_ | refine k_reg ?_ | refine l_ld ?_ | refine l_ldF ?_ | refine l_st ?_ | refine l_al (fun b => ?_) | refine l_bs (fun b => ?_) | refine k_condT ?_ | refine k_condF ?_ | refine k_brk ?_ | (refine l_split (fun hc => ?_) (fun hc => ?_) <;> (try simp at hc)) | (refine k_cond (fun hc => ?_) (fun hc => ?_) <;> (try simp at hc)))
  all_goals (refine k_ret () ?_ trivial; simp_all [RetV, resV] <;> omega)
def cchk (c : Ct) : Int := if 0 ≤ c.b ∧ c.b ≤ 1048576 ∧ 0 ≤ c.o ∧ c.o ≤ 1048576 ∧ 0 ≤ c.c ∧ c.c ≤ 1048576 then 0 else 2
theorem cchk_ok {c : Ct} (h : CtOK c) : cchk c = 0 := by
  unfold cchk; rw [if_pos ⟨h.b0, h.b1, h.o0, h.o1, h.c0, h.c1⟩]
theorem cntCheck_ok (c : Ct) : Enters 194 ∧ Spec Tryz.prog 194 #[c.v] [] [] (RetV (.int .i64 (cchk c))) := by
  have n1 := iwithin_ok c.b 1048576
  have n2 := iwithin_ok c.o 1048576
  have n3 := iwithin_ok c.c 1048576
  refine ⟨enters_of Tryz.func194 (by kernel_rfl) rfl, spec_of (vs := [_]) Tryz.func194 rfl Tryz.ntmps194 rfl fun G w hp => ?_⟩
  repeat' (first | refine l_run ?_ | refine l_nil ?_ | refine l_one ?_ | refine k_reg ?_ | refine l_ld ?_ | refine l_ldF ?_ | refine l_st ?_ | refine l_al (fun b => ?_) | refine l_bs (fun b => ?_) | refine k_condT ?_ | refine k_condF ?_ | refine k_brk ?_ | refine l_call (n1) (fun _ _ => ?_) | refine l_call0 (n1) (fun _ _ => ?_) | refine l_call (n2) (fun _ _ => ?_) | refine l_call0 (n2) (fun _ _ => ?_) | refine l_call (n3) (fun _ _ => ?_) | refine l_call0 (n3) (fun _ _ => ?_) | (refine l_split (fun hc => ?_) (fun hc => ?_) <;> (try simp at hc)) | (refine k_cond (fun hc => ?_) (fun hc => ?_) <;> (try simp at hc)))
  all_goals (refine k_ret () ?_ trivial; simp_all [RetV, resV, cchk] <;> omega)

/-- An encoder over a writer. -/
abbrev EncL (b bw : Nat) (e : Int) (bs : List UInt8) : List HP := [Pt b (.cells #[.pointer (some ⟨bw, 0, none⟩), .int .i64 e] 264), Wtr bw bs]
theorem newEncoder_ok (e : Int) : Enters 180 ∧ Spec Tryz.prog 180 #[.int .i64 e] [] [] ⟨Nat × Nat, fun q => .pointer (some ⟨q.1, 0, none⟩), fun _ => True, fun _ => [], fun q => EncL q.1 q.2 e []⟩ := by
  refine ⟨enters_of Tryz.func180 (by kernel_rfl) rfl, spec_of (vs := [_]) Tryz.func180 rfl Tryz.ntmps180 rfl fun G w hp => ?_⟩
  repeat' (first | refine l_run ?_ | refine l_nil ?_ | refine l_one ?_ | refine k_reg ?_ | refine l_ld ?_ | refine l_ldF ?_ | refine l_st ?_ | refine l_al (fun b => ?_) | refine l_bs (fun b => ?_) | refine k_condT ?_ | refine k_condF ?_ | refine k_brk ?_ | refine l_call (newWriter_ok) (fun _ _ => ?_) | refine l_call0 (newWriter_ok) (fun _ _ => ?_) | (refine l_split (fun hc => ?_) (fun hc => ?_) <;> (try simp at hc)) | (refine k_cond (fun hc => ?_) (fun hc => ?_) <;> (try simp at hc)))
  rename_i bw _
  exact k_ret (b, bw) rfl trivial

theorem vencs_len : ∀ l : List Int, (∀ z ∈ l, 0 ≤ z ∧ z ≤ 4294967296) → (l.flatMap fun z => venc z.toNat).length ≤ l.length * 10
  | [], _ => by simp
  | z :: l, h => by
    have h1 := venc_len10 z.toNat (by have := h z (by simp); omega)
    have h2 := vencs_len l (fun y hy => h y (by simp [hy]))
    simp only [List.flatMap_cons, List.length_append, List.length_cons]
    omega
theorem numbers_ok (b bw : Nat) (e : Int) (bs : List UInt8) (o : Option Addr) (cap : Nat) (l : List Int) (hl : l.length ≤ 1000) (hz : ∀ z ∈ l, 0 ≤ z ∧ z ≤ 4294967296) (hb : bs.length ≤ 1000000) :
    Enters 181 ∧ Spec Tryz.prog 181 #[.pointer (some ⟨b, 0, none⟩), .slice o l.length cap] [Sl 3 zf o cap l] (EncL b bw e bs)
      ⟨Unit, fun _ => .tuple #[], fun _ => True, fun _ => [], fun _ => EncL b bw e (bs ++ l.flatMap fun z => venc z.toNat)⟩ := by
  refine ⟨enters_of Tryz.func181 (by kernel_rfl) rfl, spec_of (vs := [_, _]) Tryz.func181 rfl Tryz.ntmps181 rfl fun G w hp => ?_⟩
  repeat' (first | refine l_run ?_ | refine l_nil ?_ | refine l_one ?_ | refine k_reg ?_ | refine l_ld ?_ | refine l_ldF ?_ | refine l_st ?_ | refine l_al (fun b => ?_) | refine l_bs (fun b => ?_) | refine k_condT ?_ | refine k_condF ?_ | refine k_brk ?_ | (refine l_split (fun hc => ?_) (fun hc => ?_) <;> (try simp at hc)) | (refine k_cond (fun hc => ?_) (fun hc => ?_) <;> (try simp at hc)))
  refine k_lp (X := { i : Nat // i ≤ l.length }) (fun i => [(0, .pointer (some ⟨b, 0, none⟩)), (6, .slice o l.length cap), (7, .int .i64 (l.length : Int)), (8, .int .i64 (i.1 : Int))]) (fun _ => [Sl 3 zf o cap l]) (fun i => EncL b bw e (bs ++ (l.take i.1).flatMap fun z => venc z.toNat)) (fun i => l.length - i.1) ⟨0, by omega⟩ ⟨rfl, rfl, rfl, rfl, trivial⟩ ?_ (hr := by simp only [List.take_zero, List.flatMap_nil, List.append_nil]; exact Sels.cons .here (.cons .here .nil))
  rintro ⟨i, hi⟩
  dsimp only at hi ⊢
  by_cases hlt : i < l.length
  · have hgt := List.getElem?_eq_getElem hlt
    obtain ⟨z, hzz⟩ : ∃ z, l[i] = z := ⟨_, rfl⟩
    rw [hzz] at hgt
    have hm : z ∈ l := by rw [← hzz]; exact List.getElem_mem hlt
    obtain ⟨z0, z1⟩ := hz z hm
    have hlen := vencs_len (l.take i) (fun y hy => hz y (List.mem_of_mem_take hy))
    have h2 : (l.take i).length = i := by simp; omega
    have n1 := wtrNumber_ok bw (bs ++ (l.take i).flatMap fun z => venc z.toNat) z.toNat (by omega) (by rw [List.length_append]; omega)
    rw [show ((z.toNat : Nat) : Int) = z by omega] at n1
    repeat' (first | refine l_run ?_ | refine l_nil ?_ | refine l_one ?_ | refine k_reg ?_ | refine l_ld ?_ | refine l_ldF ?_ | refine l_st ?_ | refine l_al (fun b => ?_) | refine l_bs (fun b => ?_) | refine k_condT ?_ | refine k_condF ?_ | refine k_brk ?_ | refine l_call (n1) (fun _ _ => ?_) | refine l_call0 (n1) (fun _ _ => ?_) | refine l_ixe i z hgt (fun b off => ?_) | refine l_ldC ?_ | (refine l_split (fun hc => ?_) (fun hc => ?_) <;> (try simp at hc) <;> (try omega)) | (refine k_cond (fun hc => ?_) (fun hc => ?_) <;> (try simp at hc) <;> (try omega)))
    rw [wrapi (z := (i : Int) + 1) (by omega) (by omega)]
    have e1 : bs ++ ((l.take i).flatMap fun z => venc z.toNat) ++ venc z.toNat = bs ++ (l.take (i + 1)).flatMap fun z => venc z.toNat := by
      rw [List.take_succ_eq_append_getElem hlt, hzz]; simp
    rw [e1]
    exact k_next ⟨i + 1, by omega⟩ (by show l.length - (i + 1) < l.length - i; omega) ⟨rfl, rfl, rfl, rfl, trivial⟩
  · obtain rfl : i = l.length := by omega
    rw [List.take_length]
    repeat' (first | refine l_run ?_ | refine l_nil ?_ | refine l_one ?_ | refine k_reg ?_ | refine l_ld ?_ | refine l_ldF ?_ | refine l_st ?_ | refine l_al (fun b => ?_) | refine l_bs (fun b => ?_) | refine k_condT ?_ | refine k_condF ?_ | refine k_brk ?_ | (refine l_split (fun hc => ?_) (fun hc => ?_) <;> (try simp at hc) <;> (try omega)) | (refine k_cond (fun hc => ?_) (fun hc => ?_) <;> (try simp at hc) <;> (try omega)))
    exact k_end () rfl trivial
end Go.Proofs.YtiggkcknmjgicaaGreatDoor

namespace Go.Proofs.YtiggkcknmjgicaaGreatDoor
open Go.RowKit

theorem venc_props : ∀ (k u : Nat), u ≤ k → ∃ init last, venc u = init ++ [last] ∧ (∀ b ∈ init, 128 ≤ b.toNat) ∧ last.toNat < 128 ∧ (0 < u → last.toNat ≠ 0) ∧ (init ≠ [] → 0 < u) ∧ dval (venc u) = u := by
  intro k
  induction k with
  | zero =>
    intro u hu
    obtain rfl : u = 0 := by omega
    refine ⟨[], 0, ?_, by simp, by decide, by simp, by simp, ?_⟩
    · rw [venc]; simp
    · rw [venc]; simp [dval]
  | succ k ih =>
    intro u hu
    by_cases h : u < 128
    · have hv : venc u = [UInt8.ofNat u] := by rw [venc, if_pos h]
      have ht : (UInt8.ofNat u).toNat = u := by simp; omega
      refine ⟨[], UInt8.ofNat u, by rw [hv]; rfl, by simp, by omega, fun h0 => by omega, by simp, ?_⟩
      rw [hv, dval, dval, ht]; omega
    · have hv : venc u = UInt8.ofNat (u % 128 + 128) :: venc (u / 128) := by rw [venc, if_neg h]
      have ht : (UInt8.ofNat (u % 128 + 128)).toNat = u % 128 + 128 := by simp; omega
      obtain ⟨init, last, h1, h2, h3, h4, h5, h6⟩ := ih (u / 128) (by omega)
      refine ⟨UInt8.ofNat (u % 128 + 128) :: init, last, by rw [hv, h1]; rfl, fun b hb => ?_, h3, fun _ => h4 (by omega), fun _ => by omega, ?_⟩
      · rcases List.mem_cons.1 hb with rfl | hb
        · omega
        · exact h2 b hb
      · rw [hv, dval, h6, ht]; omega

theorem pnat_venc (u : Nat) (hu : u < 9223372036854775808) (rest : List UInt8) : pnat (venc u ++ rest) 9 = (u, (venc u).length, 0) := by
  obtain ⟨init, last, h1, h2, h3, h4, h5, h6⟩ := venc_props u u (Nat.le_refl _)
  have hl : (venc u).length ≤ 9 := venc_len 8 u (by simpa using hu)
  have hlen : (venc u).length = init.length + 1 := by rw [h1]; simp
  have hlast : lastN (venc u ++ rest) 9 = init.length := by
    refine lastN_eq (by simp; omega) (by omega) (fun i hi => ?_) (.inr (.inr ⟨last, ?_, h3⟩))
    · refine ⟨init[i], ?_, h2 _ (List.getElem_mem hi)⟩
      rw [h1, List.append_assoc, List.getElem?_append_left hi]
      exact List.getElem?_eq_getElem hi
    · rw [h1, List.append_assoc, List.getElem?_append_right (Nat.le_refl _)]
      simp
  have hget : (venc u ++ rest)[init.length]? = some last := by
    rw [h1, List.append_assoc, List.getElem?_append_right (Nat.le_refl _)]; simp
  have htk : (venc u ++ rest).take (init.length + 1) = venc u := by rw [← hlen]; simp
  unfold pnat
  dsimp only
  rw [hlast, if_neg (by omega), hget]
  dsimp only
  rw [if_neg, if_neg (by omega), htk, h6, hlen, Nat.mod_eq_of_lt (by omega)]
  rintro ⟨g1, g2⟩
  exact h4 (h5 (fun e => by rw [e] at g1; simp at g1)) g2

theorem rnum_venc (u : Nat) (hu : u < 9223372036854775808) (rest : List UInt8) (pos : Nat) (most : Int) (hm : (u : Int) ≤ most) : rnum ⟨venc u ++ rest, pos, 0⟩ most = ((u : Int), ⟨rest, pos + (venc u).length, 0⟩) := by
  have hp : pnum (venc u ++ rest) most = ((u : Int), (venc u).length, 0) := by
    unfold pnum
    rw [pnat_venc u hu rest]
    dsimp only
    rw [if_neg (by omega)]
  unfold rnum rstep
  dsimp only
  rw [hp]
  simp

theorem rtext_venc (s : ByteArray) (rest : List UInt8) (pos : Nat) (most : Int) (hm : (s.size : Int) ≤ most) (h2 : s.size ≤ 16777216) : rtext ⟨venc s.size ++ s.data.toList ++ rest, pos, 0⟩ most = (s, ⟨rest, pos + ((venc s.size).length + s.size), 0⟩) := by
  have hs : s.data.toList.length = s.size := by simp
  have e1 : (venc s.size ++ (s.data.toList ++ rest)).drop ((venc s.size).length + s.size) = rest := by
    rw [← List.append_assoc, ← hs, ← List.length_append, List.drop_left]
  have e2 : ((venc s.size ++ (s.data.toList ++ rest)).take ((venc s.size).length + s.size)).drop (venc s.size).length = s.data.toList := by
    rw [← List.append_assoc, ← hs, ← List.length_append, List.take_left, List.drop_left]
  have hp : ptext (venc s.size ++ (s.data.toList ++ rest)) most = (s, (venc s.size).length + s.size, 0) := by
    unfold ptext
    rw [pnat_venc s.size (by omega) (s.data.toList ++ rest)]
    dsimp only
    rw [if_neg (by simp), if_neg (by omega), if_neg (by simp only [List.length_append]; omega), e2]
  unfold rtext rstep
  dsimp only
  rw [List.append_assoc, hp, if_neg (by simp), if_neg (by simp)]
  dsimp only
  rw [e1]

theorem odec_enc {o : Ou} (h : ochk o = 0) : odec (oencS o) = some o := by
  obtain ⟨h1, h2, h3, h4⟩ := ochk_zero h
  have e1 : ((o.ch.toNat : Nat) : Int) = o.ch := by omega
  have e2 : ((o.us.toNat : Nat) : Int) = o.us := by omega
  have hr : ∃ p, oread ⟨oenc o, 0, 0⟩ = (o, ⟨[], p, 0⟩) := by
    unfold oread oenc
    simp only [List.append_assoc]
    rw [rnum_venc o.ch.toNat (by omega) _ 0 4 (by omega)]
    dsimp only
    rw [show venc o.tg.size ++ (o.tg.data.toList ++ (venc o.tx.size ++ (o.tx.data.toList ++ venc o.us.toNat))) = venc o.tg.size ++ o.tg.data.toList ++ (venc o.tx.size ++ (o.tx.data.toList ++ venc o.us.toNat)) by simp]
    rw [rtext_venc o.tg _ _ 64 (by omega) (by omega)]
    dsimp only
    rw [show venc o.tx.size ++ (o.tx.data.toList ++ venc o.us.toNat) = venc o.tx.size ++ o.tx.data.toList ++ venc o.us.toNat by simp]
    rw [rtext_venc o.tx _ _ 4096 (by omega) (by omega)]
    dsimp only
    have h5 := rnum_venc o.us.toNat (by omega) [] (0 + (venc o.ch.toNat).length + ((venc o.tg.size).length + o.tg.size) + ((venc o.tx.size).length + o.tx.size)) 65535 (by omega)
    rw [List.append_nil] at h5
    rw [h5, e1, e2]
    exact ⟨_, rfl⟩
  obtain ⟨p, hr⟩ := hr
  unfold odec
  rw [oencS, if_pos h]
  dsimp only
  rw [hr]
  simp [h]
end Go.Proofs.YtiggkcknmjgicaaGreatDoor

set_option maxRecDepth 10000
namespace Go.Proofs.YtiggkcknmjgicaaGreatDoor
open Go.RowKit

theorem numbersP_ok (b bw s : Nat) (e : Int) (bs : List UInt8) (l : List Int) (hl : l.length ≤ 1000) (hz : ∀ z ∈ l, 0 ≤ z ∧ z ≤ 4294967296) (hb : bs.length ≤ 1000000) :
    Enters 181 ∧ Spec Tryz.prog 181 #[.pointer (some ⟨b, 0, none⟩), .slice (some ⟨s, 0, none⟩) l.length l.length] [] (Pt s (.cells (l.flatMap zf).toArray 3) :: EncL b bw e bs)
      ⟨Unit, fun _ => .tuple #[], fun _ => True, fun _ => [], fun _ => EncL b bw e (bs ++ l.flatMap fun z => venc z.toNat)⟩ := by
  have h := numbers_ok b bw e bs (some ⟨s, 0, none⟩) l.length l hl hz hb
  refine ⟨h.1, fun G w hp hs => ?_⟩
  have h1 := (hs.shut (L := [Pt s (.cells (l.flatMap zf).toArray 3)]) (x := Row 3 1 (some ⟨s, 0, none⟩) l.length l.length (l.flatMap zf)) fun h hh => by
    obtain ⟨h1, h2, _, s1, _, hx, _⟩ := hh
    exact .inr ⟨s, [], (0, 0), rfl, by have := s1 _ _ hx; simpa using this, by rw [flat_len (f := zf) (sz := 1) (fun _ => rfl)], by rw [List.append_nil, flat_len (f := zf) (sz := 1) (fun _ => rfl)], Nat.le_refl _, .inl rfl⟩)
  have h2 := frz_row (f := zf) (es := l) rfl rfl Sel.here h1
  refine sat_call h.2 h2 (sels_all _) (fun hp hF f hf => by simp at hf; subst hf; exact hF _ (by simp)) fun x w' hx h3 => ⟨x, rfl, hx, ?_⟩
  exact (h3.facts (F' := []) (fun _ _ _ h => by cases h)).res fun k hk => by simpa using hk

theorem encBytes_ok (b bw : Nat) (bs : List UInt8) (hl : bs.length ≤ 1000000) :
    Enters 183 ∧ Spec Tryz.prog 183 #[.pointer (some ⟨b, 0, none⟩)] [] (EncL b bw 0 bs) (RetV (.tuple #[.string ⟨bs.toArray⟩, .int .i64 0])) := by
  refine ⟨enters_of Tryz.func183 (by kernel_rfl) rfl, spec_of (vs := [_]) Tryz.func183 rfl Tryz.ntmps183 rfl fun G w hp => ?_⟩
  repeat' (first | refine l_run ?_ | refine l_nil ?_ | refine l_one ?_ | refine k_reg ?_ | refine l_ld ?_ | refine l_ldF ?_ | refine l_st ?_ | refine l_al (fun b => ?_) | refine l_bs (fun b => ?_) | refine k_condT ?_ | refine k_condF ?_ | refine k_brk ?_ | refine r_run ?_ | refine r_one ?_ | refine r_ld ?_ | refine r_ldF ?_ | refine r_ldN ?_ | refine r_al (fun b => ?_) | refine r_bs (fun b => ?_) | refine r_st ?_ | refine r_end ?_ | refine l_call (wtrBytes_ok _ bs (by omega)) (fun _ _ => ?_) | refine l_call0 (wtrBytes_ok _ bs (by omega)) (fun _ _ => ?_) | refine r_call (wtrBytes_ok _ bs (by omega)) (fun _ _ => ?_) | (refine l_split (fun hc => ?_) (fun hc => ?_) <;> (try simp at hc)) | (refine r_split (fun hc => ?_) (fun hc => ?_) <;> (try simp at hc)) | refine k_draw 5 [] [(0, 0), (1, 0), (2, 0), (3, 0), (4, 0), (5, 0)] [] ?_ | (refine k_cond (fun hc => ?_) (fun hc => ?_) <;> (try simp at hc)))
  refine l_frz (sz := 1) (f := bf) bs ?_ (byt_flat _) rfl
  refine l_b2s ?_
  repeat' (first | refine l_run ?_ | refine l_nil ?_ | refine l_one ?_ | refine k_reg ?_ | refine l_ld ?_ | refine l_ldF ?_ | refine l_st ?_ | refine l_al (fun b => ?_) | refine l_bs (fun b => ?_) | refine k_condT ?_ | refine k_condF ?_ | refine k_brk ?_ | refine r_run ?_ | refine r_one ?_ | refine r_ld ?_ | refine r_ldF ?_ | refine r_ldN ?_ | refine r_al (fun b => ?_) | refine r_bs (fun b => ?_) | refine r_st ?_ | refine r_end ?_ | refine l_split (fun hc => ?_) (fun hc => ?_) | refine r_split (fun hc => ?_) (fun hc => ?_) | refine k_draw 5 [] [(0, 0), (1, 0), (2, 0), (3, 0), (4, 0), (5, 0)] [] ?_ | refine k_cond (fun hc => ?_) (fun hc => ?_))
  exact k_ret () rfl trivial

theorem cenc_len {c : Ct} (h : CtOK c) : (cenc c).length ≤ 30 := by
  have l1 := venc_len10 c.b.toNat (by have := h.b1; omega)
  have l2 := venc_len10 c.o.toNat (by have := h.o1; omega)
  have l3 := venc_len10 c.c.toNat (by have := h.c1; omega)
  simp only [cenc, List.length_append]; omega
theorem encodeCounts_ok (c : Ct) (h : CtOK c) : Enters 163 ∧ Spec Tryz.prog 163 #[c.v] [] [] (RetV (.tuple #[.string ⟨(cenc c).toArray⟩, .int .i64 0])) := by
  have n1 := cntCheck_ok c
  rw [cchk_ok h] at n1
  have e : ([c.b, c.o, c.c].flatMap fun z => venc z.toNat) = cenc c := by simp [cenc]
  have n2 := fun b bw s => numbersP_ok b bw s 0 [] [c.b, c.o, c.c] (by simp) (fun z hz => by
    simp only [List.mem_cons, List.not_mem_nil, or_false] at hz
    have := h.b0; have := h.b1; have := h.o0; have := h.o1; have := h.c0; have := h.c1
    rcases hz with rfl | rfl | rfl <;> omega) (by simp)
  rw [e, List.nil_append] at n2
  have hl := cenc_len h
  have n3 := fun b bw => encBytes_ok b bw (cenc c) (by omega)
  refine ⟨enters_of Tryz.func163 (by kernel_rfl) rfl, spec_of (vs := [_]) Tryz.func163 rfl Tryz.ntmps163 rfl fun G w hp => ?_⟩
  repeat' (first | refine l_run ?_ | refine l_nil ?_ | refine l_one ?_ | refine k_reg ?_ | refine l_ld ?_ | refine l_ldF ?_ | refine l_st ?_ | refine l_al (fun b => ?_) | refine l_bs (fun b => ?_) | refine k_condT ?_ | refine k_condF ?_ | refine k_brk ?_ | refine l_call (n1) (fun _ _ => ?_) | refine l_call0 (n1) (fun _ _ => ?_) | refine l_call (newEncoder_ok _) (fun _ _ => ?_) | refine l_call0 (newEncoder_ok _) (fun _ _ => ?_) | refine l_call (n2 _ _ _) (fun _ _ => ?_) | refine l_call0 (n2 _ _ _) (fun _ _ => ?_) | refine l_call (n3 _ _) (fun _ _ => ?_) | refine l_call0 (n3 _ _) (fun _ _ => ?_) | (refine l_split (fun hc => ?_) (fun hc => ?_) <;> (try simp at hc)) | (refine k_cond (fun hc => ?_) (fun hc => ?_) <;> (try simp at hc)))
  exact k_ret () rfl trivial

def cread (s : RS) : Ct × RS :=
  let (b, s1) := rnum s 1048576
  let (o, s2) := rnum s1 1048576
  let (c, s3) := rnum s2 1048576
  (⟨b, o, c⟩, s3)
def cdec (s : ByteArray) : Option Ct :=
  let r := cread ⟨s.data.toList, 0, 0⟩
  if r.2.err = 0 ∧ r.2.rest = [] then some r.1 else none

set_option maxHeartbeats 1000000 in
theorem decodeCounts_ok (s : ByteArray) (hs : s.size ≤ 1099511627776) : Enters 159 ∧ Spec Tryz.prog 159 #[.string s] [] [] (RetV (.tuple #[((cdec s).getD Ct.z).v, .int .i64 (if (cdec s).isSome then 0 else 3)])) := by
  have hsz : s.data.toList.length = s.size := by simp
  generalize hd : cdec s = d
  unfold cdec cread at hd
  generalize h0 : (⟨s.data.toList, 0, 0⟩ : RS) = s0 at hd
  have g0 : s0.pos + s0.rest.length ≤ 1099511627776 := by subst h0; dsimp only; omega
  have g1 := rstep_le 0 s0 (pnum s0.rest 1048576) (pnum_le _ _)
  have n1 := fun b o cap => rdrNumber_ok b o cap s0 1048576 g0
  generalize hr1 : rnum s0 1048576 = r1 at *
  obtain ⟨v1, s1⟩ := r1
  have g1 : s1.pos + s1.rest.length ≤ 1099511627776 := by
    have : (rnum s0 1048576).2.pos + (rnum s0 1048576).2.rest.length ≤ s0.pos + s0.rest.length := g1
    rw [hr1] at this; dsimp only at this; omega
  have g2 := rstep_le 0 s1 (pnum s1.rest 1048576) (pnum_le _ _)
  have n2 := fun b o cap => rdrNumber_ok b o cap s1 1048576 g1
  dsimp only at *
  generalize hr2 : rnum s1 1048576 = r2 at *
  obtain ⟨v2, s2⟩ := r2
  have g2 : s2.pos + s2.rest.length ≤ 1099511627776 := by
    have : (rnum s1 1048576).2.pos + (rnum s1 1048576).2.rest.length ≤ s1.pos + s1.rest.length := g2
    rw [hr2] at this; dsimp only at this; omega
  have n3 := fun b o cap => rdrNumber_ok b o cap s2 1048576 g2
  dsimp only at *
  generalize hr3 : rnum s2 1048576 = r3 at *
  obtain ⟨v3, s3⟩ := r3
  dsimp only at *
  have n4 := fun b o cap => rdrClose_ok b o cap s3
  have n0 := fun o cap => newReader_ok o cap s.data.toList (by omega)
  rw [h0] at n0
  have e0 : s.data.toList = s0.rest := by rw [← h0]
  rw [e0] at n0
  refine ⟨enters_of Tryz.func159 (by kernel_rfl) rfl, spec_of (vs := [_]) Tryz.func159 rfl Tryz.ntmps159 rfl fun G w hp => ?_⟩
  repeat' (first | refine l_run ?_ | refine l_nil ?_ | refine l_one ?_ | refine k_reg ?_ | refine l_ld ?_ | refine l_ldF ?_ | refine l_st ?_ | refine l_al (fun b => ?_) | refine l_bs (fun b => ?_) | refine k_condT ?_ | refine k_condF ?_ | refine k_brk ?_ | refine l_call (n0 _ _) (fun _ _ => ?_) | refine l_call0 (n0 _ _) (fun _ _ => ?_) | refine l_call (n1 _ _ _) (fun _ _ => ?_) | refine l_call0 (n1 _ _ _) (fun _ _ => ?_) | refine l_call (n2 _ _ _) (fun _ _ => ?_) | refine l_call0 (n2 _ _ _) (fun _ _ => ?_) | refine l_call (n3 _ _ _) (fun _ _ => ?_) | refine l_call0 (n3 _ _ _) (fun _ _ => ?_) | refine l_call (n4 _ _ _) (fun _ _ => ?_) | refine l_call0 (n4 _ _ _) (fun _ _ => ?_) | refine l_s2b (fun o cap => ?_) | rw [e0] | refine l_split (fun hc => ?_) (fun hc => ?_) | refine k_cond (fun hc => ?_) (fun hc => ?_))
  · have hne : ¬ (s3.err = 0 ∧ s3.rest = []) := fun h => by rw [(close0 _ _).2 h] at hc; simp at hc
    rw [if_neg hne] at hd; subst hd; exact k_ret () rfl trivial
  · have h1 := (close0 _ _).1 (by simpa using hc)
    rw [if_pos h1] at hd; subst hd; exact k_ret () rfl trivial

/-- The name of the counts of a process. -/
def cnm (who : ByteArray) : Nm := ⟨5, who, 0, 0, ⟨#[]⟩⟩
theorem ofCounter_ok (who : ByteArray) : Enters 55 ∧ Spec Tryz.prog 55 #[.string who] [] [] (RetV (cnm who).v) := by
  refine ⟨enters_of Tryz.func55 (by kernel_rfl) rfl, spec_of (vs := [_]) Tryz.func55 rfl Tryz.ntmps55 rfl fun G w hp => ?_⟩
  repeat' (first | refine l_run ?_ | refine l_nil ?_ | refine l_one ?_ | refine k_reg ?_ | refine l_ld ?_ | refine l_ldF ?_ | refine l_st ?_ | refine l_al (fun b => ?_) | refine l_bs (fun b => ?_) | refine k_condT ?_ | refine k_condF ?_ | refine k_brk ?_ | refine l_split (fun hc => ?_) (fun hc => ?_) | refine k_cond (fun hc => ?_) (fun hc => ?_))
  exact k_ret () rfl trivial

/-- What Made answers. -/
def madeE (es : Al) (cs : List Ch) (who : ByteArray) : Ct × Int :=
  if lvalid who.data.toList then (if (vget es cs (cnm who)).2 then ((cdec (vget es cs (cnm who)).1).getD Ct.z, if (cdec (vget es cs (cnm who)).1).isSome then 0 else 3) else (Ct.z, 0)) else (Ct.z, 12)
def madeR (es : Al) (rs : List (Nm × Ch)) (cs : List Ch) (who : ByteArray) : List (Nm × Ch) := if lvalid who.data.toList then vread es rs cs (cnm who) else rs

set_option maxHeartbeats 1000000 in
theorem made_ok (b : Nat) (ps : Option Addr) (es : Al) (rs : List (Nm × Ch)) (cs : List Ch) (who : ByteArray) (hw : who.size ≤ 1099511627770) (hv : (vget es cs (cnm who)).1.size ≤ 1099511627776) :
    Enters 113 ∧ Spec Tryz.prog 113 #[.pointer (some ⟨b, 0, none⟩), .string who] [St ps es, Usg] [Vw b ps rs cs] ⟨Unit, fun _ => .tuple #[(madeE es cs who).1.v, .int .i64 (madeE es cs who).2], fun _ => True, fun _ => [], fun _ => [Vw b ps (madeR es rs cs who) cs]⟩ := by
  have n1 := valid_ok who (by omega)
  have n2 := ofCounter_ok who
  have n3 := vwGet_ok b ps es rs cs (cnm who) hw (Nat.zero_le _)
  have n4 := decodeCounts_ok (vget es cs (cnm who)).1 hv
  generalize hm : madeE es cs who = m
  generalize hr : madeR es rs cs who = r
  unfold madeE at hm
  unfold madeR at hr
  cases h1 : lvalid who.data.toList with
  | false =>
    rw [h1] at n1 hm hr
    simp only [Bool.false_eq_true, if_false] at hm hr
    subst hm; subst hr
    refine ⟨enters_of Tryz.func113 (by kernel_rfl) rfl, spec_of (vs := [_, _]) Tryz.func113 rfl Tryz.ntmps113 rfl fun G w hp => ?_⟩
    repeat' (first | refine l_run ?_ | refine l_nil ?_ | refine l_one ?_ | refine k_reg ?_ | refine l_ld ?_ | refine l_ldF ?_ | refine l_st ?_ | refine l_al (fun b => ?_) | refine l_bs (fun b => ?_) | refine k_condT ?_ | refine k_condF ?_ | refine k_brk ?_ | refine l_call (n1) (fun _ _ => ?_) | refine l_call0 (n1) (fun _ _ => ?_) | (refine l_split (fun hc => ?_) (fun hc => ?_) <;> (try simp at hc)) | (refine k_cond (fun hc => ?_) (fun hc => ?_) <;> (try simp at hc)))
    exact k_ret () rfl trivial
  | true =>
    rw [h1] at n1 hm hr
    simp only [if_true] at hm hr
    subst hr
    cases h2 : (vget es cs (cnm who)).2 with
    | false =>
      rw [h2] at n3 hm
      simp only [Bool.false_eq_true, if_false] at hm
      subst hm
      refine ⟨enters_of Tryz.func113 (by kernel_rfl) rfl, spec_of (vs := [_, _]) Tryz.func113 rfl Tryz.ntmps113 rfl fun G w hp => ?_⟩
      repeat' (first | refine l_run ?_ | refine l_nil ?_ | refine l_one ?_ | refine k_reg ?_ | refine l_ld ?_ | refine l_ldF ?_ | refine l_st ?_ | refine l_al (fun b => ?_) | refine l_bs (fun b => ?_) | refine k_condT ?_ | refine k_condF ?_ | refine k_brk ?_ | refine l_call (n1) (fun _ _ => ?_) | refine l_call0 (n1) (fun _ _ => ?_) | refine l_call (n2) (fun _ _ => ?_) | refine l_call0 (n2) (fun _ _ => ?_) | refine l_call (n3) (fun _ _ => ?_) | refine l_call0 (n3) (fun _ _ => ?_) | (refine l_split (fun hc => ?_) (fun hc => ?_) <;> (try simp at hc)) | (refine k_cond (fun hc => ?_) (fun hc => ?_) <;> (try simp at hc)))
      exact k_ret () rfl trivial
    | true =>
      rw [h2] at n3 hm
      simp only [if_true] at hm
      subst hm
      refine ⟨enters_of Tryz.func113 (by kernel_rfl) rfl, spec_of (vs := [_, _]) Tryz.func113 rfl Tryz.ntmps113 rfl fun G w hp => ?_⟩
      repeat' (first | refine l_run ?_ | refine l_nil ?_ | refine l_one ?_ | refine k_reg ?_ | refine l_ld ?_ | refine l_ldF ?_ | refine l_st ?_ | refine l_al (fun b => ?_) | refine l_bs (fun b => ?_) | refine k_condT ?_ | refine k_condF ?_ | refine k_brk ?_ | refine l_call (n1) (fun _ _ => ?_) | refine l_call0 (n1) (fun _ _ => ?_) | refine l_call (n2) (fun _ _ => ?_) | refine l_call0 (n2) (fun _ _ => ?_) | refine l_call (n3) (fun _ _ => ?_) | refine l_call0 (n3) (fun _ _ => ?_) | refine l_call (n4) (fun _ _ => ?_) | refine l_call0 (n4) (fun _ _ => ?_) | (refine l_split (fun hc => ?_) (fun hc => ?_) <;> (try simp at hc)) | (refine k_cond (fun hc => ?_) (fun hc => ?_) <;> (try simp at hc)))
      exact k_ret () rfl trivial

theorem setMade_ok (b : Nat) (ps : Option Addr) (rs : List (Nm × Ch)) (cs : List Ch) (who : ByteArray) (c : Ct) (hw : who.size ≤ 1099511627770) (hv : lvalid who.data.toList = true) (hc0 : CtOK c) (hl : cs.length ≤ 1000000) :
    Enters 117 ∧ Spec Tryz.prog 117 #[.pointer (some ⟨b, 0, none⟩), .string who, c.v] [Usg] [Vw b ps rs cs] ⟨Unit, fun _ => .int .i64 (vset cs (cnm who) ⟨(cenc c).toArray⟩).1, fun _ => True, fun _ => [], fun _ => [Vw b ps rs (vset cs (cnm who) ⟨(cenc c).toArray⟩).2]⟩ := by
  have n1 := valid_ok who (by omega)
  rw [hv] at n1
  have n2 := ofCounter_ok who
  have n3 := encodeCounts_ok c hc0
  have n4 := vwSet_ok b ps rs cs (cnm who) ⟨(cenc c).toArray⟩ (by show who.size ≤ _; omega) (Nat.zero_le _) hl
  refine ⟨enters_of Tryz.func117 (by kernel_rfl) rfl, spec_of (vs := [_, _, _]) Tryz.func117 rfl Tryz.ntmps117 rfl fun G w hp => ?_⟩
  repeat' (first | refine l_run ?_ | refine l_nil ?_ | refine l_one ?_ | refine k_reg ?_ | refine l_ld ?_ | refine l_ldF ?_ | refine l_st ?_ | refine l_al (fun b => ?_) | refine l_bs (fun b => ?_) | refine k_condT ?_ | refine k_condF ?_ | refine k_brk ?_ | refine l_call (n1) (fun _ _ => ?_) | refine l_call0 (n1) (fun _ _ => ?_) | refine l_call (n2) (fun _ _ => ?_) | refine l_call0 (n2) (fun _ _ => ?_) | refine l_call (n3) (fun _ _ => ?_) | refine l_call0 (n3) (fun _ _ => ?_) | refine l_call (n4) (fun _ _ => ?_) | refine l_call0 (n4) (fun _ _ => ?_) | (refine l_split (fun hc => ?_) (fun hc => ?_) <;> (try simp at hc)) | (refine k_cond (fun hc => ?_) (fun hc => ?_) <;> (try simp at hc)))
  exact k_ret () rfl trivial
end Go.Proofs.YtiggkcknmjgicaaGreatDoor

set_option maxRecDepth 10000
namespace Go.Proofs.YtiggkcknmjgicaaGreatDoor
open Go.RowKit

theorem vwMark_ok (b : Nat) (ps : Option Addr) (rs : List (Nm × Ch)) (cs : List Ch) : Enters 115 ∧ Spec Tryz.prog 115 #[.pointer (some ⟨b, 0, none⟩)] [] [Vw b ps rs cs] ⟨Unit, fun _ => .int .i64 (cs.length : Int), fun _ => True, fun _ => [], fun _ => [Vw b ps rs cs]⟩ := by
  refine ⟨enters_of Tryz.func115 (by kernel_rfl) rfl, spec_of (vs := [_]) Tryz.func115 rfl Tryz.ntmps115 rfl fun G w hp => ?_⟩
  refine k_vw fun q => ?_
  obtain ⟨r1, r2, o, cap⟩ := q
  repeat' (first | refine l_run ?_ | refine l_nil ?_ | refine l_one ?_ | refine k_reg ?_ | refine l_ld ?_ | refine l_ldF ?_ | refine l_st ?_ | refine l_al (fun b => ?_) | refine l_bs (fun b => ?_) | refine k_condT ?_ | refine k_condF ?_ | refine k_brk ?_ | (refine l_split (fun hc => ?_) (fun hc => ?_) <;> (try simp at hc)) | (refine k_cond (fun hc => ?_) (fun hc => ?_) <;> (try simp at hc)))
  refine k_vw' (cs := cs) (rs := rs) ?_ rfl rfl rfl
  exact k_ret () rfl trivial

def onm (who : ByteArray) (n t : Int) : Nm := ⟨18, who, n, t, ⟨#[]⟩⟩
def snt (who : ByteArray) (c : Ct) (tk : Int) (o : Ou) : List Ch := [⟨onm who c.o tk, oencS o, false⟩, ⟨cnm who, ⟨(cenc { c with o := c.o + 1 }).toArray⟩, false⟩]

set_option maxHeartbeats 2000000 in
theorem send_ok (b : Nat) (ps : Option Addr) (es : Al) (rs : List (Nm × Ch)) (cs : List Ch) (who : ByteArray) (tk : Int) (o : Ou) (c : Ct) (hw : who.size ≤ 1099511627770) (hlv : lvalid who.data.toList = true) (hv : (vget es cs (cnm who)).1.size ≤ 1099511627776)
    (ho : ochk o = 0) (ht : (decide (0 ≤ tk) && decide (tk ≤ 1073741824)) = true) (hm : madeE es cs who = (c, 0)) (hct : CtOK c) (hco : c.o < 1048576) (hn1 : nchk (onm who c.o tk) = 0) (hn2 : nchk (cnm who) = 0) (hl : cs.length ≤ 900000) :
    Enters 62 ∧ Spec Tryz.prog 62 #[.pointer (some ⟨b, 0, none⟩), .string who, .int .i64 tk, o.v] [St ps es, Usg] [Vw b ps rs cs] ⟨Unit, fun _ => .tuple #[.int .i64 c.o, .int .i64 0], fun _ => True, fun _ => [], fun _ => [Vw b ps (madeR es rs cs who) (cs ++ snt who c tk o)]⟩ := by
  have n1 := valid_ok who (by omega)
  rw [hlv] at n1
  have n2 := outCheck_ok o
  rw [ho] at n2
  have n3 := isTick_ok tk
  rw [ht] at n3
  have n4 := made_ok b ps es rs cs who hw hv
  rw [hm] at n4
  have n5 := outEncode_ok o
  rw [ho] at n5
  have n6 := vwMark_ok b ps (madeR es rs cs who) cs
  have n7 := outName_ok who c.o tk
  have hol := oenc_len ho
  have hosz : (oencS o).size ≤ 65536 := by
    rw [oencS, if_pos ho]
    show (oenc o).toArray.size ≤ 65536
    rw [List.size_toArray]; omega
  have n8 := vwSet_ok b ps (madeR es rs cs who) cs (onm who c.o tk) (oencS o) (by show who.size ≤ _; omega) (Nat.zero_le _) (by omega)
  have e8 : vset cs (onm who c.o tk) (oencS o) = (0, cs ++ [⟨onm who c.o tk, oencS o, false⟩]) := by unfold vset; rw [if_neg (by simp [hn1]), if_neg (by omega)]
  rw [e8] at n8
  have hct2 : CtOK { c with o := c.o + 1 } := ⟨hct.b0, hct.b1, by have := hct.o0; show 0 ≤ c.o + 1; omega, by show c.o + 1 ≤ _; omega, hct.c0, hct.c1⟩
  have n9 := setMade_ok b ps (madeR es rs cs who) (cs ++ [⟨onm who c.o tk, oencS o, false⟩]) who { c with o := c.o + 1 } hw hlv hct2 (by simp; omega)
  have hcl := cenc_len hct2
  have e9 : vset (cs ++ [⟨onm who c.o tk, oencS o, false⟩]) (cnm who) ⟨(cenc { c with o := c.o + 1 }).toArray⟩ = (0, cs ++ snt who c tk o) := by
    unfold vset
    rw [if_neg (by simp [hn2]), if_neg (by show ¬ 65536 < (cenc { c with o := c.o + 1 }).toArray.size; rw [List.size_toArray]; omega)]
    simp [snt]
  rw [e9] at n9
  have w1 : IntKind.i64.wrap (c.o + 1) = c.o + 1 := by have := hct.o0; exact wrapi (by omega) (by omega)
  have b1 : (c.o == 1048576) = false := by simp; omega
  refine ⟨enters_of Tryz.func62 (by kernel_rfl) rfl, spec_of (vs := [_, _, _, _]) Tryz.func62 rfl Tryz.ntmps62 rfl fun G w hp => ?_⟩
  repeat' (first | refine l_run ?_ | refine l_nil ?_ | refine l_one ?_ | refine k_reg ?_ | refine l_ld ?_ | refine l_ldF ?_ | refine l_st ?_ | refine l_al (fun b => ?_) | refine l_bs (fun b => ?_) | refine k_condT ?_ | refine k_condF ?_ | refine k_brk ?_ | refine r_run ?_ | refine r_one ?_ | refine r_ld ?_ | refine r_ldF ?_ | refine r_ldN ?_ | refine r_al (fun b => ?_) | refine r_bs (fun b => ?_) | refine r_st ?_ | refine r_end ?_ | refine l_call (n1) (fun _ _ => ?_) | refine l_call0 (n1) (fun _ _ => ?_) | refine r_call (n1) (fun _ _ => ?_) | refine l_call (n2) (fun _ _ => ?_) | refine l_call0 (n2) (fun _ _ => ?_) | refine r_call (n2) (fun _ _ => ?_) | refine l_call (n3) (fun _ _ => ?_) | refine l_call0 (n3) (fun _ _ => ?_) | refine r_call (n3) (fun _ _ => ?_) | refine l_call (n4) (fun _ _ => ?_) | refine l_call0 (n4) (fun _ _ => ?_) | refine r_call (n4) (fun _ _ => ?_) | refine l_call (n5) (fun _ _ => ?_) | refine l_call0 (n5) (fun _ _ => ?_) | refine r_call (n5) (fun _ _ => ?_) | refine l_call (n6) (fun _ _ => ?_) | refine l_call0 (n6) (fun _ _ => ?_) | refine r_call (n6) (fun _ _ => ?_) | refine l_call (n7) (fun _ _ => ?_) | refine l_call0 (n7) (fun _ _ => ?_) | refine r_call (n7) (fun _ _ => ?_) | refine l_call (n8) (fun _ _ => ?_) | refine l_call0 (n8) (fun _ _ => ?_) | refine r_call (n8) (fun _ _ => ?_) | refine l_call (n9) (fun _ _ => ?_) | refine l_call0 (n9) (fun _ _ => ?_) | refine r_call (n9) (fun _ _ => ?_) | rw [w1] | rw [b1] | (refine l_split (fun hc => ?_) (fun hc => ?_) <;> (try simp at hc) <;> (try omega)) | (refine r_split (fun hc => ?_) (fun hc => ?_) <;> (try simp at hc) <;> (try omega)) | refine k_draw 18 [Vw _ _ _ _] [(0, 0), (2, 0), (3, 0), (1, 4), (4, 0), (5, 0)] [] ?_ | (refine k_cond (fun hc => ?_) (fun hc => ?_) <;> (try simp at hc) <;> (try omega)))
  exact k_ret () rfl trivial
end Go.Proofs.YtiggkcknmjgicaaGreatDoor

set_option maxRecDepth 10000
namespace Go.Proofs.YtiggkcknmjgicaaGreatDoor
open Go.RowKit

theorem mem_tw {α : Type} {p : α → Bool} : ∀ {l : List α} {x : α}, x ∈ l.takeWhile p → p x = true
  | [], _, h => by cases h
  | a :: l, x, h => by
    rw [List.takeWhile_cons] at h
    split at h
    · rename_i ha
      rcases List.mem_cons.1 h with rfl | h
      · exact ha
      · exact mem_tw h
    · cases h
theorem dval_pos : ∀ (init : List UInt8) (b : UInt8), b.toNat < 128 → 0 < b.toNat → 0 < dval (init ++ [b])
  | [], b, h, h0 => by simp [dval]; omega
  | c :: init, b, h, h0 => by
    have := dval_pos init b h h0
    simp only [List.cons_append, dval]; omega
theorem venc_dval : ∀ (init : List UInt8) (b : UInt8), (∀ c ∈ init, 128 ≤ c.toNat) → b.toNat < 128 → (init ≠ [] → b.toNat ≠ 0) → venc (dval (init ++ [b])) = init ++ [b]
  | [], b, _, h, _ => by
    have h1 : dval ([] ++ [b]) = b.toNat := by simp [dval]; omega
    rw [h1, venc, if_pos h]; simp
  | c :: init, b, hc, h, h0 => by
    have hb : 0 < b.toNat := Nat.pos_of_ne_zero (h0 (by simp))
    have hp := dval_pos init b h hb
    have ih := venc_dval init b (fun x hx => hc x (by simp [hx])) h (fun _ => by omega)
    have hc1 : 128 ≤ c.toNat := hc c (by simp)
    have hc2 : c.toNat < 256 := c.toNat_lt
    simp only [List.cons_append, dval]
    rw [venc, if_neg (by omega)]
    have e1 : (c.toNat % 128 + 128 * dval (init ++ [b])) / 128 = dval (init ++ [b]) := by omega
    have e2 : (c.toNat % 128 + 128 * dval (init ++ [b])) % 128 + 128 = c.toNat := by omega
    rw [e1, e2, ih]; simp
theorem pnat_inv (bs : List UInt8) (h : (pnat bs 9).2.2 = 0) : bs.take (pnat bs 9).2.1 = venc (pnat bs 9).1 := by
  have hle := lastN_le bs 9
  unfold pnat at h ⊢
  dsimp only at h ⊢
  have hall : ∀ c ∈ bs.take (lastN bs 9), 128 ≤ c.toNat := by
    intro c hc
    have h1 : bs.take (lastN bs 9) = (bs.take 9).takeWhile fun b => decide (128 ≤ b.toNat) := by
      have h2 : (bs.take 9).takeWhile (fun b => decide (128 ≤ b.toNat)) <+: bs := (List.takeWhile_prefix _).trans (List.take_prefix _ _)
      exact (List.prefix_iff_eq_take.1 h2).symm
    rw [h1] at hc
    simpa using mem_tw hc
  by_cases h9 : lastN bs 9 = 9
  · simp [h9] at h
  · rw [if_neg h9] at h ⊢
    cases hb : bs[lastN bs 9]? with
    | none => simp [hb] at h
    | some b =>
      simp only [hb] at h ⊢
      by_cases hc : 0 < lastN bs 9 ∧ b.toNat = 0
      · rw [if_pos hc] at h; cases h
      · rw [if_neg hc] at h ⊢
        have h8 : ¬ (lastN bs 9 = 9 ∧ 1 < b.toNat) := fun h => h9 h.1
        rw [if_neg h8]
        have hlt : lastN bs 9 < bs.length := (List.getElem?_eq_some_iff.1 hb).1
        have ht : bs.take (lastN bs 9 + 1) = bs.take (lastN bs 9) ++ [b] := by rw [List.take_add_one, hb]; rfl
        have hbl : b.toNat < 128 := by
          have h1 : lastN bs 9 < (bs.take 9).length := by simp; omega
          have h3 : (bs.take 9)[lastN bs 9]? = some b := by rw [List.getElem?_take]; rw [if_pos (by omega)]; exact hb
          have h4 : ((bs.take 9).takeWhile fun b => decide (128 ≤ b.toNat)).length = lastN bs 9 := rfl
          by_cases hx : 128 ≤ b.toNat
          · exfalso
            have h5 : (bs.take 9).take (lastN bs 9 + 1) = (bs.take 9).take (lastN bs 9) ++ [b] := by rw [List.take_add_one, h3]; rfl
            have h6 : ((bs.take 9).takeWhile fun b => decide (128 ≤ b.toNat)) = (bs.take 9).take (lastN bs 9) := List.prefix_iff_eq_take.1 (List.takeWhile_prefix _)
            have h7 : bs.take 9 = ((bs.take 9).take (lastN bs 9) ++ [b]) ++ (bs.take 9).drop (lastN bs 9 + 1) := by rw [← h5, List.take_append_drop]
            have h8 : ∀ c ∈ (bs.take 9).take (lastN bs 9) ++ [b], decide (128 ≤ c.toNat) = true := by
              intro c hc
              rcases List.mem_append.1 hc with hc | hc
              · rw [← h6] at hc; exact mem_tw (p := fun b : UInt8 => decide (128 ≤ b.toNat)) hc
              · simp only [List.mem_singleton] at hc; subst hc; simpa using hx
            have h9 : ((bs.take 9).take (lastN bs 9) ++ [b]).length ≤ ((bs.take 9).takeWhile fun b => decide (128 ≤ b.toNat)).length := by
              conv => rhs; rw [h7]
              rw [List.takeWhile_append_of_pos h8]
              simp only [List.length_append]; omega
            rw [h4] at h9
            simp at h9; omega
          · omega
        show bs.take (lastN bs 9 + 1) = venc (dval (bs.take (lastN bs 9 + 1)) % 18446744073709551616)
        have hd := dval_lt (bs.take (lastN bs 9 + 1))
        have hl : (bs.take (lastN bs 9 + 1)).length ≤ 9 := by simp; omega
        have h128 : 128 ^ (bs.take (lastN bs 9 + 1)).length ≤ 128 ^ 9 := Nat.pow_le_pow_right (by decide) hl
        rw [Nat.mod_eq_of_lt (Nat.lt_of_lt_of_le (Nat.lt_of_lt_of_le hd h128) (by decide)), ht]
        exact (venc_dval _ b hall hbl (fun hne hb0 => hc ⟨by
          rcases Nat.eq_zero_or_pos (lastN bs 9) with h0 | h0
          · rw [h0] at hne; exact absurd rfl hne
          · exact h0, hb0⟩)).symm

theorem rstep_err {α : Type} (z : α) (s : RS) (p : α × Nat × Int) (h : (rstep z s p).2.err = 0) : s.err = 0 ∧ p.2.2 = 0 ∧ rstep z s p = (p.1, ⟨s.rest.drop p.2.1, s.pos + p.2.1, 0⟩) := by
  unfold rstep at h ⊢
  by_cases h1 : s.err = 0
  · rw [if_neg (by simp [h1])] at h ⊢
    by_cases h2 : p.2.2 = 0
    · rw [if_neg (by simp [h2])]; exact ⟨h1, h2, rfl⟩
    · rw [if_pos h2] at h; exact absurd h h2
  · rw [if_pos h1] at h; exact absurd h h1
theorem rnum_inv {s : RS} {most : Int} (h : (rnum s most).2.err = 0) : s.err = 0 ∧ 0 ≤ (rnum s most).1 ∧ (rnum s most).1 ≤ most ∧ (rnum s most).1 < 9223372036854775808 ∧ s.rest = venc (rnum s most).1.toNat ++ (rnum s most).2.rest := by
  obtain ⟨h1, h2, h3⟩ := rstep_err _ _ _ h
  have h4 : rnum s most = _ := h3
  have hlt := (pnat_le s.rest).1
  unfold pnum at h2
  dsimp only at h2
  have h5 : (pnat s.rest 9).2.2 = 0 ∧ ¬ most < ((pnat s.rest 9).1 : Int) := by
    split at h2
    · cases h2
    · rename_i hn
      exact ⟨h2, fun hm => hn ⟨h2, hm⟩⟩
  rw [h4]
  refine ⟨h1, by simp [pnum], by simp only [pnum]; omega, by simp only [pnum]; omega, ?_⟩
  have h6 := pnat_inv s.rest h5.1
  show s.rest = venc (((pnat s.rest 9).1 : Int)).toNat ++ s.rest.drop (pnat s.rest 9).2.1
  rw [Int.toNat_natCast, ← h6, List.take_append_drop]
theorem rtext_inv {s : RS} {most : Int} (h : (rtext s most).2.err = 0) : s.err = 0 ∧ ((rtext s most).1.size : Int) ≤ most ∧ (rtext s most).1.size ≤ 16777216 ∧ s.rest = venc (rtext s most).1.size ++ (rtext s most).1.data.toList ++ (rtext s most).2.rest := by
  obtain ⟨h1, h2, h3⟩ := rstep_err _ _ _ h
  have h4 : rtext s most = _ := h3
  rw [h4]
  unfold ptext at h2 ⊢
  by_cases ha : (pnat s.rest 9).2.2 = 0
  · rw [if_neg (by simp [ha])] at h2 ⊢
    by_cases hb : most < ((pnat s.rest 9).1 : Int) ∨ 16777216 < (pnat s.rest 9).1
    · rw [if_pos hb] at h2; cases h2
    · rw [if_neg hb] at h2 ⊢
      by_cases hc : s.rest.length < (pnat s.rest 9).2.1 + (pnat s.rest 9).1
      · rw [if_pos hc] at h2; cases h2
      · rw [if_neg hc]
        have hsz : (ByteArray.mk ((s.rest.take ((pnat s.rest 9).2.1 + (pnat s.rest 9).1)).drop (pnat s.rest 9).2.1).toArray).size = (pnat s.rest 9).1 := by
          show (List.toArray _).size = _
          simp; omega
        refine ⟨h1, by dsimp only; rw [hsz]; omega, by dsimp only; rw [hsz]; omega, ?_⟩
        dsimp only
        rw [hsz]
        have h6 := pnat_inv s.rest ha
        generalize (pnat s.rest 9).2.1 = a at *
        generalize (pnat s.rest 9).1 = m at *
        rw [← h6]
        show s.rest = s.rest.take a ++ (List.toArray ((s.rest.take (a + m)).drop a)).toList ++ s.rest.drop (a + m)
        have e1 : (s.rest.take (a + m)).take a = s.rest.take a := by rw [List.take_take]; congr 1; omega
        have e2 : s.rest.take a ++ (s.rest.take (a + m)).drop a = s.rest.take (a + m) := by rw [← e1, List.take_append_drop]
        rw [List.toList_toArray, e2, List.take_append_drop]
  · rw [if_pos ha] at h2; exact absurd h2 ha

theorem odec_inv {s : ByteArray} {o : Ou} (h : odec s = some o) : ochk o = 0 ∧ s.data.toList = oenc o := by
  unfold odec at h
  dsimp only at h
  split at h
  · rename_i hc
    obtain ⟨h1, h2, h3⟩ := hc
    obtain rfl := Option.some.inj h
    refine ⟨h3, ?_⟩
    unfold oread at h1 h2 ⊢
    dsimp only at h1 h2 ⊢
    obtain ⟨a1, a2, a3, a4, a5⟩ := rnum_inv h1
    obtain ⟨b1, b2, b3, b4⟩ := rtext_inv a1
    obtain ⟨c1, c2, c3, c4⟩ := rtext_inv b1
    obtain ⟨d1, d2, d3, d4, d5⟩ := rnum_inv c1
    rw [h2] at a5
    refine Eq.trans (show s.data.toList = _ from d5) ?_
    rw [c4, b4, a5]
    simp [oenc]
  · cases h
theorem odec_canon {s : ByteArray} {o : Ou} (h : odec s = some o) : oencS o = s := by
  obtain ⟨h1, h2⟩ := odec_inv h
  rw [oencS, if_pos h1, ← h2]
end Go.Proofs.YtiggkcknmjgicaaGreatDoor

set_option maxRecDepth 10000
namespace Go.Proofs.YtiggkcknmjgicaaGreatDoor
open Go.RowKit

/-- A name is put among sorted names. -/
def insN (a : Nm) : List Nm → List Nm
  | [] => [a]
  | b :: l => if cmpO a b < 0 then a :: b :: l else if 0 < cmpO a b then b :: insN a l else a :: l

theorem kn_cons (x : Nm × ByteArray) (l : Al) (k : Int) : kn (x :: l) k = if x.1.kind = k then x.1 :: kn l k else kn l k := by
  unfold kn
  rw [List.filter_cons]
  by_cases h : x.1.kind = k
  · simp [h]
  · simp [h]
theorem kn_mem {es : Al} {k : Int} {a : Nm} (h : a ∈ kn es k) : a.kind = k ∧ ∃ v, (a, v) ∈ es := by
  unfold kn at h
  obtain ⟨x, hx, rfl⟩ := List.mem_map.1 h
  obtain ⟨h1, h2⟩ := List.mem_filter.1 hx
  exact ⟨by simpa using h2, x.2, h1⟩
theorem insN_head {a : Nm} : ∀ {l : List Nm}, (∀ x ∈ l, cmpO a x < 0) → insN a l = a :: l
  | [], _ => rfl
  | b :: l, h => by rw [insN, if_pos (h b (by simp))]
theorem kn_ins (a : Nm) (v : ByteArray) (k : Int) : ∀ es : Al, Srt es → kn (insO a v es) k = if a.kind = k then insN a (kn es k) else kn es k
  | [], _ => by
    show kn [(a, v)] k = _
    rw [kn_cons]; rfl
  | (b, u) :: l, hs => by
    obtain ⟨h1, h2⟩ := List.pairwise_cons.1 hs
    have ih := kn_ins a v k l h2
    rw [insO]
    by_cases hlt : cmpO a b < 0
    · rw [if_pos hlt, kn_cons, kn_cons]
      by_cases ha : a.kind = k
      · rw [if_pos ha, if_pos ha]
        by_cases hb : b.kind = k
        · simp only [hb, if_true]; rw [insN, if_pos hlt]
        · simp only [hb, if_false]
          rw [insN_head fun x hx => cmpO_trans hlt (by obtain ⟨_, w, hw⟩ := kn_mem hx; exact h1 _ hw)]
      · rw [if_neg ha, if_neg ha]
    · rw [if_neg hlt]
      by_cases he : 0 < cmpO a b
      · rw [if_pos he, kn_cons, kn_cons, ih]
        by_cases ha : a.kind = k
        · simp only [ha, if_true]
          by_cases hb : b.kind = k
          · simp only [hb, if_true]; rw [insN, if_neg hlt, if_pos he]
          · simp only [hb, if_false]
        · simp only [ha, if_false]
      · rw [if_neg he, kn_cons, kn_cons]
        obtain rfl := (cmpO_eq a b).1 (by omega)
        by_cases ha : a.kind = k
        · simp only [ha, if_true]; rw [insN, if_neg hlt, if_neg he]
        · simp only [ha, if_false]
theorem getO_cons (n b : Nm) (u : ByteArray) (l : Al) : getO n ((b, u) :: l) = if cmpO n b = 0 then some u else getO n l := rfl
theorem filterMap_eq {α β : Type} {f g : α → Option β} : ∀ {l : List α}, (∀ x ∈ l, f x = g x) → l.filterMap f = l.filterMap g
  | [], _ => rfl
  | a :: l, h => by rw [List.filterMap_cons, List.filterMap_cons, h a (by simp), filterMap_eq (fun x hx => h x (by simp [hx]))]
theorem getO_ins (n a : Nm) (v : ByteArray) : ∀ es : Al, getO n (insO a v es) = if n = a then some v else getO n es
  | [] => by
    rw [insO, getO_cons]
    by_cases h : n = a
    · subst h; rw [if_pos ((cmpO_eq n n).2 rfl), if_pos rfl]
    · rw [if_neg (fun e => h ((cmpO_eq n a).1 e)), if_neg h]
  | (b, u) :: l => by
    have ih := getO_ins n a v l
    rw [insO]
    by_cases hlt : cmpO a b < 0
    · rw [if_pos hlt, getO_cons]
      by_cases h : n = a
      · subst h; rw [if_pos ((cmpO_eq n n).2 rfl), if_pos rfl]
      · rw [if_neg (fun e => h ((cmpO_eq n a).1 e)), if_neg h]
    · rw [if_neg hlt]
      by_cases he : 0 < cmpO a b
      · rw [if_pos he, getO_cons, getO_cons, ih]
        by_cases hb : cmpO n b = 0
        · obtain rfl := (cmpO_eq n b).1 hb
          rw [if_pos hb, if_pos hb, if_neg (fun e => by subst e; omega)]
        · rw [if_neg hb, if_neg hb]
      · rw [if_neg he]
        have he0 : cmpO a b = 0 := by omega
        obtain rfl := (cmpO_eq a b).1 he0
        rw [getO_cons, getO_cons]
        by_cases h : n = a
        · subst h; rw [if_pos he0, if_pos rfl]
        · rw [if_neg (fun e => h ((cmpO_eq n a).1 e)), if_neg h, if_neg (fun e => h ((cmpO_eq n a).1 e))]
theorem entO_ins {n a : Nm} (v : ByteArray) (es : Al) (h : n ≠ a) : entO (insO a v es) n = entO es n := by rw [entO, entO, getO_ins, if_neg h]
/-- What is no output changes no outputs. -/
theorem all_ins_other (a : Nm) (v : ByteArray) (es : Al) (hs : Srt es) (ha : a.kind ≠ 18) : allE (insO a v es) = allE es := by
  rw [allE, allE, kn_ins a v 18 es hs, if_neg ha]
  unfold allN
  refine filterMap_eq fun n hn => entO_ins v es fun e => ha ?_
  rw [← e]; exact (kn_mem hn).1
end Go.Proofs.YtiggkcknmjgicaaGreatDoor

set_option maxRecDepth 10000
namespace Go.Proofs.YtiggkcknmjgicaaGreatDoor
open Go.RowKit

theorem getO_applyE (n : Nm) : ∀ (l : List Ch) (es : Al), (l.map (·.nm)).Nodup → getO n (applyE es l) = match l.find? (fun c => decide (c.nm = n)) with | some c => some c.val | none => getO n es
  | [], es, _ => rfl
  | c :: l, es, h => by
    simp only [List.map_cons, List.nodup_cons] at h
    show getO n (applyE (insO c.nm c.val es) l) = _
    rw [getO_applyE n l _ h.2, List.find?_cons]
    by_cases hc : c.nm = n
    · have hn : l.find? (fun c => decide (c.nm = n)) = none := List.find?_eq_none.2 fun x hx => by
        simp only [decide_eq_true_eq]
        intro e
        exact h.1 (List.mem_map.2 ⟨x, hx, e.trans hc.symm⟩)
      rw [hn]
      simp [hc, getO_ins]
    · simp only [hc, decide_false]
      cases l.find? (fun c => decide (c.nm = n)) with
      | some c' => rfl
      | none => dsimp only; rw [getO_ins, if_neg (fun e => hc e.symm)]
theorem vwr_nodup (cs : List Ch) : ((vwr cs).map (·.nm)).Nodup := by
  have h1 : ((vwr cs).map (·.nm)).Perm (((lastL cs).map (chAt cs)).map (·.nm)) := (srtC_perm _).map _
  refine h1.nodup_iff.2 ?_
  have h2 : ((lastL cs).map (chAt cs)).map (·.nm) = (lastL cs).map (·.1) := by
    rw [List.map_map]
    refine List.map_congr_left fun p hp => (chAt_nm hp).2
  rw [h2]
  exact lastL_nodup cs
theorem vwr_mem {cs : List Ch} {c : Ch} : c ∈ vwr cs ↔ vcall cs c.nm = some c := by
  rw [vwr, (srtC_perm _).mem_iff, List.mem_map]
  constructor
  · rintro ⟨p, hp, rfl⟩
    obtain ⟨h1, h2⟩ := chAt_nm hp
    have h3 := (mget_mem (lastL cs) (lastL_nodup cs) p.1 p.2).2 hp
    obtain ⟨c, h4, h5⟩ := (lastL_get p.1 cs).1 p.2 h3
    rw [h1] at h4
    rw [h2, h5, ← h4]
  · intro h
    cases hg : mget c.nm (lastL cs) with
    | none => rw [(lastL_get c.nm cs).2 hg] at h; cases h
    | some i =>
      obtain ⟨c', h1, h2⟩ := (lastL_get c.nm cs).1 i hg
      rw [h] at h2
      obtain rfl := Option.some.inj h2
      refine ⟨(c.nm, i), (mget_mem (lastL cs) (lastL_nodup cs) c.nm i).1 hg, ?_⟩
      simp [chAt, h1]
theorem find_vwr (cs : List Ch) (n : Nm) : (vwr cs).find? (fun c => decide (c.nm = n)) = vcall cs n := by
  cases h : (vwr cs).find? (fun c => decide (c.nm = n)) with
  | some c =>
    have h1 := List.mem_of_find?_eq_some h
    have h2 := List.find?_some h
    simp only [decide_eq_true_eq] at h2
    rw [← h2]
    exact (vwr_mem.1 h1).symm
  | none =>
    cases hc : vcall cs n with
    | none => rfl
    | some c =>
      obtain ⟨h1, _⟩ := vcall_nm hc
      have h2 : c ∈ vwr cs := vwr_mem.2 (by rw [h1]; exact hc)
      have := List.find?_eq_none.1 h c h2
      simp [h1] at this
/-- What is read behind the changes. -/
theorem getO_after (es : Al) (cs : List Ch) (n : Nm) : getO n (applyE es (vwr cs)) = match vcall cs n with | some c => some c.val | none => getO n es := by
  rw [getO_applyE n _ es (vwr_nodup cs), find_vwr]
end Go.Proofs.YtiggkcknmjgicaaGreatDoor
