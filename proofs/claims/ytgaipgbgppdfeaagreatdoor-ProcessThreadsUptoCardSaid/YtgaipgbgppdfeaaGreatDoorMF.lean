/-
  The contracts of package view: New, Get, Set, Delete.
  The contracts of package view: Writes.
  The contracts of package view: Reads.
  The contract of view's Writes, for a view that is only read.
  The contracts of package view: After, for views whose writes fit.
  The counts of a process: EncodeCounts (for counts that fit), DecodeCounts.
  What is written is read again; no program in sight.
  The counts of a process: EncodeCounts, DecodeCounts, Made, SetMade.
  The contract of output.Send, where it sends.
  What a reader accepts is what a writer would have written.
  What insertion does to the names of a kind and to the outputs of a state.
  What a state holds behind a view's changes.
  Conditions: those that each theorem states.
-/
import Derived.Test.YtgaipgbgppdfeaaGreatDoorME
import Derived.Test.YtgaipgbgppdfeaaGreatDoorMQ
import Derived.Test.YtgaipgbgppdfeaaGreatDoorMB
set_option maxRecDepth 10000
namespace Go.Proofs.YtgaipgbgppdfeaaGreatDoor
open Go.RowKit

section
variable {n : Nat} {C : Cx} {Q : Exit → Act → World → Prop} {E E' : List (Nat × Value)} {F F' F1 Fs F0 : List Pf} {R R' R0 Rs N N' A : List HP} {k k' : List Fr} {ops l : List Oper} {L L' : List (Nat × Nat)} {Tl : List Nat}
  {i d : Nat} {t ty0 : TypeId} {x y z : Operand} {pos : String} {aft : Array Edge} {gd : Option (Nat × Bool)} {α β : Type} [DecidableEq α] {K : α → Value} {V : β → Value}
/-- An element of a map that stays is looked up. -/
theorem r_mgetE2 {kt et r : Nat} {rs te : TRow} {m : List (α × β)} {zv : Value} (hk : KeyOK kt K) (a : α) (o : Option β) (ho : mget a m = o) (nx : Wr n C ops k Q Tl Fs R L ((d, .tuple #[(o.map V).getD zv, .bool o.isSome]) :: E) F N)
    (hop : nth ops i = some ⟨some d, .lookup t x y true, ty0, pos, aft, gd⟩ := by rfl) (hw : wantL ops E ⟨some d, .lookup t x y true, ty0, pos, aft, gd⟩ = some true := by rfl)
    (hx : ev E x = some (.map (some r)) := by rfl) (hy : ev E y = some (K a) := by rfl) (hts : lookT tab t = some rs := by rfl) (hrs : rs.k = .map kt et := by rfl) (hte : lookT tab et = some te := by rfl) (hzv : zval te = some zv := by rfl)
    (hs : Sel (Mp K V r m) R R0 := by (repeat (first | exact Sel.here | apply Sel.there)); first | done | fail) : Wr n C ops k Q Tl Fs R ((i, 0) :: L) E F N :=
  wr_go hop fun hp hr w st hz sb => by
    simp only [wantL_ok hw]
    refine ⟨.tuple #[(o.map V).getD zv, .bool o.isSome], fun ac w ha hin => ?_, nx hp hr w st hz sb⟩
    obtain ⟨h1, h2, _, s1, _, hmp, _⟩ := hs.sep st.r
    obtain ⟨es, clock, hes, he, hB⟩ := hmp
    have hb : w.heap[r]? = some (.map es clock) := hin _ _ (sb _ _ (sub_un_left _ _ _ _ (s1 _ _ hes)))
    have hu := run_undM (w := w) hts hrs
    have hg : (getObj r).run Tryz.prog w = .ok (.map es clock) w := by simp [getObj, Sem.run, hb]
    have hc := hk.chk a es.isEmpty w
    have hf := findKey_ok hk a es.toList m w he
    have hz0 := zval_ok hte hzv w
    have hfg := mfind_get a m 0
    simp only [execOp, ha.ev (x := x) (by rw [evf_look]; exact hx), ha.ev (x := y) (by rw [evf_look]; exact hy), Instr.lookup, Sem.run_bind, hu, Result.andThen, hg, hc, hf, Sem.run_pure]
    cases hm : mfind a m 0 with
    | none =>
      rw [hm] at hfg
      simp only [Option.map_none, Sem.run_bind, hz0, Result.andThen, Sem.run_pure, if_true]
      rw [← ho, ← hfg]; rfl
    | some q =>
      rw [hm] at hfg
      simp only [Option.map_some, if_true]
      rw [← ho, ← hfg]; rfl
end

section
variable {n : Nat} {C : Cx} {Q : Exit → Act → World → Prop} {E E' : List (Nat × Value)} {F F' F1 Fs F0 : List Pf} {R R' R0 Rs N N' A : List HP} {k k' : List Fr} {ops l : List Oper} {L L' : List (Nat × Nat)} {Tl : List Nat}
  {i d : Nat} {t t2 ty0 : TypeId} {x y z : Operand} {pos : String} {aft : Array Edge} {gd : Option (Nat × Bool)}
/-- A map that is there is not nil. -/
theorem l_mnil {kt et r : Nat} {rs : TRow} (nx : Wl n C ops.toArray k Q l ((d, .bool false) :: E) F R) (hw : wantL ops E ⟨some d, .binOp .eql t x y t2, ty0, pos, aft, gd⟩ = some true := by rfl) (hn : Nat.blt d n = true := by rfl)
    (hx : ev E x = some (.map (some r)) := by rfl) (hy : ev E y = some (.map none) := by rfl) (hts : lookT tab t = some rs := by rfl) (hrs : rs.k = .map kt et := by rfl) : Wl n C ops.toArray k Q (⟨some d, .binOp .eql t x y t2, ty0, pos, aft, gd⟩ :: l) E F R :=
  l_q (fun ac w ha => by
    have hu := run_undM (w := w) hts hrs
    have hg : (eqGuard .eql t x y (.map (some r)) (.map none)).run Tryz.prog w = .ok () w := by simp [eqGuard]
    have hb : (binOp .eql t (.map (some r)) (.map none)).run Tryz.prog w = .ok (.bool false) w := by
      have he : (Op.equal t (.map (some r)) (.map none)).run Tryz.prog w = .ok false w := by
        show (Op.equalIn (9999 + 1) t (.map (some r)) (.map none)).run Tryz.prog w = .ok false w
        rw [Op.equalIn]
        simp only [Sem.run_bind, hu, Result.andThen, Sem.run_pure]
      simp only [binOp, Sem.run_bind, he, Result.andThen, Sem.run_pure]
    simp only [execOp, ha.ev (x := x) (by rw [evf_look]; exact hx), ha.ev (x := y) (by rw [evf_look]; exact hy), Sem.run_bind, hg, Result.andThen, hb, Sem.run_pure]) nx (by intro c h; cases h) hw hn
end

/-- A view: what it has read, and its calls. -/
abbrev VwL (b : Nat) (ps : Option Addr) (rs : List (Nm × Ch)) (cs : List Ch) (q : Nat × Nat × Option Addr × Nat) : List HP :=
  [Pt b (.cells #[.pointer ps, .map (some q.1), .slice q.2.2.1 cs.length q.2.2.2, .map (some q.2.1)] 159), Mp Nm.v Ch.v q.1 rs, Row 71 7 q.2.2.1 cs.length q.2.2.2 (cs.flatMap chf), Mp Nm.v iv q.2.1 (lastL cs)]
def Vw (b : Nat) (ps : Option Addr) (rs : List (Nm × Ch)) (cs : List Ch) : HP := fun h => ∃ q, True ∧ Sep (VwL b ps rs cs q) h

section
variable {n : Nat} {C : Cx} {Q : Exit → Act → World → Prop} {E E' : List (Nat × Value)} {F : List Pf} {R R0 : List HP} {k : List Fr}
theorem k_vw {b : Nat} {ps : Option Addr} {rs : List (Nm × Ch)} {cs : List Ch} (t : ∀ q, Wk n C k Q E F (VwL b ps rs cs q ++ R0)) (hs : Sel (Vw b ps rs cs) R R0 := by (repeat (first | exact Sel.here | apply Sel.there)); first | done | fail) : Wk n C k Q E F R :=
  k_open (X := Nat × Nat × Option Addr × Nat) (Lx := fun q => VwL b ps rs cs q) (p := fun _ => True) (r := Vw b ps rs cs) hs (fun _h hh => hh) (fun q _ => t q)
theorem k_vw' {b r1 r2 m cap : Nat} {o ps : Option Addr} {rs : List (Nm × Ch)} {cs : List Ch} {xs : List Value} {ll : List (Nm × Nat)} (t : Wk n C k Q E F (Vw b ps rs cs :: R0)) (hm : m = cs.length) (hx : xs = cs.flatMap chf) (hl : ll = lastL cs)
    (hs : Sels [Pt b (.cells #[.pointer ps, .map (some r1), .slice o m cap, .map (some r2)] 159), Mp Nm.v Ch.v r1 rs, Row 71 7 o m cap xs, Mp Nm.v iv r2 ll] R R0 := by (repeat (first | exact Sels.nil | exact Sel.here | apply Sel.there | apply Sels.cons)); first | done | fail) : Wk n C k Q E F R := by
  subst hm; subst hx; subst hl
  exact k_shut (fun h hh => ⟨(r1, r2, o, cap), trivial, hh⟩) t hs
end

theorem viewNew_ok (b0 : Nat) : Enters 25 ∧ Spec Tryz.prog 25 #[.pointer (some ⟨b0, 0, none⟩)] [] [] ⟨Nat, fun b => .pointer (some ⟨b, 0, none⟩), fun _ => True, fun _ => [], fun b => [Vw b (some ⟨b0, 0, none⟩) [] []]⟩ := by
  refine ⟨enters_of Tryz.func25 (by kernel_rfl) rfl, spec_of (vs := [_]) Tryz.func25 rfl Tryz.ntmps25 rfl fun G w hp => ?_⟩
  repeat' (first | refine l_run ?_ | refine l_nil ?_ | refine l_one ?_ | refine k_reg ?_ | refine l_ld ?_ | refine l_ldF ?_ | refine l_st ?_ | refine l_al (fun b => ?_) | refine l_bs (fun b => ?_) | refine k_condT ?_ | refine k_condF ?_ | refine k_brk ?_ | refine l_mkm (K := Nm.v) (kt := 69) (et := 71) key_nm Ch.v (fun r => ?_) | refine l_mkm (K := Nm.v) (kt := 69) (et := 3) key_nm iv (fun r => ?_) | (refine l_split (fun hc => ?_) (fun hc => ?_) <;> (try simp at hc)) | (refine k_cond (fun hc => ?_) (fun hc => ?_) <;> (try simp at hc)))
  refine k_shut (r := Row 71 7 none 0 0 []) (Lx := []) (fun h _ => row_nil _ _ h) ?_
  refine k_vw' (cs := []) (rs := []) ?_ rfl rfl rfl
  exact k_ret (post := ⟨Nat, fun b => .pointer (some ⟨b, 0, none⟩), fun _ => True, fun _ => [], fun b => [Vw b (some ⟨b0, 0, none⟩) [] []]⟩) _ rfl trivial

theorem vwRead_ok (b r1 : Nat) (v0 v2 v3 : Value) (T : Nat) (rs : List (Nm × Ch)) (c : Ch) :
    Enters 117 ∧ Spec Tryz.prog 117 #[.pointer (some ⟨b, 0, none⟩), c.v] [] [Pt b (.cells #[v0, .map (some r1), v2, v3] T), Mp Nm.v Ch.v r1 rs]
      ⟨Unit, fun _ => .tuple #[], fun _ => True, fun _ => [], fun _ => [Pt b (.cells #[v0, .map (some r1), v2, v3] T), Mp Nm.v Ch.v r1 (mset c.nm c rs)]⟩ := by
  refine ⟨enters_of Tryz.func117 (by kernel_rfl) rfl, spec_of (vs := [_, _]) Tryz.func117 rfl Tryz.ntmps117 rfl fun G w hp => ?_⟩
  repeat' (first | refine l_run ?_ | refine l_nil ?_ | refine l_one ?_ | refine k_reg ?_ | refine l_ld ?_ | refine l_ldF ?_ | refine l_st ?_ | refine l_al (fun b => ?_) | refine l_bs (fun b => ?_) | refine k_condT ?_ | refine k_condF ?_ | refine k_brk ?_ | refine r_run ?_ | refine r_one ?_ | refine r_ld ?_ | refine r_ldF ?_ | refine r_ldN ?_ | refine r_al (fun b => ?_) | refine r_bs (fun b => ?_) | refine r_st ?_ | refine r_end ?_ | refine l_mnil ?_ | refine l_mset (V := Ch.v) key_nm c.nm c ?_ | (refine l_split (fun hc => ?_) (fun hc => ?_) <;> (try simp at hc)) | (refine r_split (fun hc => ?_) (fun hc => ?_) <;> (try simp at hc)) | refine k_draw 3 [] [(0, 0), (1, 0), (2, 0), (3, 0), (4, 0), (5, 0), (6, 0)] [7] ?_ | (refine k_cond (fun hc => ?_) (fun hc => ?_) <;> (try simp at hc)))
  exact k_end () rfl trivial

theorem vwCall_ok (b : Nat) (ps : Option Addr) (rs : List (Nm × Ch)) (cs : List Ch) (c : Ch) (hl : cs.length ≤ 1000000) :
    Enters 113 ∧ Spec Tryz.prog 113 #[.pointer (some ⟨b, 0, none⟩), c.v] [] [Vw b ps rs cs] ⟨Unit, fun _ => .tuple #[], fun _ => True, fun _ => [], fun _ => [Vw b ps rs (cs ++ [c])]⟩ := by
  refine ⟨enters_of Tryz.func113 (by kernel_rfl) rfl, spec_of (vs := [_, _]) Tryz.func113 rfl Tryz.ntmps113 rfl fun G w hp => ?_⟩
  refine k_vw fun q => ?_
  obtain ⟨r1, r2, o, cap⟩ := q
  repeat' (first | refine l_run ?_ | refine l_nil ?_ | refine l_one ?_ | refine k_reg ?_ | refine l_ld ?_ | refine l_ldF ?_ | refine l_st ?_ | refine l_al (fun b => ?_) | refine l_bs (fun b => ?_) | refine k_condT ?_ | refine k_condF ?_ | refine k_brk ?_ | refine r_run ?_ | refine r_one ?_ | refine r_ld ?_ | refine r_ldF ?_ | refine r_ldN ?_ | refine r_al (fun b => ?_) | refine r_bs (fun b => ?_) | refine r_st ?_ | refine r_end ?_ | refine l_mnil ?_ | refine l_mset (V := iv) key_nm c.nm cs.length ?_ | refine r_app1 (fun o' cap' => ?_) | (refine l_split (fun hc => ?_) (fun hc => ?_) <;> (try simp at hc)) | (refine r_split (fun hc => ?_) (fun hc => ?_) <;> (try simp at hc)) | refine k_draw 3 [] [(0, 0), (1, 0), (2, 0), (3, 0), (4, 0), (5, 0), (6, 0), (7, 0), (8, 0), (9, 0), (10, 0)] [11] ?_ | refine k_draw 4 [Row _ _ _ _ _ _] [(0, 0), (1, 0), (2, 0), (3, 0), (4, 0), (5, 0), (6, 1), (7, 4), (8, 0), (9, 0)] [10] ?_ | (refine k_cond (fun hc => ?_) (fun hc => ?_) <;> (try simp at hc)))
  refine k_vw' (cs := cs ++ [c]) (rs := rs) ?t ?hm ?hx ?hl
  case hm => simp
  case hx => simp [chf]
  case hl => exact (lastL_snoc cs c).symm
  exact k_end () rfl trivial

theorem vwSet_ok (b : Nat) (ps : Option Addr) (rs : List (Nm × Ch)) (cs : List Ch) (a : Nm) (v : ByteArray) (ha : a.owner.size ≤ 1099511627776) (hat : a.text.size ≤ 1099511627776) (hl : cs.length ≤ 1000000) :
    Enters 55 ∧ Spec Tryz.prog 55 #[.pointer (some ⟨b, 0, none⟩), a.v, .string v] [Usg] [Vw b ps rs cs] ⟨Unit, fun _ => .int .i64 (vset cs a v).1, fun _ => True, fun _ => [], fun _ => [Vw b ps rs (vset cs a v).2]⟩ := by
  have n1 := nameCheck_ok a ha hat
  have n2 := vwCall_ok b ps rs cs ⟨a, v, false⟩ hl
  by_cases h1 : nchk a = 0
  · by_cases h2 : 65536 < v.size
    · have e : vset cs a v = (5, cs) := by unfold vset; rw [if_neg (by simp [h1]), if_pos h2]
      rw [e]
      refine ⟨enters_of Tryz.func55 (by kernel_rfl) rfl, spec_of (vs := [_, _, _]) Tryz.func55 rfl Tryz.ntmps55 rfl fun G w hp => ?_⟩
      repeat' (first | refine l_run ?_ | refine l_nil ?_ | refine l_one ?_ | refine k_reg ?_ | refine l_ld ?_ | refine l_ldF ?_ | refine l_st ?_ | refine l_al (fun b => ?_) | refine l_bs (fun b => ?_) | refine k_condT ?_ | refine k_condF ?_ | refine k_brk ?_ | refine l_call (n1) (fun _ _ => ?_) | refine l_call0 (n1) (fun _ _ => ?_) | refine l_call (n2) (fun _ _ => ?_) | refine l_call0 (n2) (fun _ _ => ?_) | (refine l_split (fun hc => ?_) (fun hc => ?_) <;> (try simp at hc) <;> (try omega)) | (refine k_cond (fun hc => ?_) (fun hc => ?_) <;> (try simp at hc) <;> (try omega)))
      exact k_ret () rfl trivial
    · have e : vset cs a v = (0, cs ++ [⟨a, v, false⟩]) := by unfold vset; rw [if_neg (by simp [h1]), if_neg h2]
      rw [e]
      refine ⟨enters_of Tryz.func55 (by kernel_rfl) rfl, spec_of (vs := [_, _, _]) Tryz.func55 rfl Tryz.ntmps55 rfl fun G w hp => ?_⟩
      repeat' (first | refine l_run ?_ | refine l_nil ?_ | refine l_one ?_ | refine k_reg ?_ | refine l_ld ?_ | refine l_ldF ?_ | refine l_st ?_ | refine l_al (fun b => ?_) | refine l_bs (fun b => ?_) | refine k_condT ?_ | refine k_condF ?_ | refine k_brk ?_ | refine l_call (n1) (fun _ _ => ?_) | refine l_call0 (n1) (fun _ _ => ?_) | refine l_call (n2) (fun _ _ => ?_) | refine l_call0 (n2) (fun _ _ => ?_) | (refine l_split (fun hc => ?_) (fun hc => ?_) <;> (try simp at hc) <;> (try omega)) | (refine k_cond (fun hc => ?_) (fun hc => ?_) <;> (try simp at hc) <;> (try omega)))
      exact k_ret () rfl trivial
  · have e : vset cs a v = (12, cs) := by unfold vset; rw [if_pos h1]
    rw [e]
    refine ⟨enters_of Tryz.func55 (by kernel_rfl) rfl, spec_of (vs := [_, _, _]) Tryz.func55 rfl Tryz.ntmps55 rfl fun G w hp => ?_⟩
    repeat' (first | refine l_run ?_ | refine l_nil ?_ | refine l_one ?_ | refine k_reg ?_ | refine l_ld ?_ | refine l_ldF ?_ | refine l_st ?_ | refine l_al (fun b => ?_) | refine l_bs (fun b => ?_) | refine k_condT ?_ | refine k_condF ?_ | refine k_brk ?_ | refine l_call (n1) (fun _ _ => ?_) | refine l_call0 (n1) (fun _ _ => ?_) | refine l_call (n2) (fun _ _ => ?_) | refine l_call0 (n2) (fun _ _ => ?_) | (refine l_split (fun hc => ?_) (fun hc => ?_) <;> (try simp at hc) <;> (try omega)) | (refine k_cond (fun hc => ?_) (fun hc => ?_) <;> (try simp at hc) <;> (try omega)))
    exact k_ret () rfl trivial

set_option maxHeartbeats 1000000 in
theorem vwGet_ok (b : Nat) (ps : Option Addr) (es : Al) (rs : List (Nm × Ch)) (cs : List Ch) (a : Nm) (ha : a.owner.size ≤ 1099511627770) (hat : a.text.size ≤ 1099511627776) :
    Enters 60 ∧ Spec Tryz.prog 60 #[.pointer (some ⟨b, 0, none⟩), a.v] [St ps es, Usg] [Vw b ps rs cs] ⟨Unit, fun _ => .tuple #[.string (vget es cs a).1, .bool (vget es cs a).2], fun _ => True, fun _ => [], fun _ => [Vw b ps (vread es rs cs a) cs]⟩ := by
  have n1 := nameCheck_ok a (by omega) hat
  have n2 := stateGet_ok ps es a ha
  by_cases h1 : nchk a = 0
  · obtain ⟨l1, l2⟩ := lastL_get a cs
    cases hm : mget a (lastL cs) with
    | some i =>
      obtain ⟨c, hc1, hc2⟩ := l1 i hm
      have hil := (List.getElem?_eq_some_iff.1 hc1).1
      have e1 : vget es cs a = (c.val, !c.abs) := by unfold vget; rw [if_neg (by simp [h1]), hc2]
      have e2 : vread es rs cs a = rs := by unfold vread; rw [if_neg (by simp [h1]), hc2]
      rw [e1, e2]
      refine ⟨enters_of Tryz.func60 (by kernel_rfl) rfl, spec_of (vs := [_, _]) Tryz.func60 rfl Tryz.ntmps60 rfl fun G w hp => ?_⟩
      refine k_vw fun q => ?_
      obtain ⟨r1, r2, o, cap⟩ := q
      refine k_row (m := cs.length) (by omega) fun p hp => ?_
      have ho := hp.o
      subst ho
      have hsp : Ax 71 chf p.1 cs p.2 = Pt p.1 (.cells (cs.flatMap chf ++ p.2.1).toArray 71 p.2.2) := rfl
      rw [← hsp]
      repeat' (first | refine l_run ?_ | refine l_nil ?_ | refine l_one ?_ | refine k_reg ?_ | refine l_ld ?_ | refine l_ldF ?_ | refine l_st ?_ | refine l_al (fun b => ?_) | refine l_bs (fun b => ?_) | refine k_condT ?_ | refine k_condF ?_ | refine k_brk ?_ | refine r_run ?_ | refine r_one ?_ | refine r_ld ?_ | refine r_ldF ?_ | refine r_ldN ?_ | refine r_al (fun b => ?_) | refine r_bs (fun b => ?_) | refine r_st ?_ | refine r_end ?_ | refine l_call (n1) (fun _ _ => ?_) | refine l_call0 (n1) (fun _ _ => ?_) | refine r_call (n1) (fun _ _ => ?_) | refine r_mgetE2 key_nm a (some i) hm ?_ | refine r_ixP (m := cs.length) i hil ?_ | refine r_ldE 7 i 5 hc1 ?_ | refine r_ldE 7 i 6 hc1 ?_ | (refine l_split (fun hc => ?_) (fun hc => ?_) <;> (try simp at hc) <;> (try omega)) | (refine r_split (fun hc => ?_) (fun hc => ?_) <;> (try simp at hc) <;> (try omega)) | refine k_draw 3 [] [(0, 0), (1, 0), (2, 0), (3, 0), (4, 0), (5, 0), (6, 0), (7, 0), (8, 0), (9, 0), (10, 0)] [] ?_ | refine k_draw 5 [] [(0, 0), (1, 0), (2, 0), (3, 0), (4, 0), (5, 0), (6, 0), (7, 0), (8, 0), (9, 0), (10, 0), (11, 0), (12, 0), (13, 0), (14, 0), (15, 0), (16, 0), (17, 0), (18, 0)] [] ?_ | refine k_draw 6 [] [(0, 0), (1, 0), (2, 0), (3, 0), (4, 0), (5, 4), (6, 0), (7, 0), (8, 0), (9, 0), (10, 0)] [] ?_ | (refine k_cond (fun hc => ?_) (fun hc => ?_) <;> (try simp at hc) <;> (try omega)))
      refine k_shut (r := Row 71 7 (some ⟨p.1, 0, none⟩) cs.length cap (cs.flatMap chf)) (Lx := [Ax 71 chf p.1 cs p.2]) (fun h hh => row_shut hp h hh) ?_
      refine k_vw' (cs := cs) (rs := rs) ?_ rfl rfl rfl
      exact k_ret () rfl trivial
    | none =>
      have hc2 := l2 hm
      have e1 : vget es cs a = ((getO a es).getD ⟨#[]⟩, (getO a es).isSome) := by unfold vget; rw [if_neg (by simp [h1]), hc2]
      have e2 : vread es rs cs a = mset a ⟨a, (getO a es).getD ⟨#[]⟩, !(getO a es).isSome⟩ rs := by unfold vread; rw [if_neg (by simp [h1]), hc2]
      rw [e1, e2]
      have n3 := fun (r1 : Nat) (v2 v3 : Value) => vwRead_ok b r1 (.pointer ps) v2 v3 159 rs ⟨a, (getO a es).getD ⟨#[]⟩, !(getO a es).isSome⟩
      refine ⟨enters_of Tryz.func60 (by kernel_rfl) rfl, spec_of (vs := [_, _]) Tryz.func60 rfl Tryz.ntmps60 rfl fun G w hp => ?_⟩
      refine k_vw fun q => ?_
      obtain ⟨r1, r2, o, cap⟩ := q
      repeat' (first | refine l_run ?_ | refine l_nil ?_ | refine l_one ?_ | refine k_reg ?_ | refine l_ld ?_ | refine l_ldF ?_ | refine l_st ?_ | refine l_al (fun b => ?_) | refine l_bs (fun b => ?_) | refine k_condT ?_ | refine k_condF ?_ | refine k_brk ?_ | refine r_run ?_ | refine r_one ?_ | refine r_ld ?_ | refine r_ldF ?_ | refine r_ldN ?_ | refine r_al (fun b => ?_) | refine r_bs (fun b => ?_) | refine r_st ?_ | refine r_end ?_ | refine l_call (n1) (fun _ _ => ?_) | refine l_call0 (n1) (fun _ _ => ?_) | refine r_call (n1) (fun _ _ => ?_) | refine l_call (n2) (fun _ _ => ?_) | refine l_call0 (n2) (fun _ _ => ?_) | refine r_call (n2) (fun _ _ => ?_) | refine l_call (n3 _ _ _) (fun _ _ => ?_) | refine l_call0 (n3 _ _ _) (fun _ _ => ?_) | refine r_call (n3 _ _ _) (fun _ _ => ?_) | refine r_mgetE2 key_nm a none hm ?_ | (refine l_split (fun hc => ?_) (fun hc => ?_) <;> (try simp at hc) <;> (try omega)) | (refine r_split (fun hc => ?_) (fun hc => ?_) <;> (try simp at hc) <;> (try omega)) | refine k_draw 3 [] [(0, 0), (1, 0), (2, 0), (3, 0), (4, 0), (5, 0), (6, 0), (7, 0), (8, 0), (9, 0), (10, 0)] [] ?_ | refine k_draw 5 [] [(0, 0), (1, 0), (2, 0), (3, 0), (4, 0), (5, 0), (6, 0), (7, 0), (8, 0), (9, 0), (10, 0), (11, 0), (12, 0), (13, 0), (14, 0), (15, 0), (16, 0), (17, 0), (18, 0)] [] ?_ | refine k_draw 6 [] [(0, 0), (1, 0), (2, 0), (3, 0), (4, 0), (5, 4), (6, 0), (7, 0), (8, 0), (9, 0), (10, 0)] [] ?_ | (refine k_cond (fun hc => ?_) (fun hc => ?_) <;> (try simp at hc) <;> (try omega)))
      refine k_vw' (cs := cs) (rs := mset a ⟨a, (getO a es).getD ⟨#[]⟩, !(getO a es).isSome⟩ rs) ?_ rfl rfl rfl
      exact k_ret () rfl trivial
  · have e1 : vget es cs a = (⟨#[]⟩, false) := by unfold vget; rw [if_pos h1]
    have e2 : vread es rs cs a = rs := by unfold vread; rw [if_pos h1]
    rw [e1, e2]
    refine ⟨enters_of Tryz.func60 (by kernel_rfl) rfl, spec_of (vs := [_, _]) Tryz.func60 rfl Tryz.ntmps60 rfl fun G w hp => ?_⟩
    repeat' (first | refine l_run ?_ | refine l_nil ?_ | refine l_one ?_ | refine k_reg ?_ | refine l_ld ?_ | refine l_ldF ?_ | refine l_st ?_ | refine l_al (fun b => ?_) | refine l_bs (fun b => ?_) | refine k_condT ?_ | refine k_condF ?_ | refine k_brk ?_ | refine l_call (n1) (fun _ _ => ?_) | refine l_call0 (n1) (fun _ _ => ?_) | (refine l_split (fun hc => ?_) (fun hc => ?_) <;> (try simp at hc) <;> (try omega)) | (refine k_cond (fun hc => ?_) (fun hc => ?_) <;> (try simp at hc) <;> (try omega)))
    exact k_ret () rfl trivial
end Go.Proofs.YtgaipgbgppdfeaaGreatDoor

set_option maxRecDepth 10000
namespace Go.Proofs.YtgaipgbgppdfeaaGreatDoor
open Go.RowKit

def cmpC (a b : Ch) : Int := cmpO a.nm b.nm

theorem Spec.more {P : Program} {f : FuncId} {args : Array Value} {F : List Pf} {R : List HP} {post : Post} (h : Spec P f args [] R post) : Spec P f args F R post := fun G w hp hs =>
  (h G w hp (hs.facts fun _ _ _ hx => by cases hx))


/-- The last calls, sorted by names. -/
def Ch.z : Ch := ⟨⟨0, ⟨#[]⟩, 0, 0, ⟨#[]⟩⟩, ⟨#[]⟩, false⟩
def chAt (cs : List Ch) (p : Nm × Nat) : Ch := (cs[p.2]?).getD Ch.z
def insC (c : Ch) : List Ch → List Ch
  | [] => [c]
  | d :: l => if cmpC c d < 0 then c :: d :: l else d :: insC c l
def srtC (l : List Ch) : List Ch := l.foldr insC []
def vwr (cs : List Ch) : List Ch := srtC ((lastL cs).map (chAt cs))


def WrPost (b : Nat) (ps : Option Addr) (rs : List (Nm × Ch)) (cs : List Ch) : Post := ⟨Option Addr × Nat, fun q => .slice q.1 (vwr cs).length q.2, fun _ => True, fun _ => [], fun q => [Vw b ps rs cs, Row 71 7 q.1 (vwr cs).length q.2 ((vwr cs).flatMap chf)]⟩

end Go.Proofs.YtgaipgbgppdfeaaGreatDoor

set_option maxRecDepth 10000
namespace Go.Proofs.YtgaipgbgppdfeaaGreatDoor
open Go.RowKit


abbrev chv (p : Nm × Ch) : Value := p.2.v
def OkP {γ : Type} (m pre : List γ) : Prop := ∃ rest, (pre ++ rest).Perm m

theorem sels_all : ∀ A : List HP, Sels A A []
  | [] => .nil
  | _ :: A => .cons .here (sels_all A)
abbrev JAL (b : Nat) (pre : List (Nm × Ch)) (q : Option Addr × Nat) : List HP := [Pt b (.cells #[.slice q.1 (pre.map (·.2)).length q.2] 66), Row 71 7 q.1 (pre.map (·.2)).length q.2 ((pre.map (·.2)).flatMap chf)]
def JA (b : Nat) (pre : List (Nm × Ch)) : HP := fun h => ∃ q, True ∧ Sep (JAL b pre q) h



/-- What was read: each name once. -/
structure RdOK (rs : List (Nm × Ch)) : Prop where
  nd : (rs.map (·.1)).Nodup
  nm : ∀ p ∈ rs, p.2.nm = p.1
  sz : ∀ p ∈ rs, p.1.owner.size ≤ 1099511627770
/-- The reads, sorted by names. -/
def vrd (rs : List (Nm × Ch)) : List Ch := srtC (rs.map (·.2))


end Go.Proofs.YtgaipgbgppdfeaaGreatDoor

set_option maxRecDepth 10000
namespace Go.Proofs.YtgaipgbgppdfeaaGreatDoor
open Go.RowKit

def WrPostF (r2 : Nat) (o : Option Addr) (cap : Nat) (cs : List Ch) : Post := ⟨Option Addr × Nat, fun q => .slice q.1 (vwr cs).length q.2, fun _ => True, fun _ => [], fun q => [Row 71 7 o cs.length cap (cs.flatMap chf), Mp Nm.v iv r2 (lastL cs), Row 71 7 q.1 (vwr cs).length q.2 ((vwr cs).flatMap chf)]⟩

end Go.Proofs.YtgaipgbgppdfeaaGreatDoor

set_option maxRecDepth 10000
namespace Go.Proofs.YtgaipgbgppdfeaaGreatDoor
open Go.RowKit


/-- Changes that set values, and fit. -/
structure FitC (c : Ch) : Prop where
  ok : nchk c.nm = 0
  val : c.val.size ≤ 65536
  abs : c.abs = false
  own : c.nm.owner.size ≤ 1099511627770
  txt : c.nm.text.size ≤ 1099511627776
def applyE (es : Al) (l : List Ch) : Al := l.foldl (fun es c => insO c.nm c.val es) es



end Go.Proofs.YtgaipgbgppdfeaaGreatDoor

set_option maxRecDepth 10000
namespace Go.Proofs.YtgaipgbgppdfeaaGreatDoor
open Go.RowKit

/-- Counts. -/
structure Ct where
  b : Int
  o : Int
  c : Int
  deriving DecidableEq
def Ct.v (c : Ct) : Value := .agg #[.int .i64 c.b, .int .i64 c.o, .int .i64 c.c]
def Ct.z : Ct := ⟨0, 0, 0⟩
structure CtOK (c : Ct) : Prop where
  b0 : 0 ≤ c.b
  b1 : c.b ≤ 1048576
  o0 : 0 ≤ c.o
  o1 : c.o ≤ 1048576
  c0 : 0 ≤ c.c
  c1 : c.c ≤ 1048576
def cenc (c : Ct) : List UInt8 := venc c.b.toNat ++ venc c.o.toNat ++ venc c.c.toNat

theorem iwithin_ok (x m : Int) : Enters 258 ∧ Spec Tryz.prog 258 #[.int .i64 x, .int .i64 m] [] [] (RetV (.bool (decide (0 ≤ x) && decide (x ≤ m)))) := by
  refine ⟨enters_of Tryz.func258 (by kernel_rfl) rfl, spec_of (vs := [_, _]) Tryz.func258 rfl Tryz.ntmps258 rfl fun G w hp => ?_⟩
  repeat' (first | refine l_run ?_ | refine l_nil ?_ | refine l_one ?_ | refine k_reg ?_ | refine l_ld ?_ | refine l_ldF ?_ | refine l_st ?_ | refine l_al (fun b => ?_) | refine l_bs (fun b => ?_) | refine k_condT ?_ | refine k_condF ?_ | refine k_brk ?_ | (refine l_split (fun hc => ?_) (fun hc => ?_) <;> (try simp at hc)) | (refine k_cond (fun hc => ?_) (fun hc => ?_) <;> (try simp at hc)))
  all_goals (refine k_ret () ?_ trivial; simp_all [RetV, resV] <;> omega)
def cchk (c : Ct) : Int := if 0 ≤ c.b ∧ c.b ≤ 1048576 ∧ 0 ≤ c.o ∧ c.o ≤ 1048576 ∧ 0 ≤ c.c ∧ c.c ≤ 1048576 then 0 else 2
theorem cchk_ok {c : Ct} (h : CtOK c) : cchk c = 0 := by
  unfold cchk; rw [if_pos ⟨h.b0, h.b1, h.o0, h.o1, h.c0, h.c1⟩]
theorem cntCheck_ok (c : Ct) : Enters 232 ∧ Spec Tryz.prog 232 #[c.v] [] [] (RetV (.int .i64 (cchk c))) := by
  have n1 := iwithin_ok c.b 1048576
  have n2 := iwithin_ok c.o 1048576
  have n3 := iwithin_ok c.c 1048576
  refine ⟨enters_of Tryz.func232 (by kernel_rfl) rfl, spec_of (vs := [_]) Tryz.func232 rfl Tryz.ntmps232 rfl fun G w hp => ?_⟩
  repeat' (first | refine l_run ?_ | refine l_nil ?_ | refine l_one ?_ | refine k_reg ?_ | refine l_ld ?_ | refine l_ldF ?_ | refine l_st ?_ | refine l_al (fun b => ?_) | refine l_bs (fun b => ?_) | refine k_condT ?_ | refine k_condF ?_ | refine k_brk ?_ | refine l_call (n1) (fun _ _ => ?_) | refine l_call0 (n1) (fun _ _ => ?_) | refine l_call (n2) (fun _ _ => ?_) | refine l_call0 (n2) (fun _ _ => ?_) | refine l_call (n3) (fun _ _ => ?_) | refine l_call0 (n3) (fun _ _ => ?_) | (refine l_split (fun hc => ?_) (fun hc => ?_) <;> (try simp at hc)) | (refine k_cond (fun hc => ?_) (fun hc => ?_) <;> (try simp at hc)))
  all_goals (refine k_ret () ?_ trivial; simp_all [RetV, resV, cchk] <;> omega)

/-- An encoder over a writer. -/
abbrev EncL (b bw : Nat) (e : Int) (bs : List UInt8) : List HP := [Pt b (.cells #[.pointer (some ⟨bw, 0, none⟩), .int .i64 e] 339), Wtr bw bs]
theorem newEncoder_ok (e : Int) : Enters 231 ∧ Spec Tryz.prog 231 #[.int .i64 e] [] [] ⟨Nat × Nat, fun q => .pointer (some ⟨q.1, 0, none⟩), fun _ => True, fun _ => [], fun q => EncL q.1 q.2 e []⟩ := by
  refine ⟨enters_of Tryz.func231 (by kernel_rfl) rfl, spec_of (vs := [_]) Tryz.func231 rfl Tryz.ntmps231 rfl fun G w hp => ?_⟩
  repeat' (first | refine l_run ?_ | refine l_nil ?_ | refine l_one ?_ | refine k_reg ?_ | refine l_ld ?_ | refine l_ldF ?_ | refine l_st ?_ | refine l_al (fun b => ?_) | refine l_bs (fun b => ?_) | refine k_condT ?_ | refine k_condF ?_ | refine k_brk ?_ | refine l_call (newWriter_ok) (fun _ _ => ?_) | refine l_call0 (newWriter_ok) (fun _ _ => ?_) | (refine l_split (fun hc => ?_) (fun hc => ?_) <;> (try simp at hc)) | (refine k_cond (fun hc => ?_) (fun hc => ?_) <;> (try simp at hc)))
  rename_i bw _
  exact k_ret (b, bw) rfl trivial

theorem vencs_len : ∀ l : List Int, (∀ z ∈ l, 0 ≤ z ∧ z ≤ 4294967296) → (l.flatMap fun z => venc z.toNat).length ≤ l.length * 10
  | [], _ => by simp
  | z :: l, h => by
    have h1 := venc_len10 z.toNat (by have := h z (by simp); omega)
    have h2 := vencs_len l (fun y hy => h y (by simp [hy]))
    simp only [List.flatMap_cons, List.length_append, List.length_cons]
    omega
theorem numbers_ok (b bw : Nat) (e : Int) (bs : List UInt8) (o : Option Addr) (cap : Nat) (l : List Int) (hl : l.length ≤ 1000) (hz : ∀ z ∈ l, 0 ≤ z ∧ z ≤ 4294967296) (hb : bs.length ≤ 1000000) :
    Enters 233 ∧ Spec Tryz.prog 233 #[.pointer (some ⟨b, 0, none⟩), .slice o l.length cap] [Sl 3 zf o cap l] (EncL b bw e bs)
      ⟨Unit, fun _ => .tuple #[], fun _ => True, fun _ => [], fun _ => EncL b bw e (bs ++ l.flatMap fun z => venc z.toNat)⟩ := by
  refine ⟨enters_of Tryz.func233 (by kernel_rfl) rfl, spec_of (vs := [_, _]) Tryz.func233 rfl Tryz.ntmps233 rfl fun G w hp => ?_⟩
  repeat' (first | refine l_run ?_ | refine l_nil ?_ | refine l_one ?_ | refine k_reg ?_ | refine l_ld ?_ | refine l_ldF ?_ | refine l_st ?_ | refine l_al (fun b => ?_) | refine l_bs (fun b => ?_) | refine k_condT ?_ | refine k_condF ?_ | refine k_brk ?_ | (refine l_split (fun hc => ?_) (fun hc => ?_) <;> (try simp at hc)) | (refine k_cond (fun hc => ?_) (fun hc => ?_) <;> (try simp at hc)))
  refine k_lp (X := { i : Nat // i ≤ l.length }) (fun i => [(0, .pointer (some ⟨b, 0, none⟩)), (6, .slice o l.length cap), (7, .int .i64 (l.length : Int)), (8, .int .i64 (i.1 : Int))]) (fun _ => [Sl 3 zf o cap l]) (fun i => EncL b bw e (bs ++ (l.take i.1).flatMap fun z => venc z.toNat)) (fun i => l.length - i.1) ⟨0, by omega⟩ ⟨rfl, rfl, rfl, rfl, trivial⟩ ?_ (hr := by simp only [List.take_zero, List.flatMap_nil, List.append_nil]; exact Sels.cons .here (.cons .here .nil))
  rintro ⟨i, hi⟩
  dsimp only at hi ⊢
  by_cases hlt : i < l.length
  · have hgt := List.getElem?_eq_getElem hlt
    obtain ⟨z, hzz⟩ : ∃ z, l[i] = z := ⟨_, rfl⟩
    rw [hzz] at hgt
    have hm : z ∈ l := by rw [← hzz]; exact List.getElem_mem hlt
    obtain ⟨z0, z1⟩ := hz z hm
    have hlen := vencs_len (l.take i) (fun y hy => hz y (List.mem_of_mem_take hy))
    have h2 : (l.take i).length = i := by simp; omega
    have n1 := wtrNumber_ok bw (bs ++ (l.take i).flatMap fun z => venc z.toNat) z.toNat (by omega) (by rw [List.length_append]; omega)
    rw [show ((z.toNat : Nat) : Int) = z by omega] at n1
    repeat' (first | refine l_run ?_ | refine l_nil ?_ | refine l_one ?_ | refine k_reg ?_ | refine l_ld ?_ | refine l_ldF ?_ | refine l_st ?_ | refine l_al (fun b => ?_) | refine l_bs (fun b => ?_) | refine k_condT ?_ | refine k_condF ?_ | refine k_brk ?_ | refine l_call (n1) (fun _ _ => ?_) | refine l_call0 (n1) (fun _ _ => ?_) | refine l_ixe i z hgt (fun b off => ?_) | refine l_ldC ?_ | (refine l_split (fun hc => ?_) (fun hc => ?_) <;> (try simp at hc) <;> (try omega)) | (refine k_cond (fun hc => ?_) (fun hc => ?_) <;> (try simp at hc) <;> (try omega)))
    rw [wrapi (z := (i : Int) + 1) (by omega) (by omega)]
    have e1 : bs ++ ((l.take i).flatMap fun z => venc z.toNat) ++ venc z.toNat = bs ++ (l.take (i + 1)).flatMap fun z => venc z.toNat := by
      rw [List.take_succ_eq_append_getElem hlt, hzz]; simp
    rw [e1]
    exact k_next ⟨i + 1, by omega⟩ (by show l.length - (i + 1) < l.length - i; omega) ⟨rfl, rfl, rfl, rfl, trivial⟩
  · obtain rfl : i = l.length := by omega
    rw [List.take_length]
    repeat' (first | refine l_run ?_ | refine l_nil ?_ | refine l_one ?_ | refine k_reg ?_ | refine l_ld ?_ | refine l_ldF ?_ | refine l_st ?_ | refine l_al (fun b => ?_) | refine l_bs (fun b => ?_) | refine k_condT ?_ | refine k_condF ?_ | refine k_brk ?_ | (refine l_split (fun hc => ?_) (fun hc => ?_) <;> (try simp at hc) <;> (try omega)) | (refine k_cond (fun hc => ?_) (fun hc => ?_) <;> (try simp at hc) <;> (try omega)))
    exact k_end () rfl trivial
end Go.Proofs.YtgaipgbgppdfeaaGreatDoor

namespace Go.Proofs.YtgaipgbgppdfeaaGreatDoor
open Go.RowKit

theorem venc_props : ∀ (k u : Nat), u ≤ k → ∃ init last, venc u = init ++ [last] ∧ (∀ b ∈ init, 128 ≤ b.toNat) ∧ last.toNat < 128 ∧ (0 < u → last.toNat ≠ 0) ∧ (init ≠ [] → 0 < u) ∧ dval (venc u) = u := by
  intro k
  induction k with
  | zero =>
    intro u hu
    obtain rfl : u = 0 := by omega
    refine ⟨[], 0, ?_, by simp, by decide, by simp, by simp, ?_⟩
    · rw [venc]; simp
    · rw [venc]; simp [dval]
  | succ k ih =>
    intro u hu
    by_cases h : u < 128
    · have hv : venc u = [UInt8.ofNat u] := by rw [venc, if_pos h]
      have ht : (UInt8.ofNat u).toNat = u := by simp; omega
      refine ⟨[], UInt8.ofNat u, by rw [hv]; rfl, by simp, by omega, fun h0 => by omega, by simp, ?_⟩
      rw [hv, dval, dval, ht]; omega
    · have hv : venc u = UInt8.ofNat (u % 128 + 128) :: venc (u / 128) := by rw [venc, if_neg h]
      have ht : (UInt8.ofNat (u % 128 + 128)).toNat = u % 128 + 128 := by simp; omega
      obtain ⟨init, last, h1, h2, h3, h4, h5, h6⟩ := ih (u / 128) (by omega)
      refine ⟨UInt8.ofNat (u % 128 + 128) :: init, last, by rw [hv, h1]; rfl, fun b hb => ?_, h3, fun _ => h4 (by omega), fun _ => by omega, ?_⟩
      · rcases List.mem_cons.1 hb with rfl | hb
        · omega
        · exact h2 b hb
      · rw [hv, dval, h6, ht]; omega

theorem pnat_venc (u : Nat) (hu : u < 9223372036854775808) (rest : List UInt8) : pnat (venc u ++ rest) 9 = (u, (venc u).length, 0) := by
  obtain ⟨init, last, h1, h2, h3, h4, h5, h6⟩ := venc_props u u (Nat.le_refl _)
  have hl : (venc u).length ≤ 9 := venc_len 8 u (by simpa using hu)
  have hlen : (venc u).length = init.length + 1 := by rw [h1]; simp
  have hlast : lastN (venc u ++ rest) 9 = init.length := by
    refine lastN_eq (by simp; omega) (by omega) (fun i hi => ?_) (.inr (.inr ⟨last, ?_, h3⟩))
    · refine ⟨init[i], ?_, h2 _ (List.getElem_mem hi)⟩
      rw [h1, List.append_assoc, List.getElem?_append_left hi]
      exact List.getElem?_eq_getElem hi
    · rw [h1, List.append_assoc, List.getElem?_append_right (Nat.le_refl _)]
      simp
  have hget : (venc u ++ rest)[init.length]? = some last := by
    rw [h1, List.append_assoc, List.getElem?_append_right (Nat.le_refl _)]; simp
  have htk : (venc u ++ rest).take (init.length + 1) = venc u := by rw [← hlen]; simp
  unfold pnat
  dsimp only
  rw [hlast, if_neg (by omega), hget]
  dsimp only
  rw [if_neg, if_neg (by omega), htk, h6, hlen, Nat.mod_eq_of_lt (by omega)]
  rintro ⟨g1, g2⟩
  exact h4 (h5 (fun e => by rw [e] at g1; simp at g1)) g2

theorem rnum_venc (u : Nat) (hu : u < 9223372036854775808) (rest : List UInt8) (pos : Nat) (most : Int) (hm : (u : Int) ≤ most) : rnum ⟨venc u ++ rest, pos, 0⟩ most = ((u : Int), ⟨rest, pos + (venc u).length, 0⟩) := by
  have hp : pnum (venc u ++ rest) most = ((u : Int), (venc u).length, 0) := by
    unfold pnum
    rw [pnat_venc u hu rest]
    dsimp only
    rw [if_neg (by omega)]
  unfold rnum rstep
  dsimp only
  rw [hp]
  simp

theorem rtext_venc (s : ByteArray) (rest : List UInt8) (pos : Nat) (most : Int) (hm : (s.size : Int) ≤ most) (h2 : s.size ≤ 16777216) : rtext ⟨venc s.size ++ s.data.toList ++ rest, pos, 0⟩ most = (s, ⟨rest, pos + ((venc s.size).length + s.size), 0⟩) := by
  have hs : s.data.toList.length = s.size := by simp
  have e1 : (venc s.size ++ (s.data.toList ++ rest)).drop ((venc s.size).length + s.size) = rest := by
    rw [← List.append_assoc, ← hs, ← List.length_append, List.drop_left]
  have e2 : ((venc s.size ++ (s.data.toList ++ rest)).take ((venc s.size).length + s.size)).drop (venc s.size).length = s.data.toList := by
    rw [← List.append_assoc, ← hs, ← List.length_append, List.take_left, List.drop_left]
  have hp : ptext (venc s.size ++ (s.data.toList ++ rest)) most = (s, (venc s.size).length + s.size, 0) := by
    unfold ptext
    rw [pnat_venc s.size (by omega) (s.data.toList ++ rest)]
    dsimp only
    rw [if_neg (by simp), if_neg (by omega), if_neg (by simp only [List.length_append]; omega), e2]
  unfold rtext rstep
  dsimp only
  rw [List.append_assoc, hp, if_neg (by simp), if_neg (by simp)]
  dsimp only
  rw [e1]

end Go.Proofs.YtgaipgbgppdfeaaGreatDoor

set_option maxRecDepth 10000
namespace Go.Proofs.YtgaipgbgppdfeaaGreatDoor
open Go.RowKit

theorem numbersP_ok (b bw s : Nat) (e : Int) (bs : List UInt8) (l : List Int) (hl : l.length ≤ 1000) (hz : ∀ z ∈ l, 0 ≤ z ∧ z ≤ 4294967296) (hb : bs.length ≤ 1000000) :
    Enters 233 ∧ Spec Tryz.prog 233 #[.pointer (some ⟨b, 0, none⟩), .slice (some ⟨s, 0, none⟩) l.length l.length] [] (Pt s (.cells (l.flatMap zf).toArray 3) :: EncL b bw e bs)
      ⟨Unit, fun _ => .tuple #[], fun _ => True, fun _ => [], fun _ => EncL b bw e (bs ++ l.flatMap fun z => venc z.toNat)⟩ := by
  have h := numbers_ok b bw e bs (some ⟨s, 0, none⟩) l.length l hl hz hb
  refine ⟨h.1, fun G w hp hs => ?_⟩
  have h1 := (hs.shut (L := [Pt s (.cells (l.flatMap zf).toArray 3)]) (x := Row 3 1 (some ⟨s, 0, none⟩) l.length l.length (l.flatMap zf)) fun h hh => by
    obtain ⟨h1, h2, _, s1, _, hx, _⟩ := hh
    exact .inr ⟨s, [], (0, 0), rfl, by have := s1 _ _ hx; simpa using this, by rw [flat_len (f := zf) (sz := 1) (fun _ => rfl)], by rw [List.append_nil, flat_len (f := zf) (sz := 1) (fun _ => rfl)], Nat.le_refl _, .inl rfl⟩)
  have h2 := frz_row (f := zf) (es := l) rfl rfl Sel.here h1
  refine sat_call h.2 h2 (sels_all _) (fun hp hF f hf => by simp at hf; subst hf; exact hF _ (by simp)) fun x w' hx h3 => ⟨x, rfl, hx, ?_⟩
  exact (h3.facts (F' := []) (fun _ _ _ h => by cases h)).res fun k hk => by simpa using hk

theorem encBytes_ok (b bw : Nat) (bs : List UInt8) (hl : bs.length ≤ 1000000) :
    Enters 234 ∧ Spec Tryz.prog 234 #[.pointer (some ⟨b, 0, none⟩)] [] (EncL b bw 0 bs) (RetV (.tuple #[.string ⟨bs.toArray⟩, .int .i64 0])) := by
  refine ⟨enters_of Tryz.func234 (by kernel_rfl) rfl, spec_of (vs := [_]) Tryz.func234 rfl Tryz.ntmps234 rfl fun G w hp => ?_⟩
  repeat' (first | refine l_run ?_ | refine l_nil ?_ | refine l_one ?_ | refine k_reg ?_ | refine l_ld ?_ | refine l_ldF ?_ | refine l_st ?_ | refine l_al (fun b => ?_) | refine l_bs (fun b => ?_) | refine k_condT ?_ | refine k_condF ?_ | refine k_brk ?_ | refine r_run ?_ | refine r_one ?_ | refine r_ld ?_ | refine r_ldF ?_ | refine r_ldN ?_ | refine r_al (fun b => ?_) | refine r_bs (fun b => ?_) | refine r_st ?_ | refine r_end ?_ | refine l_call (wtrBytes_ok _ bs (by omega)) (fun _ _ => ?_) | refine l_call0 (wtrBytes_ok _ bs (by omega)) (fun _ _ => ?_) | refine r_call (wtrBytes_ok _ bs (by omega)) (fun _ _ => ?_) | (refine l_split (fun hc => ?_) (fun hc => ?_) <;> (try simp at hc)) | (refine r_split (fun hc => ?_) (fun hc => ?_) <;> (try simp at hc)) | refine k_draw 5 [] [(0, 0), (1, 0), (2, 0), (3, 0), (4, 0), (5, 0)] [] ?_ | (refine k_cond (fun hc => ?_) (fun hc => ?_) <;> (try simp at hc)))
  refine l_frz (sz := 1) (f := bf) bs ?_ (byt_flat _) rfl
  refine l_b2s ?_
  repeat' (first | refine l_run ?_ | refine l_nil ?_ | refine l_one ?_ | refine k_reg ?_ | refine l_ld ?_ | refine l_ldF ?_ | refine l_st ?_ | refine l_al (fun b => ?_) | refine l_bs (fun b => ?_) | refine k_condT ?_ | refine k_condF ?_ | refine k_brk ?_ | refine r_run ?_ | refine r_one ?_ | refine r_ld ?_ | refine r_ldF ?_ | refine r_ldN ?_ | refine r_al (fun b => ?_) | refine r_bs (fun b => ?_) | refine r_st ?_ | refine r_end ?_ | refine l_split (fun hc => ?_) (fun hc => ?_) | refine r_split (fun hc => ?_) (fun hc => ?_) | refine k_draw 5 [] [(0, 0), (1, 0), (2, 0), (3, 0), (4, 0), (5, 0)] [] ?_ | refine k_cond (fun hc => ?_) (fun hc => ?_))
  exact k_ret () rfl trivial

theorem cenc_len {c : Ct} (h : CtOK c) : (cenc c).length ≤ 30 := by
  have l1 := venc_len10 c.b.toNat (by have := h.b1; omega)
  have l2 := venc_len10 c.o.toNat (by have := h.o1; omega)
  have l3 := venc_len10 c.c.toNat (by have := h.c1; omega)
  simp only [cenc, List.length_append]; omega
theorem encodeCounts_ok (c : Ct) (h : CtOK c) : Enters 186 ∧ Spec Tryz.prog 186 #[c.v] [] [] (RetV (.tuple #[.string ⟨(cenc c).toArray⟩, .int .i64 0])) := by
  have n1 := cntCheck_ok c
  rw [cchk_ok h] at n1
  have e : ([c.b, c.o, c.c].flatMap fun z => venc z.toNat) = cenc c := by simp [cenc]
  have n2 := fun b bw s => numbersP_ok b bw s 0 [] [c.b, c.o, c.c] (by simp) (fun z hz => by
    simp only [List.mem_cons, List.not_mem_nil, or_false] at hz
    have := h.b0; have := h.b1; have := h.o0; have := h.o1; have := h.c0; have := h.c1
    rcases hz with rfl | rfl | rfl <;> omega) (by simp)
  rw [e, List.nil_append] at n2
  have hl := cenc_len h
  have n3 := fun b bw => encBytes_ok b bw (cenc c) (by omega)
  refine ⟨enters_of Tryz.func186 (by kernel_rfl) rfl, spec_of (vs := [_]) Tryz.func186 rfl Tryz.ntmps186 rfl fun G w hp => ?_⟩
  repeat' (first | refine l_run ?_ | refine l_nil ?_ | refine l_one ?_ | refine k_reg ?_ | refine l_ld ?_ | refine l_ldF ?_ | refine l_st ?_ | refine l_al (fun b => ?_) | refine l_bs (fun b => ?_) | refine k_condT ?_ | refine k_condF ?_ | refine k_brk ?_ | refine l_call (n1) (fun _ _ => ?_) | refine l_call0 (n1) (fun _ _ => ?_) | refine l_call (newEncoder_ok _) (fun _ _ => ?_) | refine l_call0 (newEncoder_ok _) (fun _ _ => ?_) | refine l_call (n2 _ _ _) (fun _ _ => ?_) | refine l_call0 (n2 _ _ _) (fun _ _ => ?_) | refine l_call (n3 _ _) (fun _ _ => ?_) | refine l_call0 (n3 _ _) (fun _ _ => ?_) | (refine l_split (fun hc => ?_) (fun hc => ?_) <;> (try simp at hc)) | (refine k_cond (fun hc => ?_) (fun hc => ?_) <;> (try simp at hc)))
  exact k_ret () rfl trivial

def cread (s : RS) : Ct × RS :=
  let (b, s1) := rnum s 1048576
  let (o, s2) := rnum s1 1048576
  let (c, s3) := rnum s2 1048576
  (⟨b, o, c⟩, s3)
def cdec (s : ByteArray) : Option Ct :=
  let r := cread ⟨s.data.toList, 0, 0⟩
  if r.2.err = 0 ∧ r.2.rest = [] then some r.1 else none

set_option maxHeartbeats 1000000 in
theorem decodeCounts_ok (s : ByteArray) (hs : s.size ≤ 1099511627776) : Enters 177 ∧ Spec Tryz.prog 177 #[.string s] [] [] (RetV (.tuple #[((cdec s).getD Ct.z).v, .int .i64 (if (cdec s).isSome then 0 else 3)])) := by
  have hsz : s.data.toList.length = s.size := by simp
  generalize hd : cdec s = d
  unfold cdec cread at hd
  generalize h0 : (⟨s.data.toList, 0, 0⟩ : RS) = s0 at hd
  have g0 : s0.pos + s0.rest.length ≤ 1099511627776 := by subst h0; dsimp only; omega
  have g1 := rstep_le 0 s0 (pnum s0.rest 1048576) (pnum_le _ _)
  have n1 := fun b o cap => rdrNumber_ok b o cap s0 1048576 g0
  generalize hr1 : rnum s0 1048576 = r1 at *
  obtain ⟨v1, s1⟩ := r1
  have g1 : s1.pos + s1.rest.length ≤ 1099511627776 := by
    have : (rnum s0 1048576).2.pos + (rnum s0 1048576).2.rest.length ≤ s0.pos + s0.rest.length := g1
    rw [hr1] at this; dsimp only at this; omega
  have g2 := rstep_le 0 s1 (pnum s1.rest 1048576) (pnum_le _ _)
  have n2 := fun b o cap => rdrNumber_ok b o cap s1 1048576 g1
  dsimp only at *
  generalize hr2 : rnum s1 1048576 = r2 at *
  obtain ⟨v2, s2⟩ := r2
  have g2 : s2.pos + s2.rest.length ≤ 1099511627776 := by
    have : (rnum s1 1048576).2.pos + (rnum s1 1048576).2.rest.length ≤ s1.pos + s1.rest.length := g2
    rw [hr2] at this; dsimp only at this; omega
  have n3 := fun b o cap => rdrNumber_ok b o cap s2 1048576 g2
  dsimp only at *
  generalize hr3 : rnum s2 1048576 = r3 at *
  obtain ⟨v3, s3⟩ := r3
  dsimp only at *
  have n4 := fun b o cap => rdrClose_ok b o cap s3
  have n0 := fun o cap => newReader_ok o cap s.data.toList (by omega)
  rw [h0] at n0
  have e0 : s.data.toList = s0.rest := by rw [← h0]
  rw [e0] at n0
  refine ⟨enters_of Tryz.func177 (by kernel_rfl) rfl, spec_of (vs := [_]) Tryz.func177 rfl Tryz.ntmps177 rfl fun G w hp => ?_⟩
  repeat' (first | refine l_run ?_ | refine l_nil ?_ | refine l_one ?_ | refine k_reg ?_ | refine l_ld ?_ | refine l_ldF ?_ | refine l_st ?_ | refine l_al (fun b => ?_) | refine l_bs (fun b => ?_) | refine k_condT ?_ | refine k_condF ?_ | refine k_brk ?_ | refine l_call (n0 _ _) (fun _ _ => ?_) | refine l_call0 (n0 _ _) (fun _ _ => ?_) | refine l_call (n1 _ _ _) (fun _ _ => ?_) | refine l_call0 (n1 _ _ _) (fun _ _ => ?_) | refine l_call (n2 _ _ _) (fun _ _ => ?_) | refine l_call0 (n2 _ _ _) (fun _ _ => ?_) | refine l_call (n3 _ _ _) (fun _ _ => ?_) | refine l_call0 (n3 _ _ _) (fun _ _ => ?_) | refine l_call (n4 _ _ _) (fun _ _ => ?_) | refine l_call0 (n4 _ _ _) (fun _ _ => ?_) | refine l_s2b (fun o cap => ?_) | rw [e0] | refine l_split (fun hc => ?_) (fun hc => ?_) | refine k_cond (fun hc => ?_) (fun hc => ?_))
  · have hne : ¬ (s3.err = 0 ∧ s3.rest = []) := fun h => by rw [(close0 _ _).2 h] at hc; simp at hc
    rw [if_neg hne] at hd; subst hd; exact k_ret () rfl trivial
  · have h1 := (close0 _ _).1 (by simpa using hc)
    rw [if_pos h1] at hd; subst hd; exact k_ret () rfl trivial

/-- The name of the counts of a process. -/
def cnm (who : ByteArray) : Nm := ⟨5, who, 0, 0, ⟨#[]⟩⟩
theorem ofCounter_ok (who : ByteArray) : Enters 176 ∧ Spec Tryz.prog 176 #[.string who] [] [] (RetV (cnm who).v) := by
  refine ⟨enters_of Tryz.func176 (by kernel_rfl) rfl, spec_of (vs := [_]) Tryz.func176 rfl Tryz.ntmps176 rfl fun G w hp => ?_⟩
  repeat' (first | refine l_run ?_ | refine l_nil ?_ | refine l_one ?_ | refine k_reg ?_ | refine l_ld ?_ | refine l_ldF ?_ | refine l_st ?_ | refine l_al (fun b => ?_) | refine l_bs (fun b => ?_) | refine k_condT ?_ | refine k_condF ?_ | refine k_brk ?_ | refine l_split (fun hc => ?_) (fun hc => ?_) | refine k_cond (fun hc => ?_) (fun hc => ?_))
  exact k_ret () rfl trivial

/-- What Made answers. -/
def madeE (es : Al) (cs : List Ch) (who : ByteArray) : Ct × Int :=
  if lvalid who.data.toList then (if (vget es cs (cnm who)).2 then ((cdec (vget es cs (cnm who)).1).getD Ct.z, if (cdec (vget es cs (cnm who)).1).isSome then 0 else 3) else (Ct.z, 0)) else (Ct.z, 12)
def madeR (es : Al) (rs : List (Nm × Ch)) (cs : List Ch) (who : ByteArray) : List (Nm × Ch) := if lvalid who.data.toList then vread es rs cs (cnm who) else rs

set_option maxHeartbeats 1000000 in
theorem made_ok (b : Nat) (ps : Option Addr) (es : Al) (rs : List (Nm × Ch)) (cs : List Ch) (who : ByteArray) (hw : who.size ≤ 1099511627770) (hv : (vget es cs (cnm who)).1.size ≤ 1099511627776) :
    Enters 109 ∧ Spec Tryz.prog 109 #[.pointer (some ⟨b, 0, none⟩), .string who] [St ps es, Usg] [Vw b ps rs cs] ⟨Unit, fun _ => .tuple #[(madeE es cs who).1.v, .int .i64 (madeE es cs who).2], fun _ => True, fun _ => [], fun _ => [Vw b ps (madeR es rs cs who) cs]⟩ := by
  have n1 := valid_ok who (by omega)
  have n2 := ofCounter_ok who
  have n3 := vwGet_ok b ps es rs cs (cnm who) hw (Nat.zero_le _)
  have n4 := decodeCounts_ok (vget es cs (cnm who)).1 hv
  generalize hm : madeE es cs who = m
  generalize hr : madeR es rs cs who = r
  unfold madeE at hm
  unfold madeR at hr
  cases h1 : lvalid who.data.toList with
  | false =>
    rw [h1] at n1 hm hr
    simp only [Bool.false_eq_true, if_false] at hm hr
    subst hm; subst hr
    refine ⟨enters_of Tryz.func109 (by kernel_rfl) rfl, spec_of (vs := [_, _]) Tryz.func109 rfl Tryz.ntmps109 rfl fun G w hp => ?_⟩
    repeat' (first | refine l_run ?_ | refine l_nil ?_ | refine l_one ?_ | refine k_reg ?_ | refine l_ld ?_ | refine l_ldF ?_ | refine l_st ?_ | refine l_al (fun b => ?_) | refine l_bs (fun b => ?_) | refine k_condT ?_ | refine k_condF ?_ | refine k_brk ?_ | refine l_call (n1) (fun _ _ => ?_) | refine l_call0 (n1) (fun _ _ => ?_) | (refine l_split (fun hc => ?_) (fun hc => ?_) <;> (try simp at hc)) | (refine k_cond (fun hc => ?_) (fun hc => ?_) <;> (try simp at hc)))
    exact k_ret () rfl trivial
  | true =>
    rw [h1] at n1 hm hr
    simp only [if_true] at hm hr
    subst hr
    cases h2 : (vget es cs (cnm who)).2 with
    | false =>
      rw [h2] at n3 hm
      simp only [Bool.false_eq_true, if_false] at hm
      subst hm
      refine ⟨enters_of Tryz.func109 (by kernel_rfl) rfl, spec_of (vs := [_, _]) Tryz.func109 rfl Tryz.ntmps109 rfl fun G w hp => ?_⟩
      repeat' (first | refine l_run ?_ | refine l_nil ?_ | refine l_one ?_ | refine k_reg ?_ | refine l_ld ?_ | refine l_ldF ?_ | refine l_st ?_ | refine l_al (fun b => ?_) | refine l_bs (fun b => ?_) | refine k_condT ?_ | refine k_condF ?_ | refine k_brk ?_ | refine l_call (n1) (fun _ _ => ?_) | refine l_call0 (n1) (fun _ _ => ?_) | refine l_call (n2) (fun _ _ => ?_) | refine l_call0 (n2) (fun _ _ => ?_) | refine l_call (n3) (fun _ _ => ?_) | refine l_call0 (n3) (fun _ _ => ?_) | (refine l_split (fun hc => ?_) (fun hc => ?_) <;> (try simp at hc)) | (refine k_cond (fun hc => ?_) (fun hc => ?_) <;> (try simp at hc)))
      exact k_ret () rfl trivial
    | true =>
      rw [h2] at n3 hm
      simp only [if_true] at hm
      subst hm
      refine ⟨enters_of Tryz.func109 (by kernel_rfl) rfl, spec_of (vs := [_, _]) Tryz.func109 rfl Tryz.ntmps109 rfl fun G w hp => ?_⟩
      repeat' (first | refine l_run ?_ | refine l_nil ?_ | refine l_one ?_ | refine k_reg ?_ | refine l_ld ?_ | refine l_ldF ?_ | refine l_st ?_ | refine l_al (fun b => ?_) | refine l_bs (fun b => ?_) | refine k_condT ?_ | refine k_condF ?_ | refine k_brk ?_ | refine l_call (n1) (fun _ _ => ?_) | refine l_call0 (n1) (fun _ _ => ?_) | refine l_call (n2) (fun _ _ => ?_) | refine l_call0 (n2) (fun _ _ => ?_) | refine l_call (n3) (fun _ _ => ?_) | refine l_call0 (n3) (fun _ _ => ?_) | refine l_call (n4) (fun _ _ => ?_) | refine l_call0 (n4) (fun _ _ => ?_) | (refine l_split (fun hc => ?_) (fun hc => ?_) <;> (try simp at hc)) | (refine k_cond (fun hc => ?_) (fun hc => ?_) <;> (try simp at hc)))
      exact k_ret () rfl trivial

theorem setMade_ok (b : Nat) (ps : Option Addr) (rs : List (Nm × Ch)) (cs : List Ch) (who : ByteArray) (c : Ct) (hw : who.size ≤ 1099511627770) (hv : lvalid who.data.toList = true) (hc0 : CtOK c) (hl : cs.length ≤ 1000000) :
    Enters 119 ∧ Spec Tryz.prog 119 #[.pointer (some ⟨b, 0, none⟩), .string who, c.v] [Usg] [Vw b ps rs cs] ⟨Unit, fun _ => .int .i64 (vset cs (cnm who) ⟨(cenc c).toArray⟩).1, fun _ => True, fun _ => [], fun _ => [Vw b ps rs (vset cs (cnm who) ⟨(cenc c).toArray⟩).2]⟩ := by
  have n1 := valid_ok who (by omega)
  rw [hv] at n1
  have n2 := ofCounter_ok who
  have n3 := encodeCounts_ok c hc0
  have n4 := vwSet_ok b ps rs cs (cnm who) ⟨(cenc c).toArray⟩ (by show who.size ≤ _; omega) (Nat.zero_le _) hl
  refine ⟨enters_of Tryz.func119 (by kernel_rfl) rfl, spec_of (vs := [_, _, _]) Tryz.func119 rfl Tryz.ntmps119 rfl fun G w hp => ?_⟩
  repeat' (first | refine l_run ?_ | refine l_nil ?_ | refine l_one ?_ | refine k_reg ?_ | refine l_ld ?_ | refine l_ldF ?_ | refine l_st ?_ | refine l_al (fun b => ?_) | refine l_bs (fun b => ?_) | refine k_condT ?_ | refine k_condF ?_ | refine k_brk ?_ | refine l_call (n1) (fun _ _ => ?_) | refine l_call0 (n1) (fun _ _ => ?_) | refine l_call (n2) (fun _ _ => ?_) | refine l_call0 (n2) (fun _ _ => ?_) | refine l_call (n3) (fun _ _ => ?_) | refine l_call0 (n3) (fun _ _ => ?_) | refine l_call (n4) (fun _ _ => ?_) | refine l_call0 (n4) (fun _ _ => ?_) | (refine l_split (fun hc => ?_) (fun hc => ?_) <;> (try simp at hc)) | (refine k_cond (fun hc => ?_) (fun hc => ?_) <;> (try simp at hc)))
  exact k_ret () rfl trivial
end Go.Proofs.YtgaipgbgppdfeaaGreatDoor

set_option maxRecDepth 10000
namespace Go.Proofs.YtgaipgbgppdfeaaGreatDoor
open Go.RowKit

theorem vwMark_ok (b : Nat) (ps : Option Addr) (rs : List (Nm × Ch)) (cs : List Ch) : Enters 64 ∧ Spec Tryz.prog 64 #[.pointer (some ⟨b, 0, none⟩)] [] [Vw b ps rs cs] ⟨Unit, fun _ => .int .i64 (cs.length : Int), fun _ => True, fun _ => [], fun _ => [Vw b ps rs cs]⟩ := by
  refine ⟨enters_of Tryz.func64 (by kernel_rfl) rfl, spec_of (vs := [_]) Tryz.func64 rfl Tryz.ntmps64 rfl fun G w hp => ?_⟩
  refine k_vw fun q => ?_
  obtain ⟨r1, r2, o, cap⟩ := q
  repeat' (first | refine l_run ?_ | refine l_nil ?_ | refine l_one ?_ | refine k_reg ?_ | refine l_ld ?_ | refine l_ldF ?_ | refine l_st ?_ | refine l_al (fun b => ?_) | refine l_bs (fun b => ?_) | refine k_condT ?_ | refine k_condF ?_ | refine k_brk ?_ | (refine l_split (fun hc => ?_) (fun hc => ?_) <;> (try simp at hc)) | (refine k_cond (fun hc => ?_) (fun hc => ?_) <;> (try simp at hc)))
  refine k_vw' (cs := cs) (rs := rs) ?_ rfl rfl rfl
  exact k_ret () rfl trivial

def onm (who : ByteArray) (n t : Int) : Nm := ⟨18, who, n, t, ⟨#[]⟩⟩
def snt (who : ByteArray) (c : Ct) (tk : Int) (o : Ou) : List Ch := [⟨onm who c.o tk, oencS o, false⟩, ⟨cnm who, ⟨(cenc { c with o := c.o + 1 }).toArray⟩, false⟩]

end Go.Proofs.YtgaipgbgppdfeaaGreatDoor

set_option maxRecDepth 10000
namespace Go.Proofs.YtgaipgbgppdfeaaGreatDoor
open Go.RowKit

theorem mem_tw {α : Type} {p : α → Bool} : ∀ {l : List α} {x : α}, x ∈ l.takeWhile p → p x = true
  | [], _, h => by cases h
  | a :: l, x, h => by
    rw [List.takeWhile_cons] at h
    split at h
    · rename_i ha
      rcases List.mem_cons.1 h with rfl | h
      · exact ha
      · exact mem_tw h
    · cases h
theorem dval_pos : ∀ (init : List UInt8) (b : UInt8), b.toNat < 128 → 0 < b.toNat → 0 < dval (init ++ [b])
  | [], b, h, h0 => by simp [dval]; omega
  | c :: init, b, h, h0 => by
    have := dval_pos init b h h0
    simp only [List.cons_append, dval]; omega
theorem venc_dval : ∀ (init : List UInt8) (b : UInt8), (∀ c ∈ init, 128 ≤ c.toNat) → b.toNat < 128 → (init ≠ [] → b.toNat ≠ 0) → venc (dval (init ++ [b])) = init ++ [b]
  | [], b, _, h, _ => by
    have h1 : dval ([] ++ [b]) = b.toNat := by simp [dval]; omega
    rw [h1, venc, if_pos h]; simp
  | c :: init, b, hc, h, h0 => by
    have hb : 0 < b.toNat := Nat.pos_of_ne_zero (h0 (by simp))
    have hp := dval_pos init b h hb
    have ih := venc_dval init b (fun x hx => hc x (by simp [hx])) h (fun _ => by omega)
    have hc1 : 128 ≤ c.toNat := hc c (by simp)
    have hc2 : c.toNat < 256 := c.toNat_lt
    simp only [List.cons_append, dval]
    rw [venc, if_neg (by omega)]
    have e1 : (c.toNat % 128 + 128 * dval (init ++ [b])) / 128 = dval (init ++ [b]) := by omega
    have e2 : (c.toNat % 128 + 128 * dval (init ++ [b])) % 128 + 128 = c.toNat := by omega
    rw [e1, e2, ih]; simp
theorem pnat_inv (bs : List UInt8) (h : (pnat bs 9).2.2 = 0) : bs.take (pnat bs 9).2.1 = venc (pnat bs 9).1 := by
  have hle := lastN_le bs 9
  unfold pnat at h ⊢
  dsimp only at h ⊢
  have hall : ∀ c ∈ bs.take (lastN bs 9), 128 ≤ c.toNat := by
    intro c hc
    have h1 : bs.take (lastN bs 9) = (bs.take 9).takeWhile fun b => decide (128 ≤ b.toNat) := by
      have h2 : (bs.take 9).takeWhile (fun b => decide (128 ≤ b.toNat)) <+: bs := (List.takeWhile_prefix _).trans (List.take_prefix _ _)
      exact (List.prefix_iff_eq_take.1 h2).symm
    rw [h1] at hc
    simpa using mem_tw hc
  by_cases h9 : lastN bs 9 = 9
  · simp [h9] at h
  · rw [if_neg h9] at h ⊢
    cases hb : bs[lastN bs 9]? with
    | none => simp [hb] at h
    | some b =>
      simp only [hb] at h ⊢
      by_cases hc : 0 < lastN bs 9 ∧ b.toNat = 0
      · rw [if_pos hc] at h; cases h
      · rw [if_neg hc] at h ⊢
        have h8 : ¬ (lastN bs 9 = 9 ∧ 1 < b.toNat) := fun h => h9 h.1
        rw [if_neg h8]
        have hlt : lastN bs 9 < bs.length := (List.getElem?_eq_some_iff.1 hb).1
        have ht : bs.take (lastN bs 9 + 1) = bs.take (lastN bs 9) ++ [b] := by rw [List.take_add_one, hb]; rfl
        have hbl : b.toNat < 128 := by
          have h1 : lastN bs 9 < (bs.take 9).length := by simp; omega
          have h3 : (bs.take 9)[lastN bs 9]? = some b := by rw [List.getElem?_take]; rw [if_pos (by omega)]; exact hb
          have h4 : ((bs.take 9).takeWhile fun b => decide (128 ≤ b.toNat)).length = lastN bs 9 := rfl
          by_cases hx : 128 ≤ b.toNat
          · exfalso
            have h5 : (bs.take 9).take (lastN bs 9 + 1) = (bs.take 9).take (lastN bs 9) ++ [b] := by rw [List.take_add_one, h3]; rfl
            have h6 : ((bs.take 9).takeWhile fun b => decide (128 ≤ b.toNat)) = (bs.take 9).take (lastN bs 9) := List.prefix_iff_eq_take.1 (List.takeWhile_prefix _)
            have h7 : bs.take 9 = ((bs.take 9).take (lastN bs 9) ++ [b]) ++ (bs.take 9).drop (lastN bs 9 + 1) := by rw [← h5, List.take_append_drop]
            have h8 : ∀ c ∈ (bs.take 9).take (lastN bs 9) ++ [b], decide (128 ≤ c.toNat) = true := by
              intro c hc
              rcases List.mem_append.1 hc with hc | hc
              · rw [← h6] at hc; exact mem_tw (p := fun b : UInt8 => decide (128 ≤ b.toNat)) hc
              · simp only [List.mem_singleton] at hc; subst hc; simpa using hx
            have h9 : ((bs.take 9).take (lastN bs 9) ++ [b]).length ≤ ((bs.take 9).takeWhile fun b => decide (128 ≤ b.toNat)).length := by
              conv => rhs; rw [h7]
              rw [List.takeWhile_append_of_pos h8]
              simp only [List.length_append]; omega
            rw [h4] at h9
            simp at h9; omega
          · omega
        show bs.take (lastN bs 9 + 1) = venc (dval (bs.take (lastN bs 9 + 1)) % 18446744073709551616)
        have hd := dval_lt (bs.take (lastN bs 9 + 1))
        have hl : (bs.take (lastN bs 9 + 1)).length ≤ 9 := by simp; omega
        have h128 : 128 ^ (bs.take (lastN bs 9 + 1)).length ≤ 128 ^ 9 := Nat.pow_le_pow_right (by decide) hl
        rw [Nat.mod_eq_of_lt (Nat.lt_of_lt_of_le (Nat.lt_of_lt_of_le hd h128) (by decide)), ht]
        exact (venc_dval _ b hall hbl (fun hne hb0 => hc ⟨by
          rcases Nat.eq_zero_or_pos (lastN bs 9) with h0 | h0
          · rw [h0] at hne; exact absurd rfl hne
          · exact h0, hb0⟩)).symm

theorem rstep_err {α : Type} (z : α) (s : RS) (p : α × Nat × Int) (h : (rstep z s p).2.err = 0) : s.err = 0 ∧ p.2.2 = 0 ∧ rstep z s p = (p.1, ⟨s.rest.drop p.2.1, s.pos + p.2.1, 0⟩) := by
  unfold rstep at h ⊢
  by_cases h1 : s.err = 0
  · rw [if_neg (by simp [h1])] at h ⊢
    by_cases h2 : p.2.2 = 0
    · rw [if_neg (by simp [h2])]; exact ⟨h1, h2, rfl⟩
    · rw [if_pos h2] at h; exact absurd h h2
  · rw [if_pos h1] at h; exact absurd h h1
theorem rtext_inv {s : RS} {most : Int} (h : (rtext s most).2.err = 0) : s.err = 0 ∧ ((rtext s most).1.size : Int) ≤ most ∧ (rtext s most).1.size ≤ 16777216 ∧ s.rest = venc (rtext s most).1.size ++ (rtext s most).1.data.toList ++ (rtext s most).2.rest := by
  obtain ⟨h1, h2, h3⟩ := rstep_err _ _ _ h
  have h4 : rtext s most = _ := h3
  rw [h4]
  unfold ptext at h2 ⊢
  by_cases ha : (pnat s.rest 9).2.2 = 0
  · rw [if_neg (by simp [ha])] at h2 ⊢
    by_cases hb : most < ((pnat s.rest 9).1 : Int) ∨ 16777216 < (pnat s.rest 9).1
    · rw [if_pos hb] at h2; cases h2
    · rw [if_neg hb] at h2 ⊢
      by_cases hc : s.rest.length < (pnat s.rest 9).2.1 + (pnat s.rest 9).1
      · rw [if_pos hc] at h2; cases h2
      · rw [if_neg hc]
        have hsz : (ByteArray.mk ((s.rest.take ((pnat s.rest 9).2.1 + (pnat s.rest 9).1)).drop (pnat s.rest 9).2.1).toArray).size = (pnat s.rest 9).1 := by
          show (List.toArray _).size = _
          simp; omega
        refine ⟨h1, by dsimp only; rw [hsz]; omega, by dsimp only; rw [hsz]; omega, ?_⟩
        dsimp only
        rw [hsz]
        have h6 := pnat_inv s.rest ha
        generalize (pnat s.rest 9).2.1 = a at *
        generalize (pnat s.rest 9).1 = m at *
        rw [← h6]
        show s.rest = s.rest.take a ++ (List.toArray ((s.rest.take (a + m)).drop a)).toList ++ s.rest.drop (a + m)
        have e1 : (s.rest.take (a + m)).take a = s.rest.take a := by rw [List.take_take]; congr 1; omega
        have e2 : s.rest.take a ++ (s.rest.take (a + m)).drop a = s.rest.take (a + m) := by rw [← e1, List.take_append_drop]
        rw [List.toList_toArray, e2, List.take_append_drop]
  · rw [if_pos ha] at h2; exact absurd h2 ha

end Go.Proofs.YtgaipgbgppdfeaaGreatDoor

set_option maxRecDepth 10000
namespace Go.Proofs.YtgaipgbgppdfeaaGreatDoor
open Go.RowKit

/-- A name is put among sorted names. -/
def insN (a : Nm) : List Nm → List Nm
  | [] => [a]
  | b :: l => if cmpO a b < 0 then a :: b :: l else if 0 < cmpO a b then b :: insN a l else a :: l

end Go.Proofs.YtgaipgbgppdfeaaGreatDoor

set_option maxRecDepth 10000
namespace Go.Proofs.YtgaipgbgppdfeaaGreatDoor
open Go.RowKit

end Go.Proofs.YtgaipgbgppdfeaaGreatDoor
