/-
  Contracts of the package space: newHeld, New, need.
  Conditions: those that each theorem states.
-/
import Derived.Test.YtgaipgbgppdfeaaGreatDoorSpc
set_option maxRecDepth 10000
namespace Go.Proofs.YtgaipgbgppdfeaaGreatDoor
open Go.RowKit

section
variable {n : Nat} {C : Cx} {Q : Exit → Act → World → Prop} {E E' : List (Nat × Value)} {F F' F1 Fs F0 : List Pf} {R R' R0 Rs N N' A : List HP} {k k' : List Fr} {ops l : List Oper} {L L' : List (Nat × Nat)} {Tl : List Nat}
  {i d : Nat} {t t2 ty0 : TypeId} {x y : Operand} {pos : String} {aft : Array Edge} {gd : Option (Nat × Bool)} {v : Value}
theorem run_ldFn {b off : Nat} {cs : Array Value} {ty : TypeId} {fzn : Nat × Nat} {w : World} {de : TypeDesc} (hd : Tryz.prog.underlying t = some de) (ha : (match de with | .struct _ => true | .array _ _ => true | _ => false) = false) (hb : w.heap[b]? = some (.cells cs ty fzn)) (hv : cs.toList[off]? = some v) :
    (loadVar t ⟨b, off, none⟩).run Tryz.prog w = .ok v w := by
  have hcell : w.cell? ⟨b, off, none⟩ = some v := by unfold World.cell?; rw [hb]; simpa using hv
  have hag : (Go.isAgg t).run Tryz.prog w = .ok false w := by
    unfold Go.isAgg
    have hu : (underlying t).run Tryz.prog w = .ok de w := by simp [underlying, hd, go_sem]
    rw [Sem.run_bind, hu]
    simp only [Result.andThen]
    cases de <;> first | rfl | (simp at ha)
  unfold loadVar
  rw [Sem.run_bind, hag]
  simp only [Result.andThen]
  show (load ⟨b, off, none⟩).run Tryz.prog w = _
  simp only [load, Sem.run, hcell]
/-- A load of a function value, or of another value of one cell. -/
theorem l_ldFn {b off : Nat} {cs : Array Value} {ty : TypeId} {fzn : Nat × Nat} {de : TypeDesc} (hd : Tryz.prog.underlying t = some de) (nx : Wl n C ops.toArray k Q l ((d, v) :: E) F R) (hw : wantL ops E ⟨some d, .load t x, ty0, pos, aft, gd⟩ = some true := by rfl) (hn : Nat.blt d n = true := by rfl)
    (hx : ev E x = some (.pointer (some ⟨b, off, none⟩)) := by rfl) (hs : Sel (Blk b (.cells cs ty fzn)) F F0 := by (repeat (first | exact Sel.here | apply Sel.there)); first | done | fail) (hv : cs.toList[off]? = some v := by rfl) (ha : (match de with | .struct _ => true | .array _ _ => true | _ => false) = false := by rfl) :
    Wl n C ops.toArray k Q (⟨some d, .load t x, ty0, pos, aft, gd⟩ :: l) E F R :=
  wl_op (fun t ht => by cases ht; exact Nat.le_of_ble_eq_true hn) (fun c hc => by cases hc) hw fun a w ha' hsat => by
    have hr := run_ldFn hd ha (hsat.blk hs) hv
    unfold OpRes
    simp only [execOp, Instr.loadAt, ha'.ev (by rw [evf_look]; exact hx), Instr.sureAddr, Sem.run_bind, Sem.run_pure, Result.andThen, hr]
    exact fun a' h => nx a' w h hsat
/-- The same out of an owned row of cells. -/
theorem l_ldFc {b off T : Nat} {es : List Value} {de : TypeDesc} (hd : Tryz.prog.underlying t = some de) (j : Nat) (hv : es[j]? = some v) (nx : Wl n C ops.toArray k Q l ((d, v) :: E) F R) (hw : wantL ops E ⟨some d, .load t x, ty0, pos, aft, gd⟩ = some true := by rfl) (hn : Nat.blt d n = true := by rfl)
    (hx : ev E x = some (.pointer (some ⟨b, off, none⟩)) := by rfl) (hs : Sel (Ar T cf b es) R R0 := by (repeat (first | exact Sel.here | apply Sel.there)); first | done | fail) (ho : off = j := by first | rfl | omega) (ha : (match de with | .struct _ => true | .array _ _ => true | _ => false) = false := by rfl) :
    Wl n C ops.toArray k Q (⟨some d, .load t x, ty0, pos, aft, gd⟩ :: l) E F R :=
  wl_op (fun t ht => by cases ht; exact Nat.le_of_ble_eq_true hn) (fun c hc => by cases hc) hw fun a w ha' hsat => by
    subst ho
    have hfl : es.flatMap cf = es := by simp [cf]
    have hr := run_ldFn hd ha (hsat.pt hs) (off := off) (v := v) (by rw [List.toList_toArray, hfl]; exact hv)
    unfold OpRes
    simp only [execOp, Instr.loadAt, ha'.ev (by rw [evf_look]; exact hx), Instr.sureAddr, Sem.run_bind, Sem.run_pure, Result.andThen, hr]
    exact fun a' h => nx a' w h hsat
theorem r_ldFc {b off T : Nat} {es : List Value} {de : TypeDesc} (hd : Tryz.prog.underlying t = some de) (j : Nat) (hv : es[j]? = some v) (nx : Wr n C ops k Q Tl Fs R L ((d, v) :: E) F N) (hop : nth ops i = some ⟨some d, .load t x, ty0, pos, aft, gd⟩ := by rfl) (hw : wantL ops E ⟨some d, .load t x, ty0, pos, aft, gd⟩ = some true := by rfl)
    (hx : ev E x = some (.pointer (some ⟨b, off, none⟩)) := by rfl) (hs : Sel (Ar T cf b es) R R0 := by (repeat (first | exact Sel.here | apply Sel.there)); first | done | fail) (ho : off = j := by first | rfl | omega) (ha : (match de with | .struct _ => true | .array _ _ => true | _ => false) = false := by rfl) :
    Wr n C ops k Q Tl Fs R ((i, 0) :: L) E F N :=
  wr_go hop fun hp hr w st hz sb => by
    simp only [wantL_ok hw]
    refine ⟨v, fun a w ha' hin => ?_, nx hp hr w st hz sb⟩
    subst ho
    have hfl : es.flatMap cf = es := by simp [cf]
    have hr := run_ldFn hd ha (hin _ _ (sb _ _ (stat_pt st (show Sel (Pt b (.cells (es.flatMap cf).toArray T (0, 0))) R R0 from hs)))) (off := off) (v := v) (by rw [List.toList_toArray, hfl]; exact hv)
    simp only [execOp, Instr.loadAt, ha'.ev (by rw [evf_look]; exact hx), Instr.sureAddr, Sem.run_bind, Sem.run_pure, Result.andThen, hr]
/-- A function is not nil. -/
theorem l_nefn {f : Fn} {fs cs : Array Value} {p1 p2 : Array TypeId} {p3 : Bool} (hd : Tryz.prog.underlying t = some (.func p1 p2 p3)) (nx : Wl n C ops.toArray k Q l ((d, .bool true) :: E) F R) (hw : wantL ops E ⟨some d, .binOp .neq t x y t2, ty0, pos, aft, gd⟩ = some true := by rfl) (hn : Nat.blt d n = true := by rfl)
    (hx : ev E x = some (.func f fs cs) := by rfl) (hy : ev E y = some .nilFunc := by rfl) : Wl n C ops.toArray k Q (⟨some d, .binOp .neq t x y t2, ty0, pos, aft, gd⟩ :: l) E F R :=
  l_q (fun ac w ha => by
    have hu : (underlying t).run Tryz.prog w = .ok (.func p1 p2 p3) w := by simp [underlying, hd, go_sem]
    have hg : (eqGuard .neq t x y (.func f fs cs) .nilFunc).run Tryz.prog w = .ok () w := by simp [eqGuard]
    have hb : (binOp .neq t (.func f fs cs) .nilFunc).run Tryz.prog w = .ok (.bool true) w := by
      have he : (Op.equal t (.func f fs cs) .nilFunc).run Tryz.prog w = .ok false w := by
        show (Op.equalIn (9999 + 1) t (.func f fs cs) .nilFunc).run Tryz.prog w = .ok false w
        rw [Op.equalIn]
        simp only [Sem.run_bind, hu, Result.andThen, Sem.run_pure]
      simp only [binOp, Sem.run_bind, he, Result.andThen, Sem.run_pure]
      rfl
    simp only [execOp, ha.ev (x := x) (by rw [evf_look]; exact hx), ha.ev (x := y) (by rw [evf_look]; exact hy), Sem.run_bind, hg, Result.andThen, hb, Sem.run_pure]) nx (by intro c h; cases h) hw hn
/-- The address of an element of an array of one cell each. -/
theorem l_ixA1 {T m b off : Nat} {z : Int} {kd : IntKind} {rs tr : TRow} (j : Nat) (hlt : j < m) (nx : Wl n C ops.toArray k Q l ((d, .pointer (some ⟨b, off + j, none⟩)) :: E) F R)
    (hw : wantL ops E ⟨some d, .indexAddr t x y, ty0, pos, aft, gd⟩ = some true := by rfl) (hn : Nat.blt d n = true := by rfl) (hx : ev E x = some (.pointer (some ⟨b, off, none⟩)) := by rfl) (hy : ev E y = some (.int kd z) := by rfl)
    (hts : lookT tab t = some rs := by rfl) (hrs : rs.k = .arr m T := by rfl) (hT : lookT tab T = some tr := by rfl) (hsz : tr.size = 1 := by rfl) (hz : z = (j : Int) := by first | rfl | omega) : Wl n C ops.toArray k Q (⟨some d, .indexAddr t x y, ty0, pos, aft, gd⟩ :: l) E F R :=
  l_q (fun a w ha => by
    have hr := run_ixArr (b := b) (off := off) (kd := kd) (w := w) hts hrs hT hsz hz hlt
    rw [Nat.mul_one] at hr
    simp only [execOp, ha.ev (x := x) (by rw [evf_look]; exact hx), ha.ev (x := y) (by rw [evf_look]; exact hy), Sem.run_bind, Result.andThen, hr, Sem.run_pure]) nx (by intro c h; cases h) hw hn
theorem r_ixA1 {T m b off : Nat} {z : Int} {kd : IntKind} {rs tr : TRow} (j : Nat) (hlt : j < m) (nx : Wr n C ops k Q Tl Fs R L ((d, .pointer (some ⟨b, off + j, none⟩)) :: E) F N)
    (ho : nth ops i = some ⟨some d, .indexAddr t x y, ty0, pos, aft, gd⟩ := by rfl) (hw : wantL ops E ⟨some d, .indexAddr t x y, ty0, pos, aft, gd⟩ = some true := by rfl) (hx : ev E x = some (.pointer (some ⟨b, off, none⟩)) := by rfl) (hy : ev E y = some (.int kd z) := by rfl)
    (hts : lookT tab t = some rs := by rfl) (hrs : rs.k = .arr m T := by rfl) (hT : lookT tab T = some tr := by rfl) (hsz : tr.size = 1 := by rfl) (hz : z = (j : Int) := by first | rfl | omega) : Wr n C ops k Q Tl Fs R ((i, 0) :: L) E F N :=
  r_q (fun a w ha => by
    have hr := run_ixArr (b := b) (off := off) (kd := kd) (w := w) hts hrs hT hsz hz hlt
    rw [Nat.mul_one] at hr
    simp only [execOp, ha.ev (x := x) (by rw [evf_look]; exact hx), ha.ev (x := y) (by rw [evf_look]; exact hy), Sem.run_bind, Result.andThen, hr, Sem.run_pure]) nx ho hw

/-- The beginning of a row of bytes overwritten by a text. -/
def cpS (es : List UInt8) (s : ByteArray) : List UInt8 := s.data.toList.take es.length ++ es.drop s.size
theorem cpS_len (es : List UInt8) (s : ByteArray) : (cpS es s).length = es.length := by
  have : s.data.toList.length = s.size := by simp
  simp only [cpS, List.length_append, List.length_take, List.length_drop]; omega
theorem run_copyH {T T0 b dl c : Nat} {es : List UInt8} {q : List Value × (Nat × Nat)} {s : ByteArray} {ts tx : TypeId} {rs tr : TRow} {w : World} (hts : lookT tab ts = some rs) (hrs : rs.k = .slice T0) (hT : lookT tab T0 = some tr) (hsz : tr.size = 1)
    (hb : w.heap[b]? = some (.cells (es.flatMap bf ++ q.1).toArray T q.2)) (hq : AxOK (es.length * 1) q) (hdl : dl = es.length) :
    ∃ w', (Builtin.copy_ #[ts, tx] ty0 #[.slice (some ⟨b, 0, none⟩) dl c, .string s]).run Tryz.prog w = .ok (.int .i64 ((min s.size dl : Nat) : Int)) w' ∧ w'.heap[b]? = some (.cells ((cpS es s).flatMap bf ++ q.1).toArray T q.2) ∧ Same w w' ∧ ∀ e, e ≠ b → w'.heap[e]? = w.heap[e]? := by
  subst hdl
  have hs1 := tab_ok.sizeOf hT w
  rw [hsz] at hs1
  have hds : s.data.toList.length = s.size := by simp
  have hcells : ((s.extract 0 (min s.size es.length)).data.map fun b => Value.int .u8 b.toNat).toList = byt (s.data.toList.take (min s.size es.length)) := by
    simp [byt]
  have hel : (es.flatMap bf).length = es.length := by rw [← byt_flat]; simp [byt]
  have hbl : (byt (s.data.toList.take (min s.size es.length))).length = min s.size es.length := by simp only [byt_len, List.length_take]; omega
  obtain ⟨w', g1, g2, g3, g4⟩ := run_storeCells' (P := Tryz.prog) (b := b) (ty := T) (fz := q.2) 0 (byt (s.data.toList.take (min s.size es.length))) 0 w (es.flatMap bf ++ q.1) hb (by
    rcases hq with h | h
    · exact .inl h
    · exact .inr (by rw [List.length_append, hel]; omega)) (one1_byt _) (by rw [hbl, List.length_append, hel]; omega)
  refine ⟨w', ?_, ?_, g3, g4⟩
  · have hn : Nat.min s.size es.length = min s.size es.length := rfl
    simp only [Builtin.copy_, List.getElem?_toArray, List.getElem?_cons_zero, List.getElem?_cons_succ, Sem.run_bind, run_und hts hrs, Result.andThen, Builtin.lenOf, Sem.run_pure, hs1, Builtin.firstCells, hn]
    rw [hcells, g1]
    rfl
  · rw [g2]
    congr 3
    rw [hbl, Nat.zero_add, Nat.zero_add, List.take_zero, List.nil_append, cpS, List.flatMap_append, ← byt_flat, ← byt_flat, ← byt_flat]
    by_cases h : s.size ≤ es.length
    · rw [Nat.min_eq_left h, List.drop_append_of_le_length (by simp [byt]; omega), List.take_of_length_le (by omega), List.take_of_length_le (by omega)]
      simp [byt, List.map_drop]
    · rw [Nat.min_eq_right (by omega), show es.drop s.size = [] from List.drop_eq_nil_of_le (by omega)]
      have : (byt es ++ q.1).drop es.length = q.1 := by rw [show es.length = (byt es).length by simp [byt], List.drop_left]
      rw [this]; simp [byt]
theorem l_copyH {T T0 b dl c : Nat} {es : List UInt8} {q : List Value × (Nat × Nat)} {s : ByteArray} {ts tx : TypeId} {rs tr : TRow} (hq : AxOK (es.length * 1) q) (nx : Wl n C ops.toArray k Q l ((d, .int .i64 ((min s.size dl : Nat) : Int)) :: E) F (Ax T bf b (cpS es s) q :: R0)) (hdl : dl = es.length)
    (hw : wantL ops E ⟨some d, .call ⟨.builtin .copy, #[x, y], #[ts, tx]⟩, ty0, pos, aft, gd⟩ = some true := by rfl) (hn : Nat.blt d n = true := by rfl) (hx : ev E x = some (.slice (some ⟨b, 0, none⟩) dl c) := by rfl) (hy : ev E y = some (.string s) := by rfl)
    (hts : lookT tab ts = some rs := by rfl) (hrs : rs.k = .slice T0 := by rfl) (hT : lookT tab T0 = some tr := by rfl) (hsz : tr.size = 1 := by rfl) (hs : Sel (Ax T bf b es q) R R0 := by (repeat (first | exact Sel.here | apply Sel.there)); first | done | fail) :
    Wl n C ops.toArray k Q (⟨some d, .call ⟨.builtin .copy, #[x, y], #[ts, tx]⟩, ty0, pos, aft, gd⟩ :: l) E F R :=
  wl_op (fun t ht => by cases ht; exact Nat.le_of_ble_eq_true hn) (fun c hc => by cases hc) hw fun a w ha hsat => by
    obtain ⟨w', g1, g2, g3, g4⟩ := run_copyH (ty0 := ty0) (tx := tx) (c := c) (s := s) hts hrs hT hsz (hsat.pt hs) hq hdl
    have hse : Sat C.G C.w0 C.hp0 F (Ax T bf b (cpS es s) q :: R0) w' := (hsat.sel hs).write g3 g2 fun e he _ => g4 e he
    unfold OpRes
    have e1 := ha.ev (x := x) (by rw [evf_look]; exact hx)
    have e2 := ha.ev (x := y) (by rw [evf_look]; exact hy)
    simp only [execOp, resolve, Sem.run_bind, Sem.run_pure, Result.andThen, invoke, builtin, List.map_toArray, List.map_cons, List.map_nil, e1, e2, g1]
    exact fun a' ha' => nx a' w' ha' hse
/-- Owned bytes as a text. -/
theorem l_b2sH {T T1 b m c : Nat} {es : List UInt8} {q : List Value × (Nat × Nat)} {td : TypeId} {rs tr rd : TRow} (nx : Wl n C ops.toArray k Q l ((d, .string ⟨es.toArray⟩) :: E) F R) (hm : m = es.length)
    (hw : wantL ops E ⟨some d, .convert t td x, ty0, pos, aft, gd⟩ = some true := by rfl) (hn : Nat.blt d n = true := by rfl) (hx : ev E x = some (.slice (some ⟨b, 0, none⟩) m c) := by rfl)
    (hs : Sel (Ax T bf b es q) R R0 := by (repeat (first | exact Sel.here | apply Sel.there)); first | done | fail) (hts : lookT tab t = some rs := by rfl) (hrs : rs.k = .slice T1 := by rfl) (hT : lookT tab T1 = some tr := by rfl) (hTk : tr.k = .int .u8 := by rfl) (htd : lookT tab td = some rd := by rfl) (hrd : rd.k = .str := by rfl) :
    Wl n C ops.toArray k Q (⟨some d, .convert t td x, ty0, pos, aft, gd⟩ :: l) E F R :=
  wl_op (fun t ht => by cases ht; exact Nat.le_of_ble_eq_true hn) (fun c hc => by cases hc) hw fun a w ha hsat => by
    subst hm
    have hb := hsat.pt hs
    have hr1 : (Conv.bytesToString (.slice (some ⟨b, 0, none⟩) es.length c)).run Tryz.prog w = .ok (.string ⟨es.toArray⟩) w := by
      rw [run_bytesToString (ns := es.map fun b => (b.toNat : Int))]
      · rw [fold_push]; simp
      · unfold loadCells
        rw [run_loadCells hb 0 es.length 0 #[] (by rw [← byt_flat]; simp [byt])]
        rw [← byt_flat]
        simp [byt]
    unfold OpRes
    simp only [execOp, ha.ev (x := x) (by rw [evf_look]; exact hx), convert, run_und hts hrs, run_undS htd hrd, run_undI hT hTk, Sem.run_bind, Result.andThen, Sem.run_pure, hr1]
    exact fun a' ha' => nx a' w ha' hsat
end

/-- The type of a space, which is too large for the common table. -/
def tabS : Tab := [(138, ⟨.struct [(0, 134, 1), (1, 135, 64), (65, 135, 64), (129, 135, 64), (193, 136, 64)], 257, 712, spcL .nilFunc (fun _ => .u) (fun _ => false) (fun _ => 0)⟩)]
set_option maxRecDepth 100000 in
theorem tabS_ok : TabOK Tryz.prog tabS := by unfold TabOK; kernel_rfl
section
variable {n : Nat} {C : Cx} {Q : Exit → Act → World → Prop} {E E' : List (Nat × Value)} {F F' F1 Fs F0 : List Pf} {R R' R0 Rs N N' A : List HP} {k k' : List Fr} {ops l : List Oper} {L L' : List (Nat × Nat)} {Tl : List Nat}
  {i d : Nat} {ty0 : TypeId} {pos : String} {aft : Array Edge} {gd : Option (Nat × Bool)} {v : Value}
theorem l_qS {op : Op} (nx : Wl n C ops.toArray k Q l ((d, v) :: E) F R) (h : qv tabS (ev E) op = some v := by rfl) (hdf : ∀ c, op ≠ .defer c := by intro c h; cases h) (hw : wantL ops E ⟨some d, op, ty0, pos, aft, gd⟩ = some true := by rfl) (hn : Nat.blt d n = true := by rfl) :
    Wl n C ops.toArray k Q (⟨some d, op, ty0, pos, aft, gd⟩ :: l) E F R :=
  l_q (fun a w ha => qv_ok (o := ⟨some d, op, ty0, pos, aft, gd⟩) tabS_ok h (fun x _ u hu => ha.ev (by rw [evf_look]; exact hu)) w) nx hdf hw hn
theorem r_qS {op : Op} (nx : Wr n C ops k Q Tl Fs R L ((d, v) :: E) F N) (ho : nth ops i = some ⟨some d, op, ty0, pos, aft, gd⟩ := by rfl) (h : qv tabS (ev E) op = some v := by rfl) (hw : wantL ops E ⟨some d, op, ty0, pos, aft, gd⟩ = some true := by rfl) :
    Wr n C ops k Q Tl Fs R ((i, 0) :: L) E F N :=
  r_q (fun a w ha => qv_ok (o := ⟨some d, op, ty0, pos, aft, gd⟩) tabS_ok h (fun x _ u hu => ha.ev (by rw [evf_look]; exact hu)) w) nx ho hw
end

def z64 : List UInt8 := List.replicate 64 0
/-- A page's bytes, from a text. -/
def padS (s : ByteArray) : List UInt8 := cpS z64 s
theorem padS_len (s : ByteArray) : (padS s).length = 64 := by unfold padS; rw [cpS_len]; rfl
theorem newHeld_ok (s : ByteArray) : Enters 102 ∧ Spec Tryz.prog 102 #[.string s] [] [] ⟨Nat, fun b => .pointer (some ⟨b, 0, none⟩), fun _ => True, fun _ => [], fun b => [Hld b (padS s)]⟩ := by
  refine ⟨enters_of Tryz.func102 (by kernel_rfl) rfl, spec_of (vs := [_]) Tryz.func102 rfl Tryz.ntmps102 rfl fun G w hp => ?_⟩
  repeat' (first | refine l_run ?_ | refine l_nil ?_ | refine l_one ?_ | refine k_reg ?_ | refine l_ld ?_ | refine l_ldF ?_ | refine l_st ?_ | refine l_al (fun b => ?_) | refine l_bs (fun b => ?_) | refine k_condT ?_ | refine k_condF ?_ | refine k_brk ?_ | refine l_sla0 ?_ | (refine l_split (fun hc => ?_) (fun hc => ?_) <;> (try simp at hc)) | (refine k_cond (fun hc => ?_) (fun hc => ?_) <;> (try simp at hc)))
  refine l_ptc (b := b) (.cells (z64.flatMap bf ++ [Value.bool false]).toArray 132 (0, 0)) rfl ?_
  refine l_copyH (T := 132) (es := z64) (q := ([Value.bool false], (0, 0))) (.inl rfl) ?_ rfl
  repeat' (first | refine l_run ?_ | refine l_nil ?_ | refine l_one ?_ | refine k_reg ?_ | refine l_ld ?_ | refine l_ldF ?_ | refine l_st ?_ | refine l_al (fun b => ?_) | refine l_bs (fun b => ?_) | refine k_condT ?_ | refine k_condF ?_ | refine k_brk ?_ | refine l_sla0 ?_ | (refine l_split (fun hc => ?_) (fun hc => ?_) <;> (try simp at hc)) | (refine k_cond (fun hc => ?_) (fun hc => ?_) <;> (try simp at hc)))
  exact k_ret b rfl trivial
theorem idleNew (p : Value) : Idle 101 (#[] ++ #[p]) := fun w => by
  refine callsDIn_of_wpSIn Tryz.func101 rfl trivial fun c₀ cs hu => ?_
  apply wpSIn_seq
  apply wpSIn_region
  simp [wpOpsSIn, go_sem, recoverD, hu, Tryz.ntmps101, Exit.thenS]
  refine wpSIn_cond (t := false) (by simp [Act.eval, Array.replicate]) ?_
  simp only [Bool.false_eq_true, if_false]
  refine wpSIn_of_wpIn rfl (wpIn_skip ?_)
  cases c₀
  simp_all [bodyPostS, results]
end Go.Proofs.YtgaipgbgppdfeaaGreatDoor
