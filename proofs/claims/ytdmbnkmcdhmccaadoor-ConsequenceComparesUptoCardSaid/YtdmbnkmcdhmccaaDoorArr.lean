/-
  Rules for rows of elements that are owned: made, read and written by index; arrays.
  Conditions: none beyond those that each theorem states.
-/
import Derived.Test.YtdmbnkmcdhmccaaDoorTxt
import Derived.Deep.OwnRows
namespace Go.Proofs.YtdmbnkmcdhmccaaDoor
open Go.RowKit

variable {n : Nat} {C : Cx} {Q : Exit → Act → World → Prop} {E E' : List (Nat × Value)} {F F' F1 Fs F0 : List Pf} {R R' R0 Rs N N' A : List HP} {k k' : List Fr} {ops l : List Oper} {L L' : List (Nat × Nat)} {Tl : List Nat}
  {i d : Nat} {t ty0 : TypeId} {x y : Operand} {pos : String} {aft : Array Edge} {gd : Option (Nat × Bool)} {b off : Nat} {cs : Array Value} {ty : TypeId} {fzn : Nat × Nat} {v : Value}

/-- A row of elements that is owned. -/
def Ar {α : Type} (T : Nat) (f : α → List Value) (b : Nat) (es : List α) : HP := Pt b (.cells (es.flatMap f).toArray T (0, 0))

theorem putF_some {β : Type} : ∀ (vs c : List Value) (o : Nat) (k : List Value → Option β), o + vs.length ≤ c.length → putF c o vs k = k (c.take o ++ vs ++ c.drop (o + vs.length))
  | [], c, o, k, _ => by cases c <;> simp [putF]
  | v :: vs, [], o, k, h => by simp at h
  | v :: vs, x :: c, 0, k, h => by
    simp only [putF]
    rw [putF_some vs c 0 _ (by simp at h ⊢; omega)]
    simp
  | v :: vs, x :: c, o + 1, k, h => by
    simp only [putF]
    rw [putF_some (v :: vs) c o _ (by simp at h ⊢; omega), Nat.add_right_comm]
    simp
  termination_by vs c => (vs.length, c.length)

theorem stv_in {pre xs xs' post : List Value} {o : Nat} (h : stv t xs o v = some xs') : stv t (pre ++ (xs ++ post)) (pre.length + o) v = some (pre ++ (xs' ++ post)) := by
  unfold stv at h ⊢
  split at h
  · rename_i r vs hr hvs
    cases hc : (Nat.beq vs.length r.size && vs.all one1) with
    | false => simp [hc] at h
    | true =>
      simp only [hc, cond_true] at h ⊢
      obtain ⟨h1, h2⟩ := putF_eq _ _ _ _ _ h
      simp only [Option.some.injEq] at h2
      cases vs with
      | nil =>
        have e1 : xs' = xs := by rw [← h2]; simp
        subst e1
        cases hh : pre ++ (xs' ++ post) <;> simp [putF]
      | cons u us =>
        have hle := h1 (by simp)
        rw [putF_some _ _ _ _ (by simp at hle ⊢; omega)]
        rw [← h2]
        congr 1
        rw [List.take_length_add_append, List.take_append_of_le_length (by omega), show pre.length + o + (u :: us).length = pre.length + (o + (u :: us).length) by omega, List.drop_length_add_append, List.drop_append_of_le_length hle]
        simp
  · cases h

theorem ar_split {α : Type} {f : α → List Value} {sz : Nat} (hf : ∀ e, (f e).length = sz) {es : List α} {j : Nat} {e : α} (he : es[j]? = some e) : es.flatMap f = (es.take j).flatMap f ++ (f e ++ (es.drop (j + 1)).flatMap f) ∧ ((es.take j).flatMap f).length = j * sz := by
  refine ⟨flat_split he, ?_⟩
  have := (List.getElem?_eq_some_iff.1 he).1
  rw [flat_len hf, List.length_take, Nat.min_eq_left (by omega)]
theorem ar_set {α : Type} {f : α → List Value} {es : List α} {j : Nat} {e e' : α} (he : es[j]? = some e) : (es.set j e').flatMap f = (es.take j).flatMap f ++ (f e' ++ (es.drop (j + 1)).flatMap f) := by
  have hlt := (List.getElem?_eq_some_iff.1 he).1
  rw [flat_split (f := f) (es := es.set j e') (i := j) (e := e') (by simp [hlt])]
  rw [List.take_set_of_le (Nat.le_refl _), List.drop_set_of_lt (Nat.lt_succ_self _)]

theorem made_flat (z : List Value) : ∀ m, (madeCells z.toArray (m * z.length)).toList = (List.replicate m z).flatten := fun m => by
  apply List.ext_getElem?
  intro j
  by_cases hj : j < m * z.length
  · have hz : 0 < z.length := Nat.pos_of_ne_zero fun h0 => by rw [h0] at hj; simp at hj
    have h1 : (madeCells z.toArray (m * z.length)).toList[j]? = z[j % z.length]? := by
      simp only [madeCells, Array.toList_map, List.getElem?_map, Array.toList_range, List.getElem?_range hj, Option.map_some]
      have h2 : j % z.length < z.length := Nat.mod_lt _ hz
      simp [h2]
    rw [h1]
    clear h1
    induction m generalizing j with
    | zero => simp at hj
    | succ m ih =>
      rw [List.replicate_succ, List.flatten_cons]
      by_cases hlt : j < z.length
      · rw [List.getElem?_append_left hlt, Nat.mod_eq_of_lt hlt]
      · rw [List.getElem?_append_right (by omega), ← ih (j - z.length) (by rw [Nat.add_mul] at hj; omega)]
        rw [Nat.mod_eq_sub_mod (by omega)]
  · rw [List.getElem?_eq_none (by simp [size_madeCells]; omega), List.getElem?_eq_none (by simp; omega)]
theorem rep_flat {α : Type} (f : α → List Value) (z : α) (m : Nat) : (List.replicate m z).flatMap f = (List.replicate m (f z)).flatten := by
  rw [List.flatMap_def, List.map_replicate]

theorem run_mks {α : Type} {T m : Nat} {kl kc : IntKind} {zi zj : Int} {rs te : TRow} {f : α → List Value} {z0 : α} (w : World) (hb : te.bytes * m ≤ 281474976710656) (hm : m ≤ 9223372036854775807) (hts : lookT tab t = some rs) (hrs : rs.k = .slice T) (hT : lookT tab T = some te) (hzv : te.zero = f z0) (hz : zi = (m : Int)) (hz2 : zj = (m : Int)) :
    (Instr.makeSlice t (.int kl zi) (.int kc zj)).run Tryd.prog w = .ok (.slice (some ⟨w.heap.size, 0, none⟩) m m) (w.alloc (.cells ((List.replicate m z0).flatMap f).toArray T (0, 0))) := by
  subst hz hz2
  obtain ⟨d1, hd1, hk1⟩ := tab_ok.und hts
  rw [hrs] at hk1
  have hd2 : Tryd.prog.underlying t = some (.slice T) := by
    cases d1 <;> simp [chkKind] at hk1
    subst hk1; exact hd1
  obtain ⟨inf, d2, z, hi, _, h1, h2, _, h4, h5, h6⟩ := tab_ok.row hT
  have hb' : (inf.bytes : Int) * (m : Int) ≤ 281474976710656 := by
    rw [h2]
    generalize te.bytes = q at hb
    have h : ((q * m : Nat) : Int) ≤ ((281474976710656 : Nat) : Int) := Int.ofNat_le.2 hb
    rwa [Int.natCast_mul] at h
  have hr := run_make (P := Tryd.prog) w t T inf z hd2 hi h4 kl kc m m (by omega) (Int.le_refl _) hb' (by omega)
  have hc : madeCells z.cells (m * inf.size) = ((List.replicate m z0).flatMap f).toArray := by
    rw [← Array.toList_inj, h1, ← h6, ← h5]
    have := made_flat z.cells.toList m
    rw [Array.toArray_toList] at this
    rw [this, h5, hzv, rep_flat]
  simp only [Int.toNat_natCast, hc] at hr
  exact hr

/-- A new row of zero values. -/
theorem l_mks {α : Type} {T : Nat} {kl kc : IntKind} {zi zj : Int} {rs te : TRow} (f : α → List Value) (z0 : α) (m bytes : Nat) (hb : bytes * m ≤ 281474976710656) (hm : m ≤ 9223372036854775807) (nx : ∀ b, Wl n C ops.toArray k Q l ((d, .slice (some ⟨b, 0, none⟩) m m) :: E) F (Ar T f b (List.replicate m z0) :: R))
    (hw : wantL ops E ⟨some d, .makeSlice t x y, ty0, pos, aft, gd⟩ = some true := by rfl) (hn : Nat.blt d n = true := by rfl) (hx : ev E x = some (.int kl zi) := by rfl) (hy : ev E y = some (.int kc zj) := by rfl) (hts : lookT tab t = some rs := by rfl) (hrs : rs.k = .slice T := by rfl)
    (hT : lookT tab T = some te := by rfl) (hzv : te.zero = f z0 := by rfl) (hby : te.bytes = bytes := by rfl) (hz : zi = (m : Int) := by first | rfl | omega) (hz2 : zj = (m : Int) := by first | rfl | omega) :
    Wl n C ops.toArray k Q (⟨some d, .makeSlice t x y, ty0, pos, aft, gd⟩ :: l) E F R :=
  wl_op (fun t ht => by cases ht; exact Nat.le_of_ble_eq_true hn) (fun c hc => by cases hc) hw fun a w ha hsat => by
    have hr := run_mks (kl := kl) (kc := kc) w (hby ▸ hb) hm hts hrs hT hzv hz hz2
    unfold OpRes
    simp only [execOp, ha.ev (x := x) (by rw [evf_look]; exact hx), ha.ev (x := y) (by rw [evf_look]; exact hy), Sem.run_bind, hr, Result.andThen, Sem.run_pure]
    exact fun a' ha' => nx _ a' _ ha' (hsat.alloc _)

/-- The address of an element of a slice in an owned block. -/
theorem l_ixS {T sz m cap : Nat} {z : Int} {rs tr : TRow} (j : Nat) (hlt : j < m) (nx : Wl n C ops.toArray k Q l ((d, .pointer (some ⟨b, j * sz, none⟩)) :: E) F R)
    (hw : wantL ops E ⟨some d, .indexAddr t x y, ty0, pos, aft, gd⟩ = some true := by rfl) (hn : Nat.blt d n = true := by rfl) (hx : ev E x = some (.slice (some ⟨b, 0, none⟩) m cap) := by rfl) (hy : ev E y = some (.int .i64 z) := by rfl)
    (hts : lookT tab t = some rs := by rfl) (hrs : rs.k = .slice T := by rfl) (hT : lookT tab T = some tr := by rfl) (hsz : tr.size = sz := by rfl) (hz : z = (j : Int) := by first | rfl | omega) : Wl n C ops.toArray k Q (⟨some d, .indexAddr t x y, ty0, pos, aft, gd⟩ :: l) E F R :=
  l_q (fun a w ha => by
    have hr1 := run_indexAt (o := some ⟨b, 0, none⟩) (m := m) (cap := cap) (w := w) hts hrs hT hsz hz hlt (p := ⟨b, j * sz, none⟩) (by simp [add_add rfl])
    simp only [execOp, ha.ev (x := x) (by rw [evf_look]; exact hx), ha.ev (x := y) (by rw [evf_look]; exact hy), Sem.run_bind, Result.andThen, hr1, Sem.run_pure]) nx (by intro c h; cases h) hw hn

theorem run_ixArr {T sz m j off : Nat} {w : World} {kd : IntKind} {rs tr : TRow} (hts : lookT tab t = some rs) (hrs : rs.k = .arr m T) (hT : lookT tab T = some tr) (hsz : tr.size = sz) {z : Int} (hz : z = (j : Int)) (hi : j < m) :
    (Instr.indexAt t (.pointer (some ⟨b, off, none⟩)) (.int kd z)).run Tryd.prog w = .ok (.pointer (some ⟨b, off + j * sz, none⟩)) w := by
  obtain ⟨d1, hd1, hk1⟩ := tab_ok.und hts
  rw [hrs] at hk1
  have hu1 : (underlying t).run Tryd.prog w = .ok (.array m T) w := by
    cases d1 <;> simp [chkKind] at hk1
    obtain ⟨rfl, rfl⟩ := hk1
    simp [underlying, hd1, go_sem]
  have hs1 := tab_ok.sizeOf hT w
  rw [hsz] at hs1
  subst hz
  unfold Instr.indexAt
  simp only [asIntOf, Sem.run_bind, Sem.run_pure, Result.andThen, hu1, Instr.sureAddr]
  have hc : (0 : Int) ≤ (j : Int) ∧ (j : Int) < ((m : Nat) : Int) := ⟨by omega, by omega⟩
  rw [if_pos hc]
  simp only [Sem.run_bind, hs1, Result.andThen, Sem.run_pure, Int.toNat_natCast, add_add rfl]
/-- The address of an element of an array. -/
theorem l_ixA {T sz m : Nat} {z : Int} {kd : IntKind} {rs tr : TRow} (j : Nat) (hlt : j < m) (nx : Wl n C ops.toArray k Q l ((d, .pointer (some ⟨b, off + j * sz, none⟩)) :: E) F R)
    (hw : wantL ops E ⟨some d, .indexAddr t x y, ty0, pos, aft, gd⟩ = some true := by rfl) (hn : Nat.blt d n = true := by rfl) (hx : ev E x = some (.pointer (some ⟨b, off, none⟩)) := by rfl) (hy : ev E y = some (.int kd z) := by rfl)
    (hts : lookT tab t = some rs := by rfl) (hrs : rs.k = .arr m T := by rfl) (hT : lookT tab T = some tr := by rfl) (hsz : tr.size = sz := by rfl) (hz : z = (j : Int) := by first | rfl | omega) : Wl n C ops.toArray k Q (⟨some d, .indexAddr t x y, ty0, pos, aft, gd⟩ :: l) E F R :=
  l_q (fun a w ha => by
    simp only [execOp, ha.ev (x := x) (by rw [evf_look]; exact hx), ha.ev (x := y) (by rw [evf_look]; exact hy), Sem.run_bind, Result.andThen, run_ixArr (w := w) hts hrs hT hsz hz hlt, Sem.run_pure]) nx (by intro c h; cases h) hw hn

/-- A load out of an owned row. -/
theorem l_ldA {α : Type} {T : Nat} {f : α → List Value} {es : List α} {e : α} (sz j o : Nat) (he : es[j]? = some e) (nx : Wl n C ops.toArray k Q l ((d, v) :: E) F R) (hw : wantL ops E ⟨some d, .load t x, ty0, pos, aft, gd⟩ = some true := by rfl) (hn : Nat.blt d n = true := by rfl)
    (hx : ev E x = some (.pointer (some ⟨b, off, none⟩)) := by rfl) (hs : Sel (Ar T f b es) R R0 := by (repeat (first | exact Sel.here | apply Sel.there)); first | done | fail) (hv : ldv t (f e) o = some v := by rfl) (hf : ∀ e, (f e).length = sz := by intro; rfl) (ho : off = j * sz + o := by first | rfl | omega) :
    Wl n C ops.toArray k Q (⟨some d, .load t x, ty0, pos, aft, gd⟩ :: l) E F R :=
  wl_op (fun t ht => by cases ht; exact Nat.le_of_ble_eq_true hn) (fun c hc => by cases hc) hw fun a w ha hsat => by
    obtain ⟨e1, e2⟩ := ar_split hf he
    have hv' : ldv t (es.flatMap f).toArray.toList off = some v := by
      rw [ho, ← e2]
      show ldv t (es.flatMap f) _ = _
      rw [e1]
      exact ldv_in hv
    have hr := ldv_ok (hsat.pt hs) hv'
    unfold OpRes
    simp only [execOp, Instr.loadAt, ha.ev (by rw [evf_look]; exact hx), Instr.sureAddr, Sem.run_bind, Sem.run_pure, Result.andThen, hr]
    exact fun a' ha' => nx a' w ha' hsat
theorem r_ldA {α : Type} {T : Nat} {f : α → List Value} {es : List α} {e : α} (sz j o : Nat) (he : es[j]? = some e) (nx : Wr n C ops k Q Tl Fs R L ((d, v) :: E) F N) (hop : nth ops i = some ⟨some d, .load t x, ty0, pos, aft, gd⟩ := by rfl) (hw : wantL ops E ⟨some d, .load t x, ty0, pos, aft, gd⟩ = some true := by rfl)
    (hx : ev E x = some (.pointer (some ⟨b, off, none⟩)) := by rfl) (hs : Sel (Ar T f b es) R R0 := by (repeat (first | exact Sel.here | apply Sel.there)); first | done | fail) (hv : ldv t (f e) o = some v := by rfl) (hf : ∀ e, (f e).length = sz := by intro; rfl) (ho : off = j * sz + o := by first | rfl | omega) :
    Wr n C ops k Q Tl Fs R ((i, 0) :: L) E F N :=
  wr_go hop fun hp hr w st => by
    simp only [wantL_ok hw]
    refine ⟨v, fun a w ha hin => ?_, nx hp hr w st⟩
    obtain ⟨e1, e2⟩ := ar_split hf he
    have hv' : ldv t (es.flatMap f).toArray.toList off = some v := by
      rw [ho, ← e2]
      show ldv t (es.flatMap f) _ = _
      rw [e1]
      exact ldv_in hv
    have hr := ldv_ok (hin _ _ (stat_pt st hs)) hv'
    simp only [execOp, Instr.loadAt, ha.ev (by rw [evf_look]; exact hx), Instr.sureAddr, Sem.run_bind, Sem.run_pure, Result.andThen, hr]

/-- A store into an owned row. -/
theorem l_stA {α : Type} {T : Nat} {f : α → List Value} {es : List α} {e : α} (sz j o : Nat) (e' : α) (he : es[j]? = some e) (nx : Wl n C ops.toArray k Q l E F (Ar T f b (es.set j e') :: R0)) (hw : wantL ops E ⟨none, .store t x y, ty0, pos, aft, gd⟩ = some true := by rfl)
    (hx : ev E x = some (.pointer (some ⟨b, off, none⟩)) := by rfl) (hy : ev E y = some v := by rfl) (hs : Sel (Ar T f b es) R R0 := by (repeat (first | exact Sel.here | apply Sel.there)); first | done | fail) (hv : stv t (f e) o v = some (f e') := by rfl) (hf : ∀ e, (f e).length = sz := by intro; rfl) (ho : off = j * sz + o := by first | rfl | omega) :
    Wl n C ops.toArray k Q (⟨none, .store t x y, ty0, pos, aft, gd⟩ :: l) E F R :=
  wl_op (fun t ht => by cases ht) (fun c hc => by cases hc) hw fun a w ha hsat => by
    obtain ⟨e1, e2⟩ := ar_split hf he
    have hv' : stv t (es.flatMap f).toArray.toList off v = some ((es.set j e').flatMap f) := by
      rw [ho, ← e2, ar_set he]
      show stv t (es.flatMap f) _ _ = _
      rw [e1]
      exact stv_in hv
    obtain ⟨w', g1, g2, g3, g4⟩ := stv_ok (hsat.pt hs) hv'
    unfold OpRes
    simp only [execOp, Instr.storeAt, ha.ev (x := x) (by rw [evf_look]; exact hx), ha.ev (x := y) (by rw [evf_look]; exact hy), Instr.sureAddr, Sem.run_bind, Sem.run_pure, Result.andThen, g1]
    exact fun a' ha' => nx a' w' ha' ((hsat.sel hs).write g3 g2 fun c hc _ => g4 c hc)
/-- What holds behind the next piece of code: the rest is walked once. -/
theorem k_cut {Y : Type} {c : Code} {k2 : List Fr} (mE : Y → List (Nat × Value)) (mF : Y → List Pf) (mR : Y → List HP) (t2 : ∀ y, Wk n C k2 Q (mE y) (mF y) (mR y)) (t : (∀ y, Wk n C k2 Q (mE y) (mF y) (mR y)) → Wk n C k Q E F R) (_h : nf 1000 k = .c c :: k2 := by rfl) : Wk n C k Q E F R := t t2
theorem k_to {Y : Type} {mE : Y → List (Nat × Value)} {mF : Y → List Pf} {mR : Y → List HP} (hx : ∀ y, Wk n C k Q (mE y) (mF y) (mR y)) (y : Y) (he : EntE E (mE y))
    (hf : EntF F (mF y) := by (repeat (first | exact trivial | exact Sel.here | apply Sel.there | apply EntF.cons)); first | done | fail) (hr : Sels (mR y) R R0 := by (repeat (first | exact Sels.nil | exact Sel.here | apply Sel.there | apply Sels.cons)); first | done | fail) : Wk n C k Q E F R := k_drop he hf hr (hx y)
/-- What a block holds, said otherwise. -/
theorem k_ptc {o : Obj} (o' : Obj) (h : o = o') (nx : Wk n C k Q E F (Pt b o' :: R0)) (hs : Sel (Pt b o) R R0 := by (repeat (first | exact Sel.here | apply Sel.there)); first | done | fail) : Wk n C k Q E F R := by
  subst h
  exact fun a w ha hsat => nx a w ha (hsat.sel hs)
theorem l_ptc {o : Obj} (o' : Obj) (h : o = o') (nx : Wl n C ops.toArray k Q l E F (Pt b o' :: R0)) (hs : Sel (Pt b o) R R0 := by (repeat (first | exact Sel.here | apply Sel.there)); first | done | fail) : Wl n C ops.toArray k Q l E F R := by
  subst h
  exact fun a w ha hsat => nx a w ha (hsat.sel hs)
end Go.Proofs.YtdmbnkmcdhmccaaDoor
