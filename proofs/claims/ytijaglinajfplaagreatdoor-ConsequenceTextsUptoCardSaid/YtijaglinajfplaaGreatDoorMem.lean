/-
  Rules for slices: rows that are owned, append, conversions, indexes.
  Conditions: none beyond those that each theorem states.
-/
import Derived.Test.YtijaglinajfplaaGreatDoorDraw
namespace Go.Proofs.YtijaglinajfplaaGreatDoor
open Go.RowKit

variable {n : Nat} {C : Cx} {Q : Exit → Act → World → Prop} {E E' : List (Nat × Value)} {F F' F1 Fs F0 : List Pf} {R R' R0 Rs N N' A : List HP} {k k' : List Fr} {ops l : List Oper} {L L' : List (Nat × Nat)} {Tl : List Nat}
  {i d : Nat} {t ty0 : TypeId} {x y : Operand} {pos : String} {aft : Array Edge} {gd : Option (Nat × Bool)} {b off : Nat} {cs : Array Value} {ty : TypeId} {fzn : Nat × Nat} {v : Value}

/-- Any operation that reads nothing, by its run. -/
theorem l_q {op : Op} (hq : ∀ a w, Agree n C.ds (look E) a → (execOp a.eval ⟨some d, op, ty0, pos, aft, gd⟩).run Tryz.prog w = .ok (.value v) w) (nx : Wl n C ops.toArray k Q l ((d, v) :: E) F R)
    (hdf : ∀ c, op ≠ .defer c := by intro c h; cases h) (hw : wantL ops E ⟨some d, op, ty0, pos, aft, gd⟩ = some true := by rfl) (hn : Nat.blt d n = true := by rfl) : Wl n C ops.toArray k Q (⟨some d, op, ty0, pos, aft, gd⟩ :: l) E F R :=
  wl_op (fun t ht => by cases ht; exact Nat.le_of_ble_eq_true hn) hdf hw fun a w ha hsat => by
    unfold OpRes
    rw [hq a w ha]
    exact fun a' ha' => nx a' w ha' hsat

/-- A resource is opened. -/
theorem k_open {X : Type} {r : HP} {Lx : X → List HP} {p : X → Prop} (hs : Sel r R R0) (h : ∀ hh, r hh → ∃ x, p x ∧ Sep (Lx x) hh) (t : ∀ x, p x → Wk n C k Q E F (Lx x ++ R0)) : Wk n C k Q E F R := fun a w ha hsat => by
  obtain ⟨hp, hr, st⟩ := hsat.sel hs
  obtain ⟨h1, h2, dd, s1, s2, hx, hR⟩ := st.r
  obtain ⟨x, hpx, hsx⟩ := h h1 hx
  exact t x hpx a w ha ⟨hp, hr, st.inp, st.inr, st.ing, st.d1, st.d2, st.d3, st.sub, st.f, append_sep dd s1 s2 hsx hR, st.same⟩
/-- Resources are shut into one. -/
theorem k_shut {r : HP} {Lx : List HP} (h : ∀ hh, Sep Lx hh → r hh) (t : Wk n C k Q E F (r :: R0)) (hs : Sels Lx R R0 := by (repeat (first | exact Sels.nil | exact Sel.here | apply Sel.there | apply Sels.cons)); first | done | fail) : Wk n C k Q E F R := fun a w ha hsat =>
  t a w ha ((hsat.sels hs).shut h)
theorem l_open {X : Type} {r : HP} {Lx : X → List HP} {p : X → Prop} (hs : Sel r R R0) (h : ∀ hh, r hh → ∃ x, p x ∧ Sep (Lx x) hh) (t : ∀ x, p x → Wl n C ops.toArray k Q l E F (Lx x ++ R0)) : Wl n C ops.toArray k Q l E F R := fun a w ha hsat => by
  obtain ⟨hp, hr, st⟩ := hsat.sel hs
  obtain ⟨h1, h2, dd, s1, s2, hx, hR⟩ := st.r
  obtain ⟨x, hpx, hsx⟩ := h h1 hx
  exact t x hpx a w ha ⟨hp, hr, st.inp, st.inr, st.ing, st.d1, st.d2, st.d3, st.sub, st.f, append_sep dd s1 s2 hsx hR, st.same⟩
theorem l_shut {r : HP} {Lx : List HP} (h : ∀ hh, Sep Lx hh → r hh) (t : Wl n C ops.toArray k Q l E F (r :: R0)) (hs : Sels Lx R R0 := by (repeat (first | exact Sels.nil | exact Sel.here | apply Sel.there | apply Sels.cons)); first | done | fail) : Wl n C ops.toArray k Q l E F R := fun a w ha hsat =>
  t a w ha ((hsat.sels hs).shut h)
/-- A fact is opened. -/
theorem k_fact {X : Type} {f : Pf} {Fx : X → List Pf} {p : X → Prop} (hs : Sel f F F0) (h : ∀ hp, f.p hp → ∃ x, p x ∧ ∀ g ∈ Fx x, g.p hp) (t : ∀ x, p x → Wk n C k Q E (Fx x ++ F) R) : Wk n C k Q E F R := fun a w ha hsat => by
  obtain ⟨hp, hr, st⟩ := hsat
  obtain ⟨x, hpx, hfx⟩ := h hp (st.f f hs.mem)
  refine t x hpx a w ha ⟨hp, hr, st.inp, st.inr, st.ing, st.d1, st.d2, st.d3, st.sub, fun g hg => ?_, st.r, st.same⟩
  rcases List.mem_append.1 hg with h | h
  · exact hfx g h
  · exact st.f g h
theorem l_fact {X : Type} {f : Pf} {Fx : X → List Pf} {p : X → Prop} (hs : Sel f F F0) (h : ∀ hp, f.p hp → ∃ x, p x ∧ ∀ g ∈ Fx x, g.p hp) (t : ∀ x, p x → Wl n C ops.toArray k Q l E (Fx x ++ F) R) : Wl n C ops.toArray k Q l E F R := fun a w ha hsat => by
  obtain ⟨hp, hr, st⟩ := hsat
  obtain ⟨x, hpx, hfx⟩ := h hp (st.f f hs.mem)
  refine t x hpx a w ha ⟨hp, hr, st.inp, st.inr, st.ing, st.d1, st.d2, st.d3, st.sub, fun g hg => ?_, st.r, st.same⟩
  rcases List.mem_append.1 hg with h | h
  · exact hfx g h
  · exact st.f g h

/-- A slice of m elements, of sz cells each, that is owned: xs are its cells. -/
def Row (T sz : Nat) (o : Option Addr) (m cap : Nat) (xs : List Value) : HP := fun h =>
  (o = none ∧ m = 0 ∧ cap = 0 ∧ xs = []) ∨
  ∃ b rest fz, o = some ⟨b, 0, none⟩ ∧ h b = some (.cells (xs ++ rest).toArray T fz) ∧ xs.length = m * sz ∧ (xs ++ rest).length = cap * sz ∧ m ≤ cap ∧ (fz = (0, 0) ∨ (xs ++ rest).length ≤ fz.1)

theorem row_nil (T sz : Nat) (h : H) : Row T sz none 0 0 [] h := .inl ⟨rfl, rfl, rfl, rfl⟩

/-- What a slice or a text holds that is appended: m elements, the cells ys. -/
def Src (F : List Pf) (R : List HP) (sz : Nat) (v : Value) (m : Nat) (ys : List Value) : Prop :=
  (Builtin.lenOf v = pure m) ∧ ∀ G w0 hp0 w, Sat G w0 hp0 F R w → (Builtin.firstCells sz m v).run Tryz.prog w = .ok ys.toArray w

theorem src_pt {sz m c : Nat} {ys : List Value} (hs : Sel (Pt b (.cells cs ty fzn)) R R0) (hy : (cs.toList.drop off).take (m * sz) = ys) (hle : off + m * sz ≤ cs.size) : Src F R sz (.slice (some ⟨b, off, none⟩) m c) m ys :=
  ⟨rfl, fun G w0 hp0 w hsat => by
    have h := hsat.pt hs
    show (loadCells ⟨b, off, none⟩ (m * sz)).run Tryz.prog w = _
    unfold loadCells
    rw [run_loadCells h off (m * sz) 0 #[] (by omega)]
    simp [← hy]⟩
theorem src_str (s : ByteArray) : Src F R 1 (.string s) s.size (s.data.toList.map fun b => .int .u8 b.toNat) :=
  ⟨rfl, fun G w0 hp0 w _ => by
    show (pure _ : Sem (Array Value)).run Tryz.prog w = _
    rw [Sem.run_pure]
    congr 1
    rw [← Array.toList_inj]
    simp⟩

theorem src_row {T sz m cap : Nat} {o : Option Addr} {xs : List Value} (hs : Sel (Row T sz o m cap xs) R R0) : Src F R sz (.slice o m cap) m xs :=
  ⟨rfl, fun G w0 hp0 w hsat => by
    obtain ⟨hp, hr, st⟩ := hsat.sel hs
    obtain ⟨h1, h2, dj, s1, s2, hrow, hR⟩ := st.r
    rcases hrow with ⟨rfl, rfl, rfl, rfl⟩ | ⟨bb, rest, fz, rfl, hb, hxl, hcl, hmc, hfz⟩
    · rfl
    · have h := st.inr _ _ (s1 _ _ hb)
      show (loadCells ⟨bb, 0, none⟩ (m * sz)).run Tryz.prog w = _
      unfold loadCells
      have hmul : m * sz ≤ cap * sz := Nat.mul_le_mul_right _ hmc
      rw [run_loadCells h 0 (m * sz) 0 #[] (by simp at hcl ⊢; omega)]
      simp [← hxl]⟩

theorem row_len {T sz m cap : Nat} {o : Option Addr} {xs : List Value} {G : H} {w0 w : World} {hp0 : H} (hs : Sel (Row T sz o m cap xs) R R0) (hsat : Sat G w0 hp0 F R w) : xs.length = m * sz := by
  obtain ⟨hp, hr, st⟩ := hsat.sel hs
  obtain ⟨h1, h2, dj, s1, s2, hrow, hR⟩ := st.r
  rcases hrow with ⟨rfl, rfl, rfl, rfl⟩ | ⟨bb, rest, fz, rfl, hb, hxl, hcl, hmc, hfz⟩
  · simp
  · exact hxl

/-- Bytes as cells. -/
def byt (l : List UInt8) : List Value := l.map fun b => .int .u8 b.toNat
theorem byt_append (a b : List UInt8) : byt (a ++ b) = byt a ++ byt b := by simp [byt]
theorem one1_byt (l : List UInt8) : (byt l).all one1 = true := by simp [byt, one1]
theorem byt_len (l : List UInt8) : (byt l).length = l.length := by simp [byt]

theorem row_zero {T sz b : Nat} (h : H) (hb : Sep [Pt b (.cells #[] T)] h) : Row T sz (some ⟨b, 0, none⟩) 0 0 [] h := by
  obtain ⟨h1, _, _, s1, _, hx, _⟩ := hb
  exact .inr ⟨b, [], (0, 0), rfl, s1 _ _ hx, by simp, by simp, Nat.le_refl _, .inl rfl⟩

theorem nextcap_le (need cap : Nat) (h : cap < need) : Builtin.nextslicecap need cap ≤ 2 * need + 200 := by
  unfold Builtin.nextslicecap
  split
  · omega
  · split
    · omega
    · have gb : ∀ r c, c ≤ 2 * need + 200 → Builtin.growBy need r c ≤ 2 * need + 200 := by
        intro r
        induction r with
        | zero => intro c hc; exact hc
        | succ r ih =>
          intro c hc
          unfold Builtin.growBy
          split
          · exact hc
          · rename_i hlt
            exact ih _ (by omega)
      exact gb 4 cap (by omega)

theorem fzOK_frozen {w : World} {cs : List Value} {fz : Nat × Nat} (h : w.heap[b]? = some (.cells cs.toArray ty fz)) (hf : fz = (0, 0) ∨ cs.length ≤ fz.1) (o : Nat) (ho : o < cs.length) : w.frozen? ⟨b, o, none⟩ = false := by
  unfold World.frozen?
  rw [h]
  rcases hf with rfl | hf
  · simp
  · obtain ⟨lo, hi⟩ := fz
    simp at hf ⊢; omega

/-- Stores of several cells, whatever the mark beyond the end. -/
theorem run_storeCells' {P : Program} {b : Nat} {ty : TypeId} {fz : Nat × Nat} (off : Nat) : ∀ (vs : List Value) (i : Nat) (w : World) (cs : List Value), w.heap[b]? = some (.cells cs.toArray ty fz) → (fz = (0, 0) ∨ cs.length ≤ fz.1) → vs.all one1 = true → off + i + vs.length ≤ cs.length →
    ∃ w', (storeCells ⟨b, off, none⟩ vs i).run P w = .ok () w' ∧ w'.heap[b]? = some (.cells (cs.take (off + i) ++ vs ++ cs.drop (off + i + vs.length)).toArray ty fz) ∧ Same w w' ∧ ∀ c, c ≠ b → w'.heap[c]? = w.heap[c]?
  | [], i, w, cs, h, _, _, _ => ⟨w, rfl, by simpa using h, Same.refl _, fun _ _ => rfl⟩
  | v :: vs, i, w, cs, h, hf, hv, hle => by
    simp only [List.all_cons, Bool.and_eq_true] at hv
    simp only [List.length_cons] at hle
    have h0 : (Addr.add ⟨b, off, none⟩ i) = ⟨b, off + i, none⟩ := by
      unfold Addr.add
      split
      · rename_i h0; subst h0; rfl
      · rfl
    have hcell : w.cell? ⟨b, off + i, none⟩ = some (cs[off + i]'(by omega)) := by
      unfold World.cell?
      rw [h]; simp
    have hfz := fzOK_frozen h hf (off + i) (by omega)
    have hst : (store (Addr.add ⟨b, off, none⟩ i) v).run P w = .ok () (w.setCell ⟨b, off + i, none⟩ v) := by
      rw [h0]
      unfold store
      cases v <;> first | (simp [one1] at hv; done) | (simp only [Sem.run, hcell, hfz]; rfl)
    have hb' : (w.setCell ⟨b, off + i, none⟩ v).heap[b]? = some (.cells (cs.set (off + i) v).toArray ty fz) := by
      simp only [World.setCell, Array.getElem?_modify, if_true, h]
      simp
    have hne : ∀ c, c ≠ b → (w.setCell ⟨b, off + i, none⟩ v).heap[c]? = w.heap[c]? := fun c hc => Below.heap_setCell w _ v c hc
    obtain ⟨w', h1, h2, h3, h4⟩ := run_storeCells' (P := P) off vs (i + 1) _ (cs.set (off + i) v) hb' (by simpa using hf) hv.2 (by simp; omega)
    refine ⟨w', ?_, ?_, (⟨rfl, rfl, rfl, by simp [World.setCell]⟩ : Same w (w.setCell _ v)).trans h3, fun c hc => (h4 c hc).trans (hne c hc)⟩
    · unfold storeCells
      simp only [Sem.run_bind, hst, Result.andThen]
      exact h1
    · rw [h2]
      congr 3
      have e1 : (cs.set (off + i) v).take (off + (i + 1)) = cs.take (off + i) ++ [v] := by
        rw [show off + (i + 1) = off + i + 1 by omega, List.take_succ_eq_append_getElem (by simp; omega)]
        simp [List.take_set_of_le]
      have e2 : (cs.set (off + i) v).drop (off + (i + 1) + vs.length) = cs.drop (off + i + (v :: vs).length) := by
        rw [List.drop_set_of_lt (by omega)]
        congr 1; simp; omega
      rw [e1, e2]
      simp

theorem zeroCells_len (z : Array Value) (m : Nat) : (Builtin.zeroCells z m).size = m * z.size := by simp [Builtin.zeroCells]

/-- append, as the model runs it: some row with the new cells behind the old. -/
theorem append_ok {T sz bytes : Nat} {o : Option Addr} {m cap m2 : Nat} {xs ys : List Value} {sv : Value} {ts tx : TypeId} {G : H} {w0 w : World} {hp0 : H} {rs tr rx : TRow}
    (hts : lookT tab ts = some rs) (hrs : rs.k = .slice T) (hT : lookT tab T = some tr) (hsz : tr.size = sz) (hby : tr.bytes = bytes) (htx : lookT tab tx = some rx) (hnx : rx.k = .slice T ∨ rx.k = .str)
    (hsrc : Src F R sz sv m2 ys) (hys : ys.length = m2 * sz) (hone : ys.all one1 = true) (hroom : (2 * (m + m2) + 200) * bytes ≤ 281474976710656) (hsel : Sel (Row T sz o m cap xs) R R0) (hsat : Sat G w0 hp0 F R w) (hb0 : bytes ≠ 0) :
    ∃ o' cap' w', (Builtin.append_ #[ts, tx] ty0 #[.slice o m cap, sv]).run Tryz.prog w = .ok (.slice o' (m + m2) cap') w' ∧ Sat G w0 hp0 F (Row T sz o' (m + m2) cap' (xs ++ ys) :: R0) w' := by
  obtain ⟨d1, hd1, hk1⟩ := tab_ok.und hts
  rw [hrs] at hk1
  obtain ⟨dx, hdx, hkx⟩ := tab_ok.und htx
  have hu1 : (underlying ts).run Tryz.prog w = .ok (.slice T) w := by
    cases d1 <;> simp [chkKind] at hk1
    subst hk1
    simp [underlying, hd1, go_sem]
  have hux : (underlying tx).run Tryz.prog w = .ok (.slice T) w ∨ (underlying tx).run Tryz.prog w = .ok .string w := by
    rcases hnx with h | h <;> rw [h] at hkx <;> cases dx <;> simp [chkKind] at hkx
    · subst hkx; left; simp [underlying, hdx, go_sem]
    · right; simp [underlying, hdx, go_sem]
  have hs1 := tab_ok.sizeOf hT w
  rw [hsz] at hs1
  obtain ⟨ti, _, tz, hti, _, htsz, htby, _, htz, htzc, htzl⟩ := tab_ok.row hT
  have htI : (typeInfo T).run Tryz.prog w = .ok ti w := by simp [typeInfo, hti, go_sem]
  obtain ⟨hlen, hfirst⟩ := hsrc
  have hf1 := hfirst G w0 hp0 w hsat
  -- the row
  have hsat2 := hsat.sel hsel
  obtain ⟨hp, hr, st⟩ := hsat2
  obtain ⟨h1, h2, dj, s1, s2, hrow, hR⟩ := st.r
  have hcase : ∀ bb rest fz, o = some ⟨bb, 0, none⟩ → h1 bb = some (.cells (xs ++ rest).toArray T fz) → w.heap[bb]? = some (.cells (xs ++ rest).toArray T fz) ∧ Sat G w0 hp0 F (Pt bb (.cells (xs ++ rest).toArray T fz) :: R0) w := fun bb rest fz _ hb =>
    ⟨st.inr _ _ (s1 _ _ hb), hp, hr, st.inp, st.inr, st.ing, st.d1, st.d2, st.d3, st.sub, st.f, ⟨h1, h2, dj, s1, s2, hb, hR⟩, st.same⟩
  have hsatR : Sat G w0 hp0 F R0 w := ⟨hp, hr, st.inp, st.inr, st.ing, st.d1, st.d2, st.d3, st.sub, st.f, hR.sub s2, st.same⟩
  unfold Builtin.append_
  rcases hux with hux | hux
  all_goals
    simp only [List.getElem?_toArray, List.getElem?_cons_zero, List.getElem?_cons_succ, Sem.run_bind, hu1, Result.andThen, hs1, hux, hlen, Sem.run_pure, Bool.false_eq_true, if_false, Bool.not_false, if_true]
    by_cases hc : m + m2 ≤ cap
    · rw [if_pos hc]
      simp only [Sem.run_bind, hf1, Result.andThen]
      rcases hrow with ⟨rfl, rfl, rfl, rfl⟩ | ⟨bb, rest, fz, rfl, hb, hxl, hcl, hmc, hfz⟩
      · obtain rfl : m2 = 0 := by omega
        have : ys = [] := by simpa using hys
        subst this
        refine ⟨none, 0, w, rfl, (hsatR.shut (L := []) (x := Row T sz none (0 + 0) 0 ([] ++ [])) fun k _ => row_nil T sz k)⟩
      · obtain ⟨hwb, hsb⟩ := hcase bb rest fz rfl hb
        have hadd : (Addr.add ⟨bb, 0, none⟩ (m * sz)) = ⟨bb, m * sz, none⟩ := by
          unfold Addr.add
          split
          · rename_i h0; rw [h0]
          · simp
        have hmul : (m + m2) * sz ≤ cap * sz := Nat.mul_le_mul_right _ hc
        rw [Nat.add_mul] at hmul
        obtain ⟨w', g1, g2, g3, g4⟩ := run_storeCells' (P := Tryz.prog) (m * sz) ys 0 w (xs ++ rest) hwb hfz hone (by rw [hcl, hys]; omega)
        simp only [hadd, Sem.run_bind, g1, Result.andThen, Sem.run_pure]
        have e1 : (xs ++ rest).take (m * sz + 0) = xs := by rw [Nat.add_zero, ← hxl]; simp
        have e2 : (xs ++ rest).drop (m * sz + 0 + ys.length) = rest.drop ys.length := by rw [Nat.add_zero, ← hxl]; simp
        rw [e1, e2] at g2
        refine ⟨some ⟨bb, 0, none⟩, cap, w', rfl, ?_⟩
        have hs3 := hsb.write g3 g2 fun c hc _ => g4 c hc
        refine hs3.shut (L := [Pt bb _]) fun kk hk => ?_
        obtain ⟨k1, _, _, t1, _, hk1, _⟩ := hk
        have hlr : (rest.drop ys.length).length = rest.length - ys.length := by simp
        have hrl : xs.length + rest.length = cap * sz := by simpa using hcl
        refine .inr ⟨bb, rest.drop ys.length, fz, rfl, t1 _ _ hk1, by simp [hxl, hys, Nat.add_mul], ?_, hc, ?_⟩
        · simp; omega
        · rcases hfz with h | h
          · exact .inl h
          · right; simp at h ⊢; omega
    · rw [if_neg hc]
      have hbp : bytes ≠ 0 := hb0
      have hcl : cap < m + m2 := by omega
      have hnc := nextcap_le (m + m2) cap hcl
      have hbig : ¬ Builtin.nextslicecap (m + m2) cap * ti.bytes > 2 ^ 48 := by
        rw [htby, hby]
        have := Nat.mul_le_mul_right bytes hnc
        omega
      simp only [Sem.run_bind, htI, Result.andThen, false_or]
      rw [if_neg (by rw [htby, hby]; exact fun h => hbp h.2)]
      simp only [Sem.run_bind, htI, Result.andThen]
      rw [if_neg hbig]
      obtain ⟨nc, hnc1, hnc2⟩ : ∃ nc, (choose (.appendCap (m + m2) cap T)).run Tryz.prog w = .ok nc { w with drawn := w.drawn + 1 } ∧ m + m2 ≤ nc := ⟨_, rfl, by simp [Question.cut]⟩
      have hx : Ext w { w with drawn := w.drawn + 1 } := (Below.refl _ w).drew
      have hask : ∀ q w, (askRoom q).run Tryz.prog w = .ok () w := fun q w => by unfold askRoom; split <;> rfl
      have htI2 : ∀ w, (typeInfo T).run Tryz.prog w = .ok ti w := fun w => by simp [typeInfo, hti, go_sem]
      have hz2 : ∀ w, (zeroValue T).run Tryz.prog w = .ok tz w := fun w => by simp [zeroValue, typeInfo, hti, htz, go_sem]
      have hf2 := hfirst G w0 hp0 _ (hsat.ext hx)
      have hold : (Builtin.firstCells sz m (.slice o m cap)).run Tryz.prog { w with drawn := w.drawn + 1 } = .ok xs.toArray { w with drawn := w.drawn + 1 } := by
        rcases hrow with ⟨rfl, rfl, rfl, rfl⟩ | ⟨bb, rest, fz, rfl, hb, hxl, hcl, hmc, hfz⟩
        · rfl
        · obtain ⟨hwb, _⟩ := hcase bb rest fz rfl hb
          show (loadCells ⟨bb, 0, none⟩ (m * sz)).run Tryz.prog _ = _
          unfold loadCells
          have hmul : m * sz ≤ cap * sz := Nat.mul_le_mul_right _ hmc
          rw [run_loadCells (ext_blk hx hwb) 0 (m * sz) 0 #[] (by simp at hcl ⊢; omega)]
          simp [← hxl]
      simp only [Sem.run_bind, hnc1, Result.andThen, htI2, hask, hold, hf2, hz2, run_newRow, Sem.run_pure]
      refine ⟨_, _, _, rfl, ?_⟩
      have hs3 := ((hsatR.ext hx).alloc (.cells (xs.toArray ++ ys.toArray ++ Builtin.zeroCells tz.cells (nc - (m + m2))) T))
      refine hs3.shut (L := [Pt _ _]) fun kk hk => ?_
      obtain ⟨k1, _, _, t1, _, hk1, _⟩ := hk
      have hzl : tz.cells.size = sz := by rw [← hsz, ← htzl, ← htzc]; simp
      have hxl : xs.length = m * sz := by
        rcases hrow with ⟨rfl, rfl, rfl, rfl⟩ | ⟨_, _, _, _, _, h, _⟩
        · simp
        · exact h
      refine .inr ⟨_, (Builtin.zeroCells tz.cells (nc - (m + m2))).toList, (0, 0), rfl, ?_, by simp [hxl, hys, Nat.add_mul], ?_, hnc2, .inl rfl⟩
      · have hk2 := t1 _ _ hk1
        rw [hk2]
        have he : xs.toArray ++ ys.toArray ++ Builtin.zeroCells tz.cells (nc - (m + m2)) = (xs ++ ys ++ (Builtin.zeroCells tz.cells (nc - (m + m2))).toList).toArray := by
          rw [← Array.toList_inj]; simp
        rw [he]
      · simp only [List.length_append, hxl, hys, Array.length_toList, zeroCells_len, hzl]
        rw [← Nat.add_mul, ← Nat.add_mul, show m + m2 + (nc - (m + m2)) = nc by omega]

theorem app_res {T sz bytes : Nat} {o : Option Addr} {m cap m2 : Nat} {xs ys : List Value} {sv : Value} {ts tx : TypeId} {G : H} {w0 w : World} {hp0 : H} {rs tr rx : TRow} {dst : Option Nat} {a : Act} {ds : List Deferred}
    (ha : Agree n ds (look E) a) (hx : ev E x = some (.slice o m cap)) (hy : ev E y = some sv)
    (hts : lookT tab ts = some rs) (hrs : rs.k = .slice T) (hT : lookT tab T = some tr) (hsz : tr.size = sz) (hby : tr.bytes = bytes) (htx : lookT tab tx = some rx) (hnx : rx.k = .slice T ∨ rx.k = .str)
    (hsrc : Src F R sz sv m2 ys) (hys : ys.length = m2 * sz) (hone : ys.all one1 = true) (hroom : (2 * (m + m2) + 200) * bytes ≤ 281474976710656) (hsel : Sel (Row T sz o m cap xs) R R0) (hsat : Sat G w0 hp0 F R w) (hb0 : bytes ≠ 0) :
    OpRes Tryz.prog (execOp a.eval ⟨dst, .call ⟨.builtin .append, #[x, y], #[ts, tx]⟩, ty0, pos, aft, gd⟩) w fun v w' => ∃ o' cap', v = .slice o' (m + m2) cap' ∧ Sat G w0 hp0 F (Row T sz o' (m + m2) cap' (xs ++ ys) :: R0) w' := by
  obtain ⟨o', cap', w', h1, h2⟩ := append_ok (ty0 := ty0) hts hrs hT hsz hby htx hnx hsrc hys hone hroom hsel hsat hb0
  unfold OpRes
  have e1 := ha.ev (x := x) (by rw [evf_look]; exact hx)
  have e2 := ha.ev (x := y) (by rw [evf_look]; exact hy)
  simp only [execOp, resolve, Sem.run_bind, Sem.run_pure, Result.andThen, invoke, builtin, List.map_toArray, List.map_cons, List.map_nil, e1, e2, h1]
  exact ⟨o', cap', rfl, h2⟩

/-- append of elements that were written out. -/
theorem l_app1 {T sz bytes : Nat} {o : Option Addr} {m cap m2 c : Nat} {xs : List Value} {ts tx : TypeId} {rs tr rx : TRow} {R1 : List HP}
    (nx : ∀ o' cap', Wl n C ops.toArray k Q l ((d, .slice o' (m + m2) cap') :: E) F (Row T sz o' (m + m2) cap' (xs ++ cs.toList) :: R0))
    (hw : wantL ops E ⟨some d, .call ⟨.builtin .append, #[x, y], #[ts, tx]⟩, ty0, pos, aft, gd⟩ = some true := by rfl) (hn : Nat.blt d n = true := by rfl) (hx : ev E x = some (.slice o m cap) := by rfl) (hy : ev E y = some (.slice (some ⟨b, 0, none⟩) m2 c) := by rfl)
    (hts : lookT tab ts = some rs := by rfl) (hrs : rs.k = .slice T := by rfl) (hT : lookT tab T = some tr := by rfl) (hsz : tr.size = sz := by rfl) (hby : tr.bytes = bytes := by rfl) (htx : lookT tab tx = some rx := by rfl) (hnx : rx.k = .slice T := by rfl)
    (hs : Sel (Pt b (.cells cs ty fzn)) R R1 := by (repeat (first | exact Sel.here | apply Sel.there)); first | done | fail) (hrow : Sel (Row T sz o m cap xs) R R0 := by (repeat (first | exact Sel.here | apply Sel.there)); first | done | fail)
    (hys : cs.toList.length = m2 * sz := by rfl) (hone : cs.toList.all one1 = true := by rfl) (hb0 : bytes ≠ 0 := by decide) (hroom : (2 * (m + m2) + 200) * bytes ≤ 281474976710656 := by simp <;> omega) : Wl n C ops.toArray k Q (⟨some d, .call ⟨.builtin .append, #[x, y], #[ts, tx]⟩, ty0, pos, aft, gd⟩ :: l) E F R :=
  wl_op (fun t ht => by cases ht; exact Nat.le_of_ble_eq_true hn) (fun c hc => by cases hc) hw fun a w ha hsat =>
    (app_res ha hx hy hts hrs hT hsz hby htx (.inl hnx) (src_pt (F := F) hs (by rw [← hys, List.drop_zero, List.take_length]) (by simp at hys; omega)) hys hone hroom hrow hsat hb0).mono fun v w' ⟨o', cap', hv, hs'⟩ a' ha' => by
      subst hv; exact nx o' cap' a' w' ha' hs'
theorem r_app1 {T sz bytes : Nat} {o : Option Addr} {m cap m2 c : Nat} {xs : List Value} {ts tx : TypeId} {rs tr rx : TRow} {R1 : List HP}
    (nx : ∀ o' cap', Wr n C ops k Q Tl Fs R L ((d, .slice o' (m + m2) cap') :: E) F (Row T sz o' (m + m2) cap' (xs ++ cs.toList) :: N'))
    (ho : nth ops i = some ⟨some d, .call ⟨.builtin .append, #[x, y], #[ts, tx]⟩, ty0, pos, aft, gd⟩ := by rfl) (hw : wantL ops E ⟨some d, .call ⟨.builtin .append, #[x, y], #[ts, tx]⟩, ty0, pos, aft, gd⟩ = some true := by rfl) (hx : ev E x = some (.slice o m cap) := by rfl) (hy : ev E y = some (.slice (some ⟨b, 0, none⟩) m2 c) := by rfl)
    (hts : lookT tab ts = some rs := by rfl) (hrs : rs.k = .slice T := by rfl) (hT : lookT tab T = some tr := by rfl) (hsz : tr.size = sz := by rfl) (hby : tr.bytes = bytes := by rfl) (htx : lookT tab tx = some rx := by rfl) (hnx : rx.k = .slice T := by rfl)
    (hs : Sel (Pt b (.cells cs ty fzn)) N R1 := by (repeat (first | exact Sel.here | apply Sel.there)); first | done | fail) (hrow : Sel (Row T sz o m cap xs) N N' := by (repeat (first | exact Sel.here | apply Sel.there)); first | done | fail)
    (hys : cs.toList.length = m2 * sz := by rfl) (hone : cs.toList.all one1 = true := by rfl) (hb0 : bytes ≠ 0 := by decide) (hroom : (2 * (m + m2) + 200) * bytes ≤ 281474976710656 := by simp <;> omega) : Wr n C ops k Q Tl Fs R ((i, 4) :: L) E F N :=
  wr_go ho fun hp hr w st hz sb => by
    simp only [wantL_ok hw]
    refine ⟨⟨Option Addr × Nat, fun q => .slice q.1 (m + m2) q.2, fun _ => True, fun _ => F, fun q => Row T sz q.1 (m + m2) q.2 (xs ++ cs.toList) :: N'⟩, fun a G w hp' ha hsub hsat => ?_, fun q _ => nx q.1 q.2 hp hr w st hz sb⟩
    exact (app_res ha hx hy hts hrs hT hsz hby htx (.inl hnx) (src_pt (F := F) hs (by rw [← hys, List.drop_zero, List.take_length]) (by simp at hys; omega)) hys hone hroom hrow hsat hb0).mono fun v w' ⟨o', cap', hv, hs'⟩ => ⟨(o', cap'), hv, trivial, hs'⟩

/-- append of a row to a row. -/
theorem l_appR {T sz bytes : Nat} {o o2 : Option Addr} {m cap m2 c : Nat} {xs ys : List Value} {ts tx : TypeId} {rs tr rx : TRow} {R1 : List HP}
    (nx : ∀ o' cap', Wl n C ops.toArray k Q l ((d, .slice o' (m + m2) cap') :: E) F (Row T sz o' (m + m2) cap' (xs ++ ys) :: R0))
    (hw : wantL ops E ⟨some d, .call ⟨.builtin .append, #[x, y], #[ts, tx]⟩, ty0, pos, aft, gd⟩ = some true := by rfl) (hn : Nat.blt d n = true := by rfl) (hx : ev E x = some (.slice o m cap) := by rfl) (hy : ev E y = some (.slice o2 m2 c) := by rfl)
    (hts : lookT tab ts = some rs := by rfl) (hrs : rs.k = .slice T := by rfl) (hT : lookT tab T = some tr := by rfl) (hsz : tr.size = sz := by rfl) (hby : tr.bytes = bytes := by rfl) (htx : lookT tab tx = some rx := by rfl) (hnx : rx.k = .slice T := by rfl)
    (hs : Sel (Row T sz o2 m2 c ys) R R1 := by (repeat (first | exact Sel.here | apply Sel.there)); first | done | fail) (hrow : Sel (Row T sz o m cap xs) R R0 := by (repeat (first | exact Sel.here | apply Sel.there)); first | done | fail)
    (hone : ys.all one1 = true := by first | rfl | exact one1_byt _) (hb0 : bytes ≠ 0 := by decide) (hroom : (2 * (m + m2) + 200) * bytes ≤ 281474976710656 := by simp <;> omega) : Wl n C ops.toArray k Q (⟨some d, .call ⟨.builtin .append, #[x, y], #[ts, tx]⟩, ty0, pos, aft, gd⟩ :: l) E F R :=
  wl_op (fun t ht => by cases ht; exact Nat.le_of_ble_eq_true hn) (fun c hc => by cases hc) hw fun a w ha hsat =>
    (app_res ha hx hy hts hrs hT hsz hby htx (.inl hnx) (src_row (F := F) hs) (row_len hs hsat) hone hroom hrow hsat hb0).mono fun v w' ⟨o', cap', hv, hs'⟩ a' ha' => by
      subst hv; exact nx o' cap' a' w' ha' hs'

/-- append of a text to bytes. -/
theorem l_appS {T bytes : Nat} {o : Option Addr} {m cap : Nat} {s : ByteArray} {xs : List Value} {ts tx : TypeId} {rs tr rx : TRow}
    (nx : ∀ o' cap', Wl n C ops.toArray k Q l ((d, .slice o' (m + s.size) cap') :: E) F (Row T 1 o' (m + s.size) cap' (xs ++ s.data.toList.map fun b => .int .u8 b.toNat) :: R0))
    (hw : wantL ops E ⟨some d, .call ⟨.builtin .append, #[x, y], #[ts, tx]⟩, ty0, pos, aft, gd⟩ = some true := by rfl) (hn : Nat.blt d n = true := by rfl) (hx : ev E x = some (.slice o m cap) := by rfl) (hy : ev E y = some (.string s) := by rfl)
    (hts : lookT tab ts = some rs := by rfl) (hrs : rs.k = .slice T := by rfl) (hT : lookT tab T = some tr := by rfl) (hsz : tr.size = 1 := by rfl) (hby : tr.bytes = bytes := by rfl) (htx : lookT tab tx = some rx := by rfl) (hnx : rx.k = .str := by rfl)
    (hrow : Sel (Row T 1 o m cap xs) R R0 := by (repeat (first | exact Sel.here | apply Sel.there)); first | done | fail) (hb0 : bytes ≠ 0 := by decide) (hroom : (2 * (m + s.size) + 200) * bytes ≤ 281474976710656 := by simp <;> omega) : Wl n C ops.toArray k Q (⟨some d, .call ⟨.builtin .append, #[x, y], #[ts, tx]⟩, ty0, pos, aft, gd⟩ :: l) E F R :=
  wl_op (fun t ht => by cases ht; exact Nat.le_of_ble_eq_true hn) (fun c hc => by cases hc) hw fun a w ha hsat =>
    (app_res ha hx hy hts hrs hT hsz hby htx (.inr hnx) (src_str s) (by simp) (by rw [List.all_map]; exact List.all_eq_true.2 fun _ _ => rfl) hroom hrow hsat hb0).mono fun v w' ⟨o', cap', hv, hs'⟩ a' ha' => by
      subst hv; exact nx o' cap' a' w' ha' hs'
end Go.Proofs.YtijaglinajfplaaGreatDoor
