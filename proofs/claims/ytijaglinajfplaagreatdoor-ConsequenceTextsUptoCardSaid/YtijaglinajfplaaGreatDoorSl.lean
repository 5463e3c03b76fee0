/-
  Rules for slices that stay as they are, for texts, for conversions.
  Conditions: none beyond those that each theorem states.
-/
import Derived.Test.YtijaglinajfplaaGreatDoorLoop
namespace Go.Proofs.YtijaglinajfplaaGreatDoor
open Go.RowKit

variable {n : Nat} {C : Cx} {Q : Exit → Act → World → Prop} {E E' : List (Nat × Value)} {F F' F1 Fs F0 : List Pf} {R R' R0 Rs N N' A : List HP} {k k' : List Fr} {ops l : List Oper} {L L' : List (Nat × Nat)} {Tl : List Nat}
  {i d : Nat} {t ty0 : TypeId} {x y : Operand} {pos : String} {aft : Array Edge} {gd : Option (Nat × Bool)} {b off : Nat} {cs : Array Value} {ty : TypeId} {fzn : Nat × Nat} {v : Value}

/-- A slice that stays: its elements, each with its cells. -/
def Sl {α : Type} (_T : Nat) (f : α → List Value) (o : Option Addr) (cap : Nat) (es : List α) : Pf :=
  ⟨fun h => es.length ≤ cap ∧ (es = [] ∨ ∃ (b : Nat) (cs : Array Value) (fz : Nat × Nat × Nat) (pre post : List Value), o = some ⟨b, pre.length, none⟩ ∧ h b = some (.cells cs fz.1 fz.2) ∧ cs.toList = pre ++ (es.flatMap f ++ post)),
   fun _ _ s ⟨hc, h⟩ => ⟨hc, h.imp id fun ⟨b, cs, fz, pre, post, h1, h2, h3⟩ => ⟨b, cs, fz, pre, post, h1, s _ _ h2, h3⟩⟩⟩

/-- Cells that stay. -/
def Cel (_T b off : Nat) (xs : List Value) : Pf :=
  ⟨fun h => ∃ (cs : Array Value) (fz : Nat × Nat × Nat) (pre post : List Value), h b = some (.cells cs fz.1 fz.2) ∧ cs.toList = pre ++ (xs ++ post) ∧ off = pre.length, fun _ _ s ⟨cs, fz, pre, post, h1, h2⟩ => ⟨cs, fz, pre, post, s _ _ h1, h2⟩⟩

theorem flat_split {α : Type} {f : α → List Value} : ∀ {es : List α} {i : Nat} {e : α}, es[i]? = some e → es.flatMap f = (es.take i).flatMap f ++ (f e ++ (es.drop (i + 1)).flatMap f)
  | [], _, _, h => by simp at h
  | _ :: es, 0, _, h => by obtain rfl := Option.some.inj h; simp
  | _ :: es, i + 1, _, h => by
    have := flat_split (f := f) (es := es) (i := i) (by simpa using h)
    simp [this]
theorem flat_len {α : Type} {f : α → List Value} {sz : Nat} (hf : ∀ e, (f e).length = sz) : ∀ (es : List α), (es.flatMap f).length = es.length * sz
  | [] => by simp
  | e :: es => by
    have := flat_len hf es
    rw [List.flatMap_cons, List.length_append, hf, this, List.length_cons, Nat.add_mul, Nat.one_mul, Nat.add_comm]

theorem cutF_append {β : Type} : ∀ (l post : List Value) (o m : Nat) (k : List Value → Option β) (v : β), cutF l o m k = some v → cutF (l ++ post) o m k = some v
  | l, post, o, 0, k, v, h => by unfold cutF at h ⊢; exact h
  | [], post, o, m + 1, k, v, h => by simp [cutF] at h
  | x :: l, post, 0, m + 1, k, v, h => by
    simp only [cutF, List.cons_append] at h ⊢
    exact cutF_append l post 0 m _ v h
  | x :: l, post, o + 1, m + 1, k, v, h => by
    simp only [cutF, List.cons_append] at h ⊢
    exact cutF_append l post o (m + 1) _ v h
theorem cutF_shift {β : Type} : ∀ (pre l : List Value) (o m : Nat) (k : List Value → Option β), cutF (pre ++ l) (pre.length + o) m k = cutF l o m k
  | [], l, o, m, k => by simp
  | x :: pre, l, o, 0, k => by unfold cutF; rfl
  | x :: pre, l, o, m + 1, k => by
    rw [List.length_cons, show pre.length + 1 + o = (pre.length + o) + 1 by omega]
    simp only [List.cons_append, cutF]
    exact cutF_shift pre l o (m + 1) k
theorem ldv_in {pre xs post : List Value} {o : Nat} (h : ldv t xs o = some v) : ldv t (pre ++ (xs ++ post)) (pre.length + o) = some v := by
  have hn : ∀ {v}, nth xs o = some v → nth (pre ++ (xs ++ post)) (pre.length + o) = some v := fun {v} h => by
    rw [nth_eq] at h ⊢
    rw [List.getElem?_append_right (by omega), show pre.length + o - pre.length = o by omega]
    rw [List.getElem?_append_left (List.getElem?_eq_some_iff.1 h).1]; exact h
  unfold ldv at h ⊢
  split at h
  · rename_i hr; rw [cutF_shift]; exact cutF_append _ _ _ _ _ _ h
  · rename_i hr; rw [cutF_shift]; exact cutF_append _ _ _ _ _ _ h
  · cases h
  · exact hn h
  · cases h

/-- The place of an element. -/
theorem sl_at {α : Type} {T sz : Nat} {f : α → List Value} {o : Option Addr} {cap i : Nat} {es : List α} {e : α} {h : H} (hs : (Sl T f o cap es).p h) (he : es[i]? = some e) (hsz : ∀ e, (f e).length = sz) :
    ∃ b off, o.map (·.add (i * sz)) = some ⟨b, off, none⟩ ∧ (Cel T b off (f e)).p h := by
  obtain ⟨_, rfl | ⟨b, cs, fz, pre, post, rfl, hb, hcs⟩⟩ := hs
  · simp at he
  · have hi := (List.getElem?_eq_some_iff.1 he).1
    refine ⟨b, pre.length + i * sz, ?_, cs, fz, pre ++ (es.take i).flatMap f, (es.drop (i + 1)).flatMap f ++ post, hb, ?_, ?_⟩
    · simp only [Option.map_some, Option.some.injEq]
      unfold Addr.add
      split
      · rename_i h0; rw [h0]; rfl
      · rfl
    · rw [hcs, flat_split (f := f) he]; simp
    · rw [List.length_append, flat_len hsz, List.length_take, Nat.min_eq_left (by omega)]

theorem run_indexAt {T sz : Nat} {o : Option Addr} {m cap i : Nat} {w : World} {rs tr : TRow} (hts : lookT tab t = some rs) (hrs : rs.k = .slice T) (hT : lookT tab T = some tr) (hsz : tr.size = sz) {z : Int} (hz : z = (i : Int)) (hi : i < m) {p : Addr} (ho : o.map (·.add (i * sz)) = some p) :
    (Instr.indexAt t (.slice o m cap) (.int .i64 z)).run Tryz.prog w = .ok (.pointer (some p)) w := by
  obtain ⟨d1, hd1, hk1⟩ := tab_ok.und hts
  rw [hrs] at hk1
  have hu1 : (underlying t).run Tryz.prog w = .ok (.slice T) w := by
    cases d1 <;> simp [chkKind] at hk1
    subst hk1
    simp [underlying, hd1, go_sem]
  have hs1 := tab_ok.sizeOf hT w
  rw [hsz] at hs1
  cases o with
  | none => cases ho
  | some a =>
    subst hz
    simp only [Option.map_some, Option.some.injEq] at ho
    unfold Instr.indexAt
    simp only [asIntOf, Sem.run_bind, Sem.run_pure, Result.andThen, hu1]
    have hc : (0 : Int) ≤ (i : Int) ∧ (i : Int) < ((m : Nat) : Int) := ⟨by omega, by omega⟩
    rw [if_pos hc]
    simp only [Sem.run_bind, hs1, Result.andThen, Sem.run_pure, Int.toNat_natCast, ho]

/-- The address of an element. -/
theorem l_ixe {α : Type} {T sz : Nat} {f : α → List Value} {o : Option Addr} {m cap : Nat} {es : List α} {z : Int} {rs tr : TRow} (i : Nat) (e : α) (he : es[i]? = some e)
    (nx : ∀ b off, Wl n C ops.toArray k Q l ((d, .pointer (some ⟨b, off, none⟩)) :: E) (Cel T b off (f e) :: F) R)
    (hw : wantL ops E ⟨some d, .indexAddr t x y, ty0, pos, aft, gd⟩ = some true := by rfl) (hn : Nat.blt d n = true := by rfl) (hx : ev E x = some (.slice o m cap) := by rfl) (hy : ev E y = some (.int .i64 z) := by rfl)
    (hs : Sel (Sl T f o cap es) F F0 := by (repeat (first | exact Sel.here | apply Sel.there)); first | done | fail) (hts : lookT tab t = some rs := by rfl) (hrs : rs.k = .slice T := by rfl) (hT : lookT tab T = some tr := by rfl) (hsz : tr.size = sz := by rfl) (hf : ∀ e, (f e).length = sz := by intro; rfl)
    (hm : m = es.length := by rfl) (hz : z = (i : Int) := by first | rfl | omega) : Wl n C ops.toArray k Q (⟨some d, .indexAddr t x y, ty0, pos, aft, gd⟩ :: l) E F R :=
  wl_op (fun t ht => by cases ht; exact Nat.le_of_ble_eq_true hn) (fun c hc => by cases hc) hw fun a w ha hsat => by
    obtain ⟨hp, hr, st⟩ := hsat
    obtain ⟨b, off, h1, h2⟩ := sl_at (st.f _ hs.mem) he hf
    have hi := (List.getElem?_eq_some_iff.1 he).1
    have hr1 := run_indexAt (m := m) (cap := cap) (w := w) hts hrs hT hsz hz (by rw [hm]; exact hi) h1
    unfold OpRes
    simp only [execOp, ha.ev (x := x) (by rw [evf_look]; exact hx), ha.ev (x := y) (by rw [evf_look]; exact hy), Sem.run_bind, Result.andThen, hr1, Sem.run_pure]
    exact fun a' ha' => nx b off a' w ha' ⟨hp, hr, st.inp, st.inr, st.ing, st.d1, st.d2, st.d3, st.sub, fun g hg => (List.mem_cons.1 hg).elim (fun h => h ▸ h2) (st.f g), st.r, st.same⟩
theorem r_ixe {α : Type} {T sz : Nat} {f : α → List Value} {o : Option Addr} {m cap : Nat} {es : List α} {z : Int} {rs tr : TRow} (j : Nat) (e : α) (he : es[j]? = some e)
    (nx : ∀ b off, Wr n C ops k Q Tl (Cel T b off (f e) :: Fs) R L ((d, .pointer (some ⟨b, off, none⟩)) :: E) F N)
    (ho : nth ops i = some ⟨some d, .indexAddr t x y, ty0, pos, aft, gd⟩ := by rfl) (hw : wantL ops E ⟨some d, .indexAddr t x y, ty0, pos, aft, gd⟩ = some true := by rfl) (hx : ev E x = some (.slice o m cap) := by rfl) (hy : ev E y = some (.int .i64 z) := by rfl)
    (hs : Sel (Sl T f o cap es) Fs F0 := by (repeat (first | exact Sel.here | apply Sel.there)); first | done | fail) (hts : lookT tab t = some rs := by rfl) (hrs : rs.k = .slice T := by rfl) (hT : lookT tab T = some tr := by rfl) (hsz : tr.size = sz := by rfl) (hf : ∀ e, (f e).length = sz := by intro; rfl)
    (hm : m = es.length := by rfl) (hz : z = (j : Int) := by first | rfl | omega) : Wr n C ops k Q Tl Fs R ((i, 0) :: L) E F N := fun hp hr w st hz' sb => by
  obtain ⟨b, off, h1, h2⟩ := sl_at (st.f _ hs.mem) he hf
  have hi := (List.getElem?_eq_some_iff.1 he).1
  have st' : SatAt C.G C.w0 C.hp0 (Cel T b off (f e) :: Fs) R w hp hr := ⟨st.inp, st.inr, st.ing, st.d1, st.d2, st.d3, st.sub, fun g hg => (List.mem_cons.1 hg).elim (fun h => h ▸ h2) (st.f g), st.r, st.same⟩
  refine wr_go (L := L) (Fs := Cel T b off (f e) :: Fs) ho (fun hp hr w st hz2 sb => ?_) hp hr w st' hz' sb
  simp only [wantL_ok hw]
  refine ⟨.pointer (some ⟨b, off, none⟩), fun a w ha hin => ?_, nx b off hp hr w st hz2 sb⟩
  have hr1 := run_indexAt (m := m) (cap := cap) (w := w) hts hrs hT hsz hz (by rw [hm]; exact hi) h1
  simp only [execOp, ha.ev (x := x) (by rw [evf_look]; exact hx), ha.ev (x := y) (by rw [evf_look]; exact hy), Sem.run_bind, Result.andThen, hr1, Sem.run_pure]

theorem l_ix {α : Type} {T sz : Nat} {f : α → List Value} {o : Option Addr} {m cap : Nat} {z : Int} {rs tr : TRow} (es : List α) (i : Nat) (hlt : i < es.length)
    (nx : ∀ b off, Wl n C ops.toArray k Q l ((d, .pointer (some ⟨b, off, none⟩)) :: E) (Cel T b off (f es[i]) :: F) R)
    (hw : wantL ops E ⟨some d, .indexAddr t x y, ty0, pos, aft, gd⟩ = some true := by rfl) (hn : Nat.blt d n = true := by rfl) (hx : ev E x = some (.slice o m cap) := by rfl) (hy : ev E y = some (.int .i64 z) := by rfl)
    (hs : Sel (Sl T f o cap es) F F0 := by (repeat (first | exact Sel.here | apply Sel.there)); first | done | fail) (hts : lookT tab t = some rs := by rfl) (hrs : rs.k = .slice T := by rfl) (hT : lookT tab T = some tr := by rfl) (hsz : tr.size = sz := by rfl) (hf : ∀ e, (f e).length = sz := by intro; rfl)
    (hm : m = es.length := by rfl) (hz : z = (i : Int) := by first | rfl | omega) : Wl n C ops.toArray k Q (⟨some d, .indexAddr t x y, ty0, pos, aft, gd⟩ :: l) E F R :=
  l_ixe i es[i] (List.getElem?_eq_getElem hlt) nx hw hn hx hy hs hts hrs hT hsz hf hm hz
theorem r_ix {α : Type} {T sz : Nat} {f : α → List Value} {o : Option Addr} {m cap : Nat} {z : Int} {rs tr : TRow} (es : List α) (j : Nat) (hlt : j < es.length)
    (nx : ∀ b off, Wr n C ops k Q Tl (Cel T b off (f es[j]) :: Fs) R L ((d, .pointer (some ⟨b, off, none⟩)) :: E) F N)
    (ho : nth ops i = some ⟨some d, .indexAddr t x y, ty0, pos, aft, gd⟩ := by rfl) (hw : wantL ops E ⟨some d, .indexAddr t x y, ty0, pos, aft, gd⟩ = some true := by rfl) (hx : ev E x = some (.slice o m cap) := by rfl) (hy : ev E y = some (.int .i64 z) := by rfl)
    (hs : Sel (Sl T f o cap es) Fs F0 := by (repeat (first | exact Sel.here | apply Sel.there)); first | done | fail) (hts : lookT tab t = some rs := by rfl) (hrs : rs.k = .slice T := by rfl) (hT : lookT tab T = some tr := by rfl) (hsz : tr.size = sz := by rfl) (hf : ∀ e, (f e).length = sz := by intro; rfl)
    (hm : m = es.length := by rfl) (hz : z = (j : Int) := by first | rfl | omega) : Wr n C ops k Q Tl Fs R ((i, 0) :: L) E F N :=
  r_ixe j es[j] (List.getElem?_eq_getElem hlt) nx ho hw hx hy hs hts hrs hT hsz hf hm hz

/-- A load out of cells that stay. -/
theorem l_ldC {T b off off' o : Nat} {xs : List Value} (nx : Wl n C ops.toArray k Q l ((d, v) :: E) F R) (hw : wantL ops E ⟨some d, .load t x, ty0, pos, aft, gd⟩ = some true := by rfl) (hn : Nat.blt d n = true := by rfl)
    (hx : ev E x = some (.pointer (some ⟨b, off', none⟩)) := by rfl) (hs : Sel (Cel T b off xs) F F0 := by (repeat (first | exact Sel.here | apply Sel.there)); first | done | fail) (ho : off' = off + o := by first | exact (Nat.add_zero _).symm | rfl | exact Nat.add_assoc _ _ _) (hv : ldv t xs o = some v := by rfl) :
    Wl n C ops.toArray k Q (⟨some d, .load t x, ty0, pos, aft, gd⟩ :: l) E F R :=
  wl_op (fun t ht => by cases ht; exact Nat.le_of_ble_eq_true hn) (fun c hc => by cases hc) hw fun a w ha hsat => by
    obtain ⟨hp, hr, st⟩ := hsat
    obtain ⟨cs, fz, pre, post, h1, h2, rfl⟩ := st.f _ hs.mem
    have hv' : ldv t cs.toList off' = some v := by rw [h2, ho]; exact ldv_in hv
    have hr1 := ldv_ok (st.inp _ _ h1) hv'
    unfold OpRes
    simp only [execOp, Instr.loadAt, ha.ev (by rw [evf_look]; exact hx), Instr.sureAddr, Sem.run_bind, Sem.run_pure, Result.andThen, hr1]
    exact fun a' ha' => nx a' w ha' ⟨hp, hr, st⟩
theorem r_ldC {T b off off' o : Nat} {xs : List Value} (nx : Wr n C ops k Q Tl Fs R L ((d, v) :: E) F N) (hop : nth ops i = some ⟨some d, .load t x, ty0, pos, aft, gd⟩ := by rfl) (hw : wantL ops E ⟨some d, .load t x, ty0, pos, aft, gd⟩ = some true := by rfl)
    (hx : ev E x = some (.pointer (some ⟨b, off', none⟩)) := by rfl) (hs : Sel (Cel T b off xs) Fs F0 := by (repeat (first | exact Sel.here | apply Sel.there)); first | done | fail) (ho : off' = off + o := by first | exact (Nat.add_zero _).symm | rfl | exact Nat.add_assoc _ _ _) (hv : ldv t xs o = some v := by rfl) :
    Wr n C ops k Q Tl Fs R ((i, 0) :: L) E F N :=
  wr_go hop fun hp hr w st hz sb => by
    simp only [wantL_ok hw]
    refine ⟨v, fun a w ha hin => ?_, nx hp hr w st hz sb⟩
    obtain ⟨cs, fz, pre, post, h1, h2, rfl⟩ := st.f _ hs.mem
    have hv' : ldv t cs.toList off' = some v := by rw [h2, ho]; exact ldv_in hv
    have hr1 := ldv_ok (hin _ _ (sb _ _ (sub_un_right st.d1.symm _ _ h1))) hv'
    simp only [execOp, Instr.loadAt, ha.ev (by rw [evf_look]; exact hx), Instr.sureAddr, Sem.run_bind, Sem.run_pure, Result.andThen, hr1]

/-- A row that is no more written. -/
theorem frz_row {α : Type} {T sz : Nat} {f : α → List Value} {o : Option Addr} {m cap : Nat} {xs : List Value} {es : List α} (hx : xs = es.flatMap f) (hm : m = es.length) {G : H} {w0 w : World} {hp0 : H} (hs : Sel (Row T sz o m cap xs) R R0) (hsat : Sat G w0 hp0 F R w) : Sat G w0 hp0 (Sl T f o cap es :: F) R0 w := by
  subst hx hm
  obtain ⟨hp, hr, st⟩ := hsat.sel hs
  obtain ⟨h1, h2, dj, s1, s2, hrow, hR⟩ := st.r
  rcases hrow with ⟨rfl, h3, rfl, h4⟩ | ⟨bb, rest, fz, rfl, hb, hxl, hcl, hmc, hfz⟩
  · refine ⟨hp, hr, st.inp, st.inr, st.ing, st.d1, st.d2, st.d3, st.sub, fun g hg => (List.mem_cons.1 hg).elim (fun h => h ▸ ?_) (st.f g), hR.sub s2, st.same⟩
    have h5 : es = [] := List.eq_nil_of_length_eq_zero h3
    exact ⟨by rw [h5]; exact Nat.le_refl _, .inl h5⟩
  · have hsat2 : Sat G w0 hp0 F (Pt bb (.cells (es.flatMap f ++ rest).toArray T fz) :: R0) w := ⟨hp, hr, st.inp, st.inr, st.ing, st.d1, st.d2, st.d3, st.sub, st.f, ⟨h1, h2, dj, s1, s2, hb, hR⟩, st.same⟩
    refine hsat2.freeze.facts fun hp hF g hg => ?_
    rcases List.mem_cons.1 hg with rfl | hg
    · exact ⟨hmc, .inr ⟨bb, _, (T, fz), [], rest, rfl, hF _ (List.mem_cons_self ..), by simp⟩⟩
    · exact hF g (List.mem_cons_of_mem _ hg)
theorem k_frz {α : Type} {T sz : Nat} {f : α → List Value} {o : Option Addr} {m cap : Nat} {xs : List Value} (es : List α) (t : Wk n C k Q E (Sl T f o cap es :: F) R0) (hx : xs = es.flatMap f) (hm : m = es.length) (hs : Sel (Row T sz o m cap xs) R R0 := by (repeat (first | exact Sel.here | apply Sel.there)); first | done | fail) : Wk n C k Q E F R :=
  fun a w ha hsat => t a w ha (frz_row hx hm hs hsat)
theorem l_frz {α : Type} {T sz : Nat} {f : α → List Value} {o : Option Addr} {m cap : Nat} {xs : List Value} (es : List α) (t : Wl n C ops.toArray k Q l E (Sl T f o cap es :: F) R0) (hx : xs = es.flatMap f) (hm : m = es.length) (hs : Sel (Row T sz o m cap xs) R R0 := by (repeat (first | exact Sel.here | apply Sel.there)); first | done | fail) : Wl n C ops.toArray k Q l E F R :=
  fun a w ha hsat => t a w ha (frz_row hx hm hs hsat)
end Go.Proofs.YtijaglinajfplaaGreatDoor
