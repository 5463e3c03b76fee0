/-
  Arrays of bytes that are owned: parts of them as slices, copy of a text into one, one as a text.
  Contracts of the package inode: nodes; Check, Encode, Decode.
  Contracts of the package inode: births, Get, file, put, NextBirth, Make, block.
  Contracts of the package inode: NextBirth, Make.
  Contracts of the package inode: parts, Write.
  What a state holds behind a view's changes.
  A writer that may have failed; Encode of what does not fit.
  The example of layer 27, known.
  Conditions: those that each theorem states.
-/
import Derived.Test.YtaijnpkdlopomaaGreatDoorME
import Derived.Test.YtaijnpkdlopomaaGreatDoorMB
import Derived.Test.YtaijnpkdlopomaaGreatDoorMF
import Derived.Test.YtaijnpkdlopomaaGreatDoorMD
set_option maxRecDepth 10000
namespace Go.Proofs.YtaijnpkdlopomaaGreatDoor
open Go.RowKit

/-- Bytes in an owned block. -/
def By (T b : Nat) (L : List UInt8) : HP := Pt b (.cells (byt L).toArray T (0, 0))
/-- A text copied into bytes at a place. -/
def cpy (L : List UInt8) (off : Nat) (s : ByteArray) (dl : Nat) : List UInt8 := L.take off ++ s.data.toList.take (min s.size dl) ++ L.drop (off + min s.size dl)
theorem cpy_len {L : List UInt8} {off dl : Nat} {s : ByteArray} (h : off + dl ≤ L.length) : (cpy L off s dl).length = L.length := by
  have : s.data.toList.length = s.size := by simp
  simp only [cpy, List.length_append, List.length_take, List.length_drop]; omega

section
variable {n : Nat} {C : Cx} {Q : Exit → Act → World → Prop} {E E' : List (Nat × Value)} {F F' F1 Fs F0 : List Pf} {R R' R0 Rs N N' A : List HP} {k k' : List Fr} {ops l : List Oper} {L L' : List (Nat × Nat)} {Tl : List Nat}
  {i d b : Nat} {t ty0 : TypeId} {x y : Operand} {pos : String} {aft : Array Edge} {gd : Option (Nat × Bool)}

theorem run_undA {m T : Nat} {w : World} {rs : TRow} (hts : lookT tab t = some rs) (hrs : rs.k = .arr m T) : (underlying t).run Tryz.prog w = .ok (.array m T) w := by
  obtain ⟨d1, hd1, hk1⟩ := tab_ok.und hts
  rw [hrs] at hk1
  cases d1 <;> simp [chkKind] at hk1
  obtain ⟨rfl, rfl⟩ := hk1
  simp [underlying, hd1, go_sem]
theorem run_sla {T m lo hi : Nat} {z1 z2 : Int} {w : World} {rs tr : TRow} (hlo : lo < hi) (hhi : hi ≤ m) (hts : lookT tab t = some rs) (hrs : rs.k = .arr m T) (hT : lookT tab T = some tr) (hsz : tr.size = 1) (hz1 : z1 = (lo : Int)) (hz2 : z2 = (hi : Int)) :
    (Instr.sliceAt t (.pointer (some ⟨b, 0, none⟩)) (some (.int .i64 z1)) (some (.int .i64 z2)) none).run Tryz.prog w = .ok (.slice (some ⟨b, lo, none⟩) (hi - lo) (m - lo)) w := by
  subst hz1 hz2
  have hs1 := tab_ok.sizeOf hT w
  rw [hsz] at hs1
  have c1 : (0 : Int) ≤ (hi : Int) ∧ (hi : Int) ≤ (m : Int) := ⟨by omega, by omega⟩
  have c2 : (0 : Int) ≤ (lo : Int) ∧ (lo : Int) ≤ (hi : Int) := ⟨by omega, by omega⟩
  simp only [Instr.sliceAt, run_undA hts hrs, Instr.sureAddr, Instr.sliceBounds, Instr.sliceBound, asIntOf, Sem.run_bind, Sem.run_pure, Result.andThen, if_pos c1, if_pos c2, hs1, Int.toNat_natCast]
  rw [if_neg (by omega), add_add (b := b) (p := 0) rfl]
  simp
theorem run_sla0 {T m : Nat} {w : World} {rs tr : TRow} (hts : lookT tab t = some rs) (hrs : rs.k = .arr m T) (hT : lookT tab T = some tr) (hsz : tr.size = 1) :
    (Instr.sliceAt t (.pointer (some ⟨b, 0, none⟩)) none none none).run Tryz.prog w = .ok (.slice (some ⟨b, 0, none⟩) m m) w := by
  have hs1 := tab_ok.sizeOf hT w
  rw [hsz] at hs1
  simp only [Instr.sliceAt, run_undA hts hrs, Instr.sureAddr, Instr.sliceBounds, Sem.run_bind, Sem.run_pure, Result.andThen, hs1]
  split
  · simp
  · rw [add_add (b := b) (p := 0) rfl]; simp
/-- A part of an array as a slice. -/
theorem r_sla {T m : Nat} {z1 z2 : Int} {y2 : Operand} {rs tr : TRow} (lo hi : Nat) (hlo : lo < hi) (hhi : hi ≤ m) (nx : Wr n C ops k Q Tl Fs R L ((d, .slice (some ⟨b, lo, none⟩) (hi - lo) (m - lo)) :: E) F N)
    (ho : nth ops i = some ⟨some d, .slice t x (some y) (some y2) none, ty0, pos, aft, gd⟩ := by rfl) (hw : wantL ops E ⟨some d, .slice t x (some y) (some y2) none, ty0, pos, aft, gd⟩ = some true := by rfl) (hx : ev E x = some (.pointer (some ⟨b, 0, none⟩)) := by rfl) (hy : ev E y = some (.int .i64 z1) := by rfl) (hy2 : ev E y2 = some (.int .i64 z2) := by rfl)
    (hts : lookT tab t = some rs := by rfl) (hrs : rs.k = .arr m T := by rfl) (hT : lookT tab T = some tr := by rfl) (hsz : tr.size = 1 := by rfl) (hz1 : z1 = (lo : Int) := by first | rfl | omega) (hz2 : z2 = (hi : Int) := by first | rfl | omega) : Wr n C ops k Q Tl Fs R ((i, 0) :: L) E F N :=
  r_q (fun a w ha => by
    simp only [execOp, Option.map_some, Option.map_none, ha.ev (x := x) (by rw [evf_look]; exact hx), ha.ev (x := y) (by rw [evf_look]; exact hy), ha.ev (x := y2) (by rw [evf_look]; exact hy2), Sem.run_bind, run_sla (b := b) (w := w) hlo hhi hts hrs hT hsz hz1 hz2, Result.andThen, Sem.run_pure]) nx ho hw
/-- A whole array as a slice. -/
theorem r_sla0 {T m : Nat} {rs tr : TRow} (nx : Wr n C ops k Q Tl Fs R L ((d, .slice (some ⟨b, 0, none⟩) m m) :: E) F N)
    (ho : nth ops i = some ⟨some d, .slice t x none none none, ty0, pos, aft, gd⟩ := by rfl) (hw : wantL ops E ⟨some d, .slice t x none none none, ty0, pos, aft, gd⟩ = some true := by rfl) (hx : ev E x = some (.pointer (some ⟨b, 0, none⟩)) := by rfl)
    (hts : lookT tab t = some rs := by rfl) (hrs : rs.k = .arr m T := by rfl) (hT : lookT tab T = some tr := by rfl) (hsz : tr.size = 1 := by rfl) : Wr n C ops k Q Tl Fs R ((i, 0) :: L) E F N :=
  r_q (fun a w ha => by
    simp only [execOp, Option.map_none, ha.ev (x := x) (by rw [evf_look]; exact hx), Sem.run_bind, run_sla0 (b := b) (w := w) hts hrs hT hsz, Result.andThen, Sem.run_pure]) nx ho hw
theorem l_sla0 {T m : Nat} {rs tr : TRow} (nx : Wl n C ops.toArray k Q l ((d, .slice (some ⟨b, 0, none⟩) m m) :: E) F R)
    (hw : wantL ops E ⟨some d, .slice t x none none none, ty0, pos, aft, gd⟩ = some true := by rfl) (hn : Nat.blt d n = true := by rfl) (hx : ev E x = some (.pointer (some ⟨b, 0, none⟩)) := by rfl)
    (hts : lookT tab t = some rs := by rfl) (hrs : rs.k = .arr m T := by rfl) (hT : lookT tab T = some tr := by rfl) (hsz : tr.size = 1 := by rfl) : Wl n C ops.toArray k Q (⟨some d, .slice t x none none none, ty0, pos, aft, gd⟩ :: l) E F R :=
  l_q (fun a w ha => by
    simp only [execOp, Option.map_none, ha.ev (x := x) (by rw [evf_look]; exact hx), Sem.run_bind, run_sla0 (b := b) (w := w) hts hrs hT hsz, Result.andThen, Sem.run_pure]) nx (by intro c h; cases h) hw hn
/-- The end of a text. -/
theorem run_send {s : ByteArray} {z : Int} {rs : TRow} {w : World} (lo : Nat) (hle : lo ≤ s.size) (hts : lookT tab t = some rs) (hrs : rs.k = .str) (hz : z = (lo : Int)) : (Instr.sliceAt t (.string s) (some (.int .i64 z)) none none).run Tryz.prog w = .ok (.string (s.extract lo s.size)) w := by
  subst hz
  have hu := run_undS (w := w) hts hrs
  have hb : (Instr.sliceBound (.int .i64 (lo : Int)) s.size .sliceB).run Tryz.prog w = .ok lo w := by
    simp only [Instr.sliceBound, asIntOf, Sem.run_bind, Sem.run_pure, Result.andThen]
    rw [if_pos ⟨by omega, by omega⟩]
    simp
  simp [Instr.sliceAt, Instr.slice, Instr.sliceBounds, Sem.run_bind, hu, Result.andThen, hb]
theorem r_send {s : ByteArray} {z : Int} {rs : TRow} (lo : Nat) (hle : lo ≤ s.size) (nx : Wr n C ops k Q Tl Fs R L ((d, .string (s.extract lo s.size)) :: E) F N)
    (ho : nth ops i = some ⟨some d, .slice t x (some y) none none, ty0, pos, aft, gd⟩ := by rfl) (hw : wantL ops E ⟨some d, .slice t x (some y) none none, ty0, pos, aft, gd⟩ = some true := by rfl) (hx : ev E x = some (.string s) := by rfl) (hy : ev E y = some (.int .i64 z) := by rfl)
    (hts : lookT tab t = some rs := by rfl) (hrs : rs.k = .str := by rfl) (hz : z = (lo : Int) := by first | rfl | omega) : Wr n C ops k Q Tl Fs R ((i, 0) :: L) E F N :=
  r_q (fun a w ha => by
    simp only [execOp, Option.map_some, Option.map_none, ha.ev (x := x) (by rw [evf_look]; exact hx), ha.ev (x := y) (by rw [evf_look]; exact hy), Sem.run_bind, run_send (w := w) lo hle hts hrs hz, Result.andThen, Sem.run_pure]) nx ho hw

/-- copy of a text into owned bytes. -/
theorem run_copyS {T T0 b off dl c : Nat} {Lb : List UInt8} {s : ByteArray} {ts tx : TypeId} {rs tr : TRow} {w : World} (hts : lookT tab ts = some rs) (hrs : rs.k = .slice T0) (hT : lookT tab T0 = some tr) (hsz : tr.size = 1)
    (hb : w.heap[b]? = some (.cells (byt Lb).toArray T (0, 0))) (hle : off + dl ≤ Lb.length) :
    ∃ w', (Builtin.copy_ #[ts, tx] ty0 #[.slice (some ⟨b, off, none⟩) dl c, .string s]).run Tryz.prog w = .ok (.int .i64 ((min s.size dl : Nat) : Int)) w' ∧ w'.heap[b]? = some (.cells (byt (cpy Lb off s dl)).toArray T (0, 0)) ∧ Same w w' ∧ ∀ e, e ≠ b → w'.heap[e]? = w.heap[e]? := by
  have hs1 := tab_ok.sizeOf hT w
  rw [hsz] at hs1
  have hds : s.data.toList.length = s.size := by simp
  have hcells : ((s.extract 0 (min s.size dl)).data.map fun b => Value.int .u8 b.toNat).toList = byt (s.data.toList.take (min s.size dl)) := by
    simp [byt]
  obtain ⟨w', g1, g2, g3, g4⟩ := run_storeCells' (P := Tryz.prog) (b := b) (ty := T) off (byt (s.data.toList.take (min s.size dl))) 0 w (byt Lb) hb (.inl rfl) (one1_byt _) (by simp only [byt_len, List.length_take]; omega)
  refine ⟨w', ?_, ?_, g3, g4⟩
  · have hn : Nat.min s.size dl = min s.size dl := rfl
    simp only [Builtin.copy_, List.getElem?_toArray, List.getElem?_cons_zero, List.getElem?_cons_succ, Sem.run_bind, run_und hts hrs, Result.andThen, Builtin.lenOf, Sem.run_pure, hs1, Builtin.firstCells, hn]
    rw [hcells, g1]
    rfl
  · rw [g2]
    congr 3
    have e1 : (byt (s.data.toList.take (min s.size dl))).length = min s.size dl := by simp only [byt_len, List.length_take]; omega
    rw [Nat.add_zero, e1, cpy, byt_append, byt_append]
    simp [byt, List.map_take, List.map_drop]
theorem l_copyS {T T0 b off dl c : Nat} {Lb : List UInt8} {s : ByteArray} {ts tx : TypeId} {rs tr : TRow} (nx : Wl n C ops.toArray k Q l ((d, .int .i64 ((min s.size dl : Nat) : Int)) :: E) F (By T b (cpy Lb off s dl) :: R0)) (hle : off + dl ≤ Lb.length)
    (hw : wantL ops E ⟨some d, .call ⟨.builtin .copy, #[x, y], #[ts, tx]⟩, ty0, pos, aft, gd⟩ = some true := by rfl) (hn : Nat.blt d n = true := by rfl) (hx : ev E x = some (.slice (some ⟨b, off, none⟩) dl c) := by rfl) (hy : ev E y = some (.string s) := by rfl)
    (hts : lookT tab ts = some rs := by rfl) (hrs : rs.k = .slice T0 := by rfl) (hT : lookT tab T0 = some tr := by rfl) (hsz : tr.size = 1 := by rfl) (hs : Sel (By T b Lb) R R0 := by (repeat (first | exact Sel.here | apply Sel.there)); first | done | fail) :
    Wl n C ops.toArray k Q (⟨some d, .call ⟨.builtin .copy, #[x, y], #[ts, tx]⟩, ty0, pos, aft, gd⟩ :: l) E F R :=
  wl_op (fun t ht => by cases ht; exact Nat.le_of_ble_eq_true hn) (fun c hc => by cases hc) hw fun a w ha hsat => by
    obtain ⟨w', g1, g2, g3, g4⟩ := run_copyS (ty0 := ty0) (tx := tx) (c := c) (s := s) hts hrs hT hsz (hsat.pt hs) hle
    have hse : Sat C.G C.w0 C.hp0 F (By T b (cpy Lb off s dl) :: R0) w' := (show Sat C.G C.w0 C.hp0 F (Pt b (.cells (byt Lb).toArray T (0, 0)) :: R0) w from hsat.sel hs).write g3 g2 fun e he _ => g4 e he
    unfold OpRes
    have e1 := ha.ev (x := x) (by rw [evf_look]; exact hx)
    have e2 := ha.ev (x := y) (by rw [evf_look]; exact hy)
    simp only [execOp, resolve, Sem.run_bind, Sem.run_pure, Result.andThen, invoke, builtin, List.map_toArray, List.map_cons, List.map_nil, e1, e2, g1]
    exact fun a' ha' => nx a' w' ha' hse
theorem r_copyS {T T0 b off dl c : Nat} {Lb : List UInt8} {s : ByteArray} {ts tx : TypeId} {rs tr : TRow} (nx : Wr n C ops k Q Tl Fs R L ((d, .int .i64 ((min s.size dl : Nat) : Int)) :: E) F (By T b (cpy Lb off s dl) :: N')) (hle : off + dl ≤ Lb.length)
    (ho : nth ops i = some ⟨some d, .call ⟨.builtin .copy, #[x, y], #[ts, tx]⟩, ty0, pos, aft, gd⟩ := by rfl) (hw : wantL ops E ⟨some d, .call ⟨.builtin .copy, #[x, y], #[ts, tx]⟩, ty0, pos, aft, gd⟩ = some true := by rfl) (hx : ev E x = some (.slice (some ⟨b, off, none⟩) dl c) := by rfl) (hy : ev E y = some (.string s) := by rfl)
    (hts : lookT tab ts = some rs := by rfl) (hrs : rs.k = .slice T0 := by rfl) (hT : lookT tab T0 = some tr := by rfl) (hsz : tr.size = 1 := by rfl) (hs : Sel (By T b Lb) N N' := by (repeat (first | exact Sel.here | apply Sel.there)); first | done | fail) :
    Wr n C ops k Q Tl Fs R ((i, 4) :: L) E F N :=
  wr_go ho fun hp hr w st hz sb => by
    simp only [wantL_ok hw]
    refine ⟨⟨Unit, fun _ => .int .i64 ((min s.size dl : Nat) : Int), fun _ => True, fun _ => F, fun _ => By T b (cpy Lb off s dl) :: N'⟩, fun a G w hp' ha hsub hsat => ?_, fun _ _ => nx hp hr w st hz sb⟩
    obtain ⟨w', g1, g2, g3, g4⟩ := run_copyS (ty0 := ty0) (tx := tx) (c := c) (s := s) hts hrs hT hsz (hsat.pt hs) hle
    unfold OpRes
    have e1 := ha.ev (x := x) (by rw [evf_look]; exact hx)
    have e2 := ha.ev (x := y) (by rw [evf_look]; exact hy)
    simp only [execOp, resolve, Sem.run_bind, Sem.run_pure, Result.andThen, invoke, builtin, List.map_toArray, List.map_cons, List.map_nil, e1, e2, g1]
    exact ⟨(), trivial, trivial, (show Sat G w hp' F (Pt b (.cells (byt Lb).toArray T (0, 0)) :: N') w from hsat.sel hs).write g3 g2 fun e he _ => g4 e he⟩

/-! Owned bytes as a text. -/
theorem run_b2sB {T b m c : Nat} {Lb : List UInt8} {w : World} (hb : w.heap[b]? = some (.cells (byt Lb).toArray T (0, 0))) (hm : m = Lb.length) :
    (Conv.bytesToString (.slice (some ⟨b, 0, none⟩) m c)).run Tryz.prog w = .ok (.string ⟨Lb.toArray⟩) w := by
  subst hm
  rw [run_bytesToString (ns := Lb.map fun b => (b.toNat : Int))]
  · rw [fold_push]; simp
  · unfold loadCells
    rw [run_loadCells hb 0 Lb.length 0 #[] (by simp [byt])]
    simp [byt]
    rw [List.take_of_length_le (by simp)]
    rfl
theorem r_b2sB {T T1 b m c : Nat} {Lb : List UInt8} {td : TypeId} {rs tr rd : TRow} (nx : Wr n C ops k Q Tl Fs R L ((d, .string ⟨Lb.toArray⟩) :: E) F N) (hm : m = Lb.length)
    (ho : nth ops i = some ⟨some d, .convert t td x, ty0, pos, aft, gd⟩ := by rfl) (hw : wantL ops E ⟨some d, .convert t td x, ty0, pos, aft, gd⟩ = some true := by rfl) (hx : ev E x = some (.slice (some ⟨b, 0, none⟩) m c) := by rfl)
    (hs : Sel (By T b Lb) R R0 := by (repeat (first | exact Sel.here | apply Sel.there)); first | done | fail) (hts : lookT tab t = some rs := by rfl) (hrs : rs.k = .slice T1 := by rfl) (hT : lookT tab T1 = some tr := by rfl) (hTk : tr.k = .int .u8 := by rfl) (htd : lookT tab td = some rd := by rfl) (hrd : rd.k = .str := by rfl) :
    Wr n C ops k Q Tl Fs R ((i, 0) :: L) E F N :=
  wr_go ho fun hp hr w st hz sb => by
    simp only [wantL_ok hw]
    refine ⟨.string ⟨Lb.toArray⟩, fun a w ha hin => ?_, nx hp hr w st hz sb⟩
    have hr1 := run_b2sB (c := c) (hin _ _ (sb _ _ (stat_pt st (show Sel (Pt b (.cells (byt Lb).toArray T (0, 0))) R R0 from hs)))) hm
    simp only [execOp, ha.ev (x := x) (by rw [evf_look]; exact hx), convert, run_und hts hrs, run_undS htd hrd, run_undI hT hTk, Sem.run_bind, Result.andThen, Sem.run_pure, hr1]
theorem l_b2sB {T T1 b m c : Nat} {Lb : List UInt8} {td : TypeId} {rs tr rd : TRow} (nx : Wl n C ops.toArray k Q l ((d, .string ⟨Lb.toArray⟩) :: E) F R) (hm : m = Lb.length)
    (hw : wantL ops E ⟨some d, .convert t td x, ty0, pos, aft, gd⟩ = some true := by rfl) (hn : Nat.blt d n = true := by rfl) (hx : ev E x = some (.slice (some ⟨b, 0, none⟩) m c) := by rfl)
    (hs : Sel (By T b Lb) R R0 := by (repeat (first | exact Sel.here | apply Sel.there)); first | done | fail) (hts : lookT tab t = some rs := by rfl) (hrs : rs.k = .slice T1 := by rfl) (hT : lookT tab T1 = some tr := by rfl) (hTk : tr.k = .int .u8 := by rfl) (htd : lookT tab td = some rd := by rfl) (hrd : rd.k = .str := by rfl) :
    Wl n C ops.toArray k Q (⟨some d, .convert t td x, ty0, pos, aft, gd⟩ :: l) E F R :=
  wl_op (fun t ht => by cases ht; exact Nat.le_of_ble_eq_true hn) (fun c hc => by cases hc) hw fun a w ha hsat => by
    have hr1 := run_b2sB (c := c) (hsat.pt (show Sel (Pt b (.cells (byt Lb).toArray T (0, 0))) R R0 from hs)) hm
    unfold OpRes
    simp only [execOp, ha.ev (x := x) (by rw [evf_look]; exact hx), convert, run_und hts hrs, run_undS htd hrd, run_undI hT hTk, Sem.run_bind, Result.andThen, Sem.run_pure, hr1]
    exact fun a' ha' => nx a' w ha' hsat

/-! Whole arrays, read and written. -/
theorem cutF_some {β : Type} : ∀ (l : List Value) (o m : Nat) (k : List Value → Option β), o + m ≤ l.length → cutF l o m k = k ((l.drop o).take m)
  | l, o, 0, k, _ => by cases l <;> cases o <;> simp [cutF]
  | [], o, m + 1, k, h => by simp at h
  | a :: l, 0, m + 1, k, h => by
    rw [cutF, cutF_some l 0 m _ (by simp at h ⊢; omega)]
    simp
  | a :: l, o + 1, m + 1, k, h => by
    rw [cutF, cutF_some l o (m + 1) k (by simp at h ⊢; omega)]
    simp
def arv (Lb : List UInt8) : Value := .agg (byt Lb).toArray
theorem ldv_arr {m T1 : Nat} {Lb : List UInt8} {rs : TRow} (hts : lookT tab t = some rs) (hrs : rs.k = .arr m T1) (hsz : rs.size = Lb.length) : ldv t (byt Lb) 0 = some (arv Lb) := by
  obtain ⟨kk, sz, by1, z⟩ := rs
  dsimp only at hrs hsz
  subst hrs hsz
  unfold ldv
  rw [hts]
  dsimp only
  rw [cutF_some _ _ _ _ (by simp [byt])]
  have : ((byt Lb).drop 0).take Lb.length = byt Lb := by rw [List.drop_zero, ← byt_len Lb, List.take_length]
  rw [this]; rfl
theorem l_ldB {T b m T1 : Nat} {Lb : List UInt8} {rs : TRow} (nx : Wl n C ops.toArray k Q l ((d, arv Lb) :: E) F R) (hm : m = Lb.length)
    (hw : wantL ops E ⟨some d, .load t x, ty0, pos, aft, gd⟩ = some true := by rfl) (hn : Nat.blt d n = true := by rfl) (hx : ev E x = some (.pointer (some ⟨b, 0, none⟩)) := by rfl)
    (hs : Sel (By T b Lb) R R0 := by (repeat (first | exact Sel.here | apply Sel.there)); first | done | fail) (hts : lookT tab t = some rs := by rfl) (hrs : rs.k = .arr m T1 := by rfl) (hsz : rs.size = m := by rfl) :
    Wl n C ops.toArray k Q (⟨some d, .load t x, ty0, pos, aft, gd⟩ :: l) E F R :=
  l_ld (cs := (byt Lb).toArray) (ty := T) (fzn := (0, 0)) nx hw hn hx (show Sel (Pt b (.cells (byt Lb).toArray T (0, 0))) R R0 from hs) (by rw [List.toList_toArray]; exact ldv_arr hts hrs (hsz.trans hm))
theorem l_stB {T b m : Nat} {L0 Lb : List UInt8} {rs : TRow} (nx : Wl n C ops.toArray k Q l E F (By T b Lb :: R0)) (hm : m = Lb.length) (hm0 : L0.length = Lb.length)
    (hw : wantL ops E ⟨none, .store t x y, ty0, pos, aft, gd⟩ = some true := by rfl) (hx : ev E x = some (.pointer (some ⟨b, 0, none⟩)) := by rfl) (hy : ev E y = some (arv Lb) := by rfl)
    (hs : Sel (By T b L0) R R0 := by (repeat (first | exact Sel.here | apply Sel.there)); first | done | fail) (hts : lookT tab t = some rs := by rfl) (hsz : rs.size = m := by rfl) :
    Wl n C ops.toArray k Q (⟨none, .store t x y, ty0, pos, aft, gd⟩ :: l) E F R :=
  l_st (cs := (byt L0).toArray) (ty := T) (cs' := byt Lb) nx hw hx hy (show Sel (Pt b (.cells (byt L0).toArray T (0, 0))) R R0 from hs) (by
    unfold stv
    rw [hts, List.toList_toArray]
    show (bif Nat.beq (byt Lb).toArray.toList.length rs.size && (byt Lb).toArray.toList.all one1 then putF (byt L0) 0 (byt Lb).toArray.toList some else none) = _
    rw [List.toList_toArray, one1_byt, byt_len, hsz, hm, Nat.beq_refl]
    show putF (byt L0) 0 (byt Lb) some = _
    rw [putF_some _ _ _ _ (by simp only [byt_len]; omega)]
    simp [byt, List.drop_eq_nil_of_le, hm0])
/-- An array as owned bytes. -/
theorem l_by {T b : Nat} {cs : Array Value} {Lb : List UInt8} (h : cs = (byt Lb).toArray) (nx : Wl n C ops.toArray k Q l E F (By T b Lb :: R0)) (hs : Sel (Pt b (.cells cs T (0, 0))) R R0 := by (repeat (first | exact Sel.here | apply Sel.there)); first | done | fail) : Wl n C ops.toArray k Q l E F R := by
  subst h; exact fun a w ha hsat => nx a w ha (hsat.sel hs)
theorem k_by {T b : Nat} {cs : Array Value} {Lb : List UInt8} (h : cs = (byt Lb).toArray) (nx : Wk n C k Q E F (By T b Lb :: R0)) (hs : Sel (Pt b (.cells cs T (0, 0))) R R0 := by (repeat (first | exact Sel.here | apply Sel.there)); first | done | fail) : Wk n C k Q E F R := by
  subst h; exact fun a w ha hsat => nx a w ha (hsat.sel hs)
end
end Go.Proofs.YtaijnpkdlopomaaGreatDoor

set_option maxRecDepth 10000
namespace Go.Proofs.YtaijnpkdlopomaaGreatDoor
open Go.RowKit

/-- A node. -/
structure Ino where
  kd : Int
  ow : Int
  gr : Int
  md : Int
  sz : Int
  lk : Int
  tg : ByteArray
  deriving DecidableEq
def inf (n : Ino) : List Value := [.int .i64 n.kd, .int .i64 n.ow, .int .i64 n.gr, .int .i64 n.md, .int .i64 n.sz, .int .i64 n.lk, .string n.tg]
def Ino.v (n : Ino) : Value := .agg #[.int .i64 n.kd, .int .i64 n.ow, .int .i64 n.gr, .int .i64 n.md, .int .i64 n.sz, .int .i64 n.lk, .string n.tg]
def Ino.z : Ino := ⟨0, 0, 0, 0, 0, 0, ⟨#[]⟩⟩
def badt (c : UInt8) : Bool := decide ((c.toNat : Int) < 32) || ((c.toNat : Int) == 127)
/-- What checkTarget answers. -/
def tchk (s : ByteArray) : Int := if isE s then 4 else if 256 < s.size then 5 else if s.data.toList.any badt then 6 else 0

/-- Whether a node's numbers fit. -/
def ifit (n : Ino) : Prop := 0 ≤ n.ow ∧ n.ow ≤ 65535 ∧ 0 ≤ n.gr ∧ n.gr ≤ 65535 ∧ 0 ≤ n.md ∧ n.md ≤ 2047 ∧ 0 ≤ n.sz ∧ n.sz ≤ 4096 ∧ 0 ≤ n.lk ∧ n.lk ≤ 1000
instance (n : Ino) : Decidable (ifit n) := by unfold ifit; infer_instance
/-- What Check answers. -/
def ichk (n : Ino) : Int :=
  if n.kd < 1 ∨ 3 < n.kd then 11
  else if ¬ ifit n then 2
  else if (n.kd ≠ 1 ∧ n.sz ≠ 0) ∨ (n.kd ≠ 3 ∧ isE n.tg = false) then 3
  else if n.kd ≠ 3 then 0
  else tchk n.tg

/-- The bytes of a node. -/
def ienc (n : Ino) : List UInt8 := ([n.kd, n.ow, n.gr, n.md, n.sz, n.lk].flatMap fun z => venc z.toNat) ++ venc n.tg.size ++ n.tg.data.toList
def iencS (n : Ino) : ByteArray := if ichk n = 0 then ⟨(ienc n).toArray⟩ else ⟨#[]⟩
theorem ichk_zero {n : Ino} (h : ichk n = 0) : (1 ≤ n.kd ∧ n.kd ≤ 3) ∧ ifit n ∧ n.tg.size ≤ 256 := by
  unfold ichk at h
  split at h
  · cases h
  · split at h
    · cases h
    · rename_i h1 h2
      split at h
      · cases h
      · rename_i h3
        refine ⟨by omega, by simpa using h2, ?_⟩
        split at h
        · rename_i h4
          have : isE n.tg = true := by
            cases hE : isE n.tg with
            | true => rfl
            | false => exact absurd (.inr ⟨h4, hE⟩) h3
          rw [isE_eq] at this
          rw [of_decide_eq_true this]; exact Nat.zero_le _
        · unfold tchk at h
          split at h
          · cases h
          · split at h
            · cases h
            · omega
theorem ienc_len {n : Ino} (h : ichk n = 0) : (ienc n).length ≤ 400 := by
  obtain ⟨h1, h2, h3⟩ := ichk_zero h
  have h4 := vencs_len [n.kd, n.ow, n.gr, n.md, n.sz, n.lk] (fun z hz => by
    unfold ifit at h2
    simp only [List.mem_cons, List.not_mem_nil, or_false] at hz
    rcases hz with rfl | rfl | rfl | rfl | rfl | rfl <;> omega)
  have h5 := venc_len10 n.tg.size (by omega)
  have s1 : n.tg.data.toList.length = n.tg.size := by simp
  simp only [ienc, List.length_append, List.length_cons, List.length_nil] at h4 ⊢
  omega
theorem iencS_size (n : Ino) : (iencS n).size ≤ 400 := by
  unfold iencS
  split
  · rename_i h
    have := ienc_len h
    show (ienc n).toArray.size ≤ _
    rw [List.size_toArray]; exact this
  · exact Nat.zero_le _

/-- What Decode makes of bytes. -/
def iread (s : RS) : Ino × RS :=
  let (a1, s1) := rnum s 3
  let (a2, s2) := rnum s1 65535
  let (a3, s3) := rnum s2 65535
  let (a4, s4) := rnum s3 2047
  let (a5, s5) := rnum s4 4096
  let (a6, s6) := rnum s5 1000
  let (a7, s7) := rtext s6 256
  (⟨a1, a2, a3, a4, a5, a6, a7⟩, s7)
def idec (s : ByteArray) : Option Ino :=
  let r := iread ⟨s.data.toList, 0, 0⟩
  if r.2.err = 0 ∧ r.2.rest = [] ∧ ichk r.1 = 0 then some r.1 else none

theorem rnum_le3 (s : RS) (m : Int) : (rnum s m).2.pos + (rnum s m).2.rest.length ≤ s.pos + s.rest.length := rstep_le 0 s _ (pnum_le _ _)
theorem rtext_le3 (s : RS) (m : Int) : (rtext s m).2.pos + (rtext s m).2.rest.length ≤ s.pos + s.rest.length := rstep_le _ s _ (ptext_le _ _)

theorem idec_inv {s : ByteArray} {n : Ino} (h : idec s = some n) : ichk n = 0 ∧ s.data.toList = ienc n := by
  unfold idec at h
  dsimp only at h
  split at h
  · rename_i hc
    obtain ⟨h1, h2, h3⟩ := hc
    obtain rfl := Option.some.inj h
    refine ⟨h3, ?_⟩
    unfold iread at h1 h2 ⊢
    dsimp only at h1 h2 ⊢
    obtain ⟨a1, a2, a3, a4⟩ := rtext_inv h1
    obtain ⟨b1, b2, b3, b4, b5⟩ := rnum_inv a1
    obtain ⟨c1, c2, c3, c4, c5⟩ := rnum_inv b1
    obtain ⟨d1, d2, d3, d4, d5⟩ := rnum_inv c1
    obtain ⟨e1, e2, e3, e4, e5⟩ := rnum_inv d1
    obtain ⟨f1, f2, f3, f4, f5⟩ := rnum_inv e1
    obtain ⟨g1, g2, g3, g4, g5⟩ := rnum_inv f1
    rw [h2] at a4
    refine Eq.trans (show s.data.toList = _ from g5) ?_
    rw [f5, e5, d5, c5, b5, a4]
    simp [ienc]
  · cases h
theorem idec_canon {s : ByteArray} {n : Ino} (h : idec s = some n) : iencS n = s := by
  obtain ⟨h1, h2⟩ := idec_inv h
  rw [iencS, if_pos h1, ← h2]
theorem idec_enc {n : Ino} (h : ichk n = 0) : idec (iencS n) = some n := by
  obtain ⟨h1, h2, h3⟩ := ichk_zero h
  unfold ifit at h2
  have e1 : ((n.kd.toNat : Nat) : Int) = n.kd := by omega
  have e2 : ((n.ow.toNat : Nat) : Int) = n.ow := by omega
  have e3 : ((n.gr.toNat : Nat) : Int) = n.gr := by omega
  have e4 : ((n.md.toNat : Nat) : Int) = n.md := by omega
  have e5 : ((n.sz.toNat : Nat) : Int) = n.sz := by omega
  have e6 : ((n.lk.toNat : Nat) : Int) = n.lk := by omega
  have hl : ienc n = venc n.kd.toNat ++ (venc n.ow.toNat ++ (venc n.gr.toNat ++ (venc n.md.toNat ++ (venc n.sz.toNat ++ (venc n.lk.toNat ++ (venc n.tg.size ++ n.tg.data.toList ++ [])))))) := by simp [ienc]
  have r1 := fun p => rnum_venc n.kd.toNat (by omega) (venc n.ow.toNat ++ (venc n.gr.toNat ++ (venc n.md.toNat ++ (venc n.sz.toNat ++ (venc n.lk.toNat ++ (venc n.tg.size ++ n.tg.data.toList ++ [])))))) p 3 (by omega)
  have r2 := fun p => rnum_venc n.ow.toNat (by omega) (venc n.gr.toNat ++ (venc n.md.toNat ++ (venc n.sz.toNat ++ (venc n.lk.toNat ++ (venc n.tg.size ++ n.tg.data.toList ++ []))))) p 65535 (by omega)
  have r3 := fun p => rnum_venc n.gr.toNat (by omega) (venc n.md.toNat ++ (venc n.sz.toNat ++ (venc n.lk.toNat ++ (venc n.tg.size ++ n.tg.data.toList ++ [])))) p 65535 (by omega)
  have r4 := fun p => rnum_venc n.md.toNat (by omega) (venc n.sz.toNat ++ (venc n.lk.toNat ++ (venc n.tg.size ++ n.tg.data.toList ++ []))) p 2047 (by omega)
  have r5 := fun p => rnum_venc n.sz.toNat (by omega) (venc n.lk.toNat ++ (venc n.tg.size ++ n.tg.data.toList ++ [])) p 4096 (by omega)
  have r6 := fun p => rnum_venc n.lk.toNat (by omega) (venc n.tg.size ++ n.tg.data.toList ++ []) p 1000 (by omega)
  have r7 := fun p => rtext_venc n.tg [] p 256 (by omega) (by omega)
  rw [iencS, if_pos h]
  unfold idec iread
  simp only [hl, r1, r2, r3, r4, r5, r6, r7, e1, e2, e3, e4, e5, e6]
  rw [if_pos ⟨trivial, trivial, h⟩]
end Go.Proofs.YtaijnpkdlopomaaGreatDoor

set_option maxRecDepth 10000
namespace Go.Proofs.YtaijnpkdlopomaaGreatDoor
open Go.RowKit

/-- A birth. -/
structure Bi where
  mkr : ByteArray
  nu : Int
  deriving DecidableEq
def Bi.v (b : Bi) : Value := .agg #[.string b.mkr, .int .i64 b.nu]
def Bi.z : Bi := ⟨⟨#[]⟩, 0⟩
def bchk (b : Bi) : Int := if lvalid b.mkr.data.toList = false then 12 else if 0 ≤ b.nu ∧ b.nu ≤ 1073741824 then 0 else 2
def nnm (b : Bi) : Nm := ⟨7, b.mkr, b.nu, 0, ⟨#[]⟩⟩
def bnm (b : Bi) (i : Int) : Nm := ⟨8, b.mkr, b.nu, i, ⟨#[]⟩⟩

theorem birthCheck_ok (b : Bi) (hb : b.mkr.size ≤ 1099511627776) : Enters 37 ∧ Spec Tryz.prog 37 #[b.v] [] [] (RetV (.int .i64 (bchk b))) := by
  have n1 := valid_ok b.mkr hb
  have n2 := within_ok b.nu 1073741824
  generalize hr : bchk b = r
  unfold bchk at hr
  cases hv : lvalid b.mkr.data.toList
  all_goals rw [hv] at n1 hr
  all_goals simp only [Bool.true_eq_false, if_true, if_false] at hr
  all_goals refine ⟨enters_of Tryz.func37 (by kernel_rfl) rfl, spec_of (vs := [_]) Tryz.func37 rfl Tryz.ntmps37 rfl fun G w hp => ?_⟩
  all_goals repeat' (first | refine l_run ?_ | refine l_nil ?_ | refine l_one ?_ | refine k_reg ?_ | refine l_ld ?_ | refine l_ldF ?_ | refine l_st ?_ | refine l_al (fun b => ?_) | refine l_bs (fun b => ?_) | refine k_condT ?_ | refine k_condF ?_ | refine k_brk ?_ | refine l_call (n1) (fun _ _ => ?_) | refine l_call0 (n1) (fun _ _ => ?_) | refine l_call (n2) (fun _ _ => ?_) | refine l_call0 (n2) (fun _ _ => ?_) | (refine l_split (fun hc => ?_) (fun hc => ?_) <;> (try simp at hc) <;> (try omega)) | (refine k_cond (fun hc => ?_) (fun hc => ?_) <;> (try simp at hc) <;> (try omega)))
  all_goals first
    | (subst hr; exact k_ret () rfl trivial)
    | (rw [if_pos (by simp_all)] at hr; subst hr; exact k_ret () rfl trivial)
    | (rw [if_neg (by simp_all; omega)] at hr; subst hr; exact k_ret () rfl trivial)
/-- What Get answers. -/
def iget (es : Al) (cs : List Ch) (b : Bi) : Ino × Int :=
  if bchk b ≠ 0 then (Ino.z, bchk b) else if (vget es cs (nnm b)).2 then ((idec (vget es cs (nnm b)).1).getD Ino.z, if (idec (vget es cs (nnm b)).1).isSome then 0 else 3) else (Ino.z, 8)
def igetR (es : Al) (rs : List (Nm × Ch)) (cs : List Ch) (b : Bi) : List (Nm × Ch) := if bchk b ≠ 0 then rs else vread es rs cs (nnm b)

/-- What file answers. -/
def ifile (es : Al) (cs : List Ch) (b : Bi) : Ino × Int :=
  if (iget es cs b).2 ≠ 0 then (Ino.z, (iget es cs b).2) else if (iget es cs b).1.kd = 2 then (Ino.z, 15) else if (iget es cs b).1.kd = 3 then (Ino.z, 11) else ((iget es cs b).1, 0)
/-- Bytes made 64. -/
def pad64 (s : ByteArray) : List UInt8 := cpy (List.replicate 64 0) 0 s 64
theorem pad64_len (s : ByteArray) : (pad64 s).length = 64 := by rw [pad64, cpy_len (by simp)]; simp
end Go.Proofs.YtaijnpkdlopomaaGreatDoor

set_option maxRecDepth 10000
namespace Go.Proofs.YtaijnpkdlopomaaGreatDoor
open Go.RowKit

def cvs (c : Ct) : ByteArray := ⟨(cenc c).toArray⟩
theorem cvs_size {c : Ct} (h : CtOK c) : (cvs c).size ≤ 30 := by
  have := cenc_len h
  show (cenc c).toArray.size ≤ _
  rw [List.size_toArray]; exact this
theorem chk_cnm {who : ByteArray} (h : lvalid who.data.toList = true) : nchk (cnm who) = 0 := by
  have h2 : isE ⟨#[]⟩ = true := by simp [isE]
  rw [nchk, if_pos (by simp [cnm])]
  show uchk ⟨_, true, false, false, false, 0⟩ (cnm who) = 0
  have h1 : lvalid (cnm who).owner.data.toList = true := h
  simp [uchk, h, h2, cnm]
theorem chk_nnm {b : Bi} (h : bchk b = 0) : nchk (nnm b) = 0 := by
  unfold bchk at h
  split at h
  · cases h
  · rename_i hv
    split at h
    · rename_i hn
      have hv : lvalid b.mkr.data.toList = true := by simpa using hv
      have h2 : isE ⟨#[]⟩ = true := by simp [isE]
      rw [nchk, if_pos (by simp [nnm])]
      show uchk ⟨_, true, true, false, false, 0⟩ (nnm b) = 0
      simp [uchk, nnm, hv, h2, within, hn]
    · cases h
theorem chk_bnm {b : Bi} {i : Int} (h : bchk b = 0) (hi : 0 ≤ i ∧ i ≤ 63) : nchk (bnm b i) = 0 := by
  unfold bchk at h
  split at h
  · cases h
  · rename_i hv
    split at h
    · rename_i hn
      have hv : lvalid b.mkr.data.toList = true := by simpa using hv
      have h2 : isE ⟨#[]⟩ = true := by simp [isE]
      rw [nchk, if_pos (by simp [bnm])]
      show uchk ⟨_, true, true, true, false, 63⟩ (bnm b i) = 0
      simp [uchk, bnm, hv, h2, within, hn, hi]
    · cases h
theorem enc_cdec {c : Ct} (h : CtOK c) : cdec (cvs c) = some c := by
  obtain ⟨h1, h2, h3, h4, h5, h6⟩ := h
  have e1 : ((c.b.toNat : Nat) : Int) = c.b := by omega
  have e2 : ((c.o.toNat : Nat) : Int) = c.o := by omega
  have e3 : ((c.c.toNat : Nat) : Int) = c.c := by omega
  unfold cdec cread cvs
  have r1 := rnum_venc c.b.toNat (by omega) (venc c.o.toNat ++ venc c.c.toNat) 0 1048576 (by omega)
  have hl : cenc c = venc c.b.toNat ++ (venc c.o.toNat ++ venc c.c.toNat) := by simp [cenc]
  have r2 := rnum_venc c.o.toNat (by omega) (venc c.c.toNat) (0 + (venc c.b.toNat).length) 1048576 (by omega)
  have r3 := rnum_venc c.c.toNat (by omega) [] (0 + (venc c.b.toNat).length + (venc c.o.toNat).length) 1048576 (by omega)
  rw [List.append_nil] at r3
  simp only [hl, r1, r2, r3, e1, e2, e3]
  simp
theorem rnum_in (s : RS) (m : Int) (hm : 0 ≤ m) : 0 ≤ (rnum s m).1 ∧ (rnum s m).1 ≤ m := by
  unfold rnum rstep
  split
  · exact ⟨Int.le_refl _, hm⟩
  · split
    · exact ⟨Int.le_refl _, hm⟩
    · rename_i h
      simp only [ne_eq, Decidable.not_not] at h
      unfold pnum at h ⊢
      dsimp only at h ⊢
      refine ⟨Int.natCast_nonneg _, ?_⟩
      split at h
      · cases h
      · rename_i h2
        rw [h] at h2
        simp at h2; omega
theorem cdec_ok {s : ByteArray} {c : Ct} (h : cdec s = some c) : CtOK c := by
  unfold cdec at h
  dsimp only at h
  split at h
  · obtain rfl := Option.some.inj h
    unfold cread
    dsimp only
    have h1 := rnum_in ⟨s.data.toList, 0, 0⟩ 1048576 (by decide)
    have h2 := rnum_in (rnum ⟨s.data.toList, 0, 0⟩ 1048576).2 1048576 (by decide)
    have h3 := rnum_in (rnum (rnum ⟨s.data.toList, 0, 0⟩ 1048576).2 1048576).2 1048576 (by decide)
    exact ⟨h1.1, h1.2, h2.1, h2.2, h3.1, h3.2⟩
  · cases h
theorem made_fit {es : Al} {cs : List Ch} {who : ByteArray} (h : (madeE es cs who).2 = 0) : lvalid who.data.toList = true ∧ CtOK (madeE es cs who).1 := by
  unfold madeE at h ⊢
  split at h
  · rename_i hv
    rw [if_pos hv]
    refine ⟨hv, ?_⟩
    split at h
    · rename_i hp
      rw [if_pos hp]
      dsimp only at h ⊢
      cases hd : cdec (vget es cs (cnm who)).1 with
      | none => rw [hd] at h; cases h
      | some c => exact cdec_ok hd
    · rename_i hp
      rw [if_neg hp]
      exact ⟨by decide, by decide, by decide, by decide, by decide, by decide⟩
  · cases h

/-- What NextBirth answers, and what it writes. -/
def nbE (es : Al) (cs : List Ch) (who : ByteArray) : Bi × Int :=
  if (madeE es cs who).2 ≠ 0 then (Bi.z, (madeE es cs who).2) else if (madeE es cs who).1.b = 1048576 then (Bi.z, 9) else (⟨who, (madeE es cs who).1.b⟩, 0)
def nbC (es : Al) (cs : List Ch) (who : ByteArray) : List Ch :=
  if (nbE es cs who).2 = 0 then cs ++ [⟨cnm who, cvs { (madeE es cs who).1 with b := (madeE es cs who).1.b + 1 }, false⟩] else cs

/-- What Make answers, and what it writes. -/
def mkE (es : Al) (cs : List Ch) (who : ByteArray) (nd : Ino) : Bi × Int :=
  if ichk nd ≠ 0 then (Bi.z, ichk nd) else if nd.sz ≠ 0 then (Bi.z, 2) else nbE es cs who
def mkC (es : Al) (cs : List Ch) (who : ByteArray) (nd : Ino) : List Ch :=
  if (mkE es cs who nd).2 = 0 then nbC es cs who ++ [⟨nnm (mkE es cs who nd).1, iencS nd, false⟩] else cs
def mkR (es : Al) (rs : List (Nm × Ch)) (cs : List Ch) (who : ByteArray) (nd : Ino) : List (Nm × Ch) := if ichk nd = 0 ∧ nd.sz = 0 then madeR es rs cs who else rs
theorem nb_bchk {es : Al} {cs : List Ch} {who : ByteArray} (h : (nbE es cs who).2 = 0) : bchk (nbE es cs who).1 = 0 ∧ (nbE es cs who).1.mkr = who := by
  unfold nbE at h ⊢
  split at h
  · rename_i h1; exact absurd h h1
  · rename_i h1
    rw [if_neg h1]
    split at h
    · cases h
    · rename_i h2
      rw [if_neg h2]
      obtain ⟨hv, hc⟩ := made_fit (by simpa using h1)
      have := hc.b0
      have := hc.b1
      refine ⟨?_, rfl⟩
      unfold bchk
      rw [if_neg (by simp [hv]), if_pos (by constructor <;> dsimp only <;> omega)]

theorem nb_z {es : Al} {cs : List Ch} {who : ByteArray} (h : (nbE es cs who).2 ≠ 0) : (nbE es cs who).1 = Bi.z := by
  unfold nbE at h ⊢
  split
  · rfl
  · rename_i h1
    rw [if_neg h1] at h
    split
    · rfl
    · rename_i h2
      rw [if_neg h2] at h
      exact absurd rfl h

end Go.Proofs.YtaijnpkdlopomaaGreatDoor

set_option maxRecDepth 10000
namespace Go.Proofs.YtaijnpkdlopomaaGreatDoor
open Go.RowKit

/-- A part of a block. -/
structure Pp where
  bl : Nat
  fr : Nat
  to : Nat
def Pp.v (p : Pp) : Value := .agg #[.int .i64 (p.bl : Int), .int .i64 (p.fr : Int), .int .i64 (p.to : Int)]
/-- The parts of blocks that bytes meet. -/
def pts (a t : Nat) : List Pp :=
  if a < t then ⟨a / 64, a - a / 64 * 64, min t (a / 64 * 64 + 64) - a / 64 * 64⟩ :: pts (min t (a / 64 * 64 + 64)) t else []
termination_by t - a
decreasing_by omega

/-! Write. -/
/-- What one part's bytes are, and what it reads. -/
def wnew (es : Al) (cs : List Ch) (bi : Bi) (f : Nat) (s : ByteArray) (p : Pp) : List UInt8 :=
  cpy (if p.to - p.fr < 64 then pad64 (vget es cs (bnm bi p.bl)).1 else List.replicate 64 0) p.fr (s.extract (p.bl * 64 + p.fr - f) s.size) (p.to - p.fr)
def wstep (es : Al) (bi : Bi) (f : Nat) (s : ByteArray) (q : List (Nm × Ch) × List Ch) (p : Pp) : List (Nm × Ch) × List Ch :=
  (if p.to - p.fr < 64 then vread es q.1 q.2 (bnm bi p.bl) else q.1, q.2 ++ [⟨bnm bi p.bl, ⟨(wnew es q.2 bi f s p).toArray⟩, false⟩])
def wfold (es : Al) (bi : Bi) (f : Nat) (s : ByteArray) (q : List (Nm × Ch) × List Ch) (l : List Pp) : List (Nm × Ch) × List Ch := l.foldl (wstep es bi f s) q
theorem wfold_snoc (es : Al) (bi : Bi) (f : Nat) (s : ByteArray) (q : List (Nm × Ch) × List Ch) (l : List Pp) (p : Pp) : wfold es bi f s q (l ++ [p]) = wstep es bi f s (wfold es bi f s q l) p := by simp [wfold]
theorem wfold_len (es : Al) (bi : Bi) (f : Nat) (s : ByteArray) : ∀ (l : List Pp) (q : List (Nm × Ch) × List Ch), (wfold es bi f s q l).2.length = q.2.length + l.length
  | [], q => rfl
  | p :: l, q => by
    show (wfold es bi f s (wstep es bi f s q p) l).2.length = _
    rw [wfold_len es bi f s l]
    simp [wstep]; omega
/-- What holds of each part. -/
theorem pts_mem : ∀ (k a t : Nat), t - a ≤ k → ∀ p ∈ pts a t, a ≤ p.bl * 64 + p.fr ∧ p.fr < p.to ∧ p.to ≤ 64 ∧ p.bl * 64 + p.to ≤ t
  | 0, a, t, hk, p, hp => by
    rw [pts, if_neg (by omega)] at hp
    cases hp
  | k + 1, a, t, hk, p, hp => by
    rw [pts] at hp
    split at hp
    · rename_i hlt
      rcases List.mem_cons.1 hp with rfl | hp
      · dsimp only; omega
      · have := pts_mem k (min t (a / 64 * 64 + 64)) t (by omega) p hp
        omega
    · cases hp
theorem pts_len : ∀ (k a t : Nat), t - a ≤ k → (pts a t).length ≤ t - a
  | 0, a, t, hk => by rw [pts, if_neg (by omega)]; simp
  | k + 1, a, t, hk => by
    rw [pts]
    split
    · have := pts_len k (min t (a / 64 * 64 + 64)) t (by omega)
      simp only [List.length_cons]; omega
    · simp

/-- A file's node may have another size. -/
theorem ichk_size {nd : Ino} {z : Int} (h : ichk nd = 0) (hk : nd.kd ≠ 2) (hk3 : nd.kd ≠ 3) (hz : 0 ≤ z ∧ z ≤ 4096) : ichk { nd with sz := z } = 0 := by
  obtain ⟨h1, h2, h3⟩ := ichk_zero h
  have hk1 : nd.kd = 1 := by omega
  unfold ichk at h ⊢
  unfold ifit at *
  dsimp only at *
  rw [if_neg (by omega), if_neg (by omega)] at h ⊢
  split at h
  · cases h
  · rename_i h4
    rw [if_neg (fun h5 => h4 (by rcases h5 with ⟨h5, _⟩ | h5; exact absurd hk1 h5; exact .inr h5)), if_pos (by omega)]
theorem ifile_ok {es : Al} {cs : List Ch} {bi : Bi} (h : (ifile es cs bi).2 = 0) : bchk bi = 0 ∧ ichk (ifile es cs bi).1 = 0 ∧ (ifile es cs bi).1.kd ≠ 2 ∧ (ifile es cs bi).1.kd ≠ 3 := by
  unfold ifile at h ⊢
  split at h
  · rename_i h1; exact absurd h h1
  · rename_i h1
    rw [if_neg h1]
    split at h
    · cases h
    · rename_i h2
      rw [if_neg h2]
      split at h
      · cases h
      · rename_i h3
        rw [if_neg h3]
        simp only [ne_eq, Decidable.not_not] at h1
        unfold iget at h1 h2 h3 ⊢
        split at h1
        · rename_i h4; exact absurd h1 h4
        · rename_i h4
          rw [if_neg h4] at h2 h3 ⊢
          split at h1
          · rename_i h5
            rw [if_pos h5] at h2 h3 ⊢
            dsimp only at h1 h2 h3 ⊢
            cases hd : idec (vget es cs (nnm bi)).1 with
            | none => rw [hd] at h1; cases h1
            | some nd =>
              rw [hd] at h2 h3
              exact ⟨by simpa using h4, (idec_inv hd).1, h2, h3⟩
          · cases h1

abbrev JWL (b : Nat) (ps : Option Addr) (q : List (Nm × Ch) × List Ch) : List HP := [Vw b ps q.1 q.2]
def JW (b : Nat) (ps : Option Addr) (es : Al) (bi : Bi) (f : Nat) (s : ByteArray) (q : List (Nm × Ch) × List Ch) (pre : List Pp) : HP := Vw b ps (wfold es bi f s q pre).1 (wfold es bi f s q pre).2

/-- What Write answers, and what it reads and writes. -/
def iwE (es : Al) (cs : List Ch) (bi : Bi) (f : Int) (s : ByteArray) : Int × Int :=
  if (ifile es cs bi).2 ≠ 0 then (0, (ifile es cs bi).2) else if f < 0 ∨ 4096 < f then (0, 2) else if f = 4096 ∧ isE s = false then (0, 26) else ((min s.size (4096 - f.toNat) : Nat), 0)
def iwQ (es : Al) (rs : List (Nm × Ch)) (cs : List Ch) (bi : Bi) (f : Nat) (s : ByteArray) : List (Nm × Ch) × List Ch := wfold es bi f s (igetR es rs cs bi, cs) (pts f (f + min s.size (4096 - f)))
def iwN (es : Al) (cs : List Ch) (bi : Bi) (f : Nat) (s : ByteArray) : List Ch :=
  if 0 < min s.size (4096 - f) ∧ (ifile es cs bi).1.sz < ((f + min s.size (4096 - f) : Nat) : Int) then [⟨nnm bi, iencS { (ifile es cs bi).1 with sz := ((f + min s.size (4096 - f) : Nat) : Int) }, false⟩] else []

end Go.Proofs.YtaijnpkdlopomaaGreatDoor

set_option maxRecDepth 10000
namespace Go.Proofs.YtaijnpkdlopomaaGreatDoor
open Go.RowKit

theorem getO_applyE (n : Nm) : ∀ (l : List Ch) (es : Al), (l.map (·.nm)).Nodup → getO n (applyE es l) = match l.find? (fun c => decide (c.nm = n)) with | some c => some c.val | none => getO n es
  | [], es, _ => rfl
  | c :: l, es, h => by
    simp only [List.map_cons, List.nodup_cons] at h
    show getO n (applyE (insO c.nm c.val es) l) = _
    rw [getO_applyE n l _ h.2, List.find?_cons]
    by_cases hc : c.nm = n
    · have hn : l.find? (fun c => decide (c.nm = n)) = none := List.find?_eq_none.2 fun x hx => by
        simp only [decide_eq_true_eq]
        intro e
        exact h.1 (List.mem_map.2 ⟨x, hx, e.trans hc.symm⟩)
      rw [hn]
      simp [hc, getO_ins]
    · simp only [hc, decide_false]
      cases l.find? (fun c => decide (c.nm = n)) with
      | some c' => rfl
      | none => dsimp only; rw [getO_ins, if_neg (fun e => hc e.symm)]
theorem vwr_nodup (cs : List Ch) : ((vwr cs).map (·.nm)).Nodup := by
  have h1 : ((vwr cs).map (·.nm)).Perm (((lastL cs).map (chAt cs)).map (·.nm)) := (srtC_perm _).map _
  refine h1.nodup_iff.2 ?_
  have h2 : ((lastL cs).map (chAt cs)).map (·.nm) = (lastL cs).map (·.1) := by
    rw [List.map_map]
    refine List.map_congr_left fun p hp => (chAt_nm hp).2
  rw [h2]
  exact lastL_nodup cs
theorem vwr_mem {cs : List Ch} {c : Ch} : c ∈ vwr cs ↔ vcall cs c.nm = some c := by
  rw [vwr, (srtC_perm _).mem_iff, List.mem_map]
  constructor
  · rintro ⟨p, hp, rfl⟩
    obtain ⟨h1, h2⟩ := chAt_nm hp
    have h3 := (mget_mem (lastL cs) (lastL_nodup cs) p.1 p.2).2 hp
    obtain ⟨c, h4, h5⟩ := (lastL_get p.1 cs).1 p.2 h3
    rw [h1] at h4
    rw [h2, h5, ← h4]
  · intro h
    cases hg : mget c.nm (lastL cs) with
    | none => rw [(lastL_get c.nm cs).2 hg] at h; cases h
    | some i =>
      obtain ⟨c', h1, h2⟩ := (lastL_get c.nm cs).1 i hg
      rw [h] at h2
      obtain rfl := Option.some.inj h2
      refine ⟨(c.nm, i), (mget_mem (lastL cs) (lastL_nodup cs) c.nm i).1 hg, ?_⟩
      simp [chAt, h1]
theorem find_vwr (cs : List Ch) (n : Nm) : (vwr cs).find? (fun c => decide (c.nm = n)) = vcall cs n := by
  cases h : (vwr cs).find? (fun c => decide (c.nm = n)) with
  | some c =>
    have h1 := List.mem_of_find?_eq_some h
    have h2 := List.find?_some h
    simp only [decide_eq_true_eq] at h2
    rw [← h2]
    exact (vwr_mem.1 h1).symm
  | none =>
    cases hc : vcall cs n with
    | none => rfl
    | some c =>
      obtain ⟨h1, _⟩ := vcall_nm hc
      have h2 : c ∈ vwr cs := vwr_mem.2 (by rw [h1]; exact hc)
      have := List.find?_eq_none.1 h c h2
      simp [h1] at this
/-- What is read behind the changes. -/
theorem getO_after (es : Al) (cs : List Ch) (n : Nm) : getO n (applyE es (vwr cs)) = match vcall cs n with | some c => some c.val | none => getO n es := by
  rw [getO_applyE n _ es (vwr_nodup cs), find_vwr]
end Go.Proofs.YtaijnpkdlopomaaGreatDoor

set_option maxRecDepth 10000
namespace Go.Proofs.YtaijnpkdlopomaaGreatDoor
open Go.RowKit

theorem Spec.ex {P : Program} {f : FuncId} {args : Array Value} {F : List Pf} {R : List HP} {post : Post} {X : Type} {r : HP} {Lx : X → List HP} {p : X → Prop} (h : ∀ hh, r hh → ∃ x, p x ∧ Sep (Lx x) hh) (t : ∀ x, p x → Spec P f args F (Lx x ++ R) post) : Spec P f args F (r :: R) post := fun G w hp hs => by
  obtain ⟨⟨x, hx⟩, h1⟩ := hs.open' (X := { x // p x }) (L := fun x => Lx x.1) fun hh hr => let ⟨x, h1, h2⟩ := h hh hr; ⟨⟨x, h1⟩, h2⟩
  exact t x hx G w hp h1

/-- A writer in a state: what it holds, and its first error. -/
abbrev WtL (b : Nat) (o : Option Addr) (cap : Nat) (e : Int) (bs : List UInt8) : List HP := [Pt b (.cells #[.slice o bs.length cap, .int .i64 e] 151), Row 5 1 o bs.length cap (byt bs)]
/-- Some writer, of at most so many bytes. -/
def WtA (b k : Nat) : HP := fun h => ∃ q : (Option Addr × Nat) × Int × List UInt8, q.2.2.length ≤ k ∧ Sep (WtL b q.1.1 q.1.2 q.2.1 q.2.2) h
theorem wta_of {b k : Nat} {o : Option Addr} {cap : Nat} {e : Int} {bs : List UInt8} (hl : bs.length ≤ k) (h : H) (hh : Sep (WtL b o cap e bs) h) : WtA b k h := ⟨((o, cap), e, bs), hl, hh⟩
theorem wta_wtr {b k : Nat} {bs : List UInt8} (hl : bs.length ≤ k) (h : H) (hh : Wtr b bs h) : WtA b k h := by
  obtain ⟨q, hq⟩ := hh
  exact ⟨((q.1, q.2), 0, bs), hl, hq⟩

theorem worksA_ok (b : Nat) (o : Option Addr) (cap : Nat) (e : Int) (bs : List UInt8) : Enters 82 ∧ Spec Tryz.prog 82 #[.pointer (some ⟨b, 0, none⟩)] [] (WtL b o cap e bs) ⟨Unit, fun _ => .bool (e == 0), fun _ => True, fun _ => [], fun _ => WtL b o cap e bs⟩ := by
  refine ⟨enters_of Tryz.func82 (by kernel_rfl) rfl, spec_of (vs := [_]) Tryz.func82 rfl Tryz.ntmps82 rfl fun G w hp => ?_⟩
  repeat' (first | refine l_run ?_ | refine l_nil ?_ | refine l_one ?_ | refine k_reg ?_ | refine l_ld ?_ | refine l_ldF ?_ | refine l_st ?_ | refine l_al (fun b => ?_) | refine l_bs (fun b => ?_) | refine k_condT ?_ | refine k_condF ?_ | refine k_brk ?_ | refine l_split (fun hc => ?_) (fun hc => ?_) | refine k_cond (fun hc => ?_) (fun hc => ?_))
  exact k_ret () rfl trivial
theorem sep_one {x : HP} {h : H} (hh : Sep [x] h) : ∃ k, Sub k h ∧ x k := by
  obtain ⟨h1, _, _, s1, _, hx, _⟩ := hh
  exact ⟨h1, s1, hx⟩
theorem wtr_mono {b : Nat} {bs : List UInt8} {h k : H} (s : Sub h k) (hw : Wtr b bs h) : Wtr b bs k := by
  obtain ⟨q, hq⟩ := hw
  exact ⟨q, hq.sub s⟩

theorem numberA_ok (b k : Nat) (z : Int) (hz : z < 9223372036854775808) (hk : k ≤ 1099511627776) : Enters 39 ∧ Spec Tryz.prog 39 #[.pointer (some ⟨b, 0, none⟩), .int .i64 z] [] [WtA b k] ⟨Unit, fun _ => .tuple #[], fun _ => True, fun _ => [], fun _ => [WtA b (k + 10)]⟩ := by
  refine ⟨(wtrNumber_ok b [] 0 (by omega) (by simp)).1, ?_⟩
  refine Spec.ex (X := (Option Addr × Nat) × Int × List UInt8) (Lx := fun q => WtL b q.1.1 q.1.2 q.2.1 q.2.2) (p := fun q => q.2.2.length ≤ k) (fun h hh => hh) fun q hq => ?_
  obtain ⟨⟨o, cap⟩, e, bs⟩ := q
  dsimp only at hq ⊢
  have n1 := worksA_ok b o cap e bs
  by_cases he : e = 0
  · subst he
    by_cases hz0 : z < 0
    · suffices hs : Enters 39 ∧ Spec Tryz.prog 39 #[.pointer (some ⟨b, 0, none⟩), .int .i64 z] [] (WtL b o cap 0 bs ++ []) ⟨Unit, fun _ => .tuple #[], fun _ => True, fun _ => [], fun _ => [WtA b (k + 10)]⟩ from hs.2
      refine ⟨enters_of Tryz.func39 (by kernel_rfl) rfl, spec_of (vs := [_, _]) Tryz.func39 rfl Tryz.ntmps39 rfl fun G w hp => ?_⟩
      repeat' (first | refine l_run ?_ | refine l_nil ?_ | refine l_one ?_ | refine k_reg ?_ | refine l_ld ?_ | refine l_ldF ?_ | refine l_st ?_ | refine l_al (fun b => ?_) | refine l_bs (fun b => ?_) | refine k_condT ?_ | refine k_condF ?_ | refine k_brk ?_ | refine l_call (n1) (fun _ _ => ?_) | refine l_call0 (n1) (fun _ _ => ?_) | (refine l_split (fun hc => ?_) (fun hc => ?_) <;> (try simp at hc) <;> (try omega)) | (refine k_cond (fun hc => ?_) (fun hc => ?_) <;> (try simp at hc) <;> (try omega)))
      refine k_shut (r := WtA b (k + 10)) (Lx := WtL b o cap 2 bs) (fun h hh => wta_of (by omega) h hh) ?_
      exact k_ret () rfl trivial
    · have h2 := venc_len10 z.toNat (by omega)
      have h1 := wtrNumber_ok b bs z.toNat (by omega) (by omega)
      rw [show ((z.toNat : Nat) : Int) = z by omega] at h1
      intro G w hp hs
      have hs' : Sat G w hp [] [Wtr b bs] w := (show Sat G w hp [] (WtL b o cap 0 bs ++ []) w from hs).shut (x := Wtr b bs) (R := []) fun h hh => ⟨(o, cap), hh⟩
      refine (h1.2.imp fun G w hp x w' _ hs2 => ?_) G w hp hs'
      refine ⟨(), rfl, trivial, hs2.res fun h hh => ?_⟩
      obtain ⟨h1', h2', d, s1, s2, hx, hr⟩ := hh
      exact ⟨h1', h2', d, s1, s2, wta_wtr (by simp only [List.length_append]; omega) _ hx, hr⟩
  · suffices hs : Enters 39 ∧ Spec Tryz.prog 39 #[.pointer (some ⟨b, 0, none⟩), .int .i64 z] [] (WtL b o cap e bs ++ []) ⟨Unit, fun _ => .tuple #[], fun _ => True, fun _ => [], fun _ => [WtA b (k + 10)]⟩ from hs.2
    rw [show (e == 0) = false by simp [he]] at n1
    refine ⟨enters_of Tryz.func39 (by kernel_rfl) rfl, spec_of (vs := [_, _]) Tryz.func39 rfl Tryz.ntmps39 rfl fun G w hp => ?_⟩
    repeat' (first | refine l_run ?_ | refine l_nil ?_ | refine l_one ?_ | refine k_reg ?_ | refine l_ld ?_ | refine l_ldF ?_ | refine l_st ?_ | refine l_al (fun b => ?_) | refine l_bs (fun b => ?_) | refine k_condT ?_ | refine k_condF ?_ | refine k_brk ?_ | refine l_call (n1) (fun _ _ => ?_) | refine l_call0 (n1) (fun _ _ => ?_) | (refine l_split (fun hc => ?_) (fun hc => ?_) <;> (try simp at hc) <;> (try omega)) | (refine k_cond (fun hc => ?_) (fun hc => ?_) <;> (try simp at hc) <;> (try omega)))
    refine k_shut (r := WtA b (k + 10)) (Lx := WtL b o cap e bs) (fun h hh => wta_of (by omega) h hh) ?_
    exact k_ret () rfl trivial

theorem textA_ok (b k : Nat) (s : ByteArray) (hs : s.size ≤ 16777216) (hk : k ≤ 1000000000) : Enters 40 ∧ Spec Tryz.prog 40 #[.pointer (some ⟨b, 0, none⟩), .string s] [] [WtA b k] ⟨Unit, fun _ => .tuple #[], fun _ => True, fun _ => [], fun _ => [WtA b (k + 10 + s.size)]⟩ := by
  refine ⟨(wtrText_ok b [] s hs (by simp)).1, ?_⟩
  refine Spec.ex (X := (Option Addr × Nat) × Int × List UInt8) (Lx := fun q => WtL b q.1.1 q.1.2 q.2.1 q.2.2) (p := fun q => q.2.2.length ≤ k) (fun h hh => hh) fun q hq => ?_
  obtain ⟨⟨o, cap⟩, e, bs⟩ := q
  dsimp only at hq ⊢
  have n1 := worksA_ok b o cap e bs
  by_cases he : e = 0
  · subst he
    have h2 := venc_len10 s.size (by omega)
    have s1 : s.data.toList.length = s.size := by simp
    have h1 := wtrText_ok b bs s hs (by omega)
    intro G w hp hs
    have hs' : Sat G w hp [] [Wtr b bs] w := (show Sat G w hp [] (WtL b o cap 0 bs ++ []) w from hs).shut (x := Wtr b bs) (R := []) fun h hh => ⟨(o, cap), hh⟩
    refine (h1.2.imp fun G w hp x w' _ hs2 => ?_) G w hp hs'
    refine ⟨(), rfl, trivial, hs2.res fun h hh => ?_⟩
    obtain ⟨h1', h2', d, s1', s2, hx, hr⟩ := hh
    exact ⟨h1', h2', d, s1', s2, wta_wtr (by simp only [List.length_append]; omega) _ hx, hr⟩
  · suffices hs : Enters 40 ∧ Spec Tryz.prog 40 #[.pointer (some ⟨b, 0, none⟩), .string s] [] (WtL b o cap e bs ++ []) ⟨Unit, fun _ => .tuple #[], fun _ => True, fun _ => [], fun _ => [WtA b (k + 10 + s.size)]⟩ from hs.2
    rw [show (e == 0) = false by simp [he]] at n1
    refine ⟨enters_of Tryz.func40 (by kernel_rfl) rfl, spec_of (vs := [_, _]) Tryz.func40 rfl Tryz.ntmps40 rfl fun G w hp => ?_⟩
    repeat' (first | refine l_run ?_ | refine l_nil ?_ | refine l_one ?_ | refine k_reg ?_ | refine l_ld ?_ | refine l_ldF ?_ | refine l_st ?_ | refine l_al (fun b => ?_) | refine l_bs (fun b => ?_) | refine k_condT ?_ | refine k_condF ?_ | refine k_brk ?_ | refine l_call (n1) (fun _ _ => ?_) | refine l_call0 (n1) (fun _ _ => ?_) | (refine l_split (fun hc => ?_) (fun hc => ?_) <;> (try simp at hc) <;> (try omega)) | (refine k_cond (fun hc => ?_) (fun hc => ?_) <;> (try simp at hc) <;> (try omega)))
    refine k_shut (r := WtA b (k + 10 + s.size)) (Lx := WtL b o cap e bs) (fun h hh => wta_of (by omega) h hh) ?_
    exact k_ret () rfl trivial

/-- Bytes of some writer. -/
def BtA (b k : Nat) : Post := ⟨(Option Addr × Nat × Nat) × Int, fun q => .tuple #[.slice q.1.1 q.1.2.1 q.1.2.2, .int .i64 q.2], fun _ => True, fun _ => [], fun _ => [WtA b k]⟩
theorem bytesA_ok (b k : Nat) (hk : k ≤ 1099511627776) : Enters 41 ∧ Spec Tryz.prog 41 #[.pointer (some ⟨b, 0, none⟩)] [] [WtA b k] (BtA b k) := by
  refine ⟨(wtrBytes_ok b [] (by simp)).1, ?_⟩
  refine Spec.ex (X := (Option Addr × Nat) × Int × List UInt8) (Lx := fun q => WtL b q.1.1 q.1.2 q.2.1 q.2.2) (p := fun q => q.2.2.length ≤ k) (fun h hh => hh) fun q hq => ?_
  obtain ⟨⟨o, cap⟩, e, bs⟩ := q
  dsimp only at hq ⊢
  by_cases he : e = 0
  · subst he
    have h1 := wtrBytes_ok b bs (by omega)
    intro G w hp hs
    have hs' : Sat G w hp [] [Wtr b bs] w := (show Sat G w hp [] (WtL b o cap 0 bs ++ []) w from hs).shut (x := Wtr b bs) (R := []) fun h hh => ⟨(o, cap), hh⟩
    refine (h1.2.imp fun G w hp x w' _ hs2 => ?_) G w hp hs'
    refine ⟨((x.1, bs.length, x.2), 0), rfl, trivial, hs2.res fun h hh => ?_⟩
    obtain ⟨h1', h2', d, s1', s2, hx, hr⟩ := hh
    obtain ⟨g1, g2, d', t1, t2, gx, gr⟩ := hr
    exact ⟨g1, emp, (fun _ => .inr rfl), t1.trans s2, (fun _ _ e => by cases e), wta_wtr (by omega) _ gx, trivial⟩
  · suffices hs : Enters 41 ∧ Spec Tryz.prog 41 #[.pointer (some ⟨b, 0, none⟩)] [] (WtL b o cap e bs ++ []) (BtA b k) from hs.2
    generalize b = bv at *
    refine ⟨enters_of Tryz.func41 (by kernel_rfl) rfl, spec_of (vs := [_]) Tryz.func41 rfl Tryz.ntmps41 rfl fun G w hp => ?_⟩
    repeat' (first | refine l_run ?_ | refine l_nil ?_ | refine l_one ?_ | refine k_reg ?_ | refine l_ld ?_ | refine l_ldF ?_ | refine l_st ?_ | refine l_al (fun b => ?_) | refine l_bs (fun b => ?_) | refine k_condT ?_ | refine k_condF ?_ | refine k_brk ?_ | refine r_run ?_ | refine r_one ?_ | refine r_ld ?_ | refine r_ldF ?_ | refine r_ldN ?_ | refine r_al (fun b => ?_) | refine r_bs (fun b => ?_) | refine r_st ?_ | refine r_end ?_ | (refine l_split (fun hc => ?_) (fun hc => ?_) <;> (try simp at hc) <;> (try omega)) | (refine r_split (fun hc => ?_) (fun hc => ?_) <;> (try simp at hc) <;> (try omega)) | refine k_draw 4 [] [(0, 0), (1, 0), (2, 0), (3, 0), (4, 0), (5, 0)] [] ?_ | (refine k_cond (fun hc => ?_) (fun hc => ?_) <;> (try simp at hc) <;> (try omega)))
    refine k_shut (r := WtA bv k) (Lx := WtL bv o cap e bs) (fun h hh => wta_of hq h hh) ?_
    exact k_ret (post := BtA bv k) ((none, 0, 0), e) rfl trivial

/-- An encoder over some writer. -/
abbrev EnA (b bw : Nat) (e : Int) (k : Nat) : List HP := [Pt b (.cells #[.pointer (some ⟨bw, 0, none⟩), .int .i64 e] 238), WtA bw k]
theorem numbersA_ok (b bw s : Nat) (e : Int) (l : List Int) (k : Nat) (hl : l.length ≤ 1000) (hz : ∀ z ∈ l, z < 9223372036854775808) (hk : k ≤ 1000000) :
    Enters 144 ∧ Spec Tryz.prog 144 #[.pointer (some ⟨b, 0, none⟩), .slice (some ⟨s, 0, none⟩) l.length l.length] [] (Pt s (.cells (l.flatMap zf).toArray 3) :: EnA b bw e k)
      ⟨Unit, fun _ => .tuple #[], fun _ => True, fun _ => [], fun _ => EnA b bw e (k + l.length * 10)⟩ := by
  suffices hN : ∀ (o : Option Addr) (cap : Nat), Enters 144 ∧ Spec Tryz.prog 144 #[.pointer (some ⟨b, 0, none⟩), .slice o l.length cap] [Sl 3 zf o cap l] (EnA b bw e k)
      ⟨Unit, fun _ => .tuple #[], fun _ => True, fun _ => [], fun _ => EnA b bw e (k + l.length * 10)⟩ by
    have h := hN (some ⟨s, 0, none⟩) l.length
    refine ⟨h.1, fun G w hp hs => ?_⟩
    have h1 := (hs.shut (L := [Pt s (.cells (l.flatMap zf).toArray 3)]) (x := Row 3 1 (some ⟨s, 0, none⟩) l.length l.length (l.flatMap zf)) fun h hh => by
      obtain ⟨h1, h2, _, s1, _, hx, _⟩ := hh
      exact .inr ⟨s, [], (0, 0), rfl, by have := s1 _ _ hx; simpa using this, by rw [flat_len (f := zf) (sz := 1) (fun _ => rfl)], by rw [List.append_nil, flat_len (f := zf) (sz := 1) (fun _ => rfl)], Nat.le_refl _, .inl rfl⟩)
    have h2 := frz_row (f := zf) (es := l) rfl rfl Sel.here h1
    refine sat_call h.2 h2 (sels_all _) (fun hp hF f hf => by simp at hf; subst hf; exact hF _ (by simp)) fun x w' hx h3 => ⟨x, rfl, hx, ?_⟩
    exact (h3.facts (F' := []) (fun _ _ _ h => by cases h)).res fun k hk => by simpa using hk
  intro o cap
  refine ⟨enters_of Tryz.func144 (by kernel_rfl) rfl, spec_of (vs := [_, _]) Tryz.func144 rfl Tryz.ntmps144 rfl fun G w hp => ?_⟩
  repeat' (first | refine l_run ?_ | refine l_nil ?_ | refine l_one ?_ | refine k_reg ?_ | refine l_ld ?_ | refine l_ldF ?_ | refine l_st ?_ | refine l_al (fun b => ?_) | refine l_bs (fun b => ?_) | refine k_condT ?_ | refine k_condF ?_ | refine k_brk ?_ | (refine l_split (fun hc => ?_) (fun hc => ?_) <;> (try simp at hc)) | (refine k_cond (fun hc => ?_) (fun hc => ?_) <;> (try simp at hc)))
  refine k_lp (X := { i : Nat // i ≤ l.length }) (fun i => [(0, .pointer (some ⟨b, 0, none⟩)), (6, .slice o l.length cap), (7, .int .i64 (l.length : Int)), (8, .int .i64 (i.1 : Int))]) (fun _ => [Sl 3 zf o cap l]) (fun i => EnA b bw e (k + i.1 * 10)) (fun i => l.length - i.1) ⟨0, by omega⟩ ⟨rfl, rfl, rfl, rfl, trivial⟩ ?_ (hr := by simp only [Nat.zero_mul, Nat.add_zero]; exact Sels.cons .here (.cons .here .nil))
  rintro ⟨i, hi⟩
  dsimp only at hi ⊢
  by_cases hlt : i < l.length
  · have hgt := List.getElem?_eq_getElem hlt
    obtain ⟨z, hzz⟩ : ∃ z, l[i] = z := ⟨_, rfl⟩
    rw [hzz] at hgt
    have hm : z ∈ l := by rw [← hzz]; exact List.getElem_mem hlt
    have n1 := numberA_ok bw (k + i * 10) z (hz z hm) (by omega)
    rw [show k + i * 10 + 10 = k + (i + 1) * 10 by omega] at n1
    repeat' (first | refine l_run ?_ | refine l_nil ?_ | refine l_one ?_ | refine k_reg ?_ | refine l_ld ?_ | refine l_ldF ?_ | refine l_st ?_ | refine l_al (fun b => ?_) | refine l_bs (fun b => ?_) | refine k_condT ?_ | refine k_condF ?_ | refine k_brk ?_ | refine l_call (n1) (fun _ _ => ?_) | refine l_call0 (n1) (fun _ _ => ?_) | refine l_ixe i z hgt (fun b off => ?_) | refine l_ldC ?_ | (refine l_split (fun hc => ?_) (fun hc => ?_) <;> (try simp at hc) <;> (try omega)) | (refine k_cond (fun hc => ?_) (fun hc => ?_) <;> (try simp at hc) <;> (try omega)))
    rw [wrapi (z := (i : Int) + 1) (by omega) (by omega)]
    exact k_next ⟨i + 1, by omega⟩ (by show l.length - (i + 1) < l.length - i; omega) ⟨rfl, rfl, rfl, rfl, trivial⟩
  · obtain rfl : i = l.length := by omega
    repeat' (first | refine l_run ?_ | refine l_nil ?_ | refine l_one ?_ | refine k_reg ?_ | refine l_ld ?_ | refine l_ldF ?_ | refine l_st ?_ | refine l_al (fun b => ?_) | refine l_bs (fun b => ?_) | refine k_condT ?_ | refine k_condF ?_ | refine k_brk ?_ | (refine l_split (fun hc => ?_) (fun hc => ?_) <;> (try simp at hc) <;> (try omega)) | (refine k_cond (fun hc => ?_) (fun hc => ?_) <;> (try simp at hc) <;> (try omega)))
    exact k_end () rfl trivial
theorem encBytesA_ok (b bw : Nat) (e : Int) (k : Nat) (he : e ≠ 0) (hk : k ≤ 1099511627776) :
    Enters 145 ∧ Spec Tryz.prog 145 #[.pointer (some ⟨b, 0, none⟩)] [] (EnA b bw e k) (RetV (.tuple #[.string ⟨#[]⟩, .int .i64 e])) := by
  have n1 := bytesA_ok bw k hk
  refine ⟨enters_of Tryz.func145 (by kernel_rfl) rfl, spec_of (vs := [_]) Tryz.func145 rfl Tryz.ntmps145 rfl fun G w hp => ?_⟩
  repeat' (first | refine l_run ?_ | refine l_nil ?_ | refine l_one ?_ | refine k_reg ?_ | refine l_ld ?_ | refine l_ldF ?_ | refine l_st ?_ | refine l_al (fun b => ?_) | refine l_bs (fun b => ?_) | refine k_condT ?_ | refine k_condF ?_ | refine k_brk ?_ | refine r_run ?_ | refine r_one ?_ | refine r_ld ?_ | refine r_ldF ?_ | refine r_ldN ?_ | refine r_al (fun b => ?_) | refine r_bs (fun b => ?_) | refine r_st ?_ | refine r_end ?_ | refine l_call (n1) (fun _ _ => ?_) | refine l_call0 (n1) (fun _ _ => ?_) | refine r_call (n1) (fun _ _ => ?_) | (refine l_split (fun hc => ?_) (fun hc => ?_) <;> (try simp at hc) <;> (try omega)) | (refine r_split (fun hc => ?_) (fun hc => ?_) <;> (try simp at hc) <;> (try omega)) | refine k_draw 5 [] [(0, 0), (1, 0), (2, 0), (3, 0), (4, 0), (5, 0)] [] ?_ | (refine k_cond (fun hc => ?_) (fun hc => ?_) <;> (try simp at hc) <;> (try omega)))
  exact k_ret () rfl trivial

/-- A new encoder, over some writer. -/
theorem newEncoderA_ok (e : Int) : Enters 142 ∧ Spec Tryz.prog 142 #[.int .i64 e] [] [] ⟨Nat × Nat, fun q => .pointer (some ⟨q.1, 0, none⟩), fun _ => True, fun _ => [], fun q => EnA q.1 q.2 e 0⟩ := by
  have h := newEncoder_ok e
  refine ⟨h.1, h.2.imp fun G w hp x w' _ hs => ⟨x, rfl, trivial, hs.res fun h hh => ?_⟩⟩
  obtain ⟨h1, h2, d, s1, s2, hx, hr⟩ := hh
  obtain ⟨g1, g2, d', t1, t2, gx, gr⟩ := hr
  exact ⟨h1, h2, d, s1, s2, hx, g1, g2, d', t1, t2, wta_wtr (Nat.le_refl _) _ gx, gr⟩
theorem cntEncodeBad_ok (c : Ct) (h : cchk c ≠ 0) (hz : ∀ z ∈ [c.b, c.o, c.c], z < 9223372036854775808) : Enters 126 ∧ Spec Tryz.prog 126 #[c.v] [] [] (RetV (.tuple #[.string ⟨#[]⟩, .int .i64 (cchk c)])) := by
  have n1 := cntCheck_ok c
  generalize cchk c = e at *
  have n2 := fun b bw s => numbersA_ok b bw s e [c.b, c.o, c.c] 0 (by simp) hz (by simp)
  have n4 := fun b bw => encBytesA_ok b bw e (0 + [c.b, c.o, c.c].length * 10) h (by simp)
  refine ⟨enters_of Tryz.func126 (by kernel_rfl) rfl, spec_of (vs := [_]) Tryz.func126 rfl Tryz.ntmps126 rfl fun G w hp => ?_⟩
  repeat' (first | refine l_run ?_ | refine l_nil ?_ | refine l_one ?_ | refine k_reg ?_ | refine l_ld ?_ | refine l_ldF ?_ | refine l_st ?_ | refine l_al (fun b => ?_) | refine l_bs (fun b => ?_) | refine k_condT ?_ | refine k_condF ?_ | refine k_brk ?_ | refine l_call (n1) (fun _ _ => ?_) | refine l_call0 (n1) (fun _ _ => ?_) | refine l_call (newEncoderA_ok _) (fun _ _ => ?_) | refine l_call0 (newEncoderA_ok _) (fun _ _ => ?_) | refine l_call (n2 _ _ _) (fun _ _ => ?_) | refine l_call0 (n2 _ _ _) (fun _ _ => ?_) | refine l_call (n4 _ _) (fun _ _ => ?_) | refine l_call0 (n4 _ _) (fun _ _ => ?_) | (refine l_split (fun hc => ?_) (fun hc => ?_) <;> (try simp at hc)) | (refine k_cond (fun hc => ?_) (fun hc => ?_) <;> (try simp at hc)))
  exact k_ret () rfl trivial
end Go.Proofs.YtaijnpkdlopomaaGreatDoor

set_option maxRecDepth 10000
namespace Go.Proofs.YtaijnpkdlopomaaGreatDoor
open Go.RowKit

def o1 : ByteArray := ⟨#[49]⟩
theorem o1_valid : lvalid o1.data.toList = true := by
  have h := (prts_step [49] 0 0 (by simp)).2.2.2
  rw [show ffirst (([49] : List UInt8).drop 0) 0 0 = (⟨1, 0, 0⟩, 1) from rfl] at h
  simp at h
  simp [o1, lvalid, lparts, h]
def nd0 (z : Int) : Ino := ⟨1, 0, 0, 0, z, 1, ⟨#[]⟩⟩
theorem nd0_chk {z : Int} (h : 0 ≤ z ∧ z ≤ 4096) : ichk (nd0 z) = 0 := by
  have h1 : isE ⟨#[]⟩ = true := by simp [isE]
  unfold ichk ifit nd0
  dsimp only
  rw [if_neg (by omega), if_neg (by omega), if_neg (by simp [h1]), if_pos (by decide)]
def b0 : Bi := ⟨o1, 0⟩
theorem b0_chk : bchk b0 = 0 := by
  unfold bchk
  rw [if_neg (by simp [b0, o1_valid]), if_pos (by simp [b0])]
def zer (n : Nat) : ByteArray := ⟨(List.replicate n 0).toArray⟩
theorem zer_size (n : Nat) : (zer n).size = n := by show (List.toArray _).size = n; simp

theorem vget_nil (n : Nm) : vget [] [] n = (⟨#[]⟩, false) := by
  unfold vget
  split
  · rfl
  · rfl
theorem made_o1 : madeE [] [] o1 = (Ct.z, 0) := by rw [madeE, if_pos o1_valid, vget_nil]; rfl
theorem nb_o1 : nbE [] [] o1 = (b0, 0) := by
  unfold nbE
  rw [made_o1, if_neg (by simp), if_neg (by decide)]; rfl
theorem mk_o1 : mkE [] [] o1 (nd0 0) = (b0, 0) := by rw [mkE, if_neg (by simp [nd0_chk]), if_neg (by simp [nd0]), nb_o1]
def kc27 : List Ch := [⟨cnm o1, cvs ⟨1, 0, 0⟩, false⟩, ⟨nnm b0, iencS (nd0 0), false⟩]
theorem mkC_o1 : mkC [] [] o1 (nd0 0) = kc27 := by
  rw [mkC, mk_o1, if_pos rfl, nbC, nb_o1, if_pos rfl, made_o1]; rfl

/-- What reads a node that was the last to be written. -/
theorem ifile_last {es : Al} {cs : List Ch} {bi : Bi} {nd : Ino} (hb : bchk bi = 0) (h1 : (vget es cs (nnm bi)) = (iencS nd, true)) (h2 : ichk nd = 0) (h3 : nd.kd = 1) : iget es cs bi = (nd, 0) ∧ ifile es cs bi = (nd, 0) := by
  have h4 : iget es cs bi = (nd, 0) := by
    rw [iget, if_neg (by simp [hb]), h1, if_pos rfl]
    simp [idec_enc h2]
  refine ⟨h4, ?_⟩
  unfold ifile
  rw [h4, if_neg (by simp), if_neg (by simp [h3]), if_neg (by simp [h3])]
theorem vget_last {es : Al} {cs : List Ch} {n : Nm} {v : ByteArray} (hn : nchk n = 0) : vget es (cs ++ [⟨n, v, false⟩]) n = (v, true) := by
  unfold vget
  rw [if_neg (by simp [hn]), vcall_snoc, if_pos rfl]; rfl
theorem mset_len {α β : Type} [DecidableEq α] (a : α) (v : β) : ∀ m : List (α × β), (mset a v m).length ≤ m.length + 1
  | [] => by simp [mset]
  | (b, u) :: m => by
    unfold mset
    split
    · simp
    · have := mset_len a v m
      simp only [List.length_cons]; omega
theorem lastL_len (cs : List Ch) : (lastL cs).length ≤ cs.length := by
  refine snoc_ind (P := fun cs => (lastL cs).length ≤ cs.length) (by simp [lastL, lastG]) (fun l a ih => ?_) cs
  rw [lastL_snoc]
  have := mset_len a.nm l.length (lastL l)
  simp only [List.length_append, List.length_singleton]; omega

theorem pts_100 : pts 0 100 = [⟨0, 0, 64⟩, ⟨1, 0, 36⟩] := by
  rw [pts, if_pos (by decide), pts, if_pos (by decide), pts, if_neg (by decide)]
  rfl
theorem pts_64 : pts 64 128 = [⟨1, 0, 64⟩] := by
  rw [pts, if_pos (by decide), pts, if_neg (by decide)]
  rfl

theorem fit_mk {c : Ch} (h1 : nchk c.nm = 0) (h2 : c.val.size ≤ 65536) (h3 : c.abs = false) (h4 : c.nm.owner.size ≤ 1000) (h5 : c.nm.text.size ≤ 1000) : FitC c := ⟨h1, h2, h3, by omega, by omega⟩
theorem wnew_len {es : Al} {cs : List Ch} {bi : Bi} {f : Nat} {s : ByteArray} {p : Pp} (h : p.fr + (p.to - p.fr) ≤ 64) : (wnew es cs bi f s p).length = 64 := by
  unfold wnew
  split
  · rw [cpy_len (by rw [pad64_len]; exact h), pad64_len]
  · rw [cpy_len (by simp; exact h)]; simp

theorem eqBi (b : Bi) : eqC eqS 20 27 b.v b.v = some true := by
  rw [show eqC eqS 20 27 b.v b.v = some ((b.mkr.toList == b.mkr.toList) && ((b.nu == b.nu) && true)) from rfl]
  simp
/-- What the first view has written. -/
def ks27 (rs : List (Nm × Ch)) : List Ch := (iwQ [] rs kc27 b0 0 (zer 100)).2 ++ iwN [] kc27 b0 0 (zer 100)
theorem if27 : iget [] kc27 b0 = (nd0 0, 0) ∧ ifile [] kc27 b0 = (nd0 0, 0) := ifile_last b0_chk (vget_last (cs := [⟨cnm o1, cvs ⟨1, 0, 0⟩, false⟩]) (chk_nnm b0_chk)) (nd0_chk (by decide)) rfl
theorem ks27_eq (rs : List (Nm × Ch)) : ∃ x y : ByteArray, x.size = 64 ∧ y.size = 64 ∧ ks27 rs = [⟨cnm o1, cvs ⟨1, 0, 0⟩, false⟩, ⟨nnm b0, iencS (nd0 0), false⟩, ⟨bnm b0 0, x, false⟩, ⟨bnm b0 1, y, false⟩] ++ [⟨nnm b0, iencS (nd0 100), false⟩] := by
  have hm : min (zer 100).size (4096 - 0) = 100 := by rw [zer_size]; decide
  have h1 : iwN [] kc27 b0 0 (zer 100) = [⟨nnm b0, iencS (nd0 100), false⟩] := by
    unfold iwN
    rw [hm, if27.2, if_pos (by decide)]; rfl
  have h2 : ∃ x y : ByteArray, x.size = 64 ∧ y.size = 64 ∧ (iwQ [] rs kc27 b0 0 (zer 100)).2 = kc27 ++ [⟨bnm b0 0, x, false⟩] ++ [⟨bnm b0 1, y, false⟩] := by
    unfold iwQ
    rw [hm, show (0 : Nat) + 100 = 100 from rfl, pts_100]
    refine ⟨_, _, ?_, ?_, rfl⟩
    · show (List.toArray _).size = 64
      rw [List.size_toArray, wnew_len (by decide)]
    · show (List.toArray _).size = 64
      rw [List.size_toArray, wnew_len (by decide)]
  obtain ⟨x, y, hx, hy, h3⟩ := h2
  exact ⟨x, y, hx, hy, by rw [ks27, h1, h3]; rfl⟩
theorem ks27_fit (rs : List (Nm × Ch)) : ∀ c ∈ ks27 rs, FitC c := by
  obtain ⟨x, y, hx, hy, h⟩ := ks27_eq rs
  have c1 : (cvs ⟨1, 0, 0⟩).size ≤ 30 := cvs_size ⟨by decide, by decide, by decide, by decide, by decide, by decide⟩
  have c2 := iencS_size (nd0 0)
  have c3 := iencS_size (nd0 100)
  rw [h]
  intro c hc
  have ho : o1.size ≤ 1000 := by decide
  simp only [List.cons_append, List.nil_append, List.mem_cons, List.not_mem_nil, or_false] at hc
  rcases hc with rfl | rfl | rfl | rfl | rfl
  · exact fit_mk (chk_cnm o1_valid) (by dsimp only; omega) rfl ho (by decide)
  · exact fit_mk (chk_nnm b0_chk) (by dsimp only; omega) rfl ho (by decide)
  · exact fit_mk (chk_bnm b0_chk (by decide)) (by dsimp only; omega) rfl ho (Nat.zero_le _)
  · exact fit_mk (chk_bnm b0_chk (by decide)) (by dsimp only; omega) rfl ho (Nat.zero_le _)
  · exact fit_mk (chk_nnm b0_chk) (by dsimp only; omega) rfl ho (by decide)
theorem ks27_len (rs : List (Nm × Ch)) : (lastL (ks27 rs)).length ≤ 12 := by
  obtain ⟨x, y, hx, hy, h⟩ := ks27_eq rs
  refine Nat.le_trans (lastL_len _) ?_
  rw [h]; simp
/-- What the state then holds of the node. -/
theorem get27 (rs : List (Nm × Ch)) : vget (applyE [] (vwr (ks27 rs))) [] (nnm b0) = (iencS (nd0 100), true) := by
  have h1 : getO (nnm b0) (applyE [] (vwr (ks27 rs))) = some (iencS (nd0 100)) := by
    rw [getO_after]
    obtain ⟨x, y, hx, hy, h⟩ := ks27_eq rs
    rw [h, vcall_snoc, if_pos rfl]
  unfold vget
  rw [if_neg (by simp [chk_nnm b0_chk])]
  show ((getO (nnm b0) (applyE [] (vwr (ks27 rs)))).getD ⟨#[]⟩, (getO (nnm b0) (applyE [] (vwr (ks27 rs)))).isSome) = _
  rw [h1]; rfl

/-- The second view. -/
theorem second27 (es : Al) (hes : vget es [] (nnm b0) = (iencS (nd0 100), true)) : ∃ (c : Ch) (x : ByteArray), c.nm = nnm b0 ∧ x.size = 64 ∧ iwQ es [] [] b0 64 (zer 64) = ([(nnm b0, c)], [⟨bnm b0 1, x, false⟩]) ∧ iwN es [] b0 64 (zer 64) = [⟨nnm b0, iencS (nd0 128), false⟩] ∧ ifile es [] b0 = (nd0 100, 0) := by
  have hf := ifile_last b0_chk hes (nd0_chk (by decide)) rfl
  have hm : min (zer 64).size (4096 - 64) = 64 := by rw [zer_size]; decide
  have hR : ∃ c : Ch, c.nm = nnm b0 ∧ igetR es [] [] b0 = [(nnm b0, c)] := by
    rw [igetR, if_neg (by simp [b0_chk]), vread, if_neg (by simp [chk_nnm b0_chk])]
    exact ⟨_, rfl, rfl⟩
  obtain ⟨c, hc, hR⟩ := hR
  refine ⟨c, ⟨(wnew es [] b0 64 (zer 64) ⟨1, 0, 64⟩).toArray⟩, hc, ?_, ?_, ?_, hf.2⟩
  · show (List.toArray _).size = 64
    rw [List.size_toArray, wnew_len (by decide)]
  · unfold iwQ
    rw [hm, show (64 : Nat) + 64 = 128 from rfl, pts_64, hR]
    rfl
  · unfold iwN
    rw [hm, hf.2, if_pos (by decide)]; rfl

end Go.Proofs.YtaijnpkdlopomaaGreatDoor
