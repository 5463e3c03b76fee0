/-
  Rules for parts of slices, for texts and for conversions between bytes and texts.
  Conditions: none beyond those that each theorem states.
-/
import Derived.Test.YtijaglinajfplaaGreatDoorSl
import Derived.Laws.BytesString
set_option maxRecDepth 10000
namespace Go.Proofs.YtijaglinajfplaaGreatDoor
open Go.RowKit

variable {n : Nat} {C : Cx} {Q : Exit → Act → World → Prop} {E E' : List (Nat × Value)} {F F' F1 Fs F0 : List Pf} {R R' R0 Rs N N' A : List HP} {k k' : List Fr} {ops l : List Oper} {L L' : List (Nat × Nat)} {Tl : List Nat}
  {i d : Nat} {t ty0 : TypeId} {x y : Operand} {pos : String} {aft : Array Edge} {gd : Option (Nat × Bool)} {b off : Nat} {cs : Array Value} {ty : TypeId} {fzn : Nat × Nat} {v : Value}

theorem run_und {T : Nat} {w : World} {rs : TRow} (hts : lookT tab t = some rs) (hrs : rs.k = .slice T) : (underlying t).run Tryz.prog w = .ok (.slice T) w := by
  obtain ⟨d1, hd1, hk1⟩ := tab_ok.und hts
  rw [hrs] at hk1
  cases d1 <;> simp [chkKind] at hk1
  subst hk1
  simp [underlying, hd1, go_sem]
theorem run_undS {w : World} {rs : TRow} (hts : lookT tab t = some rs) (hrs : rs.k = .str) : (underlying t).run Tryz.prog w = .ok .string w := by
  obtain ⟨d1, hd1, hk1⟩ := tab_ok.und hts
  rw [hrs] at hk1
  cases d1 <;> simp [chkKind] at hk1
  simp [underlying, hd1, go_sem]
theorem run_undI {w : World} {rs : TRow} {ik : IntKind} (hts : lookT tab t = some rs) (hrs : rs.k = .int ik) : (underlying t).run Tryz.prog w = .ok (.int ik) w := by
  obtain ⟨d1, hd1, hk1⟩ := tab_ok.und hts
  rw [hrs] at hk1
  cases d1 <;> simp [chkKind] at hk1
  subst hk1
  simp [underlying, hd1, go_sem]

theorem add_add {a : Addr} {p q : Nat} (h : a = ⟨b, p, none⟩) : a.add q = ⟨b, p + q, none⟩ := by
  subst h
  unfold Addr.add
  split
  · rename_i h0; rw [h0]; rfl
  · rfl

theorem sl_drop {α : Type} {T sz : Nat} {f : α → List Value} {o : Option Addr} {cap lo : Nat} {es : List α} {h : H} (hs : (Sl T f o cap es).p h) (hlo : lo ≤ es.length) (hsz : ∀ e, (f e).length = sz) :
    (Sl T f (if cap = lo then o else o.map (·.add (lo * sz))) (cap - lo) (es.drop lo)).p h := by
  obtain ⟨hc, rfl | ⟨b, cs, fz, pre, post, rfl, hb, hcs⟩⟩ := hs
  · exact ⟨by simp, .inl (by simp)⟩
  · refine ⟨by simp; omega, .inr ?_⟩
    split
    · rename_i hcl
      have : es.drop lo = [] := List.drop_eq_nil_of_le (by omega)
      exact ⟨b, cs, fz, pre, es.flatMap f ++ post, rfl, hb, by rw [this, hcs]; simp⟩
    · refine ⟨b, cs, fz, pre ++ (es.take lo).flatMap f, post, ?_, hb, ?_⟩
      · simp only [Option.map_some, Option.some.injEq]
        rw [add_add (b := b) (p := pre.length) rfl, List.length_append, flat_len hsz, List.length_take, Nat.min_eq_left hlo]
      · rw [hcs]
        have : es.flatMap f = (es.take lo).flatMap f ++ (es.drop lo).flatMap f := by rw [← List.flatMap_append, List.take_append_drop]
        rw [this]; simp
theorem sl_take {α : Type} {T : Nat} {f : α → List Value} {o : Option Addr} {cap m : Nat} {es : List α} {h : H} (hs : (Sl T f o cap es).p h) : (Sl T f o cap (es.take m)).p h := by
  obtain ⟨hc, rfl | ⟨b, cs, fz, pre, post, rfl, hb, hcs⟩⟩ := hs
  · exact ⟨by simp, .inl (by simp)⟩
  · refine ⟨by simp; omega, .inr ⟨b, cs, fz, pre, (es.drop m).flatMap f ++ post, rfl, hb, ?_⟩⟩
    rw [hcs]
    have : es.flatMap f = (es.take m).flatMap f ++ (es.drop m).flatMap f := by rw [← List.flatMap_append, List.take_append_drop]
    rw [this]; simp

theorem add_fact {G : H} {w0 w : World} {hp0 hp hr : H} {f : Pf} (st : SatAt G w0 hp0 F R w hp hr) (h : f.p hp) : Sat G w0 hp0 (f :: F) R w :=
  ⟨hp, hr, st.inp, st.inr, st.ing, st.d1, st.d2, st.d3, st.sub, fun g hg => (List.mem_cons.1 hg).elim (fun e => e ▸ h) (st.f g), st.r, st.same⟩

/-- The end of a slice, from a place on. -/
theorem l_slL {α : Type} {T sz : Nat} {f : α → List Value} {o : Option Addr} {m cap : Nat} {es : List α} {z : Int} {rs tr : TRow} (lo : Nat) (hlo : lo ≤ es.length)
    (nx : ∀ o', Wl n C ops.toArray k Q l ((d, .slice o' (es.drop lo).length (cap - lo)) :: E) (Sl T f o' (cap - lo) (es.drop lo) :: F) R)
    (hw : wantL ops E ⟨some d, .slice t x (some y) none none, ty0, pos, aft, gd⟩ = some true := by rfl) (hn : Nat.blt d n = true := by rfl) (hx : ev E x = some (.slice o m cap) := by rfl) (hy : ev E y = some (.int .i64 z) := by rfl)
    (hs : Sel (Sl T f o cap es) F F0 := by (repeat (first | exact Sel.here | apply Sel.there)); first | done | fail) (hts : lookT tab t = some rs := by rfl) (hrs : rs.k = .slice T := by rfl) (hT : lookT tab T = some tr := by rfl) (hsz : tr.size = sz := by rfl) (hf : ∀ e, (f e).length = sz := by intro; rfl)
    (hm : m = es.length := by rfl) (hz : z = (lo : Int) := by first | rfl | omega) : Wl n C ops.toArray k Q (⟨some d, .slice t x (some y) none none, ty0, pos, aft, gd⟩ :: l) E F R :=
  wl_op (fun t ht => by cases ht; exact Nat.le_of_ble_eq_true hn) (fun c hc => by cases hc) hw fun a w ha hsat => by
    obtain ⟨hp, hr, st⟩ := hsat
    subst hm hz
    have h2 := sl_drop (st.f _ hs.mem) hlo hf
    have hs1 := tab_ok.sizeOf hT w
    rw [hsz] at hs1
    unfold OpRes
    have hc : (0 : Int) ≤ (lo : Int) ∧ (lo : Int) ≤ (es.length : Int) := ⟨by omega, by omega⟩
    simp only [execOp, ha.ev (x := x) (by rw [evf_look]; exact hx), ha.ev (x := y) (by rw [evf_look]; exact hy), Option.map_some, Option.map_none, Instr.sliceAt, Instr.slice, run_und hts hrs, Instr.sliceBounds, Instr.sliceBound, asIntOf, Sem.run_bind, Result.andThen, Sem.run_pure, if_pos hc, hs1, Int.toNat_natCast]
    rw [← List.length_drop]
    exact fun a' ha' => nx _ a' w ha' (add_fact st h2)

/-- A part of a slice. -/
theorem l_slLH {α : Type} {T sz : Nat} {f : α → List Value} {o : Option Addr} {m cap : Nat} {es : List α} {z z2 : Int} {y2 : Operand} {rs tr : TRow} (lo hi : Nat) (hlo : lo ≤ hi) (hhi : hi ≤ es.length)
    (nx : ∀ o', Wl n C ops.toArray k Q l ((d, .slice o' ((es.take hi).drop lo).length (cap - lo)) :: E) (Sl T f o' (cap - lo) ((es.take hi).drop lo) :: F) R)
    (hw : wantL ops E ⟨some d, .slice t x (some y) (some y2) none, ty0, pos, aft, gd⟩ = some true := by rfl) (hn : Nat.blt d n = true := by rfl) (hx : ev E x = some (.slice o m cap) := by rfl) (hy : ev E y = some (.int .i64 z) := by rfl) (hy2 : ev E y2 = some (.int .i64 z2) := by rfl)
    (hs : Sel (Sl T f o cap es) F F0 := by (repeat (first | exact Sel.here | apply Sel.there)); first | done | fail) (hts : lookT tab t = some rs := by rfl) (hrs : rs.k = .slice T := by rfl) (hT : lookT tab T = some tr := by rfl) (hsz : tr.size = sz := by rfl) (hf : ∀ e, (f e).length = sz := by intro; rfl)
    (hz : z = (lo : Int) := by first | rfl | omega) (hz2 : z2 = (hi : Int) := by first | rfl | omega) : Wl n C ops.toArray k Q (⟨some d, .slice t x (some y) (some y2) none, ty0, pos, aft, gd⟩ :: l) E F R :=
  wl_op (fun t ht => by cases ht; exact Nat.le_of_ble_eq_true hn) (fun c hc => by cases hc) hw fun a w ha hsat => by
    obtain ⟨hp, hr, st⟩ := hsat
    subst hz hz2
    have h1 := st.f _ hs.mem
    have hcap : es.length ≤ cap := h1.1
    have h2 := sl_drop (sl_take (m := hi) h1) (lo := lo) (by simp; omega) hf
    have hs1 := tab_ok.sizeOf hT w
    rw [hsz] at hs1
    unfold OpRes
    have hc : (0 : Int) ≤ (lo : Int) ∧ (lo : Int) ≤ (hi : Int) := ⟨by omega, by omega⟩
    have hc2 : (0 : Int) ≤ (hi : Int) ∧ (hi : Int) ≤ (cap : Int) := ⟨by omega, by omega⟩
    simp only [execOp, ha.ev (x := x) (by rw [evf_look]; exact hx), ha.ev (x := y) (by rw [evf_look]; exact hy), ha.ev (x := y2) (by rw [evf_look]; exact hy2), Option.map_some, Option.map_none, Instr.sliceAt, Instr.slice, run_und hts hrs, Instr.sliceBounds, Instr.sliceBound, asIntOf, Sem.run_bind, Result.andThen, Sem.run_pure, if_pos hc, if_pos hc2, hs1, Int.toNat_natCast]
    have hl : hi - lo = ((es.take hi).drop lo).length := by simp; omega
    rw [hl]
    exact fun a' ha' => nx _ a' w ha' (add_fact st h2)

/-- The cells of a byte. -/
abbrev bf : UInt8 → List Value := fun b => [.int .u8 b.toNat]
theorem byt_flat (l : List UInt8) : byt l = l.flatMap bf := by
  induction l with
  | nil => rfl
  | cons a l ih => rw [List.flatMap_cons, ← ih]; rfl

theorem fold_push : ∀ (es : List UInt8) (s : ByteArray), ((es.map fun b => (b.toNat : Int)).foldl (fun r m => r.push (UInt8.ofNat m.toNat)) s) = ⟨s.data ++ es.toArray⟩
  | [], s => by simp
  | b :: es, s => by
    simp only [List.map_cons, List.foldl_cons, fold_push es]
    congr 1
    rw [← Array.toList_inj]
    simp [ByteArray.push]

/-- Bytes as a text. -/
theorem l_b2s {T : Nat} {o : Option Addr} {m cap : Nat} {es : List UInt8} {td : TypeId} {rs tr rd : TRow}
    (nx : Wl n C ops.toArray k Q l ((d, .string ⟨es.toArray⟩) :: E) F R)
    (hw : wantL ops E ⟨some d, .convert t td x, ty0, pos, aft, gd⟩ = some true := by rfl) (hn : Nat.blt d n = true := by rfl) (hx : ev E x = some (.slice o m cap) := by rfl)
    (hs : Sel (Sl T bf o cap es) F F0 := by (repeat (first | exact Sel.here | apply Sel.there)); first | done | fail) (hts : lookT tab t = some rs := by rfl) (hrs : rs.k = .slice T := by rfl) (hT : lookT tab T = some tr := by rfl) (hTk : tr.k = .int .u8 := by rfl) (htd : lookT tab td = some rd := by rfl) (hrd : rd.k = .str := by rfl)
    (hm : m = es.length := by rfl) : Wl n C ops.toArray k Q (⟨some d, .convert t td x, ty0, pos, aft, gd⟩ :: l) E F R :=
  wl_op (fun t ht => by cases ht; exact Nat.le_of_ble_eq_true hn) (fun c hc => by cases hc) hw fun a w ha hsat => by
    obtain ⟨hp, hr, st⟩ := hsat
    subst hm
    have hr1 : (Conv.bytesToString (.slice o es.length cap)).run Tryz.prog w = .ok (.string ⟨es.toArray⟩) w := by
      obtain ⟨_, rfl | ⟨b, cs, fz, pre, post, rfl, hb, hcs⟩⟩ := st.f _ hs.mem
      · cases o <;> rfl
      · rw [run_bytesToString (ns := es.map fun b => (b.toNat : Int))]
        · rw [fold_push]; simp
        · unfold loadCells
          rw [← byt_flat] at hcs
          have hlen : cs.size = pre.length + (es.length + post.length) := by rw [← Array.length_toList, hcs]; simp [byt]
          rw [run_loadCells (st.inp _ _ hb) pre.length es.length 0 #[] (by omega)]
          simp [hcs, byt]
    unfold OpRes
    simp only [execOp, ha.ev (x := x) (by rw [evf_look]; exact hx), convert, run_und hts hrs, run_undS htd hrd, run_undI hT hTk, Sem.run_bind, Result.andThen, Sem.run_pure, hr1]
    exact fun a' ha' => nx a' w ha' ⟨hp, hr, st⟩

/-- A text as bytes. -/
theorem l_s2b {T : Nat} {s : ByteArray} {td : TypeId} {rs tr rd : TRow}
    (nx : ∀ o cap, Wl n C ops.toArray k Q l ((d, .slice o s.data.toList.length cap) :: E) F (Row T 1 o s.data.toList.length cap (byt s.data.toList) :: R))
    (hw : wantL ops E ⟨some d, .convert t td x, ty0, pos, aft, gd⟩ = some true := by rfl) (hn : Nat.blt d n = true := by rfl) (hx : ev E x = some (.string s) := by rfl)
    (hts : lookT tab t = some rs := by rfl) (hrs : rs.k = .str := by rfl) (htd : lookT tab td = some rd := by rfl) (hrd : rd.k = .slice T := by rfl) (hT : lookT tab T = some tr := by rfl) (hTk : tr.k = .int .u8 := by rfl) :
    Wl n C ops.toArray k Q (⟨some d, .convert t td x, ty0, pos, aft, gd⟩ :: l) E F R :=
  wl_op (fun t ht => by cases ht; exact Nat.le_of_ble_eq_true hn) (fun c hc => by cases hc) hw fun a w ha hsat => by
    obtain ⟨nc, hnc1, hnc2⟩ : ∃ nc, (choose (.appendCap s.size 0 T)).run Tryz.prog w = .ok nc { w with drawn := w.drawn + 1 } ∧ s.size ≤ nc := ⟨_, rfl, by simp [Question.cut]⟩
    have hx1 : Ext w { w with drawn := w.drawn + 1 } := (Below.refl _ w).drew
    let cells : Array Value := (s.data.map fun b => Value.int .u8 b.toNat) ++ Array.replicate (nc - s.size) (.int .u8 0)
    have hs2 := (hsat.ext hx1).alloc (.cells cells T)
    let w1 : World := { w with drawn := w.drawn + 1 }
    have hb1 : (w1.alloc (.cells cells T)).heap[w1.heap.size]? = some (.cells cells T) := heap_alloc_new w1 _
    let w2 := (w1.alloc (.cells cells T)).freeze ⟨w1.heap.size, cells.size, none⟩ 1
    have hb2 : w2.heap[w1.heap.size]? = some (.cells cells T (cells.size, cells.size + 1)) := by
      simp only [w2, World.freeze, Nat.one_ne_zero, if_false, Array.getElem?_modify, if_true, hb1]
      simp
    have hs3 : Sat C.G C.w0 C.hp0 F (Pt w1.heap.size (.cells cells T (cells.size, cells.size + 1)) :: R) w2 := by
      refine hs2.write ⟨rfl, rfl, rfl, ?_⟩ hb2 fun c hc _ => ?_
      · simp only [w2, World.freeze, Nat.one_ne_zero, if_false, Array.size_modify]; exact Nat.le_refl _
      · simp only [w2, World.freeze, Nat.one_ne_zero, if_false, Array.getElem?_modify]
        rw [if_neg (fun h => hc h.symm)]
    have hr1 : (Conv.stringToBytes T s).run Tryz.prog w = .ok (.slice (some ⟨w1.heap.size, 0, none⟩) s.size nc) w2 := by
      unfold Conv.stringToBytes
      simp only [Sem.run_bind, hnc1, Result.andThen, run_newRow, markStringish]
      have hsh : (shape w1.heap.size).run Tryz.prog (w1.alloc (.cells cells T)) = .ok (some (T, cells.size)) (w1.alloc (.cells cells T)) := by
        simp only [shape, Sem.run, World.shape?, hb1]
      have e : ({ w with drawn := w.drawn + 1 } : World) = w1 := rfl
      simp only [e]
      rw [show ((s.data.map fun b => Value.int .u8 b.toNat) ++ Array.replicate (nc - s.size) (.int .u8 0)) = cells from rfl, hsh]
      rfl
    unfold OpRes
    simp only [execOp, ha.ev (x := x) (by rw [evf_look]; exact hx), convert, run_undS hts hrs, run_und htd hrd, run_undI hT hTk, Sem.run_bind, Result.andThen, Sem.run_pure, hr1]
    have hl : s.size = s.data.toList.length := by simp
    rw [hl] at hnc2 ⊢
    refine fun a' ha' => nx _ nc a' w2 ha' (hs3.shut (L := [Pt _ _]) fun kk hk => ?_)
    obtain ⟨k1, _, _, t1, _, hk1, _⟩ := hk
    have hcl : cells.toList = byt s.data.toList ++ List.replicate (nc - s.size) (.int .u8 0) := by simp [cells, byt]
    have hcz : (byt s.data.toList ++ List.replicate (nc - s.size) (Value.int .u8 0)).toArray = cells := by rw [← hcl]
    refine .inr ⟨_, List.replicate (nc - s.size) (.int .u8 0), (cells.size, cells.size + 1), rfl, ?_, by simp [byt], ?_, hnc2, .inr ?_⟩
    · rw [hcz]; exact t1 _ _ hk1
    · simp [byt] at hnc2 ⊢; omega
    · rw [← hcl]; simp

/-- A byte of a text. -/
theorem l_six {s : ByteArray} {z : Int} {rs : TRow} (i : Nat) (c : UInt8) (hc : s.data.toList[i]? = some c)
    (nx : Wl n C ops.toArray k Q l ((d, .int .u8 c.toNat) :: E) F R)
    (hw : wantL ops E ⟨some d, .index t x y, ty0, pos, aft, gd⟩ = some true := by rfl) (hn : Nat.blt d n = true := by rfl) (hx : ev E x = some (.string s) := by rfl) (hy : ev E y = some (.int .i64 z) := by rfl)
    (hts : lookT tab t = some rs := by rfl) (hrs : rs.k = .str := by rfl) (hz : z = (i : Int) := by first | rfl | omega) : Wl n C ops.toArray k Q (⟨some d, .index t x y, ty0, pos, aft, gd⟩ :: l) E F R :=
  l_q (fun a w ha => by
    subst hz
    have h0 : (0 : Int) ≤ (i : Int) := by omega
    have h1 : s[i]? = some c := by
      obtain ⟨hlt, he⟩ := List.getElem?_eq_some_iff.1 hc
      have hlt' : i < s.size := by simpa using hlt
      rw [getElem?_pos s i hlt']
      exact congrArg some he
    simp only [execOp, ha.ev (x := x) (by rw [evf_look]; exact hx), ha.ev (x := y) (by rw [evf_look]; exact hy), Instr.index, asIntOf, run_undS hts hrs, Sem.run_bind, Result.andThen, Sem.run_pure, if_pos h0, Int.toNat_natCast, h1]) nx (by intro c h; cases h) hw hn
end Go.Proofs.YtijaglinajfplaaGreatDoor
