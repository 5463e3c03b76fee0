/-
  Slices that stay: the beginning of one, and one appended to another.
  Contracts of ledgers: Encode, and the statements' own encoding.
  Conditions: those that each theorem states.
-/
import Derived.Test.YtaijnpkdlopomaaGreatDoorMB
import Derived.Test.YtaijnpkdlopomaaGreatDoorMG
set_option maxRecDepth 10000
namespace Go.Proofs.YtaijnpkdlopomaaGreatDoor
open Go.RowKit

section
variable {n : Nat} {C : Cx} {Q : Exit → Act → World → Prop} {E : List (Nat × Value)} {F F0 : List Pf} {R R0 : List HP} {k : List Fr} {ops l : List Oper}
  {d : Nat} {t ty0 : TypeId} {x y : Operand} {pos : String} {aft : Array Edge} {gd : Option (Nat × Bool)}
theorem src_sl {α : Type} {T sz : Nat} {f : α → List Value} {o : Option Addr} {cap : Nat} {es : List α} (hf : ∀ e, (f e).length = sz) (hs : Sel (Sl T f o cap es) F F0) : Src F R sz (.slice o es.length cap) es.length (es.flatMap f) :=
  ⟨rfl, fun G w0 hp0 w hsat => by
    obtain ⟨hp, hr, st⟩ := hsat
    obtain ⟨hc, rfl | ⟨b, cs, fz, pre, post, rfl, hb, hcs⟩⟩ := st.f _ hs.mem
    · cases o with
      | none => rfl
      | some a =>
        show (loadCells a (0 * sz)).run Tryz.prog w = _
        rw [Nat.zero_mul]
        unfold loadCells
        rfl
    · have h := st.inp _ _ hb
      show (loadCells ⟨b, pre.length, none⟩ (es.length * sz)).run Tryz.prog w = _
      have hfl : (es.flatMap f).length = es.length * sz := flat_len hf es
      have hsz : cs.size = pre.length + (es.length * sz + post.length) := by
        have := congrArg List.length hcs
        simp only [Array.length_toList, List.length_append, hfl] at this
        exact this
      unfold loadCells
      rw [run_loadCells h pre.length (es.length * sz) 0 #[] (by omega)]
      have : ((cs.toList.drop (pre.length + 0)).take (es.length * sz)) = es.flatMap f := by
        rw [hcs, Nat.add_zero, List.drop_append_of_le_length (Nat.le_refl _), List.drop_length, List.nil_append, ← hfl, List.take_append_of_le_length (Nat.le_refl _), List.take_length]
      rw [this]; simp⟩
theorem flat_one {α : Type} {f : α → List Value} (h : ∀ e, (f e).all one1 = true) (es : List α) : (es.flatMap f).all one1 = true := by
  induction es with
  | nil => rfl
  | cons a l ih => rw [List.flatMap_cons, List.all_append, h a, ih]; rfl
/-- append of a slice that stays. -/
theorem l_appF {α : Type} {T sz bytes : Nat} {f : α → List Value} {o o2 : Option Addr} {m cap m2 c : Nat} {xs : List Value} {es : List α} {ts tx : TypeId} {rs tr rx : TRow}
    (nx : ∀ o' cap', Wl n C ops.toArray k Q l ((d, .slice o' (m + es.length) cap') :: E) F (Row T sz o' (m + es.length) cap' (xs ++ es.flatMap f) :: R0))
    (hw : wantL ops E ⟨some d, .call ⟨.builtin .append, #[x, y], #[ts, tx]⟩, ty0, pos, aft, gd⟩ = some true := by rfl) (hn : Nat.blt d n = true := by rfl) (hx : ev E x = some (.slice o m cap) := by rfl) (hy : ev E y = some (.slice o2 m2 c) := by rfl)
    (hts : lookT tab ts = some rs := by rfl) (hrs : rs.k = .slice T := by rfl) (hT : lookT tab T = some tr := by rfl) (hsz : tr.size = sz := by rfl) (hby : tr.bytes = bytes := by rfl) (htx : lookT tab tx = some rx := by rfl) (hnx : rx.k = .slice T := by rfl)
    (hs : Sel (Sl T f o2 c es) F F0 := by (repeat (first | exact Sel.here | apply Sel.there)); first | done | fail) (hrow : Sel (Row T sz o m cap xs) R R0 := by (repeat (first | exact Sel.here | apply Sel.there)); first | done | fail) (hm2 : m2 = es.length := by rfl)
    (hf : ∀ e, (f e).length = sz := by intro; rfl) (hone : ∀ e, (f e).all one1 = true := by intro; rfl) (hb0 : bytes ≠ 0 := by decide) (hroom : (2 * (m + es.length) + 200) * bytes ≤ 281474976710656 := by simp <;> omega) : Wl n C ops.toArray k Q (⟨some d, .call ⟨.builtin .append, #[x, y], #[ts, tx]⟩, ty0, pos, aft, gd⟩ :: l) E F R :=
  wl_op (fun t ht => by cases ht; exact Nat.le_of_ble_eq_true hn) (fun c hc => by cases hc) hw fun a w ha hsat => by
    subst hm2
    exact (app_res ha hx hy hts hrs hT hsz hby htx (.inl hnx) (src_sl (R := R) hf hs) (flat_len hf es) (flat_one hone es) hroom hrow hsat hb0).mono fun v w' ⟨o', cap', hv, hs'⟩ a' ha' => by
      subst hv; exact nx o' cap' a' w' ha' hs'
/-- The beginning of a slice that stays. -/
theorem l_slH {α : Type} {T sz : Nat} {f : α → List Value} {o : Option Addr} {m cap : Nat} {es : List α} {z2 : Int} {y2 : Operand} {rs tr : TRow} (hi : Nat) (hhi : hi ≤ es.length)
    (nx : ∀ o', Wl n C ops.toArray k Q l ((d, .slice o' (es.take hi).length cap) :: E) (Sl T f o' cap (es.take hi) :: F) R)
    (hw : wantL ops E ⟨some d, .slice t x none (some y2) none, ty0, pos, aft, gd⟩ = some true := by rfl) (hn : Nat.blt d n = true := by rfl) (hx : ev E x = some (.slice o m cap) := by rfl) (hy2 : ev E y2 = some (.int .i64 z2) := by rfl)
    (hs : Sel (Sl T f o cap es) F F0 := by (repeat (first | exact Sel.here | apply Sel.there)); first | done | fail) (hts : lookT tab t = some rs := by rfl) (hrs : rs.k = .slice T := by rfl) (hT : lookT tab T = some tr := by rfl) (hsz : tr.size = sz := by rfl) (hf : ∀ e, (f e).length = sz := by intro; rfl)
    (hz2 : z2 = (hi : Int) := by first | rfl | omega) : Wl n C ops.toArray k Q (⟨some d, .slice t x none (some y2) none, ty0, pos, aft, gd⟩ :: l) E F R :=
  wl_op (fun t ht => by cases ht; exact Nat.le_of_ble_eq_true hn) (fun c hc => by cases hc) hw fun a w ha hsat => by
    obtain ⟨hp, hr, st⟩ := hsat
    subst hz2
    have h1 := st.f _ hs.mem
    have hcap : es.length ≤ cap := h1.1
    have h2 := sl_drop (sl_take (m := hi) h1) (lo := 0) (by simp) hf
    have hs1 := tab_ok.sizeOf hT w
    rw [hsz] at hs1
    unfold OpRes
    have hc2 : (0 : Int) ≤ (hi : Int) ∧ (hi : Int) ≤ (cap : Int) := ⟨by omega, by omega⟩
    simp only [execOp, ha.ev (x := x) (by rw [evf_look]; exact hx), ha.ev (x := y2) (by rw [evf_look]; exact hy2), Option.map_some, Option.map_none, Instr.sliceAt, Instr.slice, run_und hts hrs, Instr.sliceBounds, Instr.sliceBound, asIntOf, Sem.run_bind, Result.andThen, Sem.run_pure, if_pos hc2, Int.toNat_natCast, hs1]
    have hl : hi = (es.take hi).length := by simp; omega
    rw [List.drop_zero, Nat.sub_zero] at h2
    rw [Nat.sub_zero, Nat.sub_zero]
    exact fun a' ha' => nx _ a' w (by rw [← hl]; exact ha') (add_fact st h2)
end
end Go.Proofs.YtaijnpkdlopomaaGreatDoor

set_option maxRecDepth 10000
namespace Go.Proofs.YtaijnpkdlopomaaGreatDoor
open Go.RowKit

section
variable {n : Nat} {C : Cx} {Q : Exit → Act → World → Prop} {E : List (Nat × Value)} {F : List Pf} {R R0 : List HP} {k : List Fr}
/-- What a writer holds, written otherwise. -/
theorem k_wtc {b : Nat} {xs ys : List UInt8} (h : xs = ys) (t : Wk n C k Q E F (Wtr b ys :: R0)) (hs : Sel (Wtr b xs) R R0 := by (repeat (first | exact Sel.here | apply Sel.there)); first | done | fail) : Wk n C k Q E F R := by
  subst h; exact fun a w ha hsat => t a w ha (hsat.sel hs)
end
/-- An entry that may be written. -/
def EncOK (x : Lf) : Prop := lchk x = 0 ∧ x.e.who.size ≤ 1000
theorem lchk_zero {x : Lf} (h : lchk x = 0) : 0 ≤ x.e.nu ∧ x.e.nu ≤ 1048576 ∧ 0 ≤ x.e.tk ∧ x.e.tk ≤ 1073741824 ∧ 0 ≤ x.tm ∧ x.tm ≤ 1073741824 ∧ 0 ≤ x.rd ∧ x.rd ≤ 1048576 ∧ ochk x.e.o = 0 := by
  rcases lchk_cases x with ⟨_, he⟩ | ⟨_, _, he⟩ | ⟨_, hr, he⟩
  · rw [he] at h; cases h
  · rw [he] at h; cases h
  · rw [he] at h; exact ⟨hr.1, hr.2.1, hr.2.2.1, hr.2.2.2.1, hr.2.2.2.2.1, hr.2.2.2.2.2.1, hr.2.2.2.2.2.2.1, hr.2.2.2.2.2.2.2, h⟩
theorem lenc_len {x : Lf} (h : EncOK x) : (lenc x).length ≤ 6100 := by
  obtain ⟨z1, z2, z3, z4, z5, z6, z7, z8, hoc⟩ := lchk_zero h.1
  have h0 := h.2
  have l1 := venc_len10 x.e.who.size (by omega)
  have l2 := venc_len10 x.e.nu.toNat (by omega)
  have l3 := venc_len10 x.e.tk.toNat (by omega)
  have l4 := oenc_len hoc
  have l5 := venc_len10 x.tm.toNat (by omega)
  have l6 := venc_len10 x.rd.toNat (by omega)
  have s1 : x.e.who.data.toList.length = x.e.who.size := by simp
  simp only [lenc, List.length_append]; omega
theorem lencs_len : ∀ l : List Lf, (∀ x ∈ l, EncOK x) → (l.flatMap lenc).length ≤ l.length * 6100
  | [], _ => by simp
  | x :: l, h => by
    have h1 := lenc_len (h x (by simp))
    have h2 := lencs_len l fun y hy => h y (by simp [hy])
    simp only [List.flatMap_cons, List.length_append, List.length_cons]; omega
def lencsS (ls : List Lf) : ByteArray := ⟨(lencs ls).toArray⟩

end Go.Proofs.YtaijnpkdlopomaaGreatDoor
