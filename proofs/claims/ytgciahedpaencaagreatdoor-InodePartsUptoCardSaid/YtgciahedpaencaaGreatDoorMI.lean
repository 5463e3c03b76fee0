/-
  Slices that stay: the beginning of one, and one appended to another.
  Conditions: those that each theorem states.
-/
import Derived.Test.YtgciahedpaencaaGreatDoorMB
set_option maxRecDepth 10000
namespace Go.Proofs.YtgciahedpaencaaGreatDoor
open Go.RowKit

section
variable {n : Nat} {C : Cx} {Q : Exit → Act → World → Prop} {E : List (Nat × Value)} {F F0 : List Pf} {R R0 : List HP} {k : List Fr} {ops l : List Oper}
  {d : Nat} {t ty0 : TypeId} {x y : Operand} {pos : String} {aft : Array Edge} {gd : Option (Nat × Bool)}
theorem src_sl {α : Type} {T sz : Nat} {f : α → List Value} {o : Option Addr} {cap : Nat} {es : List α} (hf : ∀ e, (f e).length = sz) (hs : Sel (Sl T f o cap es) F F0) : Src F R sz (.slice o es.length cap) es.length (es.flatMap f) :=
  ⟨rfl, fun G w0 hp0 w hsat => by
    obtain ⟨hp, hr, st⟩ := hsat
    obtain ⟨hc, rfl | ⟨b, cs, fz, pre, post, rfl, hb, hcs⟩⟩ := st.f _ hs.mem
    · cases o with
      | none => rfl
      | some a =>
        show (loadCells a (0 * sz)).run Tryz.prog w = _
        rw [Nat.zero_mul]
        unfold loadCells
        rfl
    · have h := st.inp _ _ hb
      show (loadCells ⟨b, pre.length, none⟩ (es.length * sz)).run Tryz.prog w = _
      have hfl : (es.flatMap f).length = es.length * sz := flat_len hf es
      have hsz : cs.size = pre.length + (es.length * sz + post.length) := by
        have := congrArg List.length hcs
        simp only [Array.length_toList, List.length_append, hfl] at this
        exact this
      unfold loadCells
      rw [run_loadCells h pre.length (es.length * sz) 0 #[] (by omega)]
      have : ((cs.toList.drop (pre.length + 0)).take (es.length * sz)) = es.flatMap f := by
        rw [hcs, Nat.add_zero, List.drop_append_of_le_length (Nat.le_refl _), List.drop_length, List.nil_append, ← hfl, List.take_append_of_le_length (Nat.le_refl _), List.take_length]
      rw [this]; simp⟩
theorem flat_one {α : Type} {f : α → List Value} (h : ∀ e, (f e).all one1 = true) (es : List α) : (es.flatMap f).all one1 = true := by
  induction es with
  | nil => rfl
  | cons a l ih => rw [List.flatMap_cons, List.all_append, h a, ih]; rfl
/-- append of a slice that stays. -/
theorem l_appF {α : Type} {T sz bytes : Nat} {f : α → List Value} {o o2 : Option Addr} {m cap m2 c : Nat} {xs : List Value} {es : List α} {ts tx : TypeId} {rs tr rx : TRow}
    (nx : ∀ o' cap', Wl n C ops.toArray k Q l ((d, .slice o' (m + es.length) cap') :: E) F (Row T sz o' (m + es.length) cap' (xs ++ es.flatMap f) :: R0))
    (hw : wantL ops E ⟨some d, .call ⟨.builtin .append, #[x, y], #[ts, tx]⟩, ty0, pos, aft, gd⟩ = some true := by rfl) (hn : Nat.blt d n = true := by rfl) (hx : ev E x = some (.slice o m cap) := by rfl) (hy : ev E y = some (.slice o2 m2 c) := by rfl)
    (hts : lookT tab ts = some rs := by rfl) (hrs : rs.k = .slice T := by rfl) (hT : lookT tab T = some tr := by rfl) (hsz : tr.size = sz := by rfl) (hby : tr.bytes = bytes := by rfl) (htx : lookT tab tx = some rx := by rfl) (hnx : rx.k = .slice T := by rfl)
    (hs : Sel (Sl T f o2 c es) F F0 := by (repeat (first | exact Sel.here | apply Sel.there)); first | done | fail) (hrow : Sel (Row T sz o m cap xs) R R0 := by (repeat (first | exact Sel.here | apply Sel.there)); first | done | fail) (hm2 : m2 = es.length := by rfl)
    (hf : ∀ e, (f e).length = sz := by intro; rfl) (hone : ∀ e, (f e).all one1 = true := by intro; rfl) (hb0 : bytes ≠ 0 := by decide) (hroom : (2 * (m + es.length) + 200) * bytes ≤ 281474976710656 := by simp <;> omega) : Wl n C ops.toArray k Q (⟨some d, .call ⟨.builtin .append, #[x, y], #[ts, tx]⟩, ty0, pos, aft, gd⟩ :: l) E F R :=
  wl_op (fun t ht => by cases ht; exact Nat.le_of_ble_eq_true hn) (fun c hc => by cases hc) hw fun a w ha hsat => by
    subst hm2
    exact (app_res ha hx hy hts hrs hT hsz hby htx (.inl hnx) (src_sl (R := R) hf hs) (flat_len hf es) (flat_one hone es) hroom hrow hsat hb0).mono fun v w' ⟨o', cap', hv, hs'⟩ a' ha' => by
      subst hv; exact nx o' cap' a' w' ha' hs'
/-- The beginning of a slice that stays. -/
theorem l_slH {α : Type} {T sz : Nat} {f : α → List Value} {o : Option Addr} {m cap : Nat} {es : List α} {z2 : Int} {y2 : Operand} {rs tr : TRow} (hi : Nat) (hhi : hi ≤ es.length)
    (nx : ∀ o', Wl n C ops.toArray k Q l ((d, .slice o' (es.take hi).length cap) :: E) (Sl T f o' cap (es.take hi) :: F) R)
    (hw : wantL ops E ⟨some d, .slice t x none (some y2) none, ty0, pos, aft, gd⟩ = some true := by rfl) (hn : Nat.blt d n = true := by rfl) (hx : ev E x = some (.slice o m cap) := by rfl) (hy2 : ev E y2 = some (.int .i64 z2) := by rfl)
    (hs : Sel (Sl T f o cap es) F F0 := by (repeat (first | exact Sel.here | apply Sel.there)); first | done | fail) (hts : lookT tab t = some rs := by rfl) (hrs : rs.k = .slice T := by rfl) (hT : lookT tab T = some tr := by rfl) (hsz : tr.size = sz := by rfl) (hf : ∀ e, (f e).length = sz := by intro; rfl)
    (hz2 : z2 = (hi : Int) := by first | rfl | omega) : Wl n C ops.toArray k Q (⟨some d, .slice t x none (some y2) none, ty0, pos, aft, gd⟩ :: l) E F R :=
  wl_op (fun t ht => by cases ht; exact Nat.le_of_ble_eq_true hn) (fun c hc => by cases hc) hw fun a w ha hsat => by
    obtain ⟨hp, hr, st⟩ := hsat
    subst hz2
    have h1 := st.f _ hs.mem
    have hcap : es.length ≤ cap := h1.1
    have h2 := sl_drop (sl_take (m := hi) h1) (lo := 0) (by simp) hf
    have hs1 := tab_ok.sizeOf hT w
    rw [hsz] at hs1
    unfold OpRes
    have hc2 : (0 : Int) ≤ (hi : Int) ∧ (hi : Int) ≤ (cap : Int) := ⟨by omega, by omega⟩
    simp only [execOp, ha.ev (x := x) (by rw [evf_look]; exact hx), ha.ev (x := y2) (by rw [evf_look]; exact hy2), Option.map_some, Option.map_none, Instr.sliceAt, Instr.slice, run_und hts hrs, Instr.sliceBounds, Instr.sliceBound, asIntOf, Sem.run_bind, Result.andThen, Sem.run_pure, if_pos hc2, Int.toNat_natCast, hs1]
    have hl : hi = (es.take hi).length := by simp; omega
    rw [List.drop_zero, Nat.sub_zero] at h2
    rw [Nat.sub_zero, Nat.sub_zero]
    exact fun a' ha' => nx _ a' w (by rw [← hl]; exact ha') (add_fact st h2)
end
end Go.Proofs.YtgciahedpaencaaGreatDoor
