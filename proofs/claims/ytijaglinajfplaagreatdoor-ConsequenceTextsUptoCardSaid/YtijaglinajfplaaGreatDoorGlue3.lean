/-
  The statements' arguments, opened: items, bytes.
  Conditions: none beyond those that each theorem states.
-/
import Derived.Test.YtijaglinajfplaaGreatDoorGlue2
set_option maxRecDepth 10000
namespace Go.Proofs.YtijaglinajfplaaGreatDoor
open Go.RowKit Go.ChangeShapes Go.WideShapes Go.ChangeAt

theorem own : ownKnob Tryz.prog.godebug = none := by kernel_rfl
theorem u8_of {n : Int} (h : (Lit.int .u8 n).wf = true) : ∃ c : UInt8, n = (c.toNat : Int) := by
  have h1 : 0 ≤ n ∧ n < 256 := by
    simp [Lit.wf, IntKind.min, IntKind.max, IntKind.bits, IntKind.signed] at h
    omega
  exact ⟨UInt8.ofNat n.toNat, by simp; omega⟩
/-- The settled world, the table holding what its initialiser lays. -/
noncomputable def laidWorld (os : Os) : World :=
  { World.holding Tryz.prog os ⟨#[], #[], []⟩ with heap := (World.holding Tryz.prog os ⟨#[], #[], []⟩).heap.modify 0 fun
      | .cells _ t frozen => .cells (usages.flatMap uf).toArray t frozen
      | o => o }

theorem plI : plainT Tryz.prog 5 132 = true := by decide +kernel
theorem skI : sks Tryz.prog 5 132 = some [.i .u8, .i .u8, .i .u8, .i .u8, .s] := by kernel_rfl
theorem open_it {M : Nat} {cs : List Value} (h : CellsOK M [.i .u8, .i .u8, .i .u8, .i .u8, .s] cs) : ∃ c : It, cs = itf c ∧ c.tx.size ≤ M := by
  obtain _ | ⟨v1, cs⟩ := cs; · exact h.elim
  obtain ⟨⟨z1, rfl, h1⟩, h⟩ := h
  obtain _ | ⟨v2, cs⟩ := cs; · exact h.elim
  obtain ⟨⟨z2, rfl, h2⟩, h⟩ := h
  obtain _ | ⟨v3, cs⟩ := cs; · exact h.elim
  obtain ⟨⟨z3, rfl, h3⟩, h⟩ := h
  obtain _ | ⟨v4, cs⟩ := cs; · exact h.elim
  obtain ⟨⟨z4, rfl, h4⟩, h⟩ := h
  obtain _ | ⟨v5, cs⟩ := cs; · exact h.elim
  obtain ⟨⟨s5, rfl, h5⟩, h⟩ := h
  obtain _ | ⟨v6, cs⟩ := cs
  · obtain ⟨c1, rfl⟩ := u8_of h1
    obtain ⟨c2, rfl⟩ := u8_of h2
    obtain ⟨c3, rfl⟩ := u8_of h3
    obtain ⟨c4, rfl⟩ := u8_of h4
    exact ⟨⟨c1, c2, c3, c4, s5⟩, rfl, h5⟩
  · exact h.elim

theorem open_items {H : Type} {enc : TypeId × Value → H} {W : World} {base : Nat} {v : Value} {d : DataW H} {p : List MemPlace} (hv : Value.okWide Tryz.prog W .any base 133 v) (h : DataW.Trod enc Tryz.prog W 0 (fun _ => true) true 133 v d p) :
    ∃ (o : Option Addr) (cap : Nat) (es : List It), v = .slice o es.length cap ∧ (Sl 132 itf o cap es).p (fun b => W.heap[b]?) ∧ es.length ≤ Rows.uptoBulk d ∧ (∀ y ∈ es, y.tx.size ≤ Rows.uptoBulk d) ∧
      ∀ (W' : World) (sp : Nat → Bool), Kept W W' → (∀ b < W.heap.size, sp b = true) → DataW.Trod enc Tryz.prog W' 0 sp true 133 v d p :=
  open_sl (fa := itf) (Q := fun y M => y.tx.size ≤ M) _ Tryz.underlying133 plI (by decide +kernel) (fun _ => show 5 = _ by decide +kernel) (fun n cs x hx => open_it (trod_cells n 5 _ W 0 _ _ _ _ _ plI skI hx)) (fun _ _ _ h1 h2 => Nat.le_trans h1 h2) hv h
end Go.Proofs.YtijaglinajfplaaGreatDoor
