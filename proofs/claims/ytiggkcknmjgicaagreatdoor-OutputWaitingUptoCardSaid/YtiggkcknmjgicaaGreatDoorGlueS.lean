/-
  A list of outputs to be sent, opened as an argument.
  Conditions: none beyond those that each theorem states.
-/
import Derived.Test.YtiggkcknmjgicaaGreatDoorMH
import Derived.Test.YtiggkcknmjgicaaGreatDoorSn
set_option maxRecDepth 10000
namespace Go.Proofs.YtiggkcknmjgicaaGreatDoor
open Go.RowKit Go.ChangeShapes Go.WideShapes Go.ChangeAt

theorem plSn : plainT Tryz.prog 5 135 = true := by decide +kernel
theorem skSn : sks Tryz.prog 5 135 = some [.i .u8, .i .i64, .i .i64, .s, .s, .i .i64] := by kernel_rfl
theorem cells_sn {M : Nat} {cs : List Value} (h : CellsOK M [.i .u8, .i .i64, .i .i64, .s, .s, .i .i64] cs) : ∃ x : Sn, cs = snf x ∧ True := by
  obtain ⟨z1, cs, rfl, h1, h⟩ := cells_i h
  obtain ⟨z2, cs, rfl, _, h⟩ := cells_i h
  obtain ⟨z3, cs, rfl, _, h⟩ := cells_i h
  obtain ⟨s4, cs, rfl, _, h⟩ := cells_s h
  obtain ⟨s5, cs, rfl, _, h⟩ := cells_s h
  obtain ⟨z6, cs, rfl, _, h⟩ := cells_i h
  obtain rfl := cells_nil h
  obtain ⟨c, rfl⟩ := u8_of h1
  exact ⟨⟨c, z2, ⟨z3, s4, s5, z6⟩⟩, rfl, trivial⟩
section
variable {H : Type} {enc : TypeId × Value → H} {W : World} {base : Nat} {v : Value} {d : DataW H} {p : List MemPlace}
theorem open_sents (hv : Value.okWide Tryz.prog W .any base 66 v) (h : DataW.Trod enc Tryz.prog W 0 (fun _ => true) true 66 v d p) :
    ∃ (o : Option Addr) (cap : Nat) (es : List Sn), v = .slice o es.length cap ∧ (Sl 135 snf o cap es).p (fun b => W.heap[b]?) ∧ es.length ≤ Rows.uptoBulk d ∧ (∀ y ∈ es, True) ∧
      ∀ (W' : World) (sp : Nat → Bool), Kept W W' → (∀ b < W.heap.size, sp b = true) → DataW.Trod enc Tryz.prog W' 0 sp true 66 v d p :=
  open_sl (fa := snf) (Q := fun _ _ => True) _ Tryz.underlying66 plSn (by decide +kernel) (fun _ => show 6 = _ by decide +kernel) (fun n cs x hx => cells_sn (trod_cells n 5 _ W 0 _ _ _ _ _ plSn skSn hx)) (fun _ _ _ h1 _ => h1) hv h
end
end Go.Proofs.YtiggkcknmjgicaaGreatDoor
