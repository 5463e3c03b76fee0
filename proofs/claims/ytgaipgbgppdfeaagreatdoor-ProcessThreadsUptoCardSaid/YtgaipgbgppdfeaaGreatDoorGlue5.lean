/-
  A slice of bytes as an argument.
  Conditions: none beyond those that the theorem states.
-/
import Derived.Test.YtgaipgbgppdfeaaGreatDoorGlue3
set_option maxRecDepth 10000
namespace Go.Proofs.YtgaipgbgppdfeaaGreatDoor
open Go.RowKit Go.ChangeShapes Go.WideShapes Go.ChangeAt

theorem plU8 : plainT Tryz.prog 5 5 = true := by decide +kernel
theorem open_bytes {H : Type} {enc : TypeId × Value → H} {W : World} {base : Nat} {v : Value} {d : DataW H} {p : List MemPlace} (hv : Value.okWide Tryz.prog W .any base 22 v) (h : DataW.Trod enc Tryz.prog W 0 (fun _ => true) true 22 v d p) :
    ∃ (o : Option Addr) (cap : Nat) (es : List UInt8), v = .slice o es.length cap ∧ (Sl 5 bf o cap es).p (fun b => W.heap[b]?) ∧ es.length ≤ Rows.uptoBulk d ∧
      ∀ (W' : World) (sp : Nat → Bool), Kept W W' → (∀ b < W.heap.size, sp b = true) → DataW.Trod enc Tryz.prog W' 0 sp true 22 v d p := by
  obtain ⟨o, cap, es, h1, h2, h3, _, h4⟩ := open_sl (fa := bf) (Q := fun _ _ => True) 5 Tryz.underlying22 plU8 (by decide +kernel) (fun _ => show 1 = _ by decide +kernel) (fun n cs x hx => by
    cases n with
    | zero => simp [DataW.trod] at hx
    | succ n =>
      obtain ⟨z, rfl, _, hz⟩ := DataW.trod_int Tryz.underlying5 hx
      obtain ⟨c, rfl⟩ := u8_of hz
      exact ⟨c, rfl, trivial⟩) (fun _ _ _ _ _ => trivial) hv h
  exact ⟨o, cap, es, h1, h2, h3, h4⟩
end Go.Proofs.YtgaipgbgppdfeaaGreatDoor
