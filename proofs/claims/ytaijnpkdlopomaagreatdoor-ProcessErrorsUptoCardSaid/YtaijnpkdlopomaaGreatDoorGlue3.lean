/-
  The statements' arguments, opened: items, bytes.
  Conditions: none beyond those that each theorem states.
-/
import Derived.Test.YtaijnpkdlopomaaGreatDoorMH
import Derived.Test.YtaijnpkdlopomaaGreatDoorLaw
set_option maxRecDepth 10000
namespace Go.Proofs.YtaijnpkdlopomaaGreatDoor
open Go.RowKit Go.ChangeShapes Go.WideShapes Go.ChangeAt

theorem open_it {M : Nat} {cs : List Value} (h : CellsOK M [.i .u8, .i .u8, .i .u8, .i .u8, .s] cs) : ∃ c : It, cs = itf c ∧ c.tx.size ≤ M := by
  obtain _ | ⟨v1, cs⟩ := cs; · exact h.elim
  obtain ⟨⟨z1, rfl, h1⟩, h⟩ := h
  obtain _ | ⟨v2, cs⟩ := cs; · exact h.elim
  obtain ⟨⟨z2, rfl, h2⟩, h⟩ := h
  obtain _ | ⟨v3, cs⟩ := cs; · exact h.elim
  obtain ⟨⟨z3, rfl, h3⟩, h⟩ := h
  obtain _ | ⟨v4, cs⟩ := cs; · exact h.elim
  obtain ⟨⟨z4, rfl, h4⟩, h⟩ := h
  obtain _ | ⟨v5, cs⟩ := cs; · exact h.elim
  obtain ⟨⟨s5, rfl, h5⟩, h⟩ := h
  obtain _ | ⟨v6, cs⟩ := cs
  · obtain ⟨c1, rfl⟩ := u8_of h1
    obtain ⟨c2, rfl⟩ := u8_of h2
    obtain ⟨c3, rfl⟩ := u8_of h3
    obtain ⟨c4, rfl⟩ := u8_of h4
    exact ⟨⟨c1, c2, c3, c4, s5⟩, rfl, h5⟩
  · exact h.elim

end Go.Proofs.YtaijnpkdlopomaaGreatDoor
