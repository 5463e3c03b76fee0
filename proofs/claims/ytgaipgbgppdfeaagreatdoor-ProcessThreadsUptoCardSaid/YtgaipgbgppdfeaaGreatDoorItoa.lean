/-
  The library's contracts, laid at this program: strconv.Itoa.
  Conditions: those that each theorem states.
-/
import Derived.Shelf.Lay
import Derived.Shelf.LaysM
import Derived.Shelf.Strconv.Itoa3
import Derived.Test.YtgaipgbgppdfeaaGreatDoorMC
set_option maxRecDepth 10000
namespace Go.Proofs
open Go.Shelf
shelf_lay LaysM.n171 Nm 171 at Tryz as Tryz.laysM171
end Go.Proofs
namespace Go.Proofs.YtgaipgbgppdfeaaGreatDoor
open Go.RowKit

theorem ext_grow (w : World) (k : Nat) (os : Array Obj) : Ext w (Sort.grow (w.drewN k) os) :=
  ⟨rfl, rfl, rfl, by simp [Sort.grow, World.drewN], fun j hj => by
    show (w.heap ++ os)[j]? = _
    rw [Array.getElem?_append_left hj]⟩

/-- The table of the powers of ten. -/
def P10 : Pf := ⟨fun h => ∃ T fz, h 3 = some (.cells (Lib.pow10Tab.map fun z => Value.int .u64 z).toArray T fz), fun _ _ s ⟨T, fz, h⟩ => ⟨T, fz, s _ _ h⟩⟩
theorem g10 : Tryz.prog.globalNamed "internal/strconv.uint64pow10" = some 3 := by kernel_rfl
theorem tab10 {w : World} {T : TypeId} {fz : Nat × Nat} (h : w.heap[3]? = some (.cells (Lib.pow10Tab.map fun z => Value.int .u64 z).toArray T fz)) : Lib.TabIs Tryz.prog w "internal/strconv.uint64pow10" .u64 Lib.pow10Tab := by
  unfold Lib.TabIs World.var?
  rw [g10]
  simp only [Option.bind_some]
  rw [h]

theorem itoa_ok (n : Int) (h0 : -9223372036854775808 ≤ n) (h1 : n ≤ 9223372036854775807) : Enters 180 ∧ Spec Tryz.prog 180 #[.int .i64 n] [P10] [] (RetV (.string ⟨(Lib.itoa n).toArray⟩)) := by
  refine ⟨enters_of Tryz.func180 (by kernel_rfl) rfl, fun G w hp hs => ?_⟩
  obtain ⟨hp', hr, st⟩ := hs
  obtain ⟨T, fz, h⟩ := st.f P10 (by simp)
  refine (Any.strconv_Itoa Tryz.laysM171 n h0 h1 w (tab10 (st.inp _ _ h))).mono ?_
  rintro e w' ⟨rfl, k, os, rfl⟩
  exact ⟨(), rfl, trivial, (Sat.ext ⟨hp', hr, st⟩ (ext_grow w k os)).facts fun _ _ x hx => by simp [RetV] at hx⟩

end Go.Proofs.YtgaipgbgppdfeaaGreatDoor
