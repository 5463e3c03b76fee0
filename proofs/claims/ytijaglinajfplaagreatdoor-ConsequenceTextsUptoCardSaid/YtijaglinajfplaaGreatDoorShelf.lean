/-
  The library's contracts, laid at this program: strconv.Itoa, strings.Join.
  Conditions: those that each theorem states.
-/
import Derived.Shelf.Lay
import Derived.Shelf.LaysM
import Derived.Shelf.Strconv.Itoa3
import Derived.Shelf.Strings.OnBuilder
import Derived.Test.YtijaglinajfplaaGreatDoorLeaf
set_option maxRecDepth 10000
namespace Go.Proofs
open Go.Shelf
shelf_lay LaysM.n171 Nm 171 at Tryz as Tryz.laysM171
shelf_lay Lays.n156 Nm 156 at Tryz as Tryz.lays156
theorem Tryz.bx156 : Builder.Extra Tryz.prog Tryz.lays156_ren where
  sizeBuilder := by kernel_rfl
  liesBuilder := by kernel_rfl
  t5 := Tryz.underlying5
  a5 := Tryz.isAgg5
  z5 := Tryz.sizeOf5
  v5 := Tryz.zeroValue5
  infoByte := by kernel_rfl
  cellsByte := by kernel_rfl
  sizeByte := by kernel_rfl
  neB5 := by decide
end Go.Proofs
namespace Go.Proofs.YtijaglinajfplaaGreatDoor
open Go.RowKit

theorem ext_grow (w : World) (k : Nat) (os : Array Obj) : Ext w (Sort.grow (w.drewN k) os) :=
  ⟨rfl, rfl, rfl, by simp [Sort.grow, World.drewN], fun j hj => by
    show (w.heap ++ os)[j]? = _
    rw [Array.getElem?_append_left hj]⟩

/-- The table of the powers of ten. -/
def P10 : Pf := ⟨fun h => ∃ T fz, h 1 = some (.cells (Lib.pow10Tab.map fun z => Value.int .u64 z).toArray T fz), fun _ _ s ⟨T, fz, h⟩ => ⟨T, fz, s _ _ h⟩⟩
theorem g10 : Tryz.prog.globalNamed "internal/strconv.uint64pow10" = some 1 := by kernel_rfl
theorem tab10 {w : World} {T : TypeId} {fz : Nat × Nat} (h : w.heap[1]? = some (.cells (Lib.pow10Tab.map fun z => Value.int .u64 z).toArray T fz)) : Lib.TabIs Tryz.prog w "internal/strconv.uint64pow10" .u64 Lib.pow10Tab := by
  unfold Lib.TabIs World.var?
  rw [g10]
  simp only [Option.bind_some]
  rw [h]

theorem itoa_ok (n : Int) (h0 : -9223372036854775808 ≤ n) (h1 : n ≤ 9223372036854775807) : Enters 76 ∧ Spec Tryz.prog 76 #[.int .i64 n] [P10] [] (RetV (.string ⟨(Lib.itoa n).toArray⟩)) := by
  refine ⟨enters_of Tryz.func76 (by kernel_rfl) rfl, fun G w hp hs => ?_⟩
  obtain ⟨hp', hr, st⟩ := hs
  obtain ⟨T, fz, h⟩ := st.f P10 (by simp)
  refine (Any.strconv_Itoa Tryz.laysM171 n h0 h1 w (tab10 (st.inp _ _ h))).mono ?_
  rintro e w' ⟨rfl, k, os, rfl⟩
  exact ⟨(), rfl, trivial, (Sat.ext ⟨hp', hr, st⟩ (ext_grow w k os)).facts fun _ _ x hx => by simp [RetV] at hx⟩

theorem cell_of {w : World} {b j : Nat} {cs : Array Value} {T : TypeId} {fz : Nat × Nat} {v : Value} (h : w.heap[b]? = some (.cells cs T fz)) (hj : cs.toList[j]? = some v) : w.cell? ⟨b, 0 + j, none⟩ = some v := by
  simp [World.cell?, h] at hj ⊢
  exact hj

theorem sjoin_ok (b c : Nat) (xs : List ByteArray) (sep : ByteArray) (cs : Array Value) (T : TypeId) (fz : Nat × Nat) (hcs : cs.toList = xs.map Value.string) (hcap : xs.length ≤ c) (hN : xs.length ≤ 1000) (hlen : (Lib.join (xs.map (·.data.toList)) sep.data.toList).length ≤ 1000000) :
    Enters 78 ∧ Spec Tryz.prog 78 #[.slice (some ⟨b, 0, none⟩) xs.length c, .string sep] [] [Pt b (.cells cs T fz)] ⟨Unit, fun _ => .string ⟨(Lib.join (xs.map (·.data.toList)) sep.data.toList).toArray⟩, fun _ => True, fun _ => [], fun _ => [Pt b (.cells cs T fz)]⟩ := by
  refine ⟨enters_of Tryz.func78 (by kernel_rfl) rfl, fun G w hp hs => ?_⟩
  have hb := hs.pt Sel.here
  refine (Any.strings_Join Tryz.lays156 Tryz.bx156 b 0 c xs sep w (fun j x hx => cell_of hb (by rw [hcs]; simp [hx])) (by
    by_cases h : b < w.heap.size
    · exact h
    · rw [Array.getElem?_eq_none (by omega)] at hb; cases hb) (by omega) hcap (by omega)).mono ?_
  rintro e w' ⟨rfl, hx⟩
  exact ⟨(), rfl, trivial, hs.ext hx⟩

/-- The same, for a slice that was just made of the texts. -/
theorem sjoinL_ok (b : Nat) (xs : List ByteArray) (T : TypeId) (hN : xs.length ≤ 1000) (hlen : (Lib.join (xs.map (·.data.toList)) [32]).length ≤ 1000000) :
    Enters 78 ∧ Spec Tryz.prog 78 #[.slice (some ⟨b, 0, none⟩) xs.length xs.length, .string ⟨#[32]⟩] [] [Pt b (.cells (xs.map Value.string).toArray T (0, 0))] (RetV (.string ⟨(Lib.join (xs.map (·.data.toList)) [32]).toArray⟩)) := by
  have h := sjoin_ok b xs.length xs ⟨#[32]⟩ (xs.map Value.string).toArray T (0, 0) (by simp) (Nat.le_refl _) hN hlen
  refine ⟨h.1, fun G w hp hs => (h.2 G w hp hs).mono ?_⟩
  rintro e w' ⟨x, rfl, _, hs'⟩
  exact ⟨(), rfl, trivial, hs'.res fun _ _ => trivial⟩
theorem sjoin0_ok (sep : ByteArray) : Enters 78 ∧ Spec Tryz.prog 78 #[.slice none 0 0, .string sep] [] [] (RetV (.string ⟨#[]⟩)) := by
  refine ⟨enters_of Tryz.func78 (by kernel_rfl) rfl, fun G w hp hs => ?_⟩
  refine (Any.strings_Join_none Tryz.lays156 Tryz.bx156 none 0 sep w).mono ?_
  rintro e w' ⟨rfl, rfl⟩
  exact ⟨(), rfl, trivial, hs⟩
end Go.Proofs.YtijaglinajfplaaGreatDoor
