/-
  The arguments of the statements of layer 27, opened.
  Conditions: none beyond those that each theorem states.
-/
import Derived.Test.YtijaglinajfplaaGreatDoorMH
import Derived.Test.YtijaglinajfplaaGreatDoorMJ
set_option maxRecDepth 10000
namespace Go.Proofs.YtijaglinajfplaaGreatDoor
open Go.RowKit Go.ChangeShapes Go.WideShapes Go.ChangeAt

theorem plIno : plainT Tryz.prog 5 58 = true := by decide +kernel
theorem skIno : sks Tryz.prog 5 58 = some [.i .i64, .i .i64, .i .i64, .i .i64, .i .i64, .i .i64, .s] := by kernel_rfl
theorem cells_ino {M : Nat} {cs : List Value} (h : CellsOK M [.i .i64, .i .i64, .i .i64, .i .i64, .i .i64, .i .i64, .s] cs) : ∃ n : Ino, cs = inf n ∧ ∀ z ∈ [n.kd, n.ow, n.gr, n.md, n.sz, n.lk], z < 9223372036854775808 := by
  obtain ⟨z1, cs, rfl, h1, h⟩ := cells_i h
  obtain ⟨z2, cs, rfl, h2, h⟩ := cells_i h
  obtain ⟨z3, cs, rfl, h3, h⟩ := cells_i h
  obtain ⟨z4, cs, rfl, h4, h⟩ := cells_i h
  obtain ⟨z5, cs, rfl, h5, h⟩ := cells_i h
  obtain ⟨z6, cs, rfl, h6, h⟩ := cells_i h
  obtain ⟨s7, cs, rfl, _, h⟩ := cells_s h
  obtain rfl := cells_nil h
  refine ⟨⟨z1, z2, z3, z4, z5, z6, s7⟩, rfl, fun z hz => ?_⟩
  simp only [List.mem_cons, List.not_mem_nil, or_false] at hz
  rcases hz with rfl | rfl | rfl | rfl | rfl | rfl
  · exact (i64_in h1).2
  · exact (i64_in h2).2
  · exact (i64_in h3).2
  · exact (i64_in h4).2
  · exact (i64_in h5).2
  · exact (i64_in h6).2
section
variable {H : Type} {enc : TypeId × Value → H} {W : World} {base : Nat} {v : Value} {d : DataW H} {p : List MemPlace}
theorem open_ino (hv : Value.okWide Tryz.prog W .any base 58 v) (h : DataW.Trod enc Tryz.prog W 0 (fun _ => true) true 58 v d p) :
    ∃ n : Ino, v = n.v ∧ (∀ z ∈ [n.kd, n.ow, n.gr, n.md, n.sz, n.lk], z < 9223372036854775808) ∧ p = [] ∧ ∀ w' base' sp' hd', DataW.Trod enc Tryz.prog w' base' sp' hd' 58 v d [] := by
  obtain ⟨cs, rfl, hc, hp, hr⟩ := open_agg plIno skIno (aggS Tryz.underlying58 hv) h
  obtain ⟨n, rfl, hn⟩ := cells_ino hc
  exact ⟨n, rfl, hn, hp, hr⟩
end
end Go.Proofs.YtijaglinajfplaaGreatDoor
