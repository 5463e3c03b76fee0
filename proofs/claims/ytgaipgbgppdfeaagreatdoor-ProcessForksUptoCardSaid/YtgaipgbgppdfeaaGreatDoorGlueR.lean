/-
  Registers, as an argument.
  Conditions: none beyond those that each theorem states.
-/
import Derived.Test.YtgaipgbgppdfeaaGreatDoorMH
set_option maxRecDepth 10000
namespace Go.Proofs.YtgaipgbgppdfeaaGreatDoor
open Go.RowKit Go.ChangeShapes Go.WideShapes Go.ChangeAt

theorem plRg : plainT Tryz.prog 5 26 = true := by decide +kernel
theorem skRg : sks Tryz.prog 5 26 = some [.i .u32, .i .u32, .i .u32, .i .u32, .i .u32, .i .u32, .i .u32, .i .u32, .i .u32] := by kernel_rfl
theorem u32_in {n : Int} (h : (Lit.int .u32 n).wf = true) : 0 ≤ n ∧ n < 4294967296 := by
  simp [Lit.wf, IntKind.min, IntKind.max, IntKind.bits, IntKind.signed] at h
  omega
section
variable {H : Type} {enc : TypeId × Value → H} {W : World} {base : Nat} {v : Value} {d : DataW H} {p : List MemPlace}
theorem open_rg (hv : Value.okWide Tryz.prog W .any base 26 v) (h : DataW.Trod enc Tryz.prog W 0 (fun _ => true) true 26 v d p) :
    ∃ a1 a2 a3 a4 a5 a6 a7 a8 a9 : Int, v = .agg #[.int .u32 a1, .int .u32 a2, .int .u32 a3, .int .u32 a4, .int .u32 a5, .int .u32 a6, .int .u32 a7, .int .u32 a8, .int .u32 a9] ∧ (∀ z ∈ [a1, a2, a3, a4, a5, a6, a7, a8, a9], 0 ≤ z ∧ z < 4294967296) ∧ p = [] ∧ ∀ w' base' sp' hd', DataW.Trod enc Tryz.prog w' base' sp' hd' 26 v d [] := by
  obtain ⟨cs, rfl, h, hp, hr⟩ := open_agg plRg skRg (aggS Tryz.underlying26 hv) h
  obtain ⟨z1, cs, rfl, h1, h⟩ := cells_i h
  obtain ⟨z2, cs, rfl, h2, h⟩ := cells_i h
  obtain ⟨z3, cs, rfl, h3, h⟩ := cells_i h
  obtain ⟨z4, cs, rfl, h4, h⟩ := cells_i h
  obtain ⟨z5, cs, rfl, h5, h⟩ := cells_i h
  obtain ⟨z6, cs, rfl, h6, h⟩ := cells_i h
  obtain ⟨z7, cs, rfl, h7, h⟩ := cells_i h
  obtain ⟨z8, cs, rfl, h8, h⟩ := cells_i h
  obtain ⟨z9, cs, rfl, h9, h⟩ := cells_i h
  obtain rfl := cells_nil h
  refine ⟨z1, z2, z3, z4, z5, z6, z7, z8, z9, rfl, fun z hz => ?_, hp, hr⟩
  simp only [List.mem_cons, List.not_mem_nil, or_false] at hz
  rcases hz with rfl | rfl | rfl | rfl | rfl | rfl | rfl | rfl | rfl
  · exact u32_in h1
  · exact u32_in h2
  · exact u32_in h3
  · exact u32_in h4
  · exact u32_in h5
  · exact u32_in h6
  · exact u32_in h7
  · exact u32_in h8
  · exact u32_in h9
end
end Go.Proofs.YtgaipgbgppdfeaaGreatDoor
