/-
  The laid tables: the kinds of objects, the powers of ten.
  Conditions: none beyond those that each theorem states.
-/
import Derived.Test.YtgaipgbgppdfeaaGreatDoorGlue3
import Derived.Test.YtgaipgbgppdfeaaGreatDoorItoa
set_option maxRecDepth 10000
namespace Go.Proofs.YtgaipgbgppdfeaaGreatDoor
open Go.RowKit Go.ChangeShapes Go.WideShapes Go.ChangeAt

def laidT : List (String × DataW Unit) := [("math/bits.deBruijn32tab", Rows.laid_math_bits_deBruijn32tab), ("math/bits.deBruijn64tab", Rows.laid_math_bits_deBruijn64tab), ("internal/strconv.uint64pow10", Rows.laid_internal_strconv_uint64pow10), ("replevin/object.usages", Rows.laid_replevin_object_usages)]
theorem tP10 : (Tryz.prog.globals[3]?).map (·.type) = some 350 := by kernel_rfl
theorem plP10 : plainT Tryz.prog 5 350 = true := by decide +kernel
theorem rdP10 (w : World) : DataW.trod (fun _ => ()) Tryz.prog w 0 (fun _ => true) false 8 350 (Lib.pow10Tab.map fun z => Value.int .u64 z) = some (Rows.laid_internal_strconv_uint64pow10, []) := by kernel_rfl
theorem tabs_of_laid {W : World} (h : laidMetH Tryz.prog laidT W) : (Usg.p fun b => W.heap[b]?) ∧ P10.p fun b => W.heap[b]? := by
  rw [MakeChecks.laidMetH_plain _ _ _ (by kernel_rfl)] at h
  obtain ⟨ps, ⟨_, _, _, _, _, _, _, _, _, _, ⟨_, _, _, _, _, _, _, _, _, _, ⟨g1, t1, cs1, f1, p1, q1, hg1, ht1, hv1, hd1, ⟨g0, t0, cs0, f0, p0, q0, hg0, ht0, hv0, hd0, _, _⟩, _⟩, _⟩, _⟩, _, _⟩ := h
  refine ⟨?_, ?_⟩
  · obtain rfl := Option.some.inj (gUsg.symm.trans hg0)
    obtain rfl := Option.some.inj (tUsg.symm.trans ht0)
    have hcs : cs0.toList = usages.flatMap uf := trod_inj (enc' := fun _ => ()) _ _ _ _ W W _ _ _ _ _ _ _ _ _ _ plUsg hd0 (rdUsg W) rfl
    unfold World.var? at hv0
    rw [hg0] at hv0
    simp only [Option.bind_some] at hv0
    split at hv0
    · rename_i cs t fr hb
      obtain rfl := Option.some.inj hv0
      exact ⟨t, fr, by rw [← hcs]; simpa using hb⟩
    · cases hv0
  · obtain rfl := Option.some.inj (g10.symm.trans hg1)
    obtain rfl := Option.some.inj (tP10.symm.trans ht1)
    have hcs : cs1.toList = Lib.pow10Tab.map fun z => Value.int .u64 z := trod_inj (enc' := fun _ => ()) _ _ _ _ W W _ _ _ _ _ _ _ _ _ _ plP10 hd1 (rdP10 W) rfl
    unfold World.var? at hv1
    rw [hg1] at hv1
    simp only [Option.bind_some] at hv1
    split at hv1
    · rename_i cs t fr hb
      obtain rfl := Option.some.inj hv1
      exact ⟨t, fr, by rw [← hcs]; simpa using hb⟩
    · cases hv1

def bits (l : List Int) : List Value := l.map fun z => Value.int .u8 z
def b32 : List Int := [0, 1, 28, 2, 29, 14, 24, 3, 30, 22, 20, 15, 25, 17, 4, 8, 31, 27, 13, 23, 21, 19, 16, 7, 26, 12, 18, 6, 11, 5, 10, 9]
def b64 : List Int := [0, 1, 56, 2, 57, 49, 28, 3, 61, 58, 42, 50, 38, 29, 17, 4, 62, 47, 59, 36, 45, 43, 51, 22, 53, 39, 33, 30, 24, 18, 12, 5, 63, 55, 48, 27, 60, 41, 37, 16, 46, 35, 44, 21, 52, 32, 23, 11, 54, 26, 40, 15, 34, 20, 31, 10, 25, 14, 19, 9, 13, 8, 7, 6]
/-- The settled world, the tables holding what their initialisers lay. -/
noncomputable def laidWorldT (os : Os) : World :=
  { laidWorld os with heap := (((laidWorld os).heap.modify 3 fun
      | .cells _ t frozen => .cells (Lib.pow10Tab.map fun z => Value.int .u64 z).toArray t frozen
      | o => o).modify 4 fun
      | .cells _ t frozen => .cells (bits b32).toArray t frozen
      | o => o).modify 5 fun
      | .cells _ t frozen => .cells (bits b64).toArray t frozen
      | o => o }

end Go.Proofs.YtgaipgbgppdfeaaGreatDoor
