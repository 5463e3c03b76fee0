/-
  The arguments of the statements of layer 27, opened: counts, births, operations.
  Conditions: none beyond those that each theorem states.
-/
import Derived.Test.YtgciahedpaencaaGreatDoorMH
import Derived.Test.YtgciahedpaencaaGreatDoorMJ
set_option maxRecDepth 10000
namespace Go.Proofs.YtgciahedpaencaaGreatDoor
open Go.RowKit Go.ChangeShapes Go.WideShapes Go.ChangeAt

/-- An operation of the model. -/
structure Opq where
  k : Int
  w : Int
  f : Int
  c : Int
  t : ByteArray
  n : Ino
def opf (o : Opq) : List Value := [.int .u8 o.k, .int .u8 o.w, .int .i64 o.f, .int .i64 o.c, .string o.t, .int .i64 o.n.kd, .int .i64 o.n.ow, .int .i64 o.n.gr, .int .i64 o.n.md, .int .i64 o.n.sz, .int .i64 o.n.lk, .string o.n.tg]
def Opq.v (o : Opq) : Value := .agg #[.int .u8 o.k, .int .u8 o.w, .int .i64 o.f, .int .i64 o.c, .string o.t, .int .i64 o.n.kd, .int .i64 o.n.ow, .int .i64 o.n.gr, .int .i64 o.n.md, .int .i64 o.n.sz, .int .i64 o.n.lk, .string o.n.tg]
theorem plCt : plainT Tryz.prog 5 42 = true := by decide +kernel
theorem skCt : sks Tryz.prog 5 42 = some [.i .i64, .i .i64, .i .i64] := by kernel_rfl
theorem plBi : plainT Tryz.prog 5 31 = true := by decide +kernel
theorem skBi : sks Tryz.prog 5 31 = some [.s, .i .i64] := by kernel_rfl
theorem plOp : plainT Tryz.prog 5 54 = true := by decide +kernel
theorem skOp : sks Tryz.prog 5 54 = some [.i .u8, .i .u8, .i .i64, .i .i64, .s, .i .i64, .i .i64, .i .i64, .i .i64, .i .i64, .i .i64, .s] := by kernel_rfl
theorem pl3 : plainT Tryz.prog 5 84 = true := by decide +kernel
theorem sk3 : sks Tryz.prog 5 84 = some [.i .i64, .i .i64, .i .i64] := by kernel_rfl
section
variable {H : Type} {enc : TypeId × Value → H} {W : World} {base : Nat} {v : Value} {d : DataW H} {p : List MemPlace}
theorem open_ct (hv : Value.okWide Tryz.prog W .any base 42 v) (h : DataW.Trod enc Tryz.prog W 0 (fun _ => true) true 42 v d p) :
    ∃ c : Ct, v = c.v ∧ (∀ z ∈ [c.b, c.o, c.c], z < 9223372036854775808) ∧ p = [] ∧ ∀ w' base' sp' hd', DataW.Trod enc Tryz.prog w' base' sp' hd' 42 v d [] := by
  obtain ⟨cs, rfl, h, hp, hr⟩ := open_agg plCt skCt (aggS Tryz.underlying42 hv) h
  obtain ⟨z1, cs, rfl, h1, h⟩ := cells_i h
  obtain ⟨z2, cs, rfl, h2, h⟩ := cells_i h
  obtain ⟨z3, cs, rfl, h3, h⟩ := cells_i h
  obtain rfl := cells_nil h
  refine ⟨⟨z1, z2, z3⟩, rfl, fun z hz => ?_, hp, hr⟩
  simp only [List.mem_cons, List.not_mem_nil, or_false] at hz
  rcases hz with rfl | rfl | rfl
  · exact (i64_in h1).2
  · exact (i64_in h2).2
  · exact (i64_in h3).2
theorem open_bi (hv : Value.okWide Tryz.prog W .any base 31 v) (h : DataW.Trod enc Tryz.prog W 0 (fun _ => true) true 31 v d p) :
    ∃ b : Bi, v = b.v ∧ b.mkr.size ≤ Rows.uptoBulk d ∧ p = [] ∧ ∀ w' base' sp' hd', DataW.Trod enc Tryz.prog w' base' sp' hd' 31 v d [] := by
  obtain ⟨cs, rfl, h, hp, hr⟩ := open_agg plBi skBi (aggS Tryz.underlying31 hv) h
  obtain ⟨s1, cs, rfl, h1, h⟩ := cells_s h
  obtain ⟨z2, cs, rfl, _, h⟩ := cells_i h
  obtain rfl := cells_nil h
  exact ⟨⟨s1, z2⟩, rfl, h1, hp, hr⟩
theorem open_opq (hv : Value.okWide Tryz.prog W .any base 54 v) (h : DataW.Trod enc Tryz.prog W 0 (fun _ => true) true 54 v d p) :
    ∃ o : Opq, v = o.v ∧ p = [] ∧ ∀ w' base' sp' hd', DataW.Trod enc Tryz.prog w' base' sp' hd' 54 v d [] := by
  obtain ⟨cs, rfl, h, hp, hr⟩ := open_agg plOp skOp (aggS Tryz.underlying54 hv) h
  obtain ⟨z1, cs, rfl, _, h⟩ := cells_i h
  obtain ⟨z2, cs, rfl, _, h⟩ := cells_i h
  obtain ⟨z3, cs, rfl, _, h⟩ := cells_i h
  obtain ⟨z4, cs, rfl, _, h⟩ := cells_i h
  obtain ⟨s5, cs, rfl, _, h⟩ := cells_s h
  obtain ⟨y1, cs, rfl, _, h⟩ := cells_i h
  obtain ⟨y2, cs, rfl, _, h⟩ := cells_i h
  obtain ⟨y3, cs, rfl, _, h⟩ := cells_i h
  obtain ⟨y4, cs, rfl, _, h⟩ := cells_i h
  obtain ⟨y5, cs, rfl, _, h⟩ := cells_i h
  obtain ⟨y6, cs, rfl, _, h⟩ := cells_i h
  obtain ⟨s7, cs, rfl, _, h⟩ := cells_s h
  obtain rfl := cells_nil h
  exact ⟨⟨z1, z2, z3, z4, s5, ⟨y1, y2, y3, y4, y5, y6, s7⟩⟩, rfl, hp, hr⟩
theorem open_3 (hv : Value.okWide Tryz.prog W .any base 84 v) (h : DataW.Trod enc Tryz.prog W 0 (fun _ => true) true 84 v d p) :
    ∃ x y z : Int, v = .agg #[.int .i64 x, .int .i64 y, .int .i64 z] ∧ p = [] ∧ ∀ w' base' sp' hd', DataW.Trod enc Tryz.prog w' base' sp' hd' 84 v d [] := by
  obtain ⟨cs, rfl, h, hp, hr⟩ := open_agg pl3 sk3 (aggA Tryz.underlying84 hv) h
  obtain ⟨x, cs, rfl, _, h⟩ := cells_i h
  obtain ⟨y, cs, rfl, _, h⟩ := cells_i h
  obtain ⟨z, cs, rfl, _, h⟩ := cells_i h
  obtain rfl := cells_nil h
  exact ⟨x, y, z, rfl, hp, hr⟩
end
end Go.Proofs.YtgciahedpaencaaGreatDoor
