/-
  An operation of the statements of layer 35, as an argument.
  Conditions: none beyond those that each theorem states.
-/
import Derived.Test.YtaijnpkdlopomaaGreatDoorGlue8
import Derived.Test.YtaijnpkdlopomaaGreatDoorNv35
set_option maxRecDepth 10000
namespace Go.Proofs.YtaijnpkdlopomaaGreatDoor
open Go.RowKit Go.ChangeShapes Go.WideShapes Go.ChangeAt

theorem okOq : okT Tryz.prog 6 67 = true := by decide +kernel
theorem slOq : sls Tryz.prog 6 67 = some [.p (.i .u8), .p (.i .u8), .p (.i .i64), .p (.i .i64), .p .s, .p (.i .i64), .p (.i .i64), .p (.i .i64), .p (.i .i64), .p (.i .i64), .l 22, .p .s, .p (.i .i64), .p .s, .p (.i .i64), .p (.i .i64), .p .s, .p .s, .p (.i .i64), .p (.i .i64)] := by kernel_rfl
section
variable {H : Type} {enc : TypeId × Value → H} {W : World} {base : Nat} {v : Value} {d : DataW H} {p : List MemPlace}
theorem open_oq (hv : Value.okWide Tryz.prog W .any base 67 v) (h : DataW.Trod enc Tryz.prog W 0 (fun _ => true) true 67 v d p) :
    ∃ (q : Oq) (o : Option Addr) (cap : Nat), v = q.v o cap ∧ (Sl 3 zf o cap q.p.gs).p (fun b => W.heap[b]?) ∧ q.p.gs.length ≤ Rows.uptoBulk d ∧
      ∀ (W' : World) (sp : Nat → Bool), Kept W W' → (∀ b < W.heap.size, sp b = true) → DataW.Trod enc Tryz.prog W' 0 sp true 67 v d p := by
  obtain ⟨cs, rfl⟩ := aggS Tryz.underlying67 hv
  obtain ⟨n, hn⟩ := h
  obtain ⟨hc, hk⟩ := trod_keep n 6 _ _ _ _ okOq slOq hn
  have hkeep : ∀ (W' : World) (sp : Nat → Bool), Kept W W' → (∀ b < W.heap.size, sp b = true) → DataW.Trod enc Tryz.prog W' 0 sp true 67 (.agg cs) d p := fun W' sp h1 h2 => ⟨n, hk W' sp h1 h2⟩
  dsimp only at hc
  have hcl : (Value.agg cs).cells.toList = cs.toList := rfl
  rw [hcl] at hc
  obtain ⟨w1, c, e1, ⟨y1, rfl, i1⟩, k1⟩ := cellsL_p hc
  obtain ⟨w2, c, rfl, ⟨y2, rfl, i2⟩, k2⟩ := cellsL_p k1
  obtain ⟨w3, c, rfl, ⟨y3, rfl, _⟩, k3⟩ := cellsL_p k2
  obtain ⟨w4, c, rfl, ⟨y4, rfl, _⟩, k4⟩ := cellsL_p k3
  obtain ⟨w5, c, rfl, ⟨y5, rfl, _⟩, k5⟩ := cellsL_p k4
  obtain ⟨v1, c, rfl, ⟨z1, rfl, _⟩, g1⟩ := cellsL_p k5
  obtain ⟨v2, c, rfl, ⟨z2, rfl, _⟩, g2⟩ := cellsL_p g1
  obtain ⟨v3, c, rfl, ⟨z3, rfl, _⟩, g3⟩ := cellsL_p g2
  obtain ⟨v4, c, rfl, ⟨z4, rfl, _⟩, g4⟩ := cellsL_p g3
  obtain ⟨v5, c, rfl, ⟨z5, rfl, _⟩, g5⟩ := cellsL_p g4
  obtain ⟨v6, c, rfl, ⟨⟨a, len, cap, rfl⟩, m, x, hx, hb⟩, g6⟩ := cellsL_l g5
  obtain ⟨v7, c, rfl, ⟨s7, rfl, _⟩, g7⟩ := cellsL_p g6
  obtain ⟨v8, c, rfl, ⟨z8, rfl, _⟩, g8⟩ := cellsL_p g7
  obtain ⟨v9, c, rfl, ⟨s9, rfl, _⟩, g9⟩ := cellsL_p g8
  obtain ⟨v10, c, rfl, ⟨z10, rfl, _⟩, g10⟩ := cellsL_p g9
  obtain ⟨v11, c, rfl, ⟨z11, rfl, _⟩, g11⟩ := cellsL_p g10
  obtain ⟨v12, c, rfl, ⟨s12, rfl, _⟩, g12⟩ := cellsL_p g11
  obtain ⟨v13, c, rfl, ⟨s13, rfl, _⟩, g13⟩ := cellsL_p g12
  obtain ⟨v14, c, rfl, ⟨z14, rfl, _⟩, g14⟩ := cellsL_p g13
  obtain ⟨v15, c, rfl, ⟨z15, rfl, _⟩, g15⟩ := cellsL_p g14
  obtain rfl := cellsL_nil g15
  obtain ⟨o, cp, es, h1, h2, h3, _, _⟩ := open_slC (enc := enc) (P := Tryz.prog) (W := W) (v := .slice a len cap) (d := x.1) (p := x.2) (fa := zf) (Q := fun _ _ => True) 3 Tryz.underlying22 plI64 (by decide +kernel) (fun _ => show 1 = _ by decide +kernel) (fun n cs x hx => by
    cases n with
    | zero => simp [DataW.trod] at hx
    | succ n =>
      obtain ⟨z, rfl, _, hz⟩ := DataW.trod_int Tryz.underlying3 hx
      exact ⟨z, rfl, trivial⟩) (fun _ _ _ _ _ => trivial) ⟨a, len, cap, rfl⟩ ⟨m, hx⟩
  injection h1 with h4 h5 h6
  subst h4 h6
  obtain ⟨n1, rfl⟩ := u8_of i1
  obtain ⟨n2, rfl⟩ := u8_of i2
  have hcs : cs = #[.int .u8 (n1.toNat : Int), .int .u8 (n2.toNat : Int), .int .i64 y3, .int .i64 y4, .string y5, .int .i64 z1, .int .i64 z2, .int .i64 z3, .int .i64 z4, .int .i64 z5, .slice a len cap, .string s7, .int .i64 z8, .string s9, .int .i64 z10, .int .i64 z11, .string s12, .string s13, .int .i64 z14, .int .i64 z15] := by rw [← Array.toList_inj]; exact e1
  exact ⟨⟨n1.toNat, n2.toNat, y3, y4, y5, ⟨z1, z2, z3, z4, z5, es, s7, z8, ⟨s9, z10⟩, z11⟩, s12, s13, z14, z15⟩, a, cap, by rw [hcs, h5]; rfl, h2, by show es.length ≤ _; omega, hkeep⟩
end
end Go.Proofs.YtaijnpkdlopomaaGreatDoor
