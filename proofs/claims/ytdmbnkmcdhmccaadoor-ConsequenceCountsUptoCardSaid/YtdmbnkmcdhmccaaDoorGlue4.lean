/-
  More of the statements' arguments, opened: a consequence, small integers.
  Conditions: none beyond those that each theorem states.
-/
import Derived.Test.YtdmbnkmcdhmccaaDoorGlue3
import Derived.Test.YtdmbnkmcdhmccaaDoorLawN
set_option maxRecDepth 10000
namespace Go.Proofs.YtdmbnkmcdhmccaaDoor
open Go.RowKit Go.ChangeShapes Go.WideShapes Go.ChangeAt

theorem plC : plainT Tryd.prog 5 37 = true := by decide +kernel
theorem skC : sks Tryd.prog 5 37 = some [.i .i64, .s, .i .i64, .i .i64, .i .i64, .s, .s, .i .i64, .i .i64, .i .i64, .s, .s, .i .i64, .i .i64] := by kernel_rfl
theorem uC : ∃ fs, Tryd.prog.underlying 37 = some (.struct fs) := ⟨_, Tryd.underlying37⟩

theorem open_cq {M : Nat} {cs : List Value} (h : CellsOK M [.i .i64, .s, .i .i64, .i .i64, .i .i64, .s, .s, .i .i64, .i .i64, .i .i64, .s, .s, .i .i64, .i .i64] cs) : ∃ c : Cq, cs = cqf c ∧ c.who.size ≤ M ∧ c.old.tx.size ≤ M := by
  obtain _ | ⟨v1, cs⟩ := cs; · exact h.elim
  obtain ⟨⟨z1, rfl, _⟩, h⟩ := h
  obtain _ | ⟨v2, cs⟩ := cs; · exact h.elim
  obtain ⟨⟨s2, rfl, h2⟩, h⟩ := h
  obtain _ | ⟨v3, cs⟩ := cs; · exact h.elim
  obtain ⟨⟨z3, rfl, _⟩, h⟩ := h
  obtain _ | ⟨v4, cs⟩ := cs; · exact h.elim
  obtain ⟨⟨z4, rfl, _⟩, h⟩ := h
  obtain _ | ⟨v5, cs⟩ := cs; · exact h.elim
  obtain ⟨⟨z5, rfl, _⟩, h⟩ := h
  obtain _ | ⟨v6, cs⟩ := cs; · exact h.elim
  obtain ⟨⟨s6, rfl, _⟩, h⟩ := h
  obtain _ | ⟨v7, cs⟩ := cs; · exact h.elim
  obtain ⟨⟨s7, rfl, h7⟩, h⟩ := h
  obtain _ | ⟨v8, cs⟩ := cs; · exact h.elim
  obtain ⟨⟨z8, rfl, _⟩, h⟩ := h
  obtain _ | ⟨v9, cs⟩ := cs; · exact h.elim
  obtain ⟨⟨z9, rfl, _⟩, h⟩ := h
  obtain _ | ⟨v10, cs⟩ := cs; · exact h.elim
  obtain ⟨⟨z10, rfl, _⟩, h⟩ := h
  obtain _ | ⟨v11, cs⟩ := cs; · exact h.elim
  obtain ⟨⟨s11, rfl, _⟩, h⟩ := h
  obtain _ | ⟨v12, cs⟩ := cs; · exact h.elim
  obtain ⟨⟨s12, rfl, _⟩, h⟩ := h
  obtain _ | ⟨v13, cs⟩ := cs; · exact h.elim
  obtain ⟨⟨z13, rfl, _⟩, h⟩ := h
  obtain _ | ⟨v14, cs⟩ := cs; · exact h.elim
  obtain ⟨⟨z14, rfl, _⟩, h⟩ := h
  obtain _ | ⟨v15, cs⟩ := cs
  · exact ⟨⟨z1, s2, z3, z4, ⟨z5, s6, s7, z8⟩, z9, ⟨z10, s11, s12, z13⟩, z14⟩, rfl, h2, h7⟩
  · exact h.elim

/-- An argument that is a consequence. -/
theorem open_cqa {H : Type} {enc : TypeId × Value → H} {W : World} {base : Nat} {v : Value} {d : DataW H} {p : List MemPlace} (hv : Value.okWide Tryd.prog W .any base 37 v) (h : DataW.Trod enc Tryd.prog W 0 (fun _ => true) true 37 v d p) :
    ∃ c : Cq, v = c.v ∧ c.who.size ≤ Rows.uptoBulk d ∧ c.old.tx.size ≤ Rows.uptoBulk d ∧ p = [] ∧ ∀ w' base' sp' hd', DataW.Trod enc Tryd.prog w' base' sp' hd' 37 v d [] := by
  obtain ⟨fs, hu⟩ := uC
  obtain ⟨cs, rfl, hcs⟩ := okWide_struct hu hv
  obtain ⟨n, hn⟩ := h
  obtain ⟨c, hc, h1, h2⟩ := open_cq (trod_cells n 5 _ W 0 _ _ _ _ _ plC skC hn)
  obtain ⟨hp, hr⟩ := trod_plain n 5 _ W 0 _ _ _ _ plC hn
  dsimp only at hp
  subst hp
  refine ⟨c, ?_, h1, h2, rfl, fun w' base' sp' hd' => ⟨n, hr w' base' sp' hd'⟩⟩
  show Value.agg cs = .agg _
  congr 1
  rw [← Array.toList_inj]
  exact hc

theorem i8_of {n : Int} (h : (Lit.int .i8 n).wf = true) : ∃ c : Int8, n = c.toInt := by
  have h1 : -128 ≤ n ∧ n ≤ 127 := by
    simp [Lit.wf, IntKind.min, IntKind.max, IntKind.bits, IntKind.signed] at h
    omega
  exact ⟨Int8.ofInt n, by rw [Int8.toInt_ofInt_of_le (by omega) (by omega)]⟩
theorem pl8 : plainT Tryd.prog 5 58 = true := by decide +kernel
theorem open_i8s {H : Type} {enc : TypeId × Value → H} {W : World} {base : Nat} {v : Value} {d : DataW H} {p : List MemPlace} (hv : Value.okWide Tryd.prog W .any base 57 v) (h : DataW.Trod enc Tryd.prog W 0 (fun _ => true) true 57 v d p) :
    ∃ (o : Option Addr) (cap : Nat) (es : List Int8), v = .slice o es.length cap ∧ (Sl 58 i8f o cap es).p (fun b => W.heap[b]?) ∧ es.length ≤ Rows.uptoBulk d ∧
      ∀ (W' : World) (sp : Nat → Bool), Kept W W' → (∀ b < W.heap.size, sp b = true) → DataW.Trod enc Tryd.prog W' 0 sp true 57 v d p := by
  obtain ⟨o, cap, es, h1, h2, h3, _, h4⟩ := open_sl (fa := i8f) (Q := fun _ _ => True) 58 Tryd.underlying57 pl8 (by decide +kernel) (fun _ => show 1 = _ by decide +kernel) (fun n cs x hx => by
    cases n with
    | zero => simp [DataW.trod] at hx
    | succ n =>
      obtain ⟨z, rfl, _, hz⟩ := DataW.trod_int Tryd.underlying58 hx
      obtain ⟨c, rfl⟩ := i8_of hz
      exact ⟨c, rfl, trivial⟩) (fun _ _ _ _ _ => trivial) hv h
  exact ⟨o, cap, es, h1, h2, h3, h4⟩
end Go.Proofs.YtdmbnkmcdhmccaaDoor
