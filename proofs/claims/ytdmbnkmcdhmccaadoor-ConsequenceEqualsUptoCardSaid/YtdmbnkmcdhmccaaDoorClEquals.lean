/-
  For any two consequences and any change, the law ConsequenceEquals returns true, and its arguments read as before.
  Conditions: those of the given card: the table of the kinds of objects lies in memory as the program's text lays it.
-/
import Derived.Test.YtdmbnkmcdhmccaaDoorLaw3
import Derived.Test.YtdmbnkmcdhmccaaDoorGlue
set_option maxRecDepth 10000
namespace Go.Proofs.YtdmbnkmcdhmccaaDoor.equals
open Go.RowKit Go.ChangeShapes Go.WideShapes Go.ChangeAt

theorem own : ownKnob Tryd.prog.godebug = none := by kernel_rfl
theorem plC : plainT Tryd.prog 5 37 = true := by decide +kernel
theorem skC : sks Tryd.prog 5 37 = some [.i .i64, .s, .i .i64, .i .i64, .i .i64, .s, .s, .i .i64, .i .i64, .i .i64, .s, .s, .i .i64, .i .i64] := by kernel_rfl
theorem uC : ∃ fs, Tryd.prog.underlying 37 = some (.struct fs) := ⟨_, Tryd.underlying37⟩

theorem open_cq {M : Nat} {cs : List Value} (h : CellsOK M [.i .i64, .s, .i .i64, .i .i64, .i .i64, .s, .s, .i .i64, .i .i64, .i .i64, .s, .s, .i .i64, .i .i64] cs) : ∃ c : Cq, cs = cqf c ∧ c.who.size ≤ M ∧ c.old.tx.size ≤ M := by
  obtain _ | ⟨v1, cs⟩ := cs; · exact h.elim
  obtain ⟨⟨z1, rfl, _⟩, h⟩ := h
  obtain _ | ⟨v2, cs⟩ := cs; · exact h.elim
  obtain ⟨⟨s2, rfl, h2⟩, h⟩ := h
  obtain _ | ⟨v3, cs⟩ := cs; · exact h.elim
  obtain ⟨⟨z3, rfl, _⟩, h⟩ := h
  obtain _ | ⟨v4, cs⟩ := cs; · exact h.elim
  obtain ⟨⟨z4, rfl, _⟩, h⟩ := h
  obtain _ | ⟨v5, cs⟩ := cs; · exact h.elim
  obtain ⟨⟨z5, rfl, _⟩, h⟩ := h
  obtain _ | ⟨v6, cs⟩ := cs; · exact h.elim
  obtain ⟨⟨s6, rfl, _⟩, h⟩ := h
  obtain _ | ⟨v7, cs⟩ := cs; · exact h.elim
  obtain ⟨⟨s7, rfl, h7⟩, h⟩ := h
  obtain _ | ⟨v8, cs⟩ := cs; · exact h.elim
  obtain ⟨⟨z8, rfl, _⟩, h⟩ := h
  obtain _ | ⟨v9, cs⟩ := cs; · exact h.elim
  obtain ⟨⟨z9, rfl, _⟩, h⟩ := h
  obtain _ | ⟨v10, cs⟩ := cs; · exact h.elim
  obtain ⟨⟨z10, rfl, _⟩, h⟩ := h
  obtain _ | ⟨v11, cs⟩ := cs; · exact h.elim
  obtain ⟨⟨s11, rfl, _⟩, h⟩ := h
  obtain _ | ⟨v12, cs⟩ := cs; · exact h.elim
  obtain ⟨⟨s12, rfl, _⟩, h⟩ := h
  obtain _ | ⟨v13, cs⟩ := cs; · exact h.elim
  obtain ⟨⟨z13, rfl, _⟩, h⟩ := h
  obtain _ | ⟨v14, cs⟩ := cs; · exact h.elim
  obtain ⟨⟨z14, rfl, _⟩, h⟩ := h
  obtain _ | ⟨v15, cs⟩ := cs
  · exact ⟨⟨z1, s2, z3, z4, ⟨z5, s6, s7, z8⟩, z9, ⟨z10, s11, s12, z13⟩, z14⟩, rfl, h2, h7⟩
  · exact h.elim

/-- An argument that is a consequence. -/
theorem open_arg {H : Type} {enc : TypeId × Value → H} {W : World} {base : Nat} {v : Value} {d : DataW H} {p : List MemPlace} (hv : Value.okWide Tryd.prog W .any base 37 v) (h : DataW.Trod enc Tryd.prog W 0 (fun _ => true) true 37 v d p) :
    ∃ c : Cq, v = c.v ∧ c.who.size ≤ Rows.uptoBulk d ∧ c.old.tx.size ≤ Rows.uptoBulk d ∧ p = [] ∧ ∀ w' base' sp' hd', DataW.Trod enc Tryd.prog w' base' sp' hd' 37 v d [] := by
  obtain ⟨fs, hu⟩ := uC
  obtain ⟨cs, rfl, hcs⟩ := okWide_struct hu hv
  obtain ⟨n, hn⟩ := h
  obtain ⟨c, hc, h1, h2⟩ := open_cq (trod_cells n 5 _ W 0 _ _ _ _ _ plC skC hn)
  obtain ⟨hp, hr⟩ := trod_plain n 5 _ W 0 _ _ _ _ plC hn
  dsimp only at hp
  subst hp
  refine ⟨c, ?_, h1, h2, rfl, fun w' base' sp' hd' => ⟨n, hr w' base' sp' hd'⟩⟩
  show Value.agg cs = .agg _
  congr 1
  rw [← Array.toList_inj]
  exact hc

theorem u8_of {n : Int} (h : (Lit.int .u8 n).wf = true) : ∃ c : UInt8, n = (c.toNat : Int) := by
  have h1 : 0 ≤ n ∧ n < 256 := by
    simp [Lit.wf, IntKind.min, IntKind.max, IntKind.bits, IntKind.signed] at h
    omega
  exact ⟨UInt8.ofNat n.toNat, by simp; omega⟩

theorem contract (H : Type) (enc : TypeId × Value → H) (W : World) (base : Nat) (args : Array Value) (ds gs : List (DataW H)) (before : List MemPlace)
    (hval : ∀ (j : Nat) t v, Tryd.f5.params[j]? = some t → args[j]? = some v → Value.okWide Tryd.prog W .any base t v)
    (hW : DataW.Whole enc Tryd.prog Tryd.f5.params.toList Rows.consequenceEqualsSpec.vars false W args.toList ds gs before) (hB : Rows.uptoBulkAll (ds ++ gs) ≤ 1048576) (hL : laidMetH Tryd.prog Rows.consequenceEqualsRow.laid W) :
    Calls Tryd.prog 5 args W fun e W' => ∃ v, e = .returned v ∧ Rows.consequenceEqualsSpec.post enc Tryd.prog Tryd.f5 false true false false W args v W' := by
  have hW' := hW
  obtain ⟨p, q, hA0, hV, rfl, hfz, hnd⟩ := hW
  have hA : DataW.TrodAll enc Tryd.prog W 0 (fun _ => true) true Tryd.f5.params.toList args.toList ds p := hA0
  rw [Tryd.params5] at hA hval
  obtain ⟨v0, vs0, d0, ds0, p0, q0, ha0, rfl, rfl, h0, r0⟩ := trodAll_cons hA
  obtain ⟨v1, vs1, d1, ds1, p1, q1, rfl, rfl, rfl, h1, r1⟩ := trodAll_cons r0
  obtain ⟨v2, vs2, d2, ds2, p2, q2, rfl, rfl, rfl, h2, r2⟩ := trodAll_cons r1
  obtain ⟨rfl, rfl, rfl⟩ := trodAll_nil r2
  obtain rfl : args = #[v0, v1, v2] := by cases args; simp_all
  obtain ⟨rfl, rfl⟩ := trodVars_none hV
  obtain ⟨a, rfl, s1, s2, rfl, t0⟩ := open_arg (hval 0 _ v0 rfl rfl) h0
  obtain ⟨b, rfl, _, _, rfl, t1⟩ := open_arg (hval 1 _ v1 rfl rfl) h1
  obtain ⟨n, rfl, rfl, rfl, hwf⟩ := open_int Tryd.underlying5 (hval 2 _ v2 rfl rfl) h2
  obtain ⟨c, rfl⟩ := u8_of hwf
  simp only [List.append_nil, Rows.uptoBulkAll] at hB
  refine (calls_law (lawEquals_ok a b c (by omega) (by omega)).2 W (fun x hx => by simp at hx; subst hx; exact usg_of_laid hL)).mono ?_
  rintro e W' ⟨rfl, hk⟩
  refine ⟨_, rfl, post_kept (pa := []) (pv := []) hW' (fun _ _ _ => trodAll_cons_mk (shut_bool Tryd.underlying4 _) trodAll_mk0) (fun sp _ => ?_) (fun _ _ => rfl) rfl hk (ok_one (by kernel_rfl) rfl (okWide_bool_mk Tryd.underlying4 _))⟩
  exact trodAll_cons_mk (t0 W' 0 sp true) (trodAll_cons_mk (t1 W' 0 sp true) (trodAll_cons_mk (shut_int Tryd.underlying5 hwf) trodAll_mk0))

/-- A world for the witness: the settled one, the table holding what its initialiser lays. -/
noncomputable def laidWorld (os : Os) : World :=
  { World.holding Tryd.prog os ⟨#[], #[], []⟩ with heap := (World.holding Tryd.prog os ⟨#[], #[], []⟩).heap.modify 0 fun
      | .cells _ t frozen => .cells (usages.flatMap uf).toArray t frozen
      | o => o }
def wc : Value := .agg #[.int .i64 0, .string ⟨#[]⟩, .int .i64 0, .int .i64 0, .int .i64 0, .string ⟨#[]⟩, .string ⟨#[]⟩, .int .i64 0, .int .i64 0, .int .i64 0, .string ⟨#[]⟩, .string ⟨#[]⟩, .int .i64 0, .int .i64 0]
theorem laid_met (os : Os) : laidMet Tryd.prog Rows.consequenceEqualsUptoRow.laid ((laidWorld os).forCall (fun _ _ => 0) ⟨#[], #[wc, wc, .int .u8 0], []⟩).memory :=
  laidMet_of_run' 8 (by kernel_rfl) (by kernel_rfl)
def wd {H : Type} : DataW H := .agg [.lit (.int .i64 0), .lit (.string []), .lit (.int .i64 0), .lit (.int .i64 0), .agg [.lit (.int .i64 0), .lit (.string []), .lit (.string []), .lit (.int .i64 0)], .lit (.int .i64 0), .agg [.lit (.int .i64 0), .lit (.string []), .lit (.string []), .lit (.int .i64 0)], .lit (.int .i64 0)]
theorem reads (os : Os) {H : Type} (enc : TypeId × Value → H) : ∃ places, DataW.whole enc Tryd.prog ((laidWorld os).forCall (fun _ _ => 0) ⟨#[], #[wc, wc, .int .u8 0], []⟩).memory Tryd.f5.params.toList Rows.consequenceEqualsSpec.vars false #[wc, wc, Value.int .u8 0].toList 8 = some ([wd, wd, .lit (.int .u8 0)], [], places) :=
  ⟨[], by kernel_rfl⟩

set_option maxRecDepth 100000 in
theorem liftedUpto (os : Os) (started : os.Started) (H : Type) (enc : TypeId × Value → H) (F : Stop.Interp) :
    ReturnsInHanded {} Tryd.checked os 5 .any ((Rows.OpenSpec.upto Rows.consequenceEqualsSpec).preRow enc Tryd.prog Tryd.f5 Rows.consequenceEqualsUptoRow.domain false Rows.consequenceEqualsUptoRow.laid) (((Rows.OpenSpec.upto Rows.consequenceEqualsSpec).at F).post enc Tryd.prog Tryd.f5 false true false false) := by
  obtain ⟨places, hx⟩ := reads os enc
  refine returnsInHanded_of_row (C := Tryd.checked) (s := Rows.OpenSpec.upto Rows.consequenceEqualsSpec) own started (by kernel_rfl) Tryd.func5
    (witness_row_at (enc := enc) (C := Tryd.checked) false (laidWorld os) #[wc, wc, .int .u8 0] rfl (by kernel_rfl) (by kernel_rfl) (by kernel_rfl)
      (OpenSpec.preRow_of_cond 8 hx (by kernel_rfl) (fun k hk => by cases hk; kernel_rfl) (by kernel_rfl) (laid_met os))) ?_
  intro W base args ds gs before hval hW _ hcond _ hL _ _
  exact contract H enc W base args ds gs before hval hW (of_decide_eq_true (hcond _ rfl)) hL

theorem saidUpto : Rows.ConsequenceEqualsUptoSaid :=
  OpenClaim.holds_of_cond 5 Tryd.f5 rfl rfl rfl rfl rfl rfl rfl ⟨rfl, rfl, rfl, rfl, rfl⟩ rfl rfl rfl rfl rfl (by kernel_rfl) Tryd.func5 (by kernel_rfl)
    (of_decide_eq_true (by kernel_rfl)) (by unfold Func.isWrapper; first | (rw [if_pos (by decide +kernel)]; kernel_rfl) | (rw [if_neg (by decide +kernel)]; exact ⟨rfl, rfl⟩))
    (fun os started H enc _ F => by rw [OpenClaim.pre_eq_preRow]; exact liftedUpto os started H enc F)

theorem plain (f : FuncId) (fn : Func) (hf : Tryd.pinned.checked.prog.funcNamed "replevin/replevinlaw50.ConsequenceEquals" = some f) (hfn : Tryd.pinned.checked.prog.funcs[f]? = some fn) :
    false = Tryd.pinned.checked.prog.looks [] ∧ ∀ (j : Nat) t, fn.params[j]? = some t → Tryd.pinned.checked.prog.wantsStandIn t = false := by
  obtain rfl : f = 5 := Option.some.inj ((show Tryd.prog.funcNamed "replevin/replevinlaw50.ConsequenceEquals" = some 5 by kernel_rfl).symm.trans hf) |>.symm
  obtain rfl : fn = Tryd.f5 := (Option.some.inj (Tryd.func5.symm.trans hfn)).symm
  refine ⟨by kernel_rfl, fun j t ht => ?_⟩
  rw [Tryd.params5] at ht
  have h1 : t = 37 ∨ t = 5 := by simpa using Array.mem_of_getElem? ht
  rcases h1 with rfl | rfl
  · exact (show Tryd.prog.wantsStandIn 37 = false by kernel_rfl)
  · exact (show Tryd.prog.wantsStandIn 5 = false by kernel_rfl)

theorem cardUpto : Rows.ConsequenceEqualsUptoCardSaid :=
  Claim7.holds_tied_plain_at .later [] _ _ _ _ saidUpto (fun _ h => by cases h) (by kernel_rfl) (fun _ h => by cases h) consequenceEqualsUpto_row_tie rfl ⟨rfl, rfl⟩ (by kernel_rfl) rfl plain (by kernel_rfl)
end Go.Proofs.YtdmbnkmcdhmccaaDoor.equals
namespace Go.Proofs.YtdmbnkmcdhmccaaDoor
theorem consequenceEquals_holds : Rows.ConsequenceEqualsUptoCardSaid := equals.cardUpto
end Go.Proofs.YtdmbnkmcdhmccaaDoor
