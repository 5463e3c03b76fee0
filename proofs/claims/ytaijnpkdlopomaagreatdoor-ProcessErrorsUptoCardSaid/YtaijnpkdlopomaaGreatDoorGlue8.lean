/-
  Structures that hold slices of plain data, as arguments.
  Conditions: none beyond those that each theorem states.
-/
import Derived.Test.YtaijnpkdlopomaaGreatDoorMH
import Derived.Test.YtaijnpkdlopomaaGreatDoorPro
set_option maxRecDepth 10000
namespace Go.Proofs.YtaijnpkdlopomaaGreatDoor
open Go.RowKit Go.ChangeShapes Go.WideShapes Go.ChangeAt

section
variable {H : Type} {enc : TypeId × Value → H} {P : Program} {W : World}
/-- A slice of plain data reads the same later. -/
theorem trod_sl_keep {n k t e : Nat} {cs : List Value} {x : DataW H × List MemPlace} (hu : P.underlying t = some (.slice e)) (hpl : plainT P k e = true) (hc0 : 0 < P.cellsOf e) (h : DataW.trod enc P W 0 (fun _ => true) true n t cs = some x) :
    (∃ a len cap, cs = [.slice a len cap]) ∧ ∀ (W' : World) (sp : Nat → Bool), Kept W W' → (∀ b < W.heap.size, sp b = true) → DataW.trod enc P W' 0 sp true n t cs = some x := by
  cases n with
  | zero => simp [DataW.trod] at h
  | succ n =>
    have hsl : ∃ a len cap, cs = [.slice a len cap] := by
      rcases cs with _ | ⟨c, _ | ⟨c2, cs⟩⟩
      · simp [DataW.trod, hu] at h
      · cases c with
        | slice a len cap => exact ⟨a, len, cap, rfl⟩
        | _ => simp [DataW.trod, hu] at h
      · simp [DataW.trod, hu] at h
    refine ⟨hsl, fun W' sp hk hsp => ?_⟩
    obtain ⟨a, len, cap, rfl⟩ := hsl
    cases a with
    | none =>
      have h0 : len = 0 ∧ cap = 0 := by
        unfold DataW.trod at h
        rw [hu] at h
        split at h <;> simp_all
      obtain ⟨rfl, rfl⟩ := h0
      simp [DataW.trod, hu] at h ⊢
      exact h
    | some a =>
      simp only [DataW.trod, hu] at h ⊢
      split at h
      · rename_i hb
        rw [if_pos hb]
        simp only [Option.bind_eq_some_iff, if_true, Option.map_eq_some_iff] at h ⊢
        obtain ⟨elems, he, rest, hr, hx⟩ := h
        have hel1 : ∀ i x, ((W.cells? 0 (a.add (i * P.cellsOf e)) (P.cellsOf e)).bind (DataW.trod enc P W 0 (fun _ => true) true n e)) = some x → ((W'.cells? 0 (a.add (i * P.cellsOf e)) (P.cellsOf e)).bind (DataW.trod enc P W' 0 sp true n e)) = some x := fun i x hx => by
          simp only [Option.bind_eq_some_iff] at hx ⊢
          obtain ⟨cs, hcs, htr⟩ := hx
          exact ⟨cs, hk.cells hcs, (trod_plain n _ _ W 0 _ _ _ _ hpl htr).2 W' 0 sp true⟩
        refine ⟨elems, mapM_same (fun i _ x hx => hel1 i x hx) he, rest, ?_, hx⟩
        by_cases hcap : cap = len
        · have hrest : rest = [] := by
            subst hcap
            simp at hr
            exact hr
          subst hrest
          subst hcap
          split <;> simp
        · have hlt : a.block < W.heap.size := by
            obtain ⟨x, _, hx2⟩ := mapM_get hr 0 0 (by rw [List.getElem?_range (by omega)])
            simp only [Option.bind_eq_some_iff] at hx2
            obtain ⟨cs, hcs, _⟩ := hx2
            obtain ⟨_, c, fz, hblk, _⟩ := cells_at hcs hc0
            have h1 := (Array.getElem?_eq_some_iff.1 hblk).1
            have h2 : (a.add ((len + 0) * P.cellsOf e)).block = a.block := by unfold Addr.add; split <;> rfl
            rwa [h2] at h1
          rw [if_pos (hsp _ hlt)]
          exact mapM_same (fun j _ x hx => hel1 (len + j) x hx) hr
      · cases h

/-- Plain data, slices of plain data, and structures of these. -/
def okT (P : Program) : Nat → TypeId → Bool
  | 0, _ => false
  | k + 1, t => plainT P (k + 1) t || match P.underlying t with
    | some (.slice e) => plainT P k e && decide (0 < P.cellsOf e)
    | some (.struct fs) => (fs.toList.all fun f => okT P k f.type) && (contig P 0 fs.toList == some (P.cellsOf t))
    | _ => false
inductive SL where
  | p (k : SK)
  | l (t : Nat)
def slF (g : TypeId → Option (List SL)) : List Field → Option (List SL)
  | [] => some []
  | f :: fs => match g f.type, slF g fs with
    | some a, some r => some (a ++ r)
    | _, _ => none
def sls (P : Program) : Nat → TypeId → Option (List SL)
  | 0, _ => none
  | k + 1, t => if plainT P (k + 1) t then (sks P (k + 1) t).map fun l => l.map .p else match P.underlying t with
    | some (.slice _) => some [.l t]
    | some (.struct fs) => slF (sls P k) fs.toList
    | _ => none
def CellL (enc : TypeId × Value → H) (P : Program) (W : World) (M : Nat) : SL → Value → Prop
  | .p k, v => CellOK M k v
  | .l t, v => (∃ a len cap, v = .slice a len cap) ∧ ∃ n x, DataW.trod enc P W 0 (fun _ => true) true n t [v] = some x ∧ Rows.uptoBulk x.1 ≤ M
def CellsL (enc : TypeId × Value → H) (P : Program) (W : World) (M : Nat) : List SL → List Value → Prop
  | [], [] => True
  | k :: ks, v :: vs => CellL enc P W M k v ∧ CellsL enc P W M ks vs
  | _, _ => False
theorem cellsL_append {M : Nat} : ∀ {a b : List SL} {x y : List Value}, CellsL enc P W M a x → CellsL enc P W M b y → CellsL enc P W M (a ++ b) (x ++ y)
  | [], _, [], _, _, h => h
  | _ :: _, _, _ :: _, _, ⟨h1, h2⟩, h => ⟨h1, cellsL_append h2 h⟩
theorem cellsL_mono {M M' : Nat} (hM : M ≤ M') : ∀ {a : List SL} {x : List Value}, CellsL enc P W M a x → CellsL enc P W M' a x
  | [], [], _ => trivial
  | k :: _, _ :: _, ⟨h1, h2⟩ => ⟨by
      cases k with
      | p k => exact (cellsOK_mono hM (a := [k]) (x := [_]) ⟨h1, trivial⟩).1
      | l t => obtain ⟨ha, n, x, hx, hl⟩ := h1; exact ⟨ha, n, x, hx, Nat.le_trans hl hM⟩, cellsL_mono hM h2⟩
theorem cellsL_of {M : Nat} : ∀ {a : List SK} {x : List Value}, CellsOK M a x → CellsL enc P W M (a.map .p) x
  | [], [], _ => trivial
  | _ :: _, _ :: _, ⟨h1, h2⟩ => ⟨h1, cellsL_of h2⟩
theorem slF_ok {M : Nat} {g : TypeId → Option (List SL)} : ∀ (fs : List Field) (o total : Nat) (cs : List Value) (ks : List SL), contig P o fs = some total → cs.length = total → slF g fs = some ks →
    (∀ f ∈ fs, ∀ k, g f.type = some k → CellsL enc P W M k ((cs.drop f.offset).take (P.cellsOf f.type))) → CellsL enc P W M ks (cs.drop o)
  | [], o, total, cs, ks, h, h1, h2, _ => by
    simp only [contig, Option.some.injEq] at h
    simp only [slF, Option.some.injEq] at h2
    rw [← h2, List.drop_eq_nil_of_le (by omega)]; trivial
  | f :: fs, o, total, cs, ks, h, h1, h2, hp => by
    unfold contig at h
    split at h
    · rename_i ho
      unfold slF at h2
      split at h2
      · rename_i a r ha hr
        obtain rfl := Option.some.inj h2
        have ih := slF_ok fs (o + P.cellsOf f.type) total cs r h h1 hr fun g hg => hp g (by simp [hg])
        have h3 := hp f (by simp) a ha
        rw [ho] at h3
        rw [← List.take_append_drop (P.cellsOf f.type) (cs.drop o), List.drop_drop]
        exact cellsL_append h3 ih
      · cases h2
    · cases h
theorem trod_keep : ∀ (n k : Nat) (t : TypeId) (cs : List Value) (x : DataW H × List MemPlace) (ks : List SL), okT P k t = true → sls P k t = some ks → DataW.trod enc P W 0 (fun _ => true) true n t cs = some x →
    CellsL enc P W (Rows.uptoBulk x.1) ks cs ∧ ∀ (W' : World) (sp : Nat → Bool), Kept W W' → (∀ b < W.heap.size, sp b = true) → DataW.trod enc P W' 0 sp true n t cs = some x
  | 0, _, _, _, _, _, _, _, h => by simp [DataW.trod] at h
  | n + 1, 0, _, _, _, _, hp, _, _ => by simp [okT] at hp
  | n + 1, k + 1, t, cs, x, ks, hp, hk, h => by
    unfold okT at hp
    unfold sls at hk
    by_cases hpl : plainT P (k + 1) t = true
    · rw [if_pos hpl] at hk
      simp only [Option.map_eq_some_iff] at hk
      obtain ⟨l, hl, rfl⟩ := hk
      exact ⟨cellsL_of (trod_cells (n + 1) (k + 1) t W 0 _ _ cs x l hpl hl h), fun W' sp _ _ => (trod_plain (n + 1) (k + 1) t W 0 _ _ cs x hpl h).2 W' 0 sp true⟩
    · rw [if_neg hpl] at hk
      simp only [Bool.not_eq_true] at hpl
      rw [hpl, Bool.false_or] at hp
      split at hp
      · rename_i e hu
        rw [hu] at hk
        obtain rfl := Option.some.inj hk
        rw [Bool.and_eq_true, decide_eq_true_eq] at hp
        obtain ⟨⟨a, len, cap, rfl⟩, h2⟩ := trod_sl_keep hu hp.1 hp.2 h
        exact ⟨⟨⟨⟨a, len, cap, rfl⟩, n + 1, x, h, Nat.le_refl _⟩, trivial⟩, h2⟩
      · rename_i fs hu
        rw [hu] at hk
        rw [Bool.and_eq_true, List.all_eq_true, beq_iff_eq] at hp
        simp only [DataW.trod, hu] at h ⊢
        split at h
        · rename_i hl
          simp only [Option.map_eq_some_iff] at h
          obtain ⟨xs, hxs, rfl⟩ := h
          refine ⟨?_, fun W' sp hkp hsp => ?_⟩
          · have := slF_ok (M := Rows.uptoBulk (.agg (xs.map (·.1)))) (g := sls P k) (enc := enc) (W := W) fs.toList 0 _ cs ks hp.2 hl hk fun f hf k' hk' => by
              obtain ⟨i, hi, rfl⟩ := List.mem_iff_getElem.1 hf
              obtain ⟨y, hy1, hy2⟩ := mapM_get hxs i _ (List.getElem?_eq_getElem hi)
              refine cellsL_mono ?_ (trod_keep n k _ _ y k' (hp.1 _ hf) hk' hy2).1
              have hm : y.1 ∈ xs.map (·.1) := List.mem_map.2 ⟨y, List.mem_of_getElem? hy1, rfl⟩
              have := bulk_mem hm
              simp only [Rows.uptoBulk]; omega
            simpa using this
          · rw [if_pos hl, mapM_same (fun f hf y hy => ?_) hxs]
            · rfl
            · have hs : ∃ k', sls P k f.type = some k' := slF_mem hk hf
              obtain ⟨k', hk'⟩ := hs
              exact (trod_keep n k _ _ y k' (hp.1 f hf) hk' hy).2 W' sp hkp hsp
        · cases h
      · cases hp
where slF_mem {g : TypeId → Option (List SL)} : ∀ {fs : List Field} {ks : List SL} {f : Field}, slF g fs = some ks → f ∈ fs → ∃ k, g f.type = some k
  | [], _, _, _, h => by cases h
  | f :: fs, ks, f', h, hm => by
    unfold slF at h
    split at h
    · rename_i a r ha hr
      rcases List.mem_cons.1 hm with rfl | hm
      · exact ⟨a, ha⟩
      · exact slF_mem hr hm
    · cases h
theorem cellsL_p {M : Nat} {k : SK} {ks : List SL} {cs : List Value} (h : CellsL enc P W M (.p k :: ks) cs) : ∃ v cs', cs = v :: cs' ∧ CellOK M k v ∧ CellsL enc P W M ks cs' := by
  obtain _ | ⟨v, cs⟩ := cs
  · exact h.elim
  · exact ⟨v, cs, rfl, h⟩
theorem cellsL_l {M t : Nat} {ks : List SL} {cs : List Value} (h : CellsL enc P W M (.l t :: ks) cs) : ∃ v cs', cs = v :: cs' ∧ CellL enc P W M (.l t) v ∧ CellsL enc P W M ks cs' := by
  obtain _ | ⟨v, cs⟩ := cs
  · exact h.elim
  · exact ⟨v, cs, rfl, h⟩
theorem cellsL_nil {M : Nat} {cs : List Value} (h : CellsL enc P W M [] cs) : cs = [] := by
  cases cs
  · rfl
  · exact h.elim
end
theorem plI64 : plainT Tryz.prog 5 3 = true := by decide +kernel
theorem okPr : okT Tryz.prog 5 29 = true := by decide +kernel
theorem slPr : sls Tryz.prog 5 29 = some [.p (.i .i64), .p (.i .i64), .p (.i .i64), .p (.i .i64), .p (.i .i64), .l 22, .p .s, .p (.i .i64), .p .s, .p (.i .i64), .p (.i .i64)] := by kernel_rfl
section
variable {H : Type} {enc : TypeId × Value → H} {W : World} {base : Nat} {v : Value} {d : DataW H} {p : List MemPlace}
/-- A process as an argument. -/
theorem open_pr (hv : Value.okWide Tryz.prog W .any base 29 v) (h : DataW.Trod enc Tryz.prog W 0 (fun _ => true) true 29 v d p) :
    ∃ (q : Pr) (o : Option Addr) (cap : Nat), v = q.v o cap ∧ (Sl 3 zf o cap q.gs).p (fun b => W.heap[b]?) ∧ q.gs.length ≤ Rows.uptoBulk d ∧
      ∀ (W' : World) (sp : Nat → Bool), Kept W W' → (∀ b < W.heap.size, sp b = true) → DataW.Trod enc Tryz.prog W' 0 sp true 29 v d p := by
  obtain ⟨cs, rfl⟩ := aggS Tryz.underlying29 hv
  obtain ⟨n, hn⟩ := h
  obtain ⟨hc, hk⟩ := trod_keep n 5 _ _ _ _ okPr slPr hn
  have hkeep : ∀ (W' : World) (sp : Nat → Bool), Kept W W' → (∀ b < W.heap.size, sp b = true) → DataW.Trod enc Tryz.prog W' 0 sp true 29 (.agg cs) d p := fun W' sp h1 h2 => ⟨n, hk W' sp h1 h2⟩
  dsimp only at hc
  have hcl : (Value.agg cs).cells.toList = cs.toList := rfl
  rw [hcl] at hc
  obtain ⟨v1, c, e1, ⟨z1, rfl, _⟩, g1⟩ := cellsL_p hc
  obtain ⟨v2, c, rfl, ⟨z2, rfl, _⟩, g2⟩ := cellsL_p g1
  obtain ⟨v3, c, rfl, ⟨z3, rfl, _⟩, g3⟩ := cellsL_p g2
  obtain ⟨v4, c, rfl, ⟨z4, rfl, _⟩, g4⟩ := cellsL_p g3
  obtain ⟨v5, c, rfl, ⟨z5, rfl, _⟩, g5⟩ := cellsL_p g4
  obtain ⟨v6, c, rfl, ⟨⟨a, len, cap, rfl⟩, m, x, hx, hb⟩, g6⟩ := cellsL_l g5
  obtain ⟨v7, c, rfl, ⟨s7, rfl, _⟩, g7⟩ := cellsL_p g6
  obtain ⟨v8, c, rfl, ⟨z8, rfl, _⟩, g8⟩ := cellsL_p g7
  obtain ⟨v9, c, rfl, ⟨s9, rfl, _⟩, g9⟩ := cellsL_p g8
  obtain ⟨v10, c, rfl, ⟨z10, rfl, _⟩, g10⟩ := cellsL_p g9
  obtain ⟨v11, c, rfl, ⟨z11, rfl, _⟩, g11⟩ := cellsL_p g10
  obtain rfl := cellsL_nil g11
  obtain ⟨o, cp, es, h1, h2, h3, _, _⟩ := open_slC (enc := enc) (P := Tryz.prog) (W := W) (v := .slice a len cap) (d := x.1) (p := x.2) (fa := zf) (Q := fun _ _ => True) 3 Tryz.underlying22 plI64 (by decide +kernel) (fun _ => show 1 = _ by decide +kernel) (fun n cs x hx => by
    cases n with
    | zero => simp [DataW.trod] at hx
    | succ n =>
      obtain ⟨z, rfl, _, hz⟩ := DataW.trod_int Tryz.underlying3 hx
      exact ⟨z, rfl, trivial⟩) (fun _ _ _ _ _ => trivial) ⟨a, len, cap, rfl⟩ ⟨m, hx⟩
  injection h1 with h4 h5 h6
  subst h4 h6
  have hcs : cs = #[.int .i64 z1, .int .i64 z2, .int .i64 z3, .int .i64 z4, .int .i64 z5, .slice a len cap, .string s7, .int .i64 z8, .string s9, .int .i64 z10, .int .i64 z11] := by rw [← Array.toList_inj]; exact e1
  exact ⟨⟨z1, z2, z3, z4, z5, es, s7, z8, ⟨s9, z10⟩, z11⟩, a, cap, by rw [hcs, h5]; rfl, h2, by show es.length ≤ _; omega, hkeep⟩
end
end Go.Proofs.YtaijnpkdlopomaaGreatDoor
