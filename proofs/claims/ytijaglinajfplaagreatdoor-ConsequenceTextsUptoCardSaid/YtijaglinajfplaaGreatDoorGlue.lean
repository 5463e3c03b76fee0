/-
  From contracts to the statements' form: memory that was there stays; plain data read the same everywhere; the table of the kinds.
  Conditions: none beyond those that each theorem states.
-/
import Derived.Test.YtijaglinajfplaaGreatDoorLaw
import Derived.Test.YtijaglinajfplaaGreatDoorRows
import Derived.Test.YtijaglinajfplaaGreatDoorCards
import Derived.Test.YtijaglinajfplaaGreatDoorTie
import Derived.ChangeSame
import Derived.ProofKit
import Derived.OpenShut
import Derived.MakeChecks
import Derived.Deep.DeepHandedRow
set_option maxRecDepth 10000
namespace Go.Proofs.YtijaglinajfplaaGreatDoor
open Go.RowKit Go.ChangeShapes Go.WideShapes Go.ChangeAt

/-- All memory that was there is there still. -/
structure Kept (W W' : World) : Prop where
  os : W'.os = W.os
  output : W'.output = W.output
  heap : ∀ (b : Nat) (o : Obj), W.heap[b]? = some o → W'.heap[b]? = some o

theorem Kept.but {W W' : World} (h : Kept W W') (may : MemPlace → Prop) : W.keptBut W' may := by
  refine ⟨h.os, h.output, fun i hi => ?_⟩
  have h1 : W.heap[i]? = some W.heap[i] := Array.getElem?_eq_getElem hi
  have h2 := h.heap i _ h1
  rw [h1, h2]
  split
  · rename_i c t fr c' t' fr' e1 e2
    rw [e1] at e2
    injection e2 with e2
    injection e2 with a1 a2 a3
    subst a1 a2 a3
    exact ⟨rfl, rfl, rfl, fun _ _ => rfl⟩
  · rename_i es clock es' clock' e1 e2
    rw [e1] at e2
    injection e2 with e2
    injection e2 with a1 a2
    subst a1 a2
    exact .inr ⟨rfl, rfl⟩
  · rfl

/-- A contract, where the table lies in memory: what it gives a caller that owns nothing. -/
theorem calls_law {f : FuncId} {args : Array Value} {F : List Pf} {v : Value} (h : Spec Tryz.prog f args F [] (RetV v)) (W : World) (hF : ∀ x ∈ F, x.p fun b => W.heap[b]?) :
    Calls Tryz.prog f args W fun e W' => e = .returned v ∧ Kept W W' := by
  have hs : Sat emp W (fun b => W.heap[b]?) F [] W := ⟨fun b => W.heap[b]?, emp, fun _ _ e => e, (fun _ _ e => by cases e), (fun _ _ e => by cases e), fun _ => .inr rfl, fun _ => .inr rfl, fun _ => .inr rfl, Sub.refl _, hF, trivial, Same.refl _⟩
  refine (h _ _ _ hs).mono ?_
  rintro e W' ⟨_, rfl, _, hp', hr, st⟩
  exact ⟨rfl, st.same.os, st.same.output, fun b o hb => st.inp b o (st.sub b o hb)⟩

/-- Plain types: no memory behind them. -/
def contig (P : Program) : Nat → List Field → Option Nat
  | o, [] => some o
  | o, f :: fs => if f.offset = o then contig P (o + P.cellsOf f.type) fs else none
def plainT (P : Program) : Nat → TypeId → Bool
  | 0, _ => false
  | k + 1, t => match P.underlying t with
    | some .bool => true
    | some (.int _) => true
    | some .string => true
    | some (.struct fs) => (fs.toList.all fun f => plainT P k f.type) && (contig P 0 fs.toList == some (P.cellsOf t))
    | some (.array n e) => plainT P k e && (P.cellsOf t == n * P.cellsOf e)
    | _ => false

variable {H : Type} {enc : TypeId × Value → H} {P : Program}

theorem mapM_same {α β : Type} {f g : α → Option β} : ∀ {l : List α} {r : List β}, (∀ a ∈ l, ∀ x, f a = some x → g a = some x) → l.mapM f = some r → l.mapM g = some r
  | [], r, _, h => h
  | a :: l, r, hfg, h => by
    rw [List.mapM_cons] at h ⊢
    simp only [Option.bind_eq_bind, Option.bind_eq_some_iff, Option.pure_def, Option.some.injEq] at h ⊢
    obtain ⟨x, hx, xs, hxs, rfl⟩ := h
    exact ⟨x, hfg a (by simp) x hx, xs, mapM_same (fun b hb => hfg b (by simp [hb])) hxs, rfl⟩
theorem mapM_all {α β : Type} {f : α → Option β} {p : β → Prop} : ∀ {l : List α} {r : List β}, (∀ a ∈ l, ∀ x, f a = some x → p x) → l.mapM f = some r → ∀ x ∈ r, p x
  | [], r, _, h => by simp at h; subst h; simp
  | a :: l, r, hfg, h => by
    rw [List.mapM_cons] at h
    simp only [Option.bind_eq_bind, Option.bind_eq_some_iff, Option.pure_def, Option.some.injEq] at h
    obtain ⟨x, hx, xs, hxs, rfl⟩ := h
    intro y hy
    rcases List.mem_cons.1 hy with rfl | hy
    · exact hfg a (by simp) y hx
    · exact mapM_all (fun b hb => hfg b (by simp [hb])) hxs y hy
theorem flatMap_nil' {β γ : Type} {f : β → List γ} : ∀ {l : List β}, (∀ x ∈ l, f x = []) → l.flatMap f = []
  | [], _ => rfl
  | a :: l, h => by rw [List.flatMap_cons, h a (by simp), flatMap_nil' (fun x hx => h x (by simp [hx]))]; rfl

/-- Plain data read the same in every world. -/
theorem trod_plain : ∀ (n k : Nat) (t : TypeId) (w : World) (base : Nat) (sp : Nat → Bool) (hd : Bool) (cs : List Value) (x : DataW H × List MemPlace), plainT P k t = true → DataW.trod enc P w base sp hd n t cs = some x →
    x.2 = [] ∧ ∀ w' base' sp' hd', DataW.trod enc P w' base' sp' hd' n t cs = some x
  | 0, _, _, _, _, _, _, _, _, _, h => by simp [DataW.trod] at h
  | n + 1, 0, _, _, _, _, _, _, _, hp, _ => by simp [plainT] at hp
  | n + 1, k + 1, t, w, base, sp, hd, cs, x, hp, h => by
    unfold plainT at hp
    split at hp
    · rename_i hu
      obtain ⟨b, rfl, rfl⟩ := DataW.trod_bool hu h
      exact ⟨rfl, fun _ _ _ _ => by simp [DataW.trod, hu]⟩
    · rename_i hu
      obtain ⟨z, rfl, rfl, hz⟩ := DataW.trod_int hu h
      exact ⟨rfl, fun _ _ _ _ => by simp [DataW.trod, hu, hz]⟩
    · rename_i hu
      obtain ⟨s, rfl, rfl, hs⟩ := DataW.trod_string hu h
      exact ⟨rfl, fun _ _ _ _ => by simp [DataW.trod, hu, hs]⟩
    · rename_i fs hu
      rw [Bool.and_eq_true, List.all_eq_true] at hp
      simp only [DataW.trod, hu] at h ⊢
      split at h
      · rename_i hl
        simp only [Option.map_eq_some_iff] at h
        obtain ⟨xs, hxs, rfl⟩ := h
        have ih : ∀ f ∈ fs.toList, ∀ y, DataW.trod enc P w base sp hd n f.type ((cs.drop f.offset).take (P.cellsOf f.type)) = some y → y.2 = [] ∧ ∀ w' base' sp' hd', DataW.trod enc P w' base' sp' hd' n f.type ((cs.drop f.offset).take (P.cellsOf f.type)) = some y := fun f hf y hy =>
          trod_plain n k f.type w base sp hd _ y (hp.1 f hf) hy
        refine ⟨flatMap_nil' (mapM_all (fun f hf y hy => (ih f hf y hy).1) hxs), fun w' base' sp' hd' => ?_⟩
        rw [if_pos hl, mapM_same (fun f hf y hy => (ih f hf y hy).2 w' base' sp' hd') hxs]
        rfl
      · cases h
    · rename_i m e hu
      rw [Bool.and_eq_true] at hp
      simp only [DataW.trod, hu] at h ⊢
      split at h
      · rename_i hl
        simp only [Option.map_eq_some_iff] at h
        obtain ⟨xs, hxs, rfl⟩ := h
        have ih : ∀ i ∈ List.range m, ∀ y, DataW.trod enc P w base sp hd n e ((cs.drop (i * P.cellsOf e)).take (P.cellsOf e)) = some y → y.2 = [] ∧ ∀ w' base' sp' hd', DataW.trod enc P w' base' sp' hd' n e ((cs.drop (i * P.cellsOf e)).take (P.cellsOf e)) = some y := fun i _ y hy =>
          trod_plain n k e w base sp hd _ y hp.1 hy
        refine ⟨flatMap_nil' (mapM_all (fun i hi y hy => (ih i hi y hy).1) hxs), fun w' base' sp' hd' => ?_⟩
        rw [if_pos hl, mapM_same (fun i hi y hy => (ih i hi y hy).2 w' base' sp' hd') hxs]
        rfl
      · cases h
    · cases hp

theorem mapM_get {α β : Type} {f : α → Option β} : ∀ {l : List α} {r : List β}, l.mapM f = some r → ∀ (i : Nat) (a : α), l[i]? = some a → ∃ b, r[i]? = some b ∧ f a = some b
  | [], r, _, i, a, hi => by simp at hi
  | c :: l, r, h, i, a, hi => by
    rw [List.mapM_cons] at h
    simp only [Option.bind_eq_bind, Option.bind_eq_some_iff, Option.pure_def, Option.some.injEq] at h
    obtain ⟨x, hx, xs, hxs, rfl⟩ := h
    cases i with
    | zero => simp at hi; subst hi; exact ⟨x, by simp, hx⟩
    | succ i => simpa using mapM_get hxs i a (by simpa using hi)

theorem cover : ∀ (fs : List Field) (o total : Nat) (cs cs' : List Value), contig P o fs = some total → cs.length = total → cs'.length = total →
    (∀ f ∈ fs, (cs.drop f.offset).take (P.cellsOf f.type) = (cs'.drop f.offset).take (P.cellsOf f.type)) → cs.drop o = cs'.drop o
  | [], o, total, cs, cs', h, h1, h2, _ => by
    simp only [contig, Option.some.injEq] at h
    rw [List.drop_eq_nil_of_le (by omega), List.drop_eq_nil_of_le (by omega)]
  | f :: fs, o, total, cs, cs', h, h1, h2, hp => by
    unfold contig at h
    split at h
    · rename_i ho
      have ih := cover fs (o + P.cellsOf f.type) total cs cs' h h1 h2 fun g hg => hp g (by simp [hg])
      have h3 := hp f (by simp)
      rw [ho] at h3
      rw [← List.take_append_drop (P.cellsOf f.type) (cs.drop o), ← List.take_append_drop (P.cellsOf f.type) (cs'.drop o), List.drop_drop, List.drop_drop, h3, ih]
    · cases h

/-- Plain data are told apart by what they read as. -/
theorem trod_inj {H' : Type} {enc' : TypeId × Value → H'} : ∀ (n n' k : Nat) (t : TypeId) (w w' : World) (base base' : Nat) (sp sp' : Nat → Bool) (hd hd' : Bool) (cs cs' : List Value) (x x' : DataW H × List MemPlace), plainT P k t = true →
    DataW.trod enc P w base sp hd n t cs = some x → DataW.trod enc P w' base' sp' hd' n' t cs' = some x' → x.1 = x'.1 → cs = cs'
  | 0, _, _, _, _, _, _, _, _, _, _, _, _, _, _, _, _, h, _, _ => by simp [DataW.trod] at h
  | _ + 1, 0, _, _, _, _, _, _, _, _, _, _, _, _, _, _, _, _, h, _ => by simp [DataW.trod] at h
  | n + 1, n' + 1, 0, _, _, _, _, _, _, _, _, _, _, _, _, _, hp, _, _, _ => by simp [plainT] at hp
  | n + 1, n' + 1, k + 1, t, w, w', base, base', sp, sp', hd, hd', cs, cs', x, x', hp, h, h', he => by
    unfold plainT at hp
    split at hp
    · rename_i hu
      obtain ⟨b, rfl, rfl⟩ := DataW.trod_bool hu h
      obtain ⟨b', rfl, rfl⟩ := DataW.trod_bool hu h'
      simp at he; subst he; rfl
    · rename_i hu
      obtain ⟨z, rfl, rfl, hz⟩ := DataW.trod_int hu h
      obtain ⟨z', rfl, rfl, hz'⟩ := DataW.trod_int hu h'
      simp at he; subst he; rfl
    · rename_i hu
      obtain ⟨s, rfl, rfl, hs⟩ := DataW.trod_string hu h
      obtain ⟨s', rfl, rfl, hs'⟩ := DataW.trod_string hu h'
      simp at he
      rw [ba_ext (by rw [he] : s.data.toList = s'.data.toList)]
    · rename_i fs hu
      rw [Bool.and_eq_true, List.all_eq_true, beq_iff_eq] at hp
      simp only [DataW.trod, hu] at h h'
      split at h
      · rename_i hl
        split at h'
        · rename_i hl'
          simp only [Option.map_eq_some_iff] at h h'
          obtain ⟨xs, hxs, rfl⟩ := h
          obtain ⟨xs', hxs', rfl⟩ := h'
          simp only [DataW.agg.injEq] at he
          have := cover fs.toList 0 _ cs cs' hp.2 hl hl' fun f hf => by
            obtain ⟨i, hi, rfl⟩ := List.mem_iff_getElem.1 hf
            have hi' := List.getElem?_eq_getElem hi
            obtain ⟨y, hy1, hy2⟩ := mapM_get hxs i _ hi'
            obtain ⟨y', hy1', hy2'⟩ := mapM_get hxs' i _ hi'
            have hyy : y.1 = y'.1 := by
              have h1 : (xs.map (·.1))[i]? = some y.1 := by simp [hy1]
              have h2 : (xs'.map (·.1))[i]? = some y'.1 := by simp [hy1']
              rw [he] at h1
              exact Option.some.inj (h1.symm.trans h2)
            exact trod_inj (enc' := enc') n n' k _ w w' base base' sp sp' hd hd' _ _ y y' (hp.1 _ hf) hy2 hy2' hyy
          simpa using this
        · cases h'
      · cases h
    · rename_i m e hu
      rw [Bool.and_eq_true, beq_iff_eq] at hp
      simp only [DataW.trod, hu] at h h'
      split at h
      · rename_i hl
        split at h'
        · rename_i hl'
          simp only [Option.map_eq_some_iff] at h h'
          obtain ⟨xs, hxs, rfl⟩ := h
          obtain ⟨xs', hxs', rfl⟩ := h'
          simp only [DataW.agg.injEq] at he
          have hpart : ∀ i, i < m → (cs.drop (i * P.cellsOf e)).take (P.cellsOf e) = (cs'.drop (i * P.cellsOf e)).take (P.cellsOf e) := fun i hi => by
            have hi' : (List.range m)[i]? = some i := by simp [hi]
            obtain ⟨y, hy1, hy2⟩ := mapM_get hxs i _ hi'
            obtain ⟨y', hy1', hy2'⟩ := mapM_get hxs' i _ hi'
            have hyy : y.1 = y'.1 := by
              have h1 : (xs.map (·.1))[i]? = some y.1 := by simp [hy1]
              have h2 : (xs'.map (·.1))[i]? = some y'.1 := by simp [hy1']
              rw [he] at h1
              exact Option.some.inj (h1.symm.trans h2)
            exact trod_inj (enc' := enc') n n' k _ w w' base base' sp sp' hd hd' _ _ y y' hp.1 hy2 hy2' hyy
          apply List.ext_getElem?
          intro j
          by_cases hj : j < m * P.cellsOf e
          · have hc : 0 < P.cellsOf e := Nat.pos_of_ne_zero fun h0 => by rw [h0] at hj; simp at hj
            have h1 := congrArg (fun l => l[j % P.cellsOf e]?) (hpart (j / P.cellsOf e) (Nat.div_lt_of_lt_mul (by rw [Nat.mul_comm]; exact hj)))
            simp only [List.getElem?_take, List.getElem?_drop, if_pos (Nat.mod_lt j hc)] at h1
            rw [show j / P.cellsOf e * P.cellsOf e + j % P.cellsOf e = j by rw [Nat.mul_comm]; exact Nat.div_add_mod j _] at h1
            exact h1
          · rw [List.getElem?_eq_none (by omega), List.getElem?_eq_none (by omega)]
        · cases h'
      · cases h
    · cases hp

/-- The post-condition, where old memory stays: what is to be shown is the readings. -/
theorem post_kept {f : Func} {s : ChangeSpec} {apart fresh handsOn again : Bool} {W W' : World} {args : Array Value} {v : Value} {ds gs : List (DataW H)} {before pa pv : List MemPlace}
    (hW : DataW.Whole enc P f.params.toList s.vars apart W args.toList ds gs before)
    (hres : ∀ (b : Nat) (sp : Nat → Bool) (hd : Bool), DataW.TrodAll enc P W' b sp hd f.resultTypes.toList (v.resultList f.resultTypes.size) (s.fn H (ds ++ gs)).results [])
    (hargs : ∀ sp : Nat → Bool, (∀ b < W.heap.size, sp b = true) → DataW.TrodAll enc P W' 0 sp true f.params.toList args.toList (s.fn H (ds ++ gs)).args pa)
    (hvars : ∀ sp : Nat → Bool, (∀ b < W.heap.size, sp b = true) → DataW.TrodVars enc P W' sp s.vars (s.fn H (ds ++ gs)).vars pv)
    (hps : before = pa ++ pv) (hk : Kept W W')
    (hok : ∀ (j : Nat) (t : TypeId) (r : Value), f.resultTypes[j]? = some t → (v.resultList f.resultTypes.size)[j]? = some r → Value.okWide P W' .any 0 t r) :
    s.post enc P f apart fresh handsOn again W args v W' := by
  have hlt := hW.lt
  refine ⟨ds, gs, before, [], pa, pv, hW, hres _ _ _, hargs _ (fun b hb => by simpa using hb), hvars _ (fun b hb => by simpa using hb), World.keptBut_mono (fun p hp => ⟨hp, ?_⟩) (hk.but (· ∈ before)), fun _ => ?_⟩
  · rw [hps, List.mem_append] at hp
    exact Or.inr hp
  · obtain ⟨_, _, _, _, _, hz, hn⟩ := hW
    refine ⟨hok, _, _, ([] ++ pa) ++ pv, ⟨[] ++ pa, pv, trodAll_append (hargs _ (fun _ _ => rfl)) (hres _ _ _), hvars _ (fun _ _ => rfl), rfl, ?_, ?_⟩, ?_⟩
    · intro b off hp
      have hm : MemPlace.cell b off ∈ before := by rw [hps]; simpa using hp
      have h1 := hz b off hm
      have h2 : b < W.heap.size := hlt _ hm
      have h4 : W.heap[b]? = some W.heap[b] := Array.getElem?_eq_getElem h2
      have h3 := hk.heap b _ h4
      unfold World.frozen? at h1 ⊢
      dsimp only at h1 ⊢
      rw [h4] at h1
      rw [h3]
      exact h1
    · intro ha
      have := hn ha
      rw [hps] at this
      simpa using this
    · intro p hp _
      rw [hps]
      simpa using hp

/-- The table of the kinds, out of the row's condition. -/
def laidU : List (String × DataW Unit) := [("replevin/object.usages", Rows.laid_replevin_object_usages)]
theorem gUsg : Tryz.prog.globalNamed "replevin/object.usages" = some 0 := by kernel_rfl
theorem tUsg : (Tryz.prog.globals[0]?).map (·.type) = some 294 := by kernel_rfl
theorem plUsg : plainT Tryz.prog 5 294 = true := by decide +kernel
theorem rdUsg (w : World) : DataW.trod (fun _ => ()) Tryz.prog w 0 (fun _ => true) false 8 294 (usages.flatMap uf) = some (Rows.laid_replevin_object_usages, []) := by kernel_rfl
theorem usg_of_laid {W : World} (h : laidMetH Tryz.prog laidU W) : Usg.p fun b => W.heap[b]? := by
  rw [MakeChecks.laidMetH_plain _ _ _ (by kernel_rfl)] at h
  obtain ⟨ps, ⟨g0, t0, cs0, f0, p0, q0, hg0, ht0, hv0, hd0, _, _⟩, _, _⟩ := h
  obtain rfl := Option.some.inj (gUsg.symm.trans hg0)
  obtain rfl := Option.some.inj (tUsg.symm.trans ht0)
  have hcs : cs0.toList = usages.flatMap uf := trod_inj (enc' := fun _ => ()) _ _ _ _ W W _ _ _ _ _ _ _ _ _ _ plUsg hd0 (rdUsg W) rfl
  unfold World.var? at hv0
  rw [hg0] at hv0
  simp only [Option.bind_some] at hv0
  split at hv0
  · rename_i cs t fr hb
    obtain rfl := Option.some.inj hv0
    exact ⟨t, fr, by rw [← hcs]; simpa using hb⟩
  · cases hv0

/-- Kinds of cells. -/
inductive SK where
  | b
  | i (k : IntKind)
  | s
def sksF (g : TypeId → Option (List SK)) : List Field → Option (List SK)
  | [] => some []
  | f :: fs => match g f.type, sksF g fs with
    | some a, some r => some (a ++ r)
    | _, _ => none
def sks (P : Program) : Nat → TypeId → Option (List SK)
  | 0, _ => none
  | k + 1, t => match P.underlying t with
    | some .bool => some [.b]
    | some (.int ik) => some [.i ik]
    | some .string => some [.s]
    | some (.struct fs) => sksF (sks P k) fs.toList
    | _ => none
def CellOK (M : Nat) : SK → Value → Prop
  | .b, v => ∃ b, v = .bool b
  | .i k, v => ∃ z, v = .int k z ∧ (Lit.int k z).wf = true
  | .s, v => ∃ s : ByteArray, v = .string s ∧ s.size ≤ M
def CellsOK (M : Nat) : List SK → List Value → Prop
  | [], [] => True
  | k :: ks, v :: vs => CellOK M k v ∧ CellsOK M ks vs
  | _, _ => False
theorem cellsOK_append {M : Nat} : ∀ {a b : List SK} {x y : List Value}, CellsOK M a x → CellsOK M b y → CellsOK M (a ++ b) (x ++ y)
  | [], _, [], _, _, h => h
  | _ :: _, _, _ :: _, _, ⟨h1, h2⟩, h => ⟨h1, cellsOK_append h2 h⟩
theorem cellsOK_mono {M M' : Nat} (hM : M ≤ M') : ∀ {a : List SK} {x : List Value}, CellsOK M a x → CellsOK M' a x
  | [], [], _ => trivial
  | k :: _, _ :: _, ⟨h1, h2⟩ => ⟨by
      cases k with
      | b => exact h1
      | i k => exact h1
      | s => obtain ⟨s, hs, hl⟩ := h1; exact ⟨s, hs, Nat.le_trans hl hM⟩, cellsOK_mono hM h2⟩
theorem bulk_mem : ∀ {l : List (DataW H)} {d : DataW H}, d ∈ l → Rows.uptoBulk d ≤ Rows.uptoBulkAll l
  | c :: l, d, h => by
    rcases List.mem_cons.1 h with rfl | h
    · simp only [Rows.uptoBulkAll]; omega
    · have := bulk_mem h
      simp only [Rows.uptoBulkAll]; omega

theorem sksF_ok {M : Nat} {g : TypeId → Option (List SK)} : ∀ (fs : List Field) (o total : Nat) (cs : List Value) (ks : List SK), contig P o fs = some total → cs.length = total → sksF g fs = some ks →
    (∀ f ∈ fs, ∀ k, g f.type = some k → CellsOK M k ((cs.drop f.offset).take (P.cellsOf f.type))) → CellsOK M ks (cs.drop o)
  | [], o, total, cs, ks, h, h1, h2, _ => by
    simp only [contig, Option.some.injEq] at h
    simp only [sksF, Option.some.injEq] at h2
    rw [← h2, List.drop_eq_nil_of_le (by omega)]; trivial
  | f :: fs, o, total, cs, ks, h, h1, h2, hp => by
    unfold contig at h
    split at h
    · rename_i ho
      unfold sksF at h2
      split at h2
      · rename_i a r ha hr
        obtain rfl := Option.some.inj h2
        have ih := sksF_ok fs (o + P.cellsOf f.type) total cs r h h1 hr fun g hg => hp g (by simp [hg])
        have h3 := hp f (by simp) a ha
        rw [ho] at h3
        rw [← List.take_append_drop (P.cellsOf f.type) (cs.drop o), List.drop_drop]
        exact cellsOK_append h3 ih
      · cases h2
    · cases h

theorem trod_cells : ∀ (n k : Nat) (t : TypeId) (w : World) (base : Nat) (sp : Nat → Bool) (hd : Bool) (cs : List Value) (x : DataW H × List MemPlace) (ks : List SK), plainT P k t = true → sks P k t = some ks → DataW.trod enc P w base sp hd n t cs = some x → CellsOK (Rows.uptoBulk x.1) ks cs
  | 0, _, _, _, _, _, _, _, _, _, _, _, h => by simp [DataW.trod] at h
  | n + 1, 0, _, _, _, _, _, _, _, _, hp, _, _ => by simp [plainT] at hp
  | n + 1, k + 1, t, w, base, sp, hd, cs, x, ks, hp, hk, h => by
    unfold plainT at hp
    unfold sks at hk
    split at hp
    · rename_i hu
      rw [hu] at hk
      obtain rfl := Option.some.inj hk
      obtain ⟨b, rfl, rfl⟩ := DataW.trod_bool hu h
      exact ⟨⟨b, rfl⟩, trivial⟩
    · rename_i hu
      rw [hu] at hk
      obtain rfl := Option.some.inj hk
      obtain ⟨z, rfl, rfl, hz⟩ := DataW.trod_int hu h
      exact ⟨⟨z, rfl, hz⟩, trivial⟩
    · rename_i hu
      rw [hu] at hk
      obtain rfl := Option.some.inj hk
      obtain ⟨s, rfl, rfl, hs⟩ := DataW.trod_string hu h
      refine ⟨⟨s, rfl, ?_⟩, trivial⟩
      have hsz : s.data.toList.length = s.size := by simp
      simp only [Rows.uptoBulk]; omega
    · rename_i fs hu
      rw [hu] at hk
      rw [Bool.and_eq_true, List.all_eq_true, beq_iff_eq] at hp
      simp only [DataW.trod, hu] at h
      split at h
      · rename_i hl
        simp only [Option.map_eq_some_iff] at h
        obtain ⟨xs, hxs, rfl⟩ := h
        have := sksF_ok (M := Rows.uptoBulk (.agg (xs.map (·.1)))) (g := sks P k) fs.toList 0 _ cs ks hp.2 hl hk fun f hf k' hk' => by
          obtain ⟨i, hi, rfl⟩ := List.mem_iff_getElem.1 hf
          obtain ⟨y, hy1, hy2⟩ := mapM_get hxs i _ (List.getElem?_eq_getElem hi)
          refine cellsOK_mono ?_ (trod_cells n k _ w base sp hd _ y k' (hp.1 _ hf) hk' hy2)
          have hm : y.1 ∈ xs.map (·.1) := List.mem_map.2 ⟨y, List.mem_of_getElem? hy1, rfl⟩
          have := bulk_mem hm
          simp only [Rows.uptoBulk]; omega
        simpa using this
      · cases h
    · rename_i m e hu
      rw [hu] at hk
      cases hk
    · cases hp
end Go.Proofs.YtijaglinajfplaaGreatDoor
