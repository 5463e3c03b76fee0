/-
  Rules for maps that the program makes.
  Conditions: none beyond those that each theorem states.
-/
import Derived.Test.YtijaglinajfplaaGreatDoorEq
set_option maxRecDepth 10000
namespace Go.Proofs.YtijaglinajfplaaGreatDoor
open Go.RowKit

/-- Whether a key can be looked for: all of its parts are plain. -/
def ckFs (g : Nat → Value → Bool) : List (Nat × Nat × Nat) → List Value → Bool
  | [], _ => true
  | (o, t, _) :: fs, xs => match partv t xs o with
    | some a => g t a && ckFs g fs xs
    | none => false
def ckC (S : List Nat) : Nat → Nat → Value → Bool
  | 0, _, _ => false
  | f + 1, t, x => match lookT tab t with
    | some ⟨.int _, _, _, _⟩ => true
    | some ⟨.str, _, _, _⟩ => true
    | some ⟨.bool, _, _, _⟩ => true
    | some ⟨.struct fs, _, _, _⟩ => match x with
      | .agg xs => memN S t && ckFs (ckC S f) fs xs.toList
      | _ => false
    | _ => false

theorem ckFs_ok {g : Nat → Value → Bool} {d : Nat} {em : Bool} (hg : ∀ t x w, g t x = true → (Instr.checkKey em d t x).run Tryz.prog w = .ok () w) : ∀ (fl : List Field) (fs : List (Nat × Nat × Nat)) (xs : Array Value) (w : World),
    fl.map (fun f => (f.offset, f.type, ((Tryz.prog.info? f.type).map (·.size)).getD 0)) = fs → ckFs g fs xs.toList = true →
    (forIn fl PUnit.unit (fun f _ => if f.name ≠ "_" then (do
        let a ← part f.type xs f.offset
        Instr.checkKey em d f.type a
        pure (ForInStep.yield PUnit.unit)) else pure (ForInStep.yield PUnit.unit)) : Sem PUnit).run Tryz.prog w = .ok PUnit.unit w
  | [], _, _, w, _, _ => rfl
  | f :: fl, _, xs, w, h, he => by
    subst h
    simp only [List.map_cons, ckFs] at he
    split at he
    · rename_i a ha
      rw [Bool.and_eq_true] at he
      have ih := ckFs_ok hg fl _ xs w rfl he.2
      rw [List.forIn_cons]
      by_cases hn : f.name ≠ "_"
      · rw [if_pos hn]
        simp only [Sem.run_bind, partv_ok ha w, hg _ _ w he.1, Result.andThen, Sem.run_pure]
        exact ih
      · rw [if_neg hn]
        simp only [Sem.run_bind, Result.andThen, Sem.run_pure]
        exact ih
    · cases he

theorem ckC_ok {S : List Nat} (hS : S.all chkE = true) (em : Bool) : ∀ (f d t : Nat) (x : Value) (w : World), f ≤ d → ckC S f t x = true → (Instr.checkKey em d t x).run Tryz.prog w = .ok () w
  | 0, _, _, _, _, _, h => by cases h
  | f + 1, 0, _, _, _, hd, _ => by omega
  | f + 1, d + 1, t, x, w, hd, h => by
    unfold ckC at h
    split at h
    · rename_i hr
      obtain ⟨dd, hd1, hk1⟩ := tab_ok.und hr
      cases dd <;> simp [chkKind] at hk1
      simp [Instr.checkKey, underlying, hd1, go_sem]
    · rename_i hr
      obtain ⟨dd, hd1, hk1⟩ := tab_ok.und hr
      cases dd <;> simp [chkKind] at hk1
      simp [Instr.checkKey, underlying, hd1, go_sem]
    · rename_i hr
      obtain ⟨dd, hd1, hk1⟩ := tab_ok.und hr
      cases dd <;> simp [chkKind] at hk1
      simp [Instr.checkKey, underlying, hd1, go_sem]
    · rename_i fs _ _ _ hr
      split at h
      · rename_i xs
        rw [Bool.and_eq_true] at h
        obtain ⟨dd, hd1, hk1⟩ := tab_ok.und hr
        cases dd <;> simp [chkKind] at hk1
        rename_i fl
        have hu : (underlying t).run Tryz.prog w = .ok (.struct fl) w := by simp [underlying, hd1, go_sem]
        have hl := ckFs_ok (g := ckC S f) (d := d) (em := em) (fun t x w hh => ckC_ok hS em f d t x w (by omega) hh) fl.toList fs xs w (by simpa using hk1.1) h.2
        unfold Instr.checkKey
        simp only [Sem.run_bind, hu, Result.andThen]
        rw [← Array.forIn_toList]
        rw [hl]
        rfl
      · cases h
    · cases h

/-- Keys of a type that can be told apart. -/
structure KeyOK {α : Type} [DecidableEq α] (kt : Nat) (K : α → Value) : Prop where
  eq : ∀ a b w, (Op.equal kt (K a) (K b)).run Tryz.prog w = .ok (decide (a = b)) w
  chk : ∀ a em w, (Instr.checkKey em 10000 kt (K a)).run Tryz.prog w = .ok () w
  bits : ∀ a, Instr.sameBits 10000 (K a) (K a) = true
  now : ∃ d, Tryz.prog.underlying kt = some d ∧ ∀ a b, Instr.sameNow d (K a) (K b) = none ∨ Instr.sameNow d (K a) (K b) = some (decide (a = b))

section
variable {α β : Type} [DecidableEq α]
def mfind (a : α) : List (α × β) → Nat → Option (Nat × β)
  | [], _ => none
  | (b, v) :: m, i => if a = b then some (i, v) else mfind a m (i + 1)
def mget (a : α) : List (α × β) → Option β
  | [] => none
  | (b, v) :: m => if a = b then some v else mget a m
def mset (a : α) (v : β) : List (α × β) → List (α × β)
  | [] => [(a, v)]
  | (b, u) :: m => if a = b then (a, v) :: m else (b, u) :: mset a v m
theorem mfind_get (a : α) : ∀ (m : List (α × β)) (i : Nat), (mfind a m i).map (·.2) = mget a m
  | [], _ => rfl
  | (b, v) :: m, i => by
    unfold mfind mget
    split
    · rfl
    · exact mfind_get a m (i + 1)

variable {kt : Nat} {K : α → Value} {V : β → Value}
theorem findAsking_ok (hk : KeyOK kt K) (a : α) : ∀ (es : List MapEntry) (m : List (α × β)) (i : Nat) (w : World), es.map (fun e => (e.key, e.val)) = m.map (fun x => (K x.1, V x.2)) →
    (Instr.findAsking kt (K a) es i).run Tryz.prog w = .ok ((mfind a m i).map fun p => (p.1, V p.2)) w
  | [], m, i, w, h => by
    cases m with
    | nil => rfl
    | cons => simp at h
  | e :: es, m, i, w, h => by
    cases m with
    | nil => simp at h
    | cons x m =>
      obtain ⟨b, v⟩ := x
      simp only [List.map_cons, List.cons.injEq, Prod.mk.injEq] at h
      obtain ⟨⟨h1, h2⟩, h3⟩ := h
      unfold Instr.findAsking mfind
      simp only [Sem.run_bind, h1, hk.eq a b w, Result.andThen]
      by_cases hab : a = b
      · simp [hab, h2]
      · simp only [hab, decide_false, Bool.false_eq_true, if_false]
        exact findAsking_ok hk a es m (i + 1) w h3
theorem findNow_ok {d : TypeDesc} (hd : ∀ a b, Instr.sameNow d (K a) (K b) = none ∨ Instr.sameNow d (K a) (K b) = some (decide (a = b))) (a : α) : ∀ (es : List MapEntry) (m : List (α × β)) (i : Nat) (r : Option (Nat × Value)), es.map (fun e => (e.key, e.val)) = m.map (fun x => (K x.1, V x.2)) →
    Instr.findNow d (K a) es i = some r → r = (mfind a m i).map fun p => (p.1, V p.2)
  | [], m, i, r, h, hr => by
    cases m with
    | nil => exact (Option.some.inj hr).symm
    | cons => simp at h
  | e :: es, m, i, r, h, hr => by
    cases m with
    | nil => simp at h
    | cons x m =>
      obtain ⟨b, v⟩ := x
      simp only [List.map_cons, List.cons.injEq, Prod.mk.injEq] at h
      obtain ⟨⟨h1, h2⟩, h3⟩ := h
      unfold Instr.findNow at hr
      unfold mfind
      rw [h1] at hr
      rcases hd a b with e1 | e1
      · rw [e1] at hr; cases hr
      · rw [e1] at hr
        by_cases hab : a = b
        · simp only [hab, decide_true] at hr
          simp [hab, ← Option.some.inj hr, h2]
        · simp only [hab, decide_false] at hr
          rw [if_neg hab]
          exact findNow_ok hd a es m (i + 1) r h3 hr
theorem findKey_ok (hk : KeyOK kt K) (a : α) (es : List MapEntry) (m : List (α × β)) (w : World) (h : es.map (fun e => (e.key, e.val)) = m.map (fun x => (K x.1, V x.2))) :
    (Instr.findKey kt (K a) es).run Tryz.prog w = .ok ((mfind a m 0).map fun p => (p.1, V p.2)) w := by
  obtain ⟨d, hd, hn⟩ := hk.now
  have hu : (underlying kt).run Tryz.prog w = .ok d w := by simp [underlying, hd, go_sem]
  unfold Instr.findKey
  simp only [Sem.run_bind, hu, Result.andThen]
  split
  · rename_i r hr
    rw [findNow_ok hn a es m 0 r h hr]; rfl
  · exact findAsking_ok hk a es m 0 w h

/-- A map that is owned. -/
def Mp (K : α → Value) (V : β → Value) (r : Nat) (m : List (α × β)) : HP := fun h => ∃ es clock, h r = some (.map es clock) ∧ es.toList.map (fun e => (e.key, e.val)) = m.map fun x => (K x.1, V x.2)

theorem mset_none (a : α) (v : β) : ∀ (m : List (α × β)) (i : Nat), mfind a m i = none → mset a v m = m ++ [(a, v)]
  | [], _, _ => rfl
  | (b, u) :: m, i, h => by
    unfold mfind at h
    split at h
    · cases h
    · rename_i hab
      rw [mset, if_neg hab, mset_none a v m (i + 1) h]; rfl
theorem mset_some (a : α) (v : β) : ∀ (m : List (α × β)) (i j : Nat) (u : β), mfind a m i = some (j, u) → ∃ p, j = i + p ∧ m[p]? = some (a, u) ∧ mset a v m = m.set p (a, v)
  | [], _, _, _, h => by cases h
  | (b, u') :: m, i, j, u, h => by
    unfold mfind at h
    split at h
    · rename_i hab
      subst hab
      simp only [Option.some.injEq, Prod.mk.injEq] at h
      obtain ⟨rfl, rfl⟩ := h
      exact ⟨0, by omega, by simp, by simp [mset]⟩
    · rename_i hab
      obtain ⟨p, h1, h2, h3⟩ := mset_some a v m (i + 1) j u h
      exact ⟨p + 1, by omega, by simpa using h2, by simp [mset, hab, h3]⟩
end

theorem setObj_write {G : H} {w0 w : World} {hp0 : H} {F : List Pf} {R : List HP} {b : Nat} {o o' : Obj} (hs : Sat G w0 hp0 F (Pt b o :: R) w) : Sat G w0 hp0 F (Pt b o' :: R) { w with heap := w.heap.setIfInBounds b o' } := by
  have hb := hs.pt Sel.here
  have hlt := (Array.getElem?_eq_some_iff.1 hb).1
  refine hs.write ⟨rfl, rfl, rfl, by simp⟩ ?_ fun c hc _ => ?_
  · simp [hlt]
  · simp only [Array.getElem?_setIfInBounds]; rw [if_neg (fun e => hc e.symm)]

theorem mp_open {α β : Type} {K : α → Value} {V : β → Value} {r : Nat} {m : List (α × β)} {G : H} {w0 w : World} {hp0 : H} {F : List Pf} {R R0 : List HP} (hs : Sel (Mp K V r m) R R0) (h : Sat G w0 hp0 F R w) :
    ∃ es clock, Sat G w0 hp0 F (Pt r (.map es clock) :: R0) w ∧ es.toList.map (fun e => (e.key, e.val)) = m.map fun x => (K x.1, V x.2) := by
  obtain ⟨⟨⟨es, clock⟩, he⟩, h1⟩ := (h.sel hs).open' (X := { x : Array MapEntry × Nat // x.1.toList.map (fun e => (e.key, e.val)) = m.map fun x => (K x.1, V x.2) }) (L := fun x => [Pt r (.map x.1.1 x.1.2)]) fun k hk => by
    obtain ⟨es, clock, h1, h2⟩ := hk
    exact ⟨⟨(es, clock), h2⟩, k, emp, (fun _ => .inr rfl), Sub.refl _, (fun _ _ e => by cases e), h1, trivial⟩
  exact ⟨es, clock, h1, he⟩
theorem mp_shut {α β : Type} {K : α → Value} {V : β → Value} {r : Nat} {m : List (α × β)} {G : H} {w0 w : World} {hp0 : H} {F : List Pf} {R0 : List HP} {es : Array MapEntry} {clock : Nat} (h : Sat G w0 hp0 F (Pt r (.map es clock) :: R0) w)
    (he : es.toList.map (fun e => (e.key, e.val)) = m.map fun x => (K x.1, V x.2)) : Sat G w0 hp0 F (Mp K V r m :: R0) w :=
  h.shut (L := [Pt r (.map es clock)]) fun k hk => by
    obtain ⟨h1, h2, _, s1, _, hx, _⟩ := hk
    exact ⟨es, clock, s1 _ _ hx, he⟩

/-- The zero value of a type. -/
def zval (r : TRow) : Option Value := bif r.k.isAgg then some (.agg r.zero.toArray) else match r.zero with | [z] => some z | _ => none
theorem zval_ok {t : Nat} {r : TRow} {z : Value} (hr : lookT tab t = some r) (hz : zval r = some z) (w : World) : (zeroValue t).run Tryz.prog w = .ok z w := by
  have h1 := List.all_eq_true.1 tab_ok _ (lookT_mem hr)
  simp only [chkRow] at h1
  split at h1
  · rename_i i d hi hd
    simp only [Bool.and_eq_true, beq_iff_eq] at h1
    obtain ⟨_, h5⟩ := h1
    split at h5
    · rename_i z0 hz0
      rw [Bool.and_eq_true] at h5
      have hc := zeqs_eq h5.1
      have hzz : z = z0 := by
        unfold zval at hz
        cases z0 with
        | agg cs =>
          simp only at h5
          rw [h5.2] at hz
          simp only [cond_true, Option.some.injEq] at hz
          rw [← hz, ← hc]; simp [Value.cells]
        | _ =>
          simp only [Bool.not_eq_true'] at h5
          rw [h5.2] at hz
          simp only [Value.cells] at hc
          rw [← hc] at hz
          simpa using hz.symm
      subst hzz
      simp [zeroValue, typeInfo, hi, hz0, go_sem]
    · cases h5
  · cases h1

section
variable {n : Nat} {C : Cx} {Q : Exit → Act → World → Prop} {E E' : List (Nat × Value)} {F F' F1 Fs F0 : List Pf} {R R' R0 Rs N N' A : List HP} {k k' : List Fr} {ops l : List Oper}
  {i d : Nat} {t ty0 : TypeId} {x y z : Operand} {pos : String} {aft : Array Edge} {gd : Option (Nat × Bool)} {α β : Type} [DecidableEq α] {K : α → Value} {V : β → Value}

theorem run_undM {kt et : Nat} {w : World} {rs : TRow} (hts : lookT tab t = some rs) (hrs : rs.k = .map kt et) : (underlying t).run Tryz.prog w = .ok (.map kt et) w := by
  obtain ⟨d1, hd1, hk1⟩ := tab_ok.und hts
  rw [hrs] at hk1
  cases d1 <;> simp [chkKind] at hk1
  obtain ⟨rfl, rfl⟩ := hk1
  simp [underlying, hd1, go_sem]

/-- A new map. -/
theorem l_mkm {kt et : Nat} {rs : TRow} (_hk : KeyOK kt K) (V : β → Value) (nx : ∀ r, Wl n C ops.toArray k Q l ((d, .map (some r)) :: E) F (Mp K V r [] :: R)) (hw : wantL ops E ⟨some d, .makeMap t none, ty0, pos, aft, gd⟩ = some true := by rfl) (hn : Nat.blt d n = true := by rfl) (_hts : lookT tab t = some rs := by rfl) (_hrs : rs.k = .map kt et := by rfl) :
    Wl n C ops.toArray k Q (⟨some d, .makeMap t none, ty0, pos, aft, gd⟩ :: l) E F R :=
  wl_op (fun t ht => by cases ht; exact Nat.le_of_ble_eq_true hn) (fun c hc => by cases hc) hw fun a w ha hsat => by
    have h1 := hsat.alloc (.map #[] 0)
    exact fun a' ha' => nx w.heap.size a' _ ha' (mp_shut (K := K) (V := V) (m := []) h1 rfl)

/-- An element of a map is set. -/
theorem l_mset {kt et r : Nat} {rs : TRow} {m : List (α × β)} (hk : KeyOK kt K) (a : α) (v : β) (nx : Wl n C ops.toArray k Q l E F (Mp K V r (mset a v m) :: R0)) (hw : wantL ops E ⟨none, .mapUpdate t x y z, ty0, pos, aft, gd⟩ = some true := by rfl)
    (hx : ev E x = some (.map (some r)) := by rfl) (hy : ev E y = some (K a) := by rfl) (hz : ev E z = some (V v) := by rfl) (hts : lookT tab t = some rs := by rfl) (hrs : rs.k = .map kt et := by rfl)
    (hs : Sel (Mp K V r m) R R0 := by (repeat (first | exact Sel.here | apply Sel.there)); first | done | fail) : Wl n C ops.toArray k Q (⟨none, .mapUpdate t x y z, ty0, pos, aft, gd⟩ :: l) E F R :=
  wl_op (fun t ht => by cases ht) (fun c hc => by cases hc) hw fun ac w ha hsat => by
    obtain ⟨es, clock, h1, he⟩ := mp_open hs hsat
    have hb := h1.pt Sel.here
    have hu := run_undM (w := w) hts hrs
    have hg : (getObj r).run Tryz.prog w = .ok (.map es clock) w := by simp [getObj, Sem.run, hb]
    have hc := hk.chk a false w
    have hf := findKey_ok hk a es.toList m w he
    unfold OpRes
    simp only [execOp, ha.ev (x := x) (by rw [evf_look]; exact hx), ha.ev (x := y) (by rw [evf_look]; exact hy), ha.ev (x := z) (by rw [evf_look]; exact hz), Instr.mapUpdate, Sem.run_bind, hu, Result.andThen, hg, hc, hf]
    cases hm : mfind a m 0 with
    | none =>
      simp only [Option.map_none]
      have hset : (setObj r (.map (es.push { key := K a, val := V v, born := clock }) (clock + 1))).run Tryz.prog w = .ok () { w with heap := w.heap.setIfInBounds r (.map (es.push { key := K a, val := V v, born := clock }) (clock + 1)) } := by simp [setObj, Sem.run, hb]
      simp only [hset, Sem.run_pure]
      refine fun a' ha' => nx a' _ ha' (mp_shut (setObj_write h1) ?_)
      rw [mset_none a v m 0 hm]
      simp [he]
    | some q =>
      obtain ⟨j, u⟩ := q
      obtain ⟨p, hj, hp, hms⟩ := mset_some a v m 0 j u hm
      obtain rfl : j = p := by omega
      have hkey : (es.toList.map (fun e => (e.key, e.val)))[j]? = some (K a, V u) := by rw [he]; simp [hp]
      have hold : ((es[j]?).map (·.key)).getD (K a) = K a := by
        simp only [List.getElem?_map, Array.getElem?_toList, Option.map_eq_some_iff] at hkey
        obtain ⟨e, he1, he2⟩ := hkey
        rw [he1]
        simp only [Prod.mk.injEq] at he2
        simp [he2.1]
      simp only [Option.map_some]
      have hkt : (Instr.keyThatStays (((es[j]?).map (·.key)).getD (K a)) (K a)).run Tryz.prog w = .ok (K a) w := by
        rw [hold]; simp [Instr.keyThatStays, hk.bits a]
      have hset : (setObj r (.map (es.modify j fun e => { e with key := K a, val := V v }) clock)).run Tryz.prog w = .ok () { w with heap := w.heap.setIfInBounds r (.map (es.modify j fun e => { e with key := K a, val := V v }) clock) } := by simp [setObj, Sem.run, hb]
      simp only [hkt, Sem.run_bind, Result.andThen, hset, Sem.run_pure]
      refine fun a' ha' => nx a' _ ha' (mp_shut (setObj_write h1) ?_)
      rw [hms]
      apply List.ext_getElem?
      intro i
      have hei : (es.toList.map (fun e => (e.key, e.val)))[i]? = (m.map fun x => (K x.1, V x.2))[i]? := by rw [he]
      simp only [List.getElem?_map, Array.getElem?_toList, Array.getElem?_modify, List.getElem?_set] at hei ⊢
      by_cases hij : j = i
      · subst hij
        simp only [if_true]
        have hlt := (List.getElem?_eq_some_iff.1 hp).1
        rw [if_pos hlt]
        rw [hp] at hei
        simp only [Option.map_some, Option.map_eq_some_iff] at hei
        obtain ⟨e, he1, _⟩ := hei
        simp [he1]
      · simp only [if_neg hij]
        exact hei

/-- An element of a map is looked up. -/
theorem l_mget {kt et r : Nat} {rs te : TRow} {m : List (α × β)} {zv : Value} (hk : KeyOK kt K) (a : α) (nx : Wl n C ops.toArray k Q l ((d, ((mget a m).map V).getD zv) :: E) F R) (hw : wantL ops E ⟨some d, .lookup t x y false, ty0, pos, aft, gd⟩ = some true := by rfl) (hn : Nat.blt d n = true := by rfl)
    (hx : ev E x = some (.map (some r)) := by rfl) (hy : ev E y = some (K a) := by rfl) (hts : lookT tab t = some rs := by rfl) (hrs : rs.k = .map kt et := by rfl) (hte : lookT tab et = some te := by rfl) (hzv : zval te = some zv := by rfl)
    (hs : Sel (Mp K V r m) R R0 := by (repeat (first | exact Sel.here | apply Sel.there)); first | done | fail) : Wl n C ops.toArray k Q (⟨some d, .lookup t x y false, ty0, pos, aft, gd⟩ :: l) E F R :=
  wl_op (fun t ht => by cases ht; exact Nat.le_of_ble_eq_true hn) (fun c hc => by cases hc) hw fun ac w ha hsat => by
    obtain ⟨es, clock, h1, he⟩ := mp_open hs hsat
    have hb := h1.pt Sel.here
    have hu := run_undM (w := w) hts hrs
    have hg : (getObj r).run Tryz.prog w = .ok (.map es clock) w := by simp [getObj, Sem.run, hb]
    have hc := hk.chk a es.isEmpty w
    have hf := findKey_ok hk a es.toList m w he
    have hz0 := zval_ok hte hzv w
    have hfg := mfind_get a m 0
    unfold OpRes
    simp only [execOp, ha.ev (x := x) (by rw [evf_look]; exact hx), ha.ev (x := y) (by rw [evf_look]; exact hy), Instr.lookup, Sem.run_bind, hu, Result.andThen, hg, hc, hf, Sem.run_pure]
    cases hm : mfind a m 0 with
    | none =>
      rw [hm] at hfg
      simp only [Option.map_none, Sem.run_bind, hz0, Result.andThen, Sem.run_pure, Bool.false_eq_true, if_false]
      intro a' ha'
      rw [← hfg] at nx
      exact nx a' w ha' hsat
    | some q =>
      rw [hm] at hfg
      simp only [Option.map_some, Sem.run_pure, Result.andThen, Bool.false_eq_true, if_false]
      intro a' ha'
      rw [← hfg] at nx
      exact nx a' w ha' hsat
theorem l_mget2 {kt et r : Nat} {rs te : TRow} {m : List (α × β)} {zv : Value} (hk : KeyOK kt K) (a : α) (nx : Wl n C ops.toArray k Q l ((d, .tuple #[((mget a m).map V).getD zv, .bool (mget a m).isSome]) :: E) F R) (hw : wantL ops E ⟨some d, .lookup t x y true, ty0, pos, aft, gd⟩ = some true := by rfl) (hn : Nat.blt d n = true := by rfl)
    (hx : ev E x = some (.map (some r)) := by rfl) (hy : ev E y = some (K a) := by rfl) (hts : lookT tab t = some rs := by rfl) (hrs : rs.k = .map kt et := by rfl) (hte : lookT tab et = some te := by rfl) (hzv : zval te = some zv := by rfl)
    (hs : Sel (Mp K V r m) R R0 := by (repeat (first | exact Sel.here | apply Sel.there)); first | done | fail) : Wl n C ops.toArray k Q (⟨some d, .lookup t x y true, ty0, pos, aft, gd⟩ :: l) E F R :=
  wl_op (fun t ht => by cases ht; exact Nat.le_of_ble_eq_true hn) (fun c hc => by cases hc) hw fun ac w ha hsat => by
    obtain ⟨es, clock, h1, he⟩ := mp_open hs hsat
    have hb := h1.pt Sel.here
    have hu := run_undM (w := w) hts hrs
    have hg : (getObj r).run Tryz.prog w = .ok (.map es clock) w := by simp [getObj, Sem.run, hb]
    have hc := hk.chk a es.isEmpty w
    have hf := findKey_ok hk a es.toList m w he
    have hz0 := zval_ok hte hzv w
    have hfg := mfind_get a m 0
    unfold OpRes
    simp only [execOp, ha.ev (x := x) (by rw [evf_look]; exact hx), ha.ev (x := y) (by rw [evf_look]; exact hy), Instr.lookup, Sem.run_bind, hu, Result.andThen, hg, hc, hf, Sem.run_pure]
    cases hm : mfind a m 0 with
    | none =>
      rw [hm] at hfg
      simp only [Option.map_none, Sem.run_bind, hz0, Result.andThen, Sem.run_pure, if_true]
      intro a' ha'
      rw [← hfg] at nx
      exact nx a' w ha' hsat
    | some q =>
      rw [hm] at hfg
      simp only [Option.map_some, Sem.run_pure, Result.andThen, if_true]
      intro a' ha'
      rw [← hfg] at nx
      exact nx a' w ha' hsat
end
end Go.Proofs.YtijaglinajfplaaGreatDoor
