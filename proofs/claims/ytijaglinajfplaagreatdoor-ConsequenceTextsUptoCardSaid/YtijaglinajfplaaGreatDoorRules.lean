/-
  More rules of the walk: memory, calls, returns, regions that draw their order.
  Conditions: none beyond those that each theorem states.
-/
import Derived.Test.YtijaglinajfplaaGreatDoorWalk
import Derived.Shelf.Abstract
namespace Go.Proofs.YtijaglinajfplaaGreatDoor
open Go.RowKit

variable {n : Nat} {C : Cx} {Q : Exit → Act → World → Prop} {E E' : List (Nat × Value)} {F F' F1 : List Pf} {R R' R0 A : List HP} {k k' : List Fr} {ops l : List Oper}
  {d : Nat} {t ty0 : TypeId} {x y : Operand} {pos : String} {aft : Array Edge} {gd : Option (Nat × Bool)} {b off : Nat} {cs : Array Value} {ty : TypeId} {fzn : Nat × Nat} {v : Value}

/-- A load out of an owned block. -/
theorem l_ld (nx : Wl n C ops.toArray k Q l ((d, v) :: E) F R) (hw : wantL ops E ⟨some d, .load t x, ty0, pos, aft, gd⟩ = some true := by rfl) (hn : Nat.blt d n = true := by rfl)
    (hx : ev E x = some (.pointer (some ⟨b, off, none⟩)) := by rfl) (hs : Sel (Pt b (.cells cs ty fzn)) R R0 := by (repeat (first | exact Sel.here | apply Sel.there)); first | done | fail) (hv : ldv t cs.toList off = some v := by rfl) :
    Wl n C ops.toArray k Q (⟨some d, .load t x, ty0, pos, aft, gd⟩ :: l) E F R :=
  wl_op (fun t ht => by cases ht; exact Nat.le_of_ble_eq_true hn) (fun c hc => by cases hc) hw fun a w ha hsat => by
    have hr := ldv_ok (hsat.pt hs) hv
    unfold OpRes
    simp only [execOp, Instr.loadAt, ha.ev (by rw [evf_look]; exact hx), Instr.sureAddr, Sem.run_bind, Sem.run_pure, Result.andThen, hr]
    exact fun a' ha' => nx a' w ha' hsat

/-- A load out of a block that stays. -/
theorem l_ldF {F0 : List Pf} (nx : Wl n C ops.toArray k Q l ((d, v) :: E) F R) (hw : wantL ops E ⟨some d, .load t x, ty0, pos, aft, gd⟩ = some true := by rfl) (hn : Nat.blt d n = true := by rfl)
    (hx : ev E x = some (.pointer (some ⟨b, off, none⟩)) := by rfl) (hs : Sel (Blk b (.cells cs ty fzn)) F F0 := by (repeat (first | exact Sel.here | apply Sel.there)); first | done | fail) (hv : ldv t cs.toList off = some v := by rfl) :
    Wl n C ops.toArray k Q (⟨some d, .load t x, ty0, pos, aft, gd⟩ :: l) E F R :=
  wl_op (fun t ht => by cases ht; exact Nat.le_of_ble_eq_true hn) (fun c hc => by cases hc) hw fun a w ha hsat => by
    have hr := ldv_ok (hsat.blk hs) hv
    unfold OpRes
    simp only [execOp, Instr.loadAt, ha.ev (by rw [evf_look]; exact hx), Instr.sureAddr, Sem.run_bind, Sem.run_pure, Result.andThen, hr]
    exact fun a' ha' => nx a' w ha' hsat

/-- A new variable, a new box. -/
theorem l_al {op : Op} {obj : Obj} (nx : ∀ b, Wl n C ops.toArray k Q l ((d, .pointer (some ⟨b, 0, none⟩)) :: E) F (Pt b obj :: R)) (hw : wantL ops E ⟨some d, op, ty0, pos, aft, gd⟩ = some true := by rfl) (hn : Nat.blt d n = true := by rfl)
    (ha : allocOf tab (look E) op = some (obj, fun b => .pointer (some ⟨b, 0, none⟩)) := by rfl) : Wl n C ops.toArray k Q (⟨some d, op, ty0, pos, aft, gd⟩ :: l) E F R :=
  wl_op (fun t ht => by cases ht; exact Nat.le_of_ble_eq_true hn) (fun c hc => by rw [show op = _ from hc] at ha; cases ha) hw fun a w hag hsat => by
    have hr := allocOf_ok tab_ok hag (o := ⟨some d, op, ty0, pos, aft, gd⟩) ha w
    unfold OpRes
    rw [hr]
    exact fun a' ha' => nx _ a' _ ha' (hsat.alloc obj)

/-- A new array behind a slice. -/
theorem l_bs {op : Op} {obj : Obj} {m : Nat} (nx : ∀ b, Wl n C ops.toArray k Q l ((d, .slice (some ⟨b, 0, none⟩) m m) :: E) F (Pt b obj :: R)) (hw : wantL ops E ⟨some d, op, ty0, pos, aft, gd⟩ = some true := by rfl) (hn : Nat.blt d n = true := by rfl)
    (ha : allocOf tab (look E) op = some (obj, fun b => .slice (some ⟨b, 0, none⟩) m m) := by rfl) : Wl n C ops.toArray k Q (⟨some d, op, ty0, pos, aft, gd⟩ :: l) E F R :=
  wl_op (fun t ht => by cases ht; exact Nat.le_of_ble_eq_true hn) (fun c hc => by rw [show op = _ from hc] at ha; cases ha) hw fun a w hag hsat => by
    have hr := allocOf_ok tab_ok hag (o := ⟨some d, op, ty0, pos, aft, gd⟩) ha w
    unfold OpRes
    rw [hr]
    exact fun a' ha' => nx _ a' _ ha' (hsat.alloc obj)

/-- A value of one cell. -/
def one1 : Value → Bool
  | .agg _ => false
  | .tuple _ => false
  | _ => true

/-- The cells behind a store. -/
def stv (t : Nat) (cs : List Value) (off : Nat) (v : Value) : Option (List Value) :=
  match lookT tab t, vcells v with
  | some r, some vs => bif Nat.beq vs.length r.size && vs.all one1 then putF cs off vs some else none
  | _, _ => none

theorem run_storeCells {P : Program} {b : Nat} {ty : TypeId} (off : Nat) : ∀ (vs : List Value) (i : Nat) (w : World) (cs : List Value), w.heap[b]? = some (.cells cs.toArray ty (0, 0)) → vs.all one1 = true → off + i + vs.length ≤ cs.length →
    ∃ w', (storeCells ⟨b, off, none⟩ vs i).run P w = .ok () w' ∧ w'.heap[b]? = some (.cells (cs.take (off + i) ++ vs ++ cs.drop (off + i + vs.length)).toArray ty (0, 0)) ∧ Same w w' ∧ ∀ c, c ≠ b → w'.heap[c]? = w.heap[c]?
  | [], i, w, cs, h, _, _ => ⟨w, rfl, by simpa using h, Same.refl _, fun _ _ => rfl⟩
  | v :: vs, i, w, cs, h, hv, hle => by
    simp only [List.all_cons, Bool.and_eq_true] at hv
    simp only [List.length_cons] at hle
    have h0 : (Addr.add ⟨b, off, none⟩ i) = ⟨b, off + i, none⟩ := by
      unfold Addr.add
      split
      · rename_i h0; subst h0; rfl
      · rfl
    have hcell : w.cell? ⟨b, off + i, none⟩ = some (cs[off + i]'(by omega)) := by
      unfold World.cell?
      rw [h]; simp
    have hfz : w.frozen? ⟨b, off + i, none⟩ = false := by unfold World.frozen?; rw [h]; simp
    have hst : (store (Addr.add ⟨b, off, none⟩ i) v).run P w = .ok () (w.setCell ⟨b, off + i, none⟩ v) := by
      rw [h0]
      unfold store
      cases v <;> first | (simp [one1] at hv; done) | (simp only [Sem.run, hcell, hfz]; rfl)
    have hb' : (w.setCell ⟨b, off + i, none⟩ v).heap[b]? = some (.cells (cs.set (off + i) v).toArray ty (0, 0)) := by
      simp only [World.setCell, Array.getElem?_modify, if_true, h]
      simp
    have hne : ∀ c, c ≠ b → (w.setCell ⟨b, off + i, none⟩ v).heap[c]? = w.heap[c]? := fun c hc => Below.heap_setCell w _ v c hc
    obtain ⟨w', h1, h2, h3, h4⟩ := run_storeCells (P := P) off vs (i + 1) _ (cs.set (off + i) v) hb' hv.2 (by simp; omega)
    refine ⟨w', ?_, ?_, (⟨rfl, rfl, rfl, by simp [World.setCell]⟩ : Same w (w.setCell _ v)).trans h3, fun c hc => (h4 c hc).trans (hne c hc)⟩
    · unfold storeCells
      simp only [Sem.run_bind, hst, Result.andThen]
      exact h1
    · rw [h2]
      congr 3
      have e1 : (cs.set (off + i) v).take (off + (i + 1)) = cs.take (off + i) ++ [v] := by
        rw [show off + (i + 1) = off + i + 1 by omega, List.take_succ_eq_append_getElem (by simp; omega)]
        simp [List.take_set_of_le]
      have e2 : (cs.set (off + i) v).drop (off + (i + 1) + vs.length) = cs.drop (off + i + (v :: vs).length) := by
        rw [List.drop_set_of_lt (by omega)]
        congr 1; simp; omega
      rw [e1, e2]
      simp

theorem stv_ok {w : World} {cs' : List Value} (h : w.heap[b]? = some (.cells cs ty (0, 0))) (hv : stv t cs.toList off v = some cs') :
    ∃ w', (storeVar t ⟨b, off, none⟩ v).run Tryz.prog w = .ok () w' ∧ w'.heap[b]? = some (.cells cs'.toArray ty (0, 0)) ∧ Same w w' ∧ ∀ c, c ≠ b → w'.heap[c]? = w.heap[c]? := by
  unfold stv at hv
  split at hv
  · rename_i r vs hr hvs
    cases hc : (Nat.beq vs.length r.size && vs.all one1) with
    | false => simp [hc] at hv
    | true =>
      simp only [hc, cond_true] at hv
      rw [Bool.and_eq_true] at hc
      have hlen := Nat.eq_of_beq_eq_true hc.1
      obtain ⟨h1, h2⟩ := putF_eq _ _ _ _ _ hv
      have hcl := vcells_eq hvs
      have hsz := tab_ok.sizeOf hr w
      have hle : vs ≠ [] → off + 0 + vs.length ≤ cs.toList.length := fun hne => by simpa using h1 hne
      have hst : ∃ w', (storeCells ⟨b, off, none⟩ vs 0).run Tryz.prog w = .ok () w' ∧ w'.heap[b]? = some (.cells cs'.toArray ty (0, 0)) ∧ Same w w' ∧ ∀ c, c ≠ b → w'.heap[c]? = w.heap[c]? := by
        by_cases hne : vs = []
        · subst hne
          refine ⟨w, rfl, ?_, Same.refl _, fun _ _ => rfl⟩
          simp at h2; subst h2; simpa using h
        · obtain ⟨w', g1, g2, g3, g4⟩ := run_storeCells (P := Tryz.prog) off vs 0 w cs.toList (by simpa using h) hc.2 (hle hne)
          refine ⟨w', g1, ?_, g3, g4⟩
          rw [g2]
          simp at h2; simp [h2]
      obtain ⟨w', g1, g2⟩ := hst
      refine ⟨w', ?_, g2⟩
      unfold storeVar
      simp only [Sem.run_bind, hsz, Result.andThen, hcl]
      rw [if_neg (by simp [hlen])]
      exact g1
  · cases hv

/-- A store into an owned block. -/
theorem l_st {cs' : List Value} (nx : Wl n C ops.toArray k Q l E F (Pt b (.cells cs'.toArray ty (0, 0)) :: R0)) (hw : wantL ops E ⟨none, .store t x y, ty0, pos, aft, gd⟩ = some true := by rfl)
    (hx : ev E x = some (.pointer (some ⟨b, off, none⟩)) := by rfl) (hy : ev E y = some v := by rfl) (hs : Sel (Pt b (.cells cs ty (0, 0))) R R0 := by (repeat (first | exact Sel.here | apply Sel.there)); first | done | fail) (hv : stv t cs.toList off v = some cs' := by rfl) :
    Wl n C ops.toArray k Q (⟨none, .store t x y, ty0, pos, aft, gd⟩ :: l) E F R :=
  wl_op (fun t ht => by cases ht) (fun c hc => by cases hc) hw fun a w ha hsat => by
    obtain ⟨w', g1, g2, g3, g4⟩ := stv_ok (hsat.pt hs) hv
    unfold OpRes
    simp only [execOp, Instr.storeAt, ha.ev (x := x) (by rw [evf_look]; exact hx), ha.ev (x := y) (by rw [evf_look]; exact hy), Instr.sureAddr, Sem.run_bind, Sem.run_pure, Result.andThen, g1]
    exact fun a' ha' => nx a' w' ha' ((hsat.sel hs).write g3 g2 fun c hc _ => g4 c hc)

/-- The function f has a body that a call enters. -/
abbrev Enters (f : FuncId) : Prop := ∀ args w, (callFunc f args).run Tryz.prog w = .ok (.enter f args) w

theorem run_call {f : FuncId} (hf : Enters f) {args : Array Operand} {tys : Array TypeId} {vs : List Value} (hargs : evs (ev E) args.toList some = some vs) {a : Act} {ds : List Deferred} (ha : Agree n ds (look E) a) (w : World) (dst : Option Tmp) :
    (execOp a.eval ⟨dst, .call ⟨.value (.func f), args, tys⟩, ty0, pos, aft, gd⟩).run Tryz.prog w = .ok (.enter f vs.toArray) w := by
  obtain ⟨us, _, h2, h3⟩ := evs_eq _ _ _ hargs
  obtain rfl := Option.some.inj h2
  have e1 := h3 a.eval fun x _ u hu => ha.ev (by rw [evf_look]; exact hu)
  have e3 : args.map a.eval = us.toArray := by rw [← Array.toList_inj]; simpa using e1
  simp only [execOp, resolve, Deferred.ofValue, Act.eval, Sem.run_bind, Sem.run_pure, Result.andThen, invoke]
  have e4 : (args.map fun x => a.eval x) = us.toArray := e3
  simp only [Act.eval] at e4
  rw [show (#[] : Array Value) ++ Array.map _ args ++ #[] = us.toArray by rw [← e3]; simp]
  exact hf _ w

/-- A call of a function. -/
theorem l_call {f : FuncId} {args : Array Operand} {tys : Array TypeId} {vs : List Value} {post : Post} (spec : Enters f ∧ Spec Tryz.prog f vs.toArray F1 A post)
    (nx : ∀ x, post.pure x → Wl n C ops.toArray k Q l ((d, post.val x) :: E) (post.F x ++ F) (post.R x ++ R')) (hw : wantL ops E ⟨some d, .call ⟨.value (.func f), args, tys⟩, ty0, pos, aft, gd⟩ = some true := by rfl) (hn : Nat.blt d n = true := by rfl)
    (hargs : evs (ev E) args.toList some = some vs := by rfl) (sel : Sels A R R' := by (repeat (first | exact Sels.nil | exact Sel.here | apply Sel.there | apply Sels.cons)); first | done | fail)
    (hF : EntF F F1 := by (repeat (first | exact trivial | exact Sel.here | apply Sel.there | apply EntF.cons)); first | done | fail) :
    Wl n C ops.toArray k Q (⟨some d, .call ⟨.value (.func f), args, tys⟩, ty0, pos, aft, gd⟩ :: l) E F R :=
  wl_op (fun t ht => by cases ht; exact Nat.le_of_ble_eq_true hn) (fun c hc => by cases hc) hw fun a w ha hsat => by
    unfold OpRes
    rw [run_call spec.1 hargs ha w]
    refine sat_call spec.2 hsat sel hF.all fun x w' hx hs' => ?_
    exact fun a' ha' => nx x hx a' w' ha' hs'

/-- A call that hands nothing back, as a statement. -/
theorem l_call0 {f : FuncId} {args : Array Operand} {tys : Array TypeId} {vs : List Value} {post : Post} (spec : Enters f ∧ Spec Tryz.prog f vs.toArray F1 A post)
    (nx : ∀ x, post.pure x → Wl n C ops.toArray k Q l E (post.F x ++ F) (post.R x ++ R')) (hw : wantL ops E ⟨none, .call ⟨.value (.func f), args, tys⟩, ty0, pos, aft, gd⟩ = some true := by rfl)
    (hargs : evs (ev E) args.toList some = some vs := by rfl) (sel : Sels A R R' := by (repeat (first | exact Sels.nil | exact Sel.here | apply Sel.there | apply Sels.cons)); first | done | fail)
    (hF : EntF F F1 := by (repeat (first | exact trivial | exact Sel.here | apply Sel.there | apply EntF.cons)); first | done | fail) :
    Wl n C ops.toArray k Q (⟨none, .call ⟨.value (.func f), args, tys⟩, ty0, pos, aft, gd⟩ :: l) E F R :=
  wl_op (fun t ht => by cases ht) (fun c hc => by cases hc) hw fun a w ha hsat => by
    unfold OpRes
    rw [run_call spec.1 hargs ha w]
    refine sat_call spec.2 hsat sel hF.all fun x w' hx hs' => ?_
    exact fun a' ha' => nx x hx a' w' ha' hs'

/-! ### The function's beginning and end -/

/-- The slots of the arguments. -/
def argsE : Nat → List Value → List (Nat × Value)
  | _, [] => []
  | i, v :: vs => (i, v) :: argsE (i + 1) vs

theorem argsE_look : ∀ (vs : List Value) (i t : Nat) (v : Value), look (argsE i vs) t = some v → i ≤ t ∧ vs[t - i]? = some v
  | [], _, _, _, h => by cases h
  | u :: vs, i, t, v, h => by
    unfold argsE look at h
    split at h
    · rename_i hb
      obtain rfl := Nat.eq_of_beq_eq_true hb
      exact ⟨Nat.le_refl _, by simpa using h⟩
    · obtain ⟨h1, h2⟩ := argsE_look vs (i + 1) t v h
      refine ⟨by omega, ?_⟩
      rw [show t - i = (t - (i + 1)) + 1 by omega]
      simpa using h2

theorem spec_of {f : FuncId} {fn : Func} {c : Code} {vs : List Value} {post : Post} {nt : Nat} (hf : Tryz.prog.funcs[f]? = some fn) (hb : fn.body = some c) (hnt : fn.ntmps = nt) (hle : Nat.ble vs.length nt = true)
    (t : ∀ G w hp, Wk nt ⟨none, G, w, hp, []⟩ [.c c] (bodyPost Tryz.prog fn (post.holds G w hp)) (argsE 0 vs) F R) : Spec Tryz.prog f vs.toArray F R post := by
  intro G w hp hsat
  refine (callsIn_wide (n := 0)).1 (callsIn_of_wp hf hb trivial ?_)
  refine t G w hp _ w ⟨?_, rfl, fun i v hv => ?_⟩ hsat
  · have := Nat.le_of_ble_eq_true hle
    simp [hnt]; omega
  · obtain ⟨_, h2⟩ := argsE_look vs 0 i v hv
    simp only [Nat.sub_zero] at h2
    have hlt : i < vs.length := (List.getElem?_eq_some_iff.1 h2).1
    simp only
    rw [Array.getElem?_append_left (by simpa using hlt)]
    simpa using h2

/-- The results: each lies in a slot, or in an owned block. -/
inductive ResOK (E : List (Nat × Value)) (R : List HP) : List ResultVar → List Value → Prop
  | nil : ResOK E R [] []
  | tmp {t : Nat} {v : Value} {rs : List ResultVar} {vs : List Value} (h : look E t = some v) (n : ResOK E R rs vs) : ResOK E R (.tmp t :: rs) (v :: vs)
  | cell {a t : Nat} {v : Value} {rs : List ResultVar} {vs : List Value} {b off : Nat} {cs : Array Value} {ty : TypeId} {fzn : Nat × Nat} {R0 : List HP} (h : look E a = some (.pointer (some ⟨b, off, none⟩))) (s : Sel (Pt b (.cells cs ty fzn)) R R0) (hv : ldv t cs.toList off = some v)
      (n : ResOK E R rs vs) : ResOK E R (.cell a t :: rs) (v :: vs)

def resV : List Value → Value
  | [v] => v
  | vs => .tuple vs.toArray

theorem resOK_ok {C : Cx} {a : Act} {w : World} (ha : Agree n C.ds (look E) a) (hs : Sat C.G C.w0 C.hp0 F R w) {rs : List ResultVar} {vs : List Value} (h : ResOK E R rs vs) :
    (rs.mapM (fun | .tmp t => pure (a.tmps.getD t undef) | .cell a' t => do loadVar t (← asAddr (a.tmps.getD a' undef))) : Sem (List Value)).run Tryz.prog w = .ok vs w := by
  induction h with
  | nil => rfl
  | @tmp t v rs vs h n ih =>
    have := ha.slots t v h
    simp only [List.mapM_cons, Sem.run_bind, Sem.run_pure, Result.andThen, ih]
    simp [this]
  | @cell a' t v rs vs b off cs ty fzn R0 h s hv n ih =>
    have h1 := ha.slots a' _ h
    have h2 := ldv_ok (hs.pt s) hv
    have h3 : a.tmps.getD a' undef = .pointer (some ⟨b, off, none⟩) := by simp [h1]
    have h4 : (do loadVar t (← asAddr (a.tmps.getD a' undef)) : Sem Value).run Tryz.prog w = .ok v w := by
      rw [h3]; simp only [Sem.run_bind, asAddr, Sem.run_pure, Result.andThen, h2]
    simp only [List.mapM_cons]
    rw [Sem.run_bind]
    change Result.andThen (Sem.run Tryz.prog (do loadVar t (← asAddr (a.tmps.getD a' undef)) : Sem Value) w) _ = _
    rw [h4]
    simp only [Result.andThen]
    rw [Sem.run_bind, ih]
    rfl

theorem results_ok {C : Cx} {fn : Func} {a : Act} {w : World} {vs : List Value} (ha : Agree n C.ds (look E) a) (hs : Sat C.G C.w0 C.hp0 F R w) (hr : ResOK E R fn.results.toList vs) : (results fn a.tmps).run Tryz.prog w = .ok (resV vs) w := by
  have h2 := resOK_ok ha hs hr
  unfold results
  have h3 : (fn.results.mapM (fun | .tmp t => pure (a.tmps.getD t undef) | .cell a' t => do loadVar t (← asAddr (a.tmps.getD a' undef))) : Sem (Array Value)).run Tryz.prog w = .ok vs.toArray w := by
    rw [← Array.toArray_toList (xs := fn.results), List.mapM_toArray]
    show Sem.run _ (Sem.bind _ _) w = _
    rw [Sem.run_bind', h2]; rfl
  rw [Sem.run_bind]
  change Result.andThen (Sem.run Tryz.prog (fn.results.mapM (fun | .tmp t => pure (a.tmps.getD t undef) | .cell a' t => do loadVar t (← asAddr (a.tmps.getD a' undef)))) w) _ = _
  rw [h3]
  simp only [Result.andThen, Sem.run_pure]
  congr 1
  match vs with
  | [] => simp [resV]
  | [x] => simp [resV]
  | x :: y :: l => simp [resV]

def noR : List Fr → Bool
  | [] => true
  | .c _ :: k => noR k
  | .b _ :: k => noR k
  | .r _ :: _ => false
theorem after_ret {r : Option Nat} {a : Act} {w : World} : ∀ {k : List Fr}, noR k = true → after r k Q .ret a w = Q .ret a w
  | [], _ => rfl
  | .c _ :: k, h => after_ret (k := k) h
  | .b _ :: k, h => after_ret (k := k) h

/-- A return is reached. -/
def Wret (n : Nat) (C : Cx) (Q : Exit → Act → World → Prop) (E : List (Nat × Value)) (F : List Pf) (R : List HP) : Prop :=
  ∀ a w, Agree n C.ds (look E) a → Sat C.G C.w0 C.hp0 F R w → Q .ret a w

theorem k_rt (t : Wret n C Q E F R) (h : nf 1000 k = .c .ret :: k' := by rfl) (hn : noR k' = true := by rfl) : Wk n C k Q E F R := fun a w ha hs => nf_ok 1000 k (by
  rw [h]
  refine wpIn_ret ?_
  rw [after_ret hn]
  exact t a w ha hs)
theorem w_lq {X : Type} {iE : X → List (Nat × Value)} {iF : X → List Pf} {iR : X → List HP} {μ : X → Nat} {x : X} (t : Wret n C Q E F R) (hn : noR k' = true := by rfl) : Wret n C (LQ n C k' Q iE iF iR μ x) E F R := fun a w ha hs => by
  show after C.r k' Q .ret a w
  rw [after_ret hn]
  exact t a w ha hs

theorem w_ret {fn : Func} {post : Post} {G : H} {w0 : World} {hp0 : H} {r : Option Nat} (xx : post.X) {vs : List Value} (hv : resV vs = post.val xx) (hp : post.pure xx)
    (hr : ResOK E R fn.results.toList vs := by (repeat (first | exact ResOK.nil | exact Sel.here | apply Sel.there | exact rfl | apply ResOK.tmp | apply ResOK.cell)); first | done | fail)
    (hF : EntF F (post.F xx) := by (repeat (first | exact trivial | exact Sel.here | apply Sel.there | apply EntF.cons)); first | done | fail)
    (hR : Sels (post.R xx) R R0 := by (repeat (first | exact Sels.nil | exact Sel.here | apply Sel.there | apply Sels.cons)); first | done | fail) :
    Wret n ⟨r, G, w0, hp0, []⟩ (bodyPost Tryz.prog fn (post.holds G w0 hp0)) E F R := fun a w ha hs => by
    have h2 := resOK_ok ha hs hr
    refine ⟨ha.defers, resV vs, ?_, xx, by rw [hv], hp, ((hs.sels hR).facts (F' := post.F xx) hF.all).res fun _ h => sep_left h⟩
    unfold results
    have h3 : (fn.results.mapM (fun | .tmp t => pure (a.tmps.getD t undef) | .cell a' t => do loadVar t (← asAddr (a.tmps.getD a' undef))) : Sem (Array Value)).run Tryz.prog w = .ok vs.toArray w := by
      rw [← Array.toArray_toList (xs := fn.results), List.mapM_toArray]
      show Sem.run _ (Sem.bind _ _) w = _
      rw [Sem.run_bind', h2]; rfl
    rw [Sem.run_bind]
    change Result.andThen (Sem.run Tryz.prog (fn.results.mapM (fun | .tmp t => pure (a.tmps.getD t undef) | .cell a' t => do loadVar t (← asAddr (a.tmps.getD a' undef)))) w) _ = _
    rw [h3]
    simp only [Result.andThen, Sem.run_pure]
    congr 1
    match vs with
    | [] => simp [resV]
    | [x] => simp [resV]
    | x :: y :: l => simp [resV]

theorem k_ret {fn : Func} {post : Post} {G : H} {w0 : World} {hp0 : H} {r : Option Nat} (xx : post.X) {vs : List Value} (hv : resV vs = post.val xx) (hp : post.pure xx)
    (hr : ResOK E R fn.results.toList vs := by (repeat (first | exact ResOK.nil | exact Sel.here | apply Sel.there | exact rfl | apply ResOK.tmp | apply ResOK.cell)); first | done | fail)
    (hF : EntF F (post.F xx) := by (repeat (first | exact trivial | exact Sel.here | apply Sel.there | apply EntF.cons)); first | done | fail)
    (hR : Sels (post.R xx) R R0 := by (repeat (first | exact Sels.nil | exact Sel.here | apply Sel.there | apply Sels.cons)); first | done | fail)
    (h : nf 1000 k = .c .ret :: k' := by rfl) (hn : noR k' = true := by rfl) : Wk n ⟨r, G, w0, hp0, []⟩ k (bodyPost Tryz.prog fn (post.holds G w0 hp0)) E F R := k_rt (w_ret xx hv hp hr hF hR) h hn

/-- The end of a function that hands nothing back. -/
theorem after_end {r : Option Nat} {a : Act} {w : World} : after r [] Q .normal a w = Q .normal a w := rfl
theorem k_end {fn : Func} {post : Post} {G : H} {w0 : World} {hp0 : H} {r : Option Nat} (xx : post.X) (hv : .tuple #[] = post.val xx) (hp : post.pure xx) (hres : fn.results = #[] := by rfl)
    (hF : EntF F (post.F xx) := by (repeat (first | exact trivial | exact Sel.here | apply Sel.there | apply EntF.cons)); first | done | fail)
    (hR : Sels (post.R xx) R R0 := by (repeat (first | exact Sels.nil | exact Sel.here | apply Sel.there | apply Sels.cons)); first | done | fail)
    (h : nf 1000 k = [] := by rfl) : Wk n ⟨r, G, w0, hp0, []⟩ k (bodyPost Tryz.prog fn (post.holds G w0 hp0)) E F R := fun a w ha hs => nf_ok 1000 k (by
    rw [h]
    refine ⟨ha.defers, .tuple #[], ?_, xx, by rw [hv], hp, ((hs.sels hR).facts (F' := post.F xx) hF.all).res fun _ h => sep_left h⟩
    exact results_none hres a.tmps _ w)
end Go.Proofs.YtijaglinajfplaaGreatDoor
