/-
  The walk over the program's code: rules, one for each form of code and operation.
  Conditions: none beyond those that each theorem states.
-/
import Derived.Test.YtijaglinajfplaaGreatDoorTab
import Derived.TacticsIn
import Derived.Sort.LoopGhostIn
namespace Go.Proofs.YtijaglinajfplaaGreatDoor
open Go.RowKit

structure Cx where
  r : Option Nat
  G : H
  w0 : World
  hp0 : H
  ds : List Deferred

/-- What is still to be done: code, the ends of blocks. -/
inductive Fr where
  | c (c : Code)
  | b (id : Nat)
  | r (l : Nat)

def after (r : Option Nat) : List Fr → (Exit → Act → World → Prop) → Exit → Act → World → Prop
  | [], Q, e, a, w => Q e a w
  | .c c :: k, Q, e, a, w => match e with
    | .normal => c.wpIn (fz r) 0 Tryz.prog (after r k Q) a w
    | e => after r k Q e a w
  | .b id :: k, Q, e, a, w => match e with
    | .exit id' => if id' = id then after r k Q .normal a w else after r k Q (.exit id') a w
    | e => after r k Q e a w
  | .r l :: k, Q, e, a, w => match e with
    | .normal => ∃ w', (Instr.beginRound l).run Tryz.prog w = .ok () w' ∧ after r k Q .normal a w'
    | _ => False

def pop (id : Nat) : List Fr → Option (List Fr)
  | [] => none
  | .c _ :: k => pop id k
  | .r _ :: _ => none
  | .b j :: k => match Nat.beq id j with
    | true => some k
    | false => pop id k

theorem pop_ok {r : Option Nat} {Q : Exit → Act → World → Prop} {id : Nat} {a : Act} {w : World} : ∀ {k k' : List Fr}, pop id k = some k' → after r k' Q .normal a w → after r k Q (.exit id) a w
  | [], _, h, _ => by cases h
  | .c _ :: k, k', h, h' => pop_ok (k := k) h h'
  | .r _ :: _, _, h, _ => by cases h
  | .b j :: k, k', h, h' => by
    unfold pop at h
    split at h
    · rename_i hb
      obtain rfl := Nat.eq_of_beq_eq_true hb
      obtain rfl := Option.some.inj h
      simp only [after, if_true]
      exact h'
    · rename_i hb
      have hne : id ≠ j := Nat.ne_of_beq_eq_false hb
      simp only [after, if_neg hne]
      exact pop_ok h h'

/-- The next form of code that does something. -/
def nf : Nat → List Fr → List Fr
  | 0, k => k
  | m + 1, k => match k with
    | .c (.seq x y) :: k => nf m (.c x :: .c y :: k)
    | .c (.block id x) :: k => nf m (.c x :: .b id :: k)
    | .c .skip :: k => nf m k
    | .b _ :: k => nf m k
    | .c (.exit id) :: k => match pop id k with
      | some k' => nf m k'
      | none => .c (.exit id) :: k
    | k => k

theorem then_after {r : Option Nat} {c : Code} {k : List Fr} {Q : Exit → Act → World → Prop} : Exit.then (c.wpIn (fz r) 0 Tryz.prog (after r k Q)) (after r k Q) = after r (.c c :: k) Q := by
  funext e a w; cases e <;> rfl
theorem block_after {r : Option Nat} {id : Nat} {k : List Fr} {Q : Exit → Act → World → Prop} : Exit.inBlock id (after r k Q) = after r (.b id :: k) Q := by
  funext e a w; cases e <;> rfl

theorem nf_ok {r : Option Nat} {Q : Exit → Act → World → Prop} {a : Act} {w : World} : ∀ (m : Nat) (k : List Fr), after r (nf m k) Q .normal a w → after r k Q .normal a w
  | 0, _, h => h
  | m + 1, k, h => by
    unfold nf at h
    split at h
    · refine wpIn_seq ?_
      rw [then_after]
      exact nf_ok m _ h
    · refine wpIn_block ?_
      rw [block_after]
      exact nf_ok m _ h
    · exact wpIn_skip (nf_ok m _ h)
    · rename_i kk
      exact (show after r kk Q .normal a w from nf_ok m kk h)
    · split at h
      · rename_i k' hk
        exact wpIn_exit (pop_ok hk (nf_ok m _ h))
      · exact h
    · exact h

variable {n : Nat} {C : Cx} {Q : Exit → Act → World → Prop} {E E' : List (Nat × Value)} {F F' : List Pf} {R R' : List HP} {k k' : List Fr}

/-- The walk's goal: the code k, where the slots E are known, F holds, R is owned. -/
def Wk (n : Nat) (C : Cx) (k : List Fr) (Q : Exit → Act → World → Prop) (E : List (Nat × Value)) (F : List Pf) (R : List HP) : Prop :=
  ∀ a w, Agree n C.ds (look E) a → Sat C.G C.w0 C.hp0 F R w → after C.r k Q .normal a w

def Wl (n : Nat) (C : Cx) (ops : Array Oper) (k : List Fr) (Q : Exit → Act → World → Prop) (l : List Oper) (E : List (Nat × Value)) (F : List Pf) (R : List HP) : Prop :=
  ∀ a w, Agree n C.ds (look E) a → Sat C.G C.w0 C.hp0 F R w → wpListIn (fz C.r) 0 Tryz.prog ops (after C.r k Q) l a w

theorem look_cons (d : Nat) (v : Value) (E : List (Nat × Value)) : look ((d, v) :: E) = upd (look E) (some d) v := rfl
theorem evf_look (E : List (Nat × Value)) : evf (look E) = ev E := by funext x; cases x <;> rfl

theorem k_reg {id : Nat} {l : List Oper} (t : Wl n C l.toArray k' Q l E F R) (h : nf 1000 k = .c (.region id l.toArray false) :: k' := by rfl) : Wk n C k Q E F R :=
  fun a w ha hs => nf_ok 1000 k (by rw [h]; exact wpIn_region_lit (t a w ha hs))

theorem k_cond {c : Operand} {x y : Code} {b : Bool} (ht : b = true → Wk n C (.c x :: k') Q E F R) (hf : b = false → Wk n C (.c y :: k') Q E F R) (h : nf 1000 k = .c (.cond c x y) :: k' := by rfl) (hc : ev E c = some (.bool b) := by rfl) : Wk n C k Q E F R :=
  fun a w ha hs => nf_ok 1000 k (by
    rw [h]
    exact wpIn_cond_split (ha.ev (by rw [evf_look]; exact hc)) (fun e => ht e a w ha hs) (fun e => hf e a w ha hs))

theorem k_condT {c : Operand} {x y : Code} (ht : Wk n C (.c x :: k') Q E F R) (h : nf 1000 k = .c (.cond c x y) :: k' := by rfl) (hc : ev E c = some (.bool true) := by rfl) : Wk n C k Q E F R :=
  k_cond (fun _ => ht) (fun e => by cases e) h hc
theorem k_condF {c : Operand} {x y : Code} (hf : Wk n C (.c y :: k') Q E F R) (h : nf 1000 k = .c (.cond c x y) :: k' := by rfl) (hc : ev E c = some (.bool false) := by rfl) : Wk n C k Q E F R :=
  k_cond (fun e => by cases e) (fun _ => hf) h hc

/-- The slots of E' are among those of E. -/
def EntE (E : List (Nat × Value)) : List (Nat × Value) → Prop
  | [] => True
  | (t, v) :: E' => look E t = some v ∧ EntE E E'
def EntF (F : List Pf) : List Pf → Prop
  | [] => True
  | f :: F' => (∃ F0, Sel f F F0) ∧ EntF F F'

theorem EntF.cons {F F' F0 : List Pf} {f : Pf} (s : Sel f F F0) (h : EntF F F') : EntF F (f :: F') := ⟨⟨F0, s⟩, h⟩
theorem EntE.look : ∀ {E E' : List (Nat × Value)}, EntE E E' → ∀ t v, look E' t = some v → look E t = some v
  | _, [], _, _, _, h => by cases h
  | E, (s, u) :: E', ⟨h1, h2⟩, t, v, h => by
    unfold Go.Proofs.YtijaglinajfplaaGreatDoor.look at h
    split at h
    · rename_i hb
      obtain rfl := Nat.eq_of_beq_eq_true hb
      rw [h1]; exact h
    · exact h2.look t v h
theorem EntF.all : ∀ {F F' : List Pf}, EntF F F' → ∀ hp, (∀ x ∈ F, x.p hp) → ∀ x ∈ F', x.p hp
  | _, [], _, _, _, x, hx => by cases hx
  | F, f :: F', ⟨⟨F0, s⟩, h2⟩, hp, h, x, hx => by
    rcases List.mem_cons.1 hx with rfl | hx
    · exact h _ s.mem
    · exact h2.all hp h x hx

theorem Agree.weaken {n : Nat} {ds : List Deferred} {a : Act} (h : Agree n ds (look E) a) (he : EntE E E') : Agree n ds (look E') a := ⟨h.size, h.defers, fun t v hv => h.slots t v (he.look t v hv)⟩

theorem sep_left : ∀ {A R : List HP} {h : H}, Sep (A ++ R) h → Sep A h
  | [], _, _, _ => trivial
  | _ :: _, _, _, ⟨h1, h2, d, s1, s2, hx, hs⟩ => ⟨h1, h2, d, s1, s2, hx, sep_left hs⟩

/-- What is not needed is forgotten. -/
theorem k_drop {R0 : List HP} (he : EntE E E') (hf : EntF F F') (hr : Sels R' R R0) (t : Wk n C k Q E' F' R') : Wk n C k Q E F R :=
  fun a w ha hs => t a w (ha.weaken he) (((hs.sels hr).facts (F' := F') (hf.all)).res fun _ h => sep_left h)

/-- What must hold where a loop's round is left: the head again with a smaller measure, or what stands behind the loop. -/
def LQ {X : Type} (n : Nat) (C : Cx) (k' : List Fr) (Q : Exit → Act → World → Prop) (iE : X → List (Nat × Value)) (iF : X → List Pf) (iR : X → List HP) (μ : X → Nat) (x : X) (e : Exit) (a : Act) (w : World) : Prop :=
  match e with
  | .normal => ∃ y, μ y < μ x ∧ Agree n C.ds (look (iE y)) a ∧ Sat C.G C.w0 C.hp0 (iF y) (iR y) w
  | e => after C.r k' Q e a w

/-- A loop: what holds at the head of each round, for some x; a measure goes down. -/
theorem k_loop {X : Type} {c : Code} (iE : X → List (Nat × Value)) (iF : X → List Pf) (iR : X → List HP) (μ : X → Nat) (x0 : X) {R0 : List HP} (h : nf 1000 k = .c (.loop c) :: k')
    (he : EntE E (iE x0)) (hf : EntF F (iF x0)) (hr : Sels (iR x0) R R0)
    (t : ∀ x, Wk n C [.c c] (LQ n C k' Q iE iF iR μ x) (iE x) (iF x) (iR x)) : Wk n C k Q E F R := fun a w ha hs => nf_ok 1000 k (by
    rw [h]
    refine wpIn_loop_ghost (fun m a w => ∃ x, μ x = m ∧ Agree n C.ds (look (iE x)) a ∧ Sat C.G C.w0 C.hp0 (iF x) (iR x) w) (μ x0) ⟨x0, rfl, ha.weaken he, ((hs.sels hr).facts (F' := iF x0) hf.all).res fun _ h => sep_left h⟩ ?_
    rintro m a w ⟨x, rfl, ha, hs⟩
    refine wpIn_mono (t x a w ha hs) fun e a' w' he => ?_
    cases e with
    | normal =>
      obtain ⟨y, hy, ha', hs'⟩ := he
      exact ⟨μ y, hy, y, rfl, ha', hs'⟩
    | _ => exact he)

/-! ### Operations -/

def wantL (ops : List Oper) (E : List (Nat × Value)) (o : Oper) : Option Bool :=
  match o.guard with
  | none => some true
  | some (j, want) => match nth ops j with
    | some oj => match oj.dst with
      | some d => match look E d with
        | some (.bool b) => some (b == want)
        | some (.tuple _) => some false
        | _ => none
      | none => none
    | none => none

theorem wantL_ok {ops : List Oper} {o : Oper} {b : Bool} (h : wantL ops E o = some b) : wantF ops.toArray (look E) o = some b := by
  unfold wantL at h
  unfold wantF
  cases hg : o.guard with
  | none => simpa [hg] using h
  | some g =>
    obtain ⟨j, want⟩ := g
    simp only [hg] at h ⊢
    split at h
    · rename_i oj hj
      rw [nth_eq] at hj
      split at h
      · rename_i d hd
        simp only [List.getElem?_toArray, hj, Option.bind_some, hd]
        exact h
      · cases h
    · cases h

/-- One operation that only reckons, or that is passed over. -/
def qstep (n : Nat) (ops : List Oper) (E : List (Nat × Value)) (o : Oper) : Option (List (Nat × Value)) :=
  match o.dst with
  | none => none
  | some d => match Nat.blt d n, wantL ops E o with
    | true, some false => some ((d, undef) :: E)
    | true, some true => match qv tab (ev E) o.op with
      | some v => some ((d, v) :: E)
      | none => none
    | _, _ => none

/-- Slots, and what is left (or nothing). -/
inductive QR (α : Type) where
  | mk (E : List (Nat × Value)) (l : α)
  | no

/-- The same, for an operation without a guard. -/
def qsu (n : Nat) (ops : List Oper) (E : List (Nat × Value)) (o : Oper) : Option (List (Nat × Value)) :=
  match o.guard with
  | none => qstep n ops E o
  | some _ => none
theorem qsu_ok {n : Nat} {ops : List Oper} {E E' : List (Nat × Value)} {o : Oper} (h : qsu n ops E o = some E') : qstep n ops E o = some E' := by
  unfold qsu at h
  split at h
  · exact h
  · cases h

def qgo (n : Nat) (ops : List Oper) : List Oper → List (Nat × Value) → QR (List Oper)
  | [], E => .mk E []
  | o :: l, E => match qsu n ops E o with
    | some E' => qgo n ops l E'
    | none => .mk E (o :: l)

/-- As many as there are, one at least. -/
def qrun (n : Nat) (ops : List Oper) (l : List Oper) (E : List (Nat × Value)) : QR (List Oper) :=
  match l with
  | [] => .no
  | o :: l => match qsu n ops E o with
    | some E' => qgo n ops l E'
    | none => .no

theorem noDefer_of_qv {T : Tab} {e : Operand → Option Value} {op : Op} {v : Value} (h : qv T e op = some v) (c : Call) : op ≠ .defer c := by
  rintro rfl; cases h

theorem wl_skip {ops : List Oper} {o : Oper} {l : List Oper} {d : Nat} (hd : o.dst = some d) (hn : d < n) (hw : wantL ops E o = some false) (t : Wl n C ops.toArray k Q l ((d, undef) :: E) F R) : Wl n C ops.toArray k Q (o :: l) E F R := by
  intro a w ha hs
  have hw' := wantF_ok ha (wantL_ok hw)
  unfold wpListIn
  rw [if_neg (by rw [hw']; simp)]
  refine ⟨fun _ _ => trivial, ?_⟩
  rw [hd]
  exact t _ w (by rw [look_cons]; exact ha.put (fun t ht => by cases ht; exact hn) undef) hs

/-- An operation, by its result. -/
theorem wl_op {ops : List Oper} {o : Oper} {l : List Oper} (hd : ∀ t, o.dst = some t → t < n) (hdf : ∀ c, o.op ≠ .defer c) (hw : wantL ops E o = some true)
    (t : ∀ a w, Agree n C.ds (look E) a → Sat C.G C.w0 C.hp0 F R w → OpRes Tryz.prog (execOp a.eval o) w fun v w' => ∀ a', Agree n C.ds (upd (look E) o.dst v) a' → wpListIn (fz C.r) 0 Tryz.prog ops.toArray (after C.r k Q) l a' w') : Wl n C ops.toArray k Q (o :: l) E F R := by
  intro a w ha hs
  have hw' := wantF_ok ha (wantL_ok hw)
  unfold wpListIn
  rw [if_pos hw']
  exact wpIn_of_res hdf (t a w ha hs) fun v w' hv => hv _ (ha.put hd v)

theorem qstep_ok {ops : List Oper} {o : Oper} {l : List Oper} (h : qstep n ops E o = some E') (t : Wl n C ops.toArray k Q l E' F R) : Wl n C ops.toArray k Q (o :: l) E F R := by
  unfold qstep at h
  split at h
  · cases h
  · rename_i d hd
    split at h
    · rename_i hn hw
      obtain rfl := Option.some.inj h
      exact wl_skip hd (Nat.le_of_ble_eq_true hn) hw t
    · rename_i hn hw
      split at h
      · rename_i v hv
        obtain rfl := Option.some.inj h
        refine wl_op (fun t ht => by rw [hd] at ht; cases ht; exact Nat.le_of_ble_eq_true hn) (noDefer_of_qv hv) hw fun a w ha hs => ?_
        have hr := qv_ok tab_ok hv (ρ := a.eval) (fun x _ u hu => ha.ev (by rw [evf_look]; exact hu)) w
        unfold OpRes
        rw [hr]
        intro a' ha'
        rw [hd] at ha'
        exact t a' w ha' hs
      · cases h
    · cases h

theorem qgo_ok {ops : List Oper} : ∀ (l : List Oper) (E E' : List (Nat × Value)) (l' : List Oper), qgo n ops l E = .mk E' l' → Wl n C ops.toArray k Q l' E' F R → Wl n C ops.toArray k Q l E F R
  | [], _, _, _, h, t => by injection h with h1 h2; subst h1 h2; exact t
  | o :: l, E, E', l', h, t => by
    unfold qgo at h
    split at h
    · rename_i E1 hE
      exact qstep_ok (qsu_ok hE) (qgo_ok l E1 E' l' h t)
    · injection h with h1 h2; subst h1 h2; exact t

theorem l_run {ops l l' : List Oper} (t : Wl n C ops.toArray k Q l' E' F R) (h : qrun n ops l E = .mk E' l' := by rfl) : Wl n C ops.toArray k Q l E F R := by
  unfold qrun at h
  split at h
  · cases h
  · split at h
    · rename_i E1 hE
      exact qstep_ok (qsu_ok hE) (qgo_ok _ _ _ _ h t)
    · cases h

theorem l_one {ops l : List Oper} {o : Oper} (t : Wl n C ops.toArray k Q l E' F R) (h : qstep n ops E o = some E' := by rfl) : Wl n C ops.toArray k Q (o :: l) E F R := qstep_ok h t

/-- The slot that an operation's guard looks at. -/
def guardOf (ops : List Oper) (o : Oper) : Option Nat :=
  match o.guard with
  | none => none
  | some (j, _) => match nth ops j with
    | some oj => oj.dst
    | none => none

theorem Agree.split {n : Nat} {ds : List Deferred} {a : Act} {d : Nat} {b : Bool} (ha : Agree n ds (look E) a) (hb : look E d = some (.bool b)) : Agree n ds (look ((d, .bool b) :: E)) a :=
  ⟨ha.size, ha.defers, fun t v hv => by
    rw [look_cons] at hv
    by_cases hdt : d = t
    · subst hdt; rw [upd_same] at hv; exact ha.slots d v (by rw [hb]; exact hv)
    · rw [upd_ne _ _ hdt] at hv; exact ha.slots t v hv⟩

/-- Marks what is not known to be true, nor to be false. -/
inductive Opn : Bool → Prop
  | mk (b : Bool) : Opn b
theorem opn_t : Opn true := .mk _
theorem opn_f : Opn false := .mk _

/-- The ways part at a guard. -/
theorem l_split {ops l : List Oper} {o : Oper} {d : Nat} {b : Bool} (ht : b = true → Wl n C ops.toArray k Q (o :: l) ((d, .bool true) :: E) F R) (hf : b = false → Wl n C ops.toArray k Q (o :: l) ((d, .bool false) :: E) F R)
    (_hg : guardOf ops o = some d := by rfl) (hb : look E d = some (.bool b) := by rfl) (_ho : Opn b := by (fail_if_success exact opn_t); (fail_if_success exact opn_f); exact Opn.mk _) : Wl n C ops.toArray k Q (o :: l) E F R := fun a w ha hs => by
  have ha' := ha.split hb
  cases b with
  | true => exact ht rfl a w ha' hs
  | false => exact hf rfl a w ha' hs

theorem l_nil {ops : List Oper} (t : Wk n C k Q E F R) : Wl n C ops.toArray k Q [] E F R := t

/-- The value of a type at an offset among cells. -/
def ldv (t : Nat) (cs : List Value) (off : Nat) : Option Value :=
  match lookT tab t with
  | some ⟨.struct _, n, _, _⟩ => cutF cs off n fun l => some (.agg l.toArray)
  | some ⟨.arr _ _, n, _, _⟩ => cutF cs off n fun l => some (.agg l.toArray)
  | some ⟨.other, _, _, _⟩ => none
  | some _ => nth cs off
  | none => none

theorem run_loadCells {P : Program} {w : World} {b : Nat} {cs : Array Value} {ty : TypeId} {fzn : Nat × Nat} (h : w.heap[b]? = some (.cells cs ty fzn)) (off : Nat) : ∀ (m i : Nat) (acc : Array Value), off + i + m ≤ cs.size →
    (loadCellsFrom ⟨b, off, none⟩ i m acc).run P w = .ok (acc ++ ((cs.toList.drop (off + i)).take m).toArray) w
  | 0, i, acc, _ => by simp [loadCellsFrom]
  | m + 1, i, acc, hle => by
    have hlt : off + i < cs.toList.length := by simp; omega
    have hc : w.cell? (Addr.add ⟨b, off, none⟩ i) = some cs.toList[off + i] := by
      unfold World.cell?
      have h0 : (Addr.add ⟨b, off, none⟩ i) = ⟨b, off + i, none⟩ := by
        unfold Addr.add
        split
        · rename_i h0; subst h0; rfl
        · rfl
      rw [h0, h]
      simp
    unfold loadCellsFrom
    simp only [Sem.run_bind, load, Sem.run, hc, Result.andThen]
    rw [run_loadCells h off m (i + 1) _ (by omega)]
    congr 1
    rw [← Array.toList_inj]
    rw [List.drop_eq_getElem_cons hlt, show off + (i + 1) = off + i + 1 by omega]
    simp

theorem ldv_ok {w : World} {b : Nat} {cs : Array Value} {ty t : TypeId} {fzn : Nat × Nat} {off : Nat} {v : Value} (h : w.heap[b]? = some (.cells cs ty fzn)) (hv : ldv t cs.toList off = some v) : (loadVar t ⟨b, off, none⟩).run Tryz.prog w = .ok v w := by
  unfold ldv at hv
  have hcell : ∀ u, cs[off]? = some u → w.cell? ⟨b, off, none⟩ = some u := fun u hu => by unfold World.cell?; rw [h]; simpa using hu
  have hag : ∀ r : TRow, lookT tab t = some r → r.k.isAgg = true → r.k ≠ .other → cutF cs.toList off r.size (fun l => some (Value.agg l.toArray)) = some v → (loadVar t ⟨b, off, none⟩).run Tryz.prog w = .ok v w := fun r hr ha ho hc => by
    obtain ⟨h2, _, h3⟩ := cutF_eq _ _ _ _ _ hc
    have hia := tab_ok.isAgg hr ho w
    rw [ha] at hia
    have hsz := tab_ok.sizeOf hr w
    unfold loadVar
    simp only [Sem.run_bind, hia, Result.andThen, if_true, hsz, loadCells]
    rw [← Option.some.inj h2]
    by_cases h0 : r.size = 0
    · rw [h0]; simp [loadCellsFrom]
    · have hle := h3 h0
      rw [run_loadCells h off r.size 0 #[] (by simp at hle ⊢; omega)]
      simp
  have hno : ∀ r : TRow, lookT tab t = some r → r.k.isAgg = false → r.k ≠ .other → nth cs.toList off = some v → (loadVar t ⟨b, off, none⟩).run Tryz.prog w = .ok v w := fun r hr ha ho hc => by
    have hia := tab_ok.isAgg hr ho w
    rw [ha] at hia
    rw [nth_eq] at hc
    simp at hc
    unfold loadVar
    simp only [Sem.run_bind, hia, Result.andThen, Bool.false_eq_true, if_false, load, Sem.run, hcell v hc]
  split at hv
  · rename_i hr; exact hag _ hr rfl (by simp) hv
  · rename_i hr; exact hag _ hr rfl (by simp) hv
  · cases hv
  · rename_i r hn1 hn2 hn3 hr
    refine hno _ hr ?_ ?_ hv
    · cases hk2 : r.k <;> simp [TK.isAgg] <;> (obtain ⟨k, s1, b1, z1⟩ := r; simp at hk2; subst hk2; first | exact hn1 _ _ _ _ rfl | exact hn2 _ _ _ _ _ rfl)
    · intro hk2; obtain ⟨k, s1, b1, z1⟩ := r; simp at hk2; subst hk2; exact hn3 _ _ _ rfl
  · cases hv
end Go.Proofs.YtijaglinajfplaaGreatDoor
