/-
  The walk over the program's code: rules, one for each form of code and operation.
  More rules of the walk: memory, calls, returns, regions that draw their order.
  Rules for regions that draw their order.
  A call may read a block that is set aside while the order is drawn.
  Rules for slices: rows that are owned, append, conversions, indexes.
  Rules for loops.
  Rules for slices that stay as they are, for texts, for conversions.
  Rules for parts of slices, for texts and for conversions between bytes and texts.
  Rules for rows of elements that are owned: made, read and written by index; arrays.
  Rules for calls of function values and for the range over a function.
  The range over a function whose order is open.
  A cut behind the first statements of a function: the rest is walked once.
  Conditions: those that each theorem states.
-/
import Derived.Test.YtgaipgbgppdfeaaGreatDoorTab
import Derived.TacticsIn
import Derived.Sort.LoopGhostIn
import Derived.Shelf.Abstract
import Derived.Laws.BytesString
import Derived.Deep.OwnRows
import Derived.RangeFuncIn
import Derived.RangeFuncRecord
import Derived.RangeFuncLeaves
namespace Go.Proofs.YtgaipgbgppdfeaaGreatDoor
open Go.RowKit

structure Cx where
  r : Option Nat
  G : H
  w0 : World
  hp0 : H
  ds : List Deferred

/-- What is still to be done: code, the ends of blocks. -/
inductive Fr where
  | c (c : Code)
  | b (id : Nat)
  | r (l : Nat)

def after (r : Option Nat) : List Fr → (Exit → Act → World → Prop) → Exit → Act → World → Prop
  | [], Q, e, a, w => Q e a w
  | .c c :: k, Q, e, a, w => match e with
    | .normal => c.wpIn (fz r) 0 Tryz.prog (after r k Q) a w
    | e => after r k Q e a w
  | .b id :: k, Q, e, a, w => match e with
    | .exit id' => if id' = id then after r k Q .normal a w else after r k Q (.exit id') a w
    | e => after r k Q e a w
  | .r l :: k, Q, e, a, w => match e with
    | .normal => ∃ w', (Instr.beginRound l).run Tryz.prog w = .ok () w' ∧ after r k Q .normal a w'
    | _ => False

def pop (id : Nat) : List Fr → Option (List Fr)
  | [] => none
  | .c _ :: k => pop id k
  | .r _ :: _ => none
  | .b j :: k => match Nat.beq id j with
    | true => some k
    | false => pop id k

theorem pop_ok {r : Option Nat} {Q : Exit → Act → World → Prop} {id : Nat} {a : Act} {w : World} : ∀ {k k' : List Fr}, pop id k = some k' → after r k' Q .normal a w → after r k Q (.exit id) a w
  | [], _, h, _ => by cases h
  | .c _ :: k, k', h, h' => pop_ok (k := k) h h'
  | .r _ :: _, _, h, _ => by cases h
  | .b j :: k, k', h, h' => by
    unfold pop at h
    split at h
    · rename_i hb
      obtain rfl := Nat.eq_of_beq_eq_true hb
      obtain rfl := Option.some.inj h
      simp only [after, if_true]
      exact h'
    · rename_i hb
      have hne : id ≠ j := Nat.ne_of_beq_eq_false hb
      simp only [after, if_neg hne]
      exact pop_ok h h'

/-- The next form of code that does something. -/
def nf : Nat → List Fr → List Fr
  | 0, k => k
  | m + 1, k => match k with
    | .c (.seq x y) :: k => nf m (.c x :: .c y :: k)
    | .c (.block id x) :: k => nf m (.c x :: .b id :: k)
    | .c .skip :: k => nf m k
    | .b _ :: k => nf m k
    | .c (.exit id) :: k => match pop id k with
      | some k' => nf m k'
      | none => .c (.exit id) :: k
    | k => k

theorem then_after {r : Option Nat} {c : Code} {k : List Fr} {Q : Exit → Act → World → Prop} : Exit.then (c.wpIn (fz r) 0 Tryz.prog (after r k Q)) (after r k Q) = after r (.c c :: k) Q := by
  funext e a w; cases e <;> rfl
theorem block_after {r : Option Nat} {id : Nat} {k : List Fr} {Q : Exit → Act → World → Prop} : Exit.inBlock id (after r k Q) = after r (.b id :: k) Q := by
  funext e a w; cases e <;> rfl

theorem nf_ok {r : Option Nat} {Q : Exit → Act → World → Prop} {a : Act} {w : World} : ∀ (m : Nat) (k : List Fr), after r (nf m k) Q .normal a w → after r k Q .normal a w
  | 0, _, h => h
  | m + 1, k, h => by
    unfold nf at h
    split at h
    · refine wpIn_seq ?_
      rw [then_after]
      exact nf_ok m _ h
    · refine wpIn_block ?_
      rw [block_after]
      exact nf_ok m _ h
    · exact wpIn_skip (nf_ok m _ h)
    · rename_i kk
      exact (show after r kk Q .normal a w from nf_ok m kk h)
    · split at h
      · rename_i k' hk
        exact wpIn_exit (pop_ok hk (nf_ok m _ h))
      · exact h
    · exact h

variable {n : Nat} {C : Cx} {Q : Exit → Act → World → Prop} {E E' : List (Nat × Value)} {F F' : List Pf} {R R' : List HP} {k k' : List Fr}

/-- The walk's goal: the code k, where the slots E are known, F holds, R is owned. -/
def Wk (n : Nat) (C : Cx) (k : List Fr) (Q : Exit → Act → World → Prop) (E : List (Nat × Value)) (F : List Pf) (R : List HP) : Prop :=
  ∀ a w, Agree n C.ds (look E) a → Sat C.G C.w0 C.hp0 F R w → after C.r k Q .normal a w

def Wl (n : Nat) (C : Cx) (ops : Array Oper) (k : List Fr) (Q : Exit → Act → World → Prop) (l : List Oper) (E : List (Nat × Value)) (F : List Pf) (R : List HP) : Prop :=
  ∀ a w, Agree n C.ds (look E) a → Sat C.G C.w0 C.hp0 F R w → wpListIn (fz C.r) 0 Tryz.prog ops (after C.r k Q) l a w

theorem look_cons (d : Nat) (v : Value) (E : List (Nat × Value)) : look ((d, v) :: E) = upd (look E) (some d) v := rfl
theorem evf_look (E : List (Nat × Value)) : evf (look E) = ev E := by funext x; cases x <;> rfl

theorem k_reg {id : Nat} {l : List Oper} (t : Wl n C l.toArray k' Q l E F R) (h : nf 1000 k = .c (.region id l.toArray false) :: k' := by rfl) : Wk n C k Q E F R :=
  fun a w ha hs => nf_ok 1000 k (by rw [h]; exact wpIn_region_lit (t a w ha hs))

theorem k_cond {c : Operand} {x y : Code} {b : Bool} (ht : b = true → Wk n C (.c x :: k') Q E F R) (hf : b = false → Wk n C (.c y :: k') Q E F R) (h : nf 1000 k = .c (.cond c x y) :: k' := by rfl) (hc : ev E c = some (.bool b) := by rfl) : Wk n C k Q E F R :=
  fun a w ha hs => nf_ok 1000 k (by
    rw [h]
    exact wpIn_cond_split (ha.ev (by rw [evf_look]; exact hc)) (fun e => ht e a w ha hs) (fun e => hf e a w ha hs))

theorem k_condT {c : Operand} {x y : Code} (ht : Wk n C (.c x :: k') Q E F R) (h : nf 1000 k = .c (.cond c x y) :: k' := by rfl) (hc : ev E c = some (.bool true) := by rfl) : Wk n C k Q E F R :=
  k_cond (fun _ => ht) (fun e => by cases e) h hc
theorem k_condF {c : Operand} {x y : Code} (hf : Wk n C (.c y :: k') Q E F R) (h : nf 1000 k = .c (.cond c x y) :: k' := by rfl) (hc : ev E c = some (.bool false) := by rfl) : Wk n C k Q E F R :=
  k_cond (fun e => by cases e) (fun _ => hf) h hc

/-- The slots of E' are among those of E. -/
def EntE (E : List (Nat × Value)) : List (Nat × Value) → Prop
  | [] => True
  | (t, v) :: E' => look E t = some v ∧ EntE E E'
def EntF (F : List Pf) : List Pf → Prop
  | [] => True
  | f :: F' => (∃ F0, Sel f F F0) ∧ EntF F F'

theorem EntF.cons {F F' F0 : List Pf} {f : Pf} (s : Sel f F F0) (h : EntF F F') : EntF F (f :: F') := ⟨⟨F0, s⟩, h⟩
theorem EntE.look : ∀ {E E' : List (Nat × Value)}, EntE E E' → ∀ t v, look E' t = some v → look E t = some v
  | _, [], _, _, _, h => by cases h
  | E, (s, u) :: E', ⟨h1, h2⟩, t, v, h => by
    unfold Go.Proofs.YtgaipgbgppdfeaaGreatDoor.look at h
    split at h
    · rename_i hb
      obtain rfl := Nat.eq_of_beq_eq_true hb
      rw [h1]; exact h
    · exact h2.look t v h
theorem EntF.all : ∀ {F F' : List Pf}, EntF F F' → ∀ hp, (∀ x ∈ F, x.p hp) → ∀ x ∈ F', x.p hp
  | _, [], _, _, _, x, hx => by cases hx
  | F, f :: F', ⟨⟨F0, s⟩, h2⟩, hp, h, x, hx => by
    rcases List.mem_cons.1 hx with rfl | hx
    · exact h _ s.mem
    · exact h2.all hp h x hx

theorem Agree.weaken {n : Nat} {ds : List Deferred} {a : Act} (h : Agree n ds (look E) a) (he : EntE E E') : Agree n ds (look E') a := ⟨h.size, h.defers, fun t v hv => h.slots t v (he.look t v hv)⟩

theorem sep_left : ∀ {A R : List HP} {h : H}, Sep (A ++ R) h → Sep A h
  | [], _, _, _ => trivial
  | _ :: _, _, _, ⟨h1, h2, d, s1, s2, hx, hs⟩ => ⟨h1, h2, d, s1, s2, hx, sep_left hs⟩

/-- What is not needed is forgotten. -/
theorem k_drop {R0 : List HP} (he : EntE E E') (hf : EntF F F') (hr : Sels R' R R0) (t : Wk n C k Q E' F' R') : Wk n C k Q E F R :=
  fun a w ha hs => t a w (ha.weaken he) (((hs.sels hr).facts (F' := F') (hf.all)).res fun _ h => sep_left h)

/-- What must hold where a loop's round is left: the head again with a smaller measure, or what stands behind the loop. -/
def LQ {X : Type} (n : Nat) (C : Cx) (k' : List Fr) (Q : Exit → Act → World → Prop) (iE : X → List (Nat × Value)) (iF : X → List Pf) (iR : X → List HP) (μ : X → Nat) (x : X) (e : Exit) (a : Act) (w : World) : Prop :=
  match e with
  | .normal => ∃ y, μ y < μ x ∧ Agree n C.ds (look (iE y)) a ∧ Sat C.G C.w0 C.hp0 (iF y) (iR y) w
  | e => after C.r k' Q e a w

/-- A loop: what holds at the head of each round, for some x; a measure goes down. -/
theorem k_loop {X : Type} {c : Code} (iE : X → List (Nat × Value)) (iF : X → List Pf) (iR : X → List HP) (μ : X → Nat) (x0 : X) {R0 : List HP} (h : nf 1000 k = .c (.loop c) :: k')
    (he : EntE E (iE x0)) (hf : EntF F (iF x0)) (hr : Sels (iR x0) R R0)
    (t : ∀ x, Wk n C [.c c] (LQ n C k' Q iE iF iR μ x) (iE x) (iF x) (iR x)) : Wk n C k Q E F R := fun a w ha hs => nf_ok 1000 k (by
    rw [h]
    refine wpIn_loop_ghost (fun m a w => ∃ x, μ x = m ∧ Agree n C.ds (look (iE x)) a ∧ Sat C.G C.w0 C.hp0 (iF x) (iR x) w) (μ x0) ⟨x0, rfl, ha.weaken he, ((hs.sels hr).facts (F' := iF x0) hf.all).res fun _ h => sep_left h⟩ ?_
    rintro m a w ⟨x, rfl, ha, hs⟩
    refine wpIn_mono (t x a w ha hs) fun e a' w' he => ?_
    cases e with
    | normal =>
      obtain ⟨y, hy, ha', hs'⟩ := he
      exact ⟨μ y, hy, y, rfl, ha', hs'⟩
    | _ => exact he)

/-! ### Operations -/

def wantL (ops : List Oper) (E : List (Nat × Value)) (o : Oper) : Option Bool :=
  match o.guard with
  | none => some true
  | some (j, want) => match nth ops j with
    | some oj => match oj.dst with
      | some d => match look E d with
        | some (.bool b) => some (b == want)
        | some (.tuple _) => some false
        | _ => none
      | none => none
    | none => none

theorem wantL_ok {ops : List Oper} {o : Oper} {b : Bool} (h : wantL ops E o = some b) : wantF ops.toArray (look E) o = some b := by
  unfold wantL at h
  unfold wantF
  cases hg : o.guard with
  | none => simpa [hg] using h
  | some g =>
    obtain ⟨j, want⟩ := g
    simp only [hg] at h ⊢
    split at h
    · rename_i oj hj
      rw [nth_eq] at hj
      split at h
      · rename_i d hd
        simp only [List.getElem?_toArray, hj, Option.bind_some, hd]
        exact h
      · cases h
    · cases h

/-- One operation that only reckons, or that is passed over. -/
def qstep (n : Nat) (ops : List Oper) (E : List (Nat × Value)) (o : Oper) : Option (List (Nat × Value)) :=
  match o.dst with
  | none => none
  | some d => match Nat.blt d n, wantL ops E o with
    | true, some false => some ((d, undef) :: E)
    | true, some true => match qv tab (ev E) o.op with
      | some v => some ((d, v) :: E)
      | none => none
    | _, _ => none

/-- Slots, and what is left (or nothing). -/
inductive QR (α : Type) where
  | mk (E : List (Nat × Value)) (l : α)
  | no

/-- The same, for an operation without a guard. -/
def qsu (n : Nat) (ops : List Oper) (E : List (Nat × Value)) (o : Oper) : Option (List (Nat × Value)) :=
  match o.guard with
  | none => qstep n ops E o
  | some _ => none
theorem qsu_ok {n : Nat} {ops : List Oper} {E E' : List (Nat × Value)} {o : Oper} (h : qsu n ops E o = some E') : qstep n ops E o = some E' := by
  unfold qsu at h
  split at h
  · exact h
  · cases h

def qgo (n : Nat) (ops : List Oper) : List Oper → List (Nat × Value) → QR (List Oper)
  | [], E => .mk E []
  | o :: l, E => match qsu n ops E o with
    | some E' => qgo n ops l E'
    | none => .mk E (o :: l)

/-- As many as there are, one at least. -/
def qrun (n : Nat) (ops : List Oper) (l : List Oper) (E : List (Nat × Value)) : QR (List Oper) :=
  match l with
  | [] => .no
  | o :: l => match qsu n ops E o with
    | some E' => qgo n ops l E'
    | none => .no

theorem noDefer_of_qv {T : Tab} {e : Operand → Option Value} {op : Op} {v : Value} (h : qv T e op = some v) (c : Call) : op ≠ .defer c := by
  rintro rfl; cases h

theorem wl_skip {ops : List Oper} {o : Oper} {l : List Oper} {d : Nat} (hd : o.dst = some d) (hn : d < n) (hw : wantL ops E o = some false) (t : Wl n C ops.toArray k Q l ((d, undef) :: E) F R) : Wl n C ops.toArray k Q (o :: l) E F R := by
  intro a w ha hs
  have hw' := wantF_ok ha (wantL_ok hw)
  unfold wpListIn
  rw [if_neg (by rw [hw']; simp)]
  refine ⟨fun _ _ => trivial, ?_⟩
  rw [hd]
  exact t _ w (by rw [look_cons]; exact ha.put (fun t ht => by cases ht; exact hn) undef) hs

/-- An operation, by its result. -/
theorem wl_op {ops : List Oper} {o : Oper} {l : List Oper} (hd : ∀ t, o.dst = some t → t < n) (hdf : ∀ c, o.op ≠ .defer c) (hw : wantL ops E o = some true)
    (t : ∀ a w, Agree n C.ds (look E) a → Sat C.G C.w0 C.hp0 F R w → OpRes Tryz.prog (execOp a.eval o) w fun v w' => ∀ a', Agree n C.ds (upd (look E) o.dst v) a' → wpListIn (fz C.r) 0 Tryz.prog ops.toArray (after C.r k Q) l a' w') : Wl n C ops.toArray k Q (o :: l) E F R := by
  intro a w ha hs
  have hw' := wantF_ok ha (wantL_ok hw)
  unfold wpListIn
  rw [if_pos hw']
  exact wpIn_of_res hdf (t a w ha hs) fun v w' hv => hv _ (ha.put hd v)

theorem qstep_ok {ops : List Oper} {o : Oper} {l : List Oper} (h : qstep n ops E o = some E') (t : Wl n C ops.toArray k Q l E' F R) : Wl n C ops.toArray k Q (o :: l) E F R := by
  unfold qstep at h
  split at h
  · cases h
  · rename_i d hd
    split at h
    · rename_i hn hw
      obtain rfl := Option.some.inj h
      exact wl_skip hd (Nat.le_of_ble_eq_true hn) hw t
    · rename_i hn hw
      split at h
      · rename_i v hv
        obtain rfl := Option.some.inj h
        refine wl_op (fun t ht => by rw [hd] at ht; cases ht; exact Nat.le_of_ble_eq_true hn) (noDefer_of_qv hv) hw fun a w ha hs => ?_
        have hr := qv_ok tab_ok hv (ρ := a.eval) (fun x _ u hu => ha.ev (by rw [evf_look]; exact hu)) w
        unfold OpRes
        rw [hr]
        intro a' ha'
        rw [hd] at ha'
        exact t a' w ha' hs
      · cases h
    · cases h

theorem qgo_ok {ops : List Oper} : ∀ (l : List Oper) (E E' : List (Nat × Value)) (l' : List Oper), qgo n ops l E = .mk E' l' → Wl n C ops.toArray k Q l' E' F R → Wl n C ops.toArray k Q l E F R
  | [], _, _, _, h, t => by injection h with h1 h2; subst h1 h2; exact t
  | o :: l, E, E', l', h, t => by
    unfold qgo at h
    split at h
    · rename_i E1 hE
      exact qstep_ok (qsu_ok hE) (qgo_ok l E1 E' l' h t)
    · injection h with h1 h2; subst h1 h2; exact t

theorem l_run {ops l l' : List Oper} (t : Wl n C ops.toArray k Q l' E' F R) (h : qrun n ops l E = .mk E' l' := by rfl) : Wl n C ops.toArray k Q l E F R := by
  unfold qrun at h
  split at h
  · cases h
  · split at h
    · rename_i E1 hE
      exact qstep_ok (qsu_ok hE) (qgo_ok _ _ _ _ h t)
    · cases h

theorem l_one {ops l : List Oper} {o : Oper} (t : Wl n C ops.toArray k Q l E' F R) (h : qstep n ops E o = some E' := by rfl) : Wl n C ops.toArray k Q (o :: l) E F R := qstep_ok h t

/-- The slot that an operation's guard looks at. -/
def guardOf (ops : List Oper) (o : Oper) : Option Nat :=
  match o.guard with
  | none => none
  | some (j, _) => match nth ops j with
    | some oj => oj.dst
    | none => none

theorem Agree.split {n : Nat} {ds : List Deferred} {a : Act} {d : Nat} {b : Bool} (ha : Agree n ds (look E) a) (hb : look E d = some (.bool b)) : Agree n ds (look ((d, .bool b) :: E)) a :=
  ⟨ha.size, ha.defers, fun t v hv => by
    rw [look_cons] at hv
    by_cases hdt : d = t
    · subst hdt; rw [upd_same] at hv; exact ha.slots d v (by rw [hb]; exact hv)
    · rw [upd_ne _ _ hdt] at hv; exact ha.slots t v hv⟩

/-- Marks what is not known to be true, nor to be false. -/
inductive Opn : Bool → Prop
  | mk (b : Bool) : Opn b
theorem opn_t : Opn true := .mk _
theorem opn_f : Opn false := .mk _

/-- The ways part at a guard. -/
theorem l_split {ops l : List Oper} {o : Oper} {d : Nat} {b : Bool} (ht : b = true → Wl n C ops.toArray k Q (o :: l) ((d, .bool true) :: E) F R) (hf : b = false → Wl n C ops.toArray k Q (o :: l) ((d, .bool false) :: E) F R)
    (_hg : guardOf ops o = some d := by rfl) (hb : look E d = some (.bool b) := by rfl) (_ho : Opn b := by (fail_if_success exact opn_t); (fail_if_success exact opn_f); exact Opn.mk _) : Wl n C ops.toArray k Q (o :: l) E F R := fun a w ha hs => by
  have ha' := ha.split hb
  cases b with
  | true => exact ht rfl a w ha' hs
  | false => exact hf rfl a w ha' hs

theorem l_nil {ops : List Oper} (t : Wk n C k Q E F R) : Wl n C ops.toArray k Q [] E F R := t

/-- The value of a type at an offset among cells. -/
def ldv (t : Nat) (cs : List Value) (off : Nat) : Option Value :=
  match lookT tab t with
  | some ⟨.struct _, n, _, _⟩ => cutF cs off n fun l => some (.agg l.toArray)
  | some ⟨.arr _ _, n, _, _⟩ => cutF cs off n fun l => some (.agg l.toArray)
  | some ⟨.other, _, _, _⟩ => none
  | some _ => nth cs off
  | none => none

theorem run_loadCells {P : Program} {w : World} {b : Nat} {cs : Array Value} {ty : TypeId} {fzn : Nat × Nat} (h : w.heap[b]? = some (.cells cs ty fzn)) (off : Nat) : ∀ (m i : Nat) (acc : Array Value), off + i + m ≤ cs.size →
    (loadCellsFrom ⟨b, off, none⟩ i m acc).run P w = .ok (acc ++ ((cs.toList.drop (off + i)).take m).toArray) w
  | 0, i, acc, _ => by simp [loadCellsFrom]
  | m + 1, i, acc, hle => by
    have hlt : off + i < cs.toList.length := by simp; omega
    have hc : w.cell? (Addr.add ⟨b, off, none⟩ i) = some cs.toList[off + i] := by
      unfold World.cell?
      have h0 : (Addr.add ⟨b, off, none⟩ i) = ⟨b, off + i, none⟩ := by
        unfold Addr.add
        split
        · rename_i h0; subst h0; rfl
        · rfl
      rw [h0, h]
      simp
    unfold loadCellsFrom
    simp only [Sem.run_bind, load, Sem.run, hc, Result.andThen]
    rw [run_loadCells h off m (i + 1) _ (by omega)]
    congr 1
    rw [← Array.toList_inj]
    rw [List.drop_eq_getElem_cons hlt, show off + (i + 1) = off + i + 1 by omega]
    simp

theorem ldv_ok {w : World} {b : Nat} {cs : Array Value} {ty t : TypeId} {fzn : Nat × Nat} {off : Nat} {v : Value} (h : w.heap[b]? = some (.cells cs ty fzn)) (hv : ldv t cs.toList off = some v) : (loadVar t ⟨b, off, none⟩).run Tryz.prog w = .ok v w := by
  unfold ldv at hv
  have hcell : ∀ u, cs[off]? = some u → w.cell? ⟨b, off, none⟩ = some u := fun u hu => by unfold World.cell?; rw [h]; simpa using hu
  have hag : ∀ r : TRow, lookT tab t = some r → r.k.isAgg = true → r.k ≠ .other → cutF cs.toList off r.size (fun l => some (Value.agg l.toArray)) = some v → (loadVar t ⟨b, off, none⟩).run Tryz.prog w = .ok v w := fun r hr ha ho hc => by
    obtain ⟨h2, _, h3⟩ := cutF_eq _ _ _ _ _ hc
    have hia := tab_ok.isAgg hr ho w
    rw [ha] at hia
    have hsz := tab_ok.sizeOf hr w
    unfold loadVar
    simp only [Sem.run_bind, hia, Result.andThen, if_true, hsz, loadCells]
    rw [← Option.some.inj h2]
    by_cases h0 : r.size = 0
    · rw [h0]; simp [loadCellsFrom]
    · have hle := h3 h0
      rw [run_loadCells h off r.size 0 #[] (by simp at hle ⊢; omega)]
      simp
  have hno : ∀ r : TRow, lookT tab t = some r → r.k.isAgg = false → r.k ≠ .other → nth cs.toList off = some v → (loadVar t ⟨b, off, none⟩).run Tryz.prog w = .ok v w := fun r hr ha ho hc => by
    have hia := tab_ok.isAgg hr ho w
    rw [ha] at hia
    rw [nth_eq] at hc
    simp at hc
    unfold loadVar
    simp only [Sem.run_bind, hia, Result.andThen, Bool.false_eq_true, if_false, load, Sem.run, hcell v hc]
  split at hv
  · rename_i hr; exact hag _ hr rfl (by simp) hv
  · rename_i hr; exact hag _ hr rfl (by simp) hv
  · cases hv
  · rename_i r hn1 hn2 hn3 hr
    refine hno _ hr ?_ ?_ hv
    · cases hk2 : r.k <;> simp [TK.isAgg] <;> (obtain ⟨k, s1, b1, z1⟩ := r; simp at hk2; subst hk2; first | exact hn1 _ _ _ _ rfl | exact hn2 _ _ _ _ _ rfl)
    · intro hk2; obtain ⟨k, s1, b1, z1⟩ := r; simp at hk2; subst hk2; exact hn3 _ _ _ rfl
  · cases hv
end Go.Proofs.YtgaipgbgppdfeaaGreatDoor

namespace Go.Proofs.YtgaipgbgppdfeaaGreatDoor
open Go.RowKit

variable {n : Nat} {C : Cx} {Q : Exit → Act → World → Prop} {E E' : List (Nat × Value)} {F F' F1 : List Pf} {R R' R0 A : List HP} {k k' : List Fr} {ops l : List Oper}
  {d : Nat} {t ty0 : TypeId} {x y : Operand} {pos : String} {aft : Array Edge} {gd : Option (Nat × Bool)} {b off : Nat} {cs : Array Value} {ty : TypeId} {fzn : Nat × Nat} {v : Value}

/-- A load out of an owned block. -/
theorem l_ld (nx : Wl n C ops.toArray k Q l ((d, v) :: E) F R) (hw : wantL ops E ⟨some d, .load t x, ty0, pos, aft, gd⟩ = some true := by rfl) (hn : Nat.blt d n = true := by rfl)
    (hx : ev E x = some (.pointer (some ⟨b, off, none⟩)) := by rfl) (hs : Sel (Pt b (.cells cs ty fzn)) R R0 := by (repeat (first | exact Sel.here | apply Sel.there)); first | done | fail) (hv : ldv t cs.toList off = some v := by rfl) :
    Wl n C ops.toArray k Q (⟨some d, .load t x, ty0, pos, aft, gd⟩ :: l) E F R :=
  wl_op (fun t ht => by cases ht; exact Nat.le_of_ble_eq_true hn) (fun c hc => by cases hc) hw fun a w ha hsat => by
    have hr := ldv_ok (hsat.pt hs) hv
    unfold OpRes
    simp only [execOp, Instr.loadAt, ha.ev (by rw [evf_look]; exact hx), Instr.sureAddr, Sem.run_bind, Sem.run_pure, Result.andThen, hr]
    exact fun a' ha' => nx a' w ha' hsat

/-- A load out of a block that stays. -/
theorem l_ldF {F0 : List Pf} (nx : Wl n C ops.toArray k Q l ((d, v) :: E) F R) (hw : wantL ops E ⟨some d, .load t x, ty0, pos, aft, gd⟩ = some true := by rfl) (hn : Nat.blt d n = true := by rfl)
    (hx : ev E x = some (.pointer (some ⟨b, off, none⟩)) := by rfl) (hs : Sel (Blk b (.cells cs ty fzn)) F F0 := by (repeat (first | exact Sel.here | apply Sel.there)); first | done | fail) (hv : ldv t cs.toList off = some v := by rfl) :
    Wl n C ops.toArray k Q (⟨some d, .load t x, ty0, pos, aft, gd⟩ :: l) E F R :=
  wl_op (fun t ht => by cases ht; exact Nat.le_of_ble_eq_true hn) (fun c hc => by cases hc) hw fun a w ha hsat => by
    have hr := ldv_ok (hsat.blk hs) hv
    unfold OpRes
    simp only [execOp, Instr.loadAt, ha.ev (by rw [evf_look]; exact hx), Instr.sureAddr, Sem.run_bind, Sem.run_pure, Result.andThen, hr]
    exact fun a' ha' => nx a' w ha' hsat

/-- A new variable, a new box. -/
theorem l_al {op : Op} {obj : Obj} (nx : ∀ b, Wl n C ops.toArray k Q l ((d, .pointer (some ⟨b, 0, none⟩)) :: E) F (Pt b obj :: R)) (hw : wantL ops E ⟨some d, op, ty0, pos, aft, gd⟩ = some true := by rfl) (hn : Nat.blt d n = true := by rfl)
    (ha : allocOf tab (look E) op = some (obj, fun b => .pointer (some ⟨b, 0, none⟩)) := by rfl) : Wl n C ops.toArray k Q (⟨some d, op, ty0, pos, aft, gd⟩ :: l) E F R :=
  wl_op (fun t ht => by cases ht; exact Nat.le_of_ble_eq_true hn) (fun c hc => by rw [show op = _ from hc] at ha; cases ha) hw fun a w hag hsat => by
    have hr := allocOf_ok tab_ok hag (o := ⟨some d, op, ty0, pos, aft, gd⟩) ha w
    unfold OpRes
    rw [hr]
    exact fun a' ha' => nx _ a' _ ha' (hsat.alloc obj)

/-- A new array behind a slice. -/
theorem l_bs {op : Op} {obj : Obj} {m : Nat} (nx : ∀ b, Wl n C ops.toArray k Q l ((d, .slice (some ⟨b, 0, none⟩) m m) :: E) F (Pt b obj :: R)) (hw : wantL ops E ⟨some d, op, ty0, pos, aft, gd⟩ = some true := by rfl) (hn : Nat.blt d n = true := by rfl)
    (ha : allocOf tab (look E) op = some (obj, fun b => .slice (some ⟨b, 0, none⟩) m m) := by rfl) : Wl n C ops.toArray k Q (⟨some d, op, ty0, pos, aft, gd⟩ :: l) E F R :=
  wl_op (fun t ht => by cases ht; exact Nat.le_of_ble_eq_true hn) (fun c hc => by rw [show op = _ from hc] at ha; cases ha) hw fun a w hag hsat => by
    have hr := allocOf_ok tab_ok hag (o := ⟨some d, op, ty0, pos, aft, gd⟩) ha w
    unfold OpRes
    rw [hr]
    exact fun a' ha' => nx _ a' _ ha' (hsat.alloc obj)

/-- A value of one cell. -/
def one1 : Value → Bool
  | .agg _ => false
  | .tuple _ => false
  | _ => true

/-- The cells behind a store. -/
def stv (t : Nat) (cs : List Value) (off : Nat) (v : Value) : Option (List Value) :=
  match lookT tab t, vcells v with
  | some r, some vs => bif Nat.beq vs.length r.size && vs.all one1 then putF cs off vs some else none
  | _, _ => none

theorem run_storeCells {P : Program} {b : Nat} {ty : TypeId} (off : Nat) : ∀ (vs : List Value) (i : Nat) (w : World) (cs : List Value), w.heap[b]? = some (.cells cs.toArray ty (0, 0)) → vs.all one1 = true → off + i + vs.length ≤ cs.length →
    ∃ w', (storeCells ⟨b, off, none⟩ vs i).run P w = .ok () w' ∧ w'.heap[b]? = some (.cells (cs.take (off + i) ++ vs ++ cs.drop (off + i + vs.length)).toArray ty (0, 0)) ∧ Same w w' ∧ ∀ c, c ≠ b → w'.heap[c]? = w.heap[c]?
  | [], i, w, cs, h, _, _ => ⟨w, rfl, by simpa using h, Same.refl _, fun _ _ => rfl⟩
  | v :: vs, i, w, cs, h, hv, hle => by
    simp only [List.all_cons, Bool.and_eq_true] at hv
    simp only [List.length_cons] at hle
    have h0 : (Addr.add ⟨b, off, none⟩ i) = ⟨b, off + i, none⟩ := by
      unfold Addr.add
      split
      · rename_i h0; subst h0; rfl
      · rfl
    have hcell : w.cell? ⟨b, off + i, none⟩ = some (cs[off + i]'(by omega)) := by
      unfold World.cell?
      rw [h]; simp
    have hfz : w.frozen? ⟨b, off + i, none⟩ = false := by unfold World.frozen?; rw [h]; simp
    have hst : (store (Addr.add ⟨b, off, none⟩ i) v).run P w = .ok () (w.setCell ⟨b, off + i, none⟩ v) := by
      rw [h0]
      unfold store
      cases v <;> first | (simp [one1] at hv; done) | (simp only [Sem.run, hcell, hfz]; rfl)
    have hb' : (w.setCell ⟨b, off + i, none⟩ v).heap[b]? = some (.cells (cs.set (off + i) v).toArray ty (0, 0)) := by
      simp only [World.setCell, Array.getElem?_modify, if_true, h]
      simp
    have hne : ∀ c, c ≠ b → (w.setCell ⟨b, off + i, none⟩ v).heap[c]? = w.heap[c]? := fun c hc => Below.heap_setCell w _ v c hc
    obtain ⟨w', h1, h2, h3, h4⟩ := run_storeCells (P := P) off vs (i + 1) _ (cs.set (off + i) v) hb' hv.2 (by simp; omega)
    refine ⟨w', ?_, ?_, (⟨rfl, rfl, rfl, by simp [World.setCell]⟩ : Same w (w.setCell _ v)).trans h3, fun c hc => (h4 c hc).trans (hne c hc)⟩
    · unfold storeCells
      simp only [Sem.run_bind, hst, Result.andThen]
      exact h1
    · rw [h2]
      congr 3
      have e1 : (cs.set (off + i) v).take (off + (i + 1)) = cs.take (off + i) ++ [v] := by
        rw [show off + (i + 1) = off + i + 1 by omega, List.take_succ_eq_append_getElem (by simp; omega)]
        simp [List.take_set_of_le]
      have e2 : (cs.set (off + i) v).drop (off + (i + 1) + vs.length) = cs.drop (off + i + (v :: vs).length) := by
        rw [List.drop_set_of_lt (by omega)]
        congr 1; simp; omega
      rw [e1, e2]
      simp

theorem stv_ok {w : World} {cs' : List Value} (h : w.heap[b]? = some (.cells cs ty (0, 0))) (hv : stv t cs.toList off v = some cs') :
    ∃ w', (storeVar t ⟨b, off, none⟩ v).run Tryz.prog w = .ok () w' ∧ w'.heap[b]? = some (.cells cs'.toArray ty (0, 0)) ∧ Same w w' ∧ ∀ c, c ≠ b → w'.heap[c]? = w.heap[c]? := by
  unfold stv at hv
  split at hv
  · rename_i r vs hr hvs
    cases hc : (Nat.beq vs.length r.size && vs.all one1) with
    | false => simp [hc] at hv
    | true =>
      simp only [hc, cond_true] at hv
      rw [Bool.and_eq_true] at hc
      have hlen := Nat.eq_of_beq_eq_true hc.1
      obtain ⟨h1, h2⟩ := putF_eq _ _ _ _ _ hv
      have hcl := vcells_eq hvs
      have hsz := tab_ok.sizeOf hr w
      have hle : vs ≠ [] → off + 0 + vs.length ≤ cs.toList.length := fun hne => by simpa using h1 hne
      have hst : ∃ w', (storeCells ⟨b, off, none⟩ vs 0).run Tryz.prog w = .ok () w' ∧ w'.heap[b]? = some (.cells cs'.toArray ty (0, 0)) ∧ Same w w' ∧ ∀ c, c ≠ b → w'.heap[c]? = w.heap[c]? := by
        by_cases hne : vs = []
        · subst hne
          refine ⟨w, rfl, ?_, Same.refl _, fun _ _ => rfl⟩
          simp at h2; subst h2; simpa using h
        · obtain ⟨w', g1, g2, g3, g4⟩ := run_storeCells (P := Tryz.prog) off vs 0 w cs.toList (by simpa using h) hc.2 (hle hne)
          refine ⟨w', g1, ?_, g3, g4⟩
          rw [g2]
          simp at h2; simp [h2]
      obtain ⟨w', g1, g2⟩ := hst
      refine ⟨w', ?_, g2⟩
      unfold storeVar
      simp only [Sem.run_bind, hsz, Result.andThen, hcl]
      rw [if_neg (by simp [hlen])]
      exact g1
  · cases hv

/-- A store into an owned block. -/
theorem l_st {cs' : List Value} (nx : Wl n C ops.toArray k Q l E F (Pt b (.cells cs'.toArray ty (0, 0)) :: R0)) (hw : wantL ops E ⟨none, .store t x y, ty0, pos, aft, gd⟩ = some true := by rfl)
    (hx : ev E x = some (.pointer (some ⟨b, off, none⟩)) := by rfl) (hy : ev E y = some v := by rfl) (hs : Sel (Pt b (.cells cs ty (0, 0))) R R0 := by (repeat (first | exact Sel.here | apply Sel.there)); first | done | fail) (hv : stv t cs.toList off v = some cs' := by rfl) :
    Wl n C ops.toArray k Q (⟨none, .store t x y, ty0, pos, aft, gd⟩ :: l) E F R :=
  wl_op (fun t ht => by cases ht) (fun c hc => by cases hc) hw fun a w ha hsat => by
    obtain ⟨w', g1, g2, g3, g4⟩ := stv_ok (hsat.pt hs) hv
    unfold OpRes
    simp only [execOp, Instr.storeAt, ha.ev (x := x) (by rw [evf_look]; exact hx), ha.ev (x := y) (by rw [evf_look]; exact hy), Instr.sureAddr, Sem.run_bind, Sem.run_pure, Result.andThen, g1]
    exact fun a' ha' => nx a' w' ha' ((hsat.sel hs).write g3 g2 fun c hc _ => g4 c hc)

/-- The function f has a body that a call enters. -/
abbrev Enters (f : FuncId) : Prop := ∀ args w, (callFunc f args).run Tryz.prog w = .ok (.enter f args) w

theorem run_call {f : FuncId} (hf : Enters f) {args : Array Operand} {tys : Array TypeId} {vs : List Value} (hargs : evs (ev E) args.toList some = some vs) {a : Act} {ds : List Deferred} (ha : Agree n ds (look E) a) (w : World) (dst : Option Tmp) :
    (execOp a.eval ⟨dst, .call ⟨.value (.func f), args, tys⟩, ty0, pos, aft, gd⟩).run Tryz.prog w = .ok (.enter f vs.toArray) w := by
  obtain ⟨us, _, h2, h3⟩ := evs_eq _ _ _ hargs
  obtain rfl := Option.some.inj h2
  have e1 := h3 a.eval fun x _ u hu => ha.ev (by rw [evf_look]; exact hu)
  have e3 : args.map a.eval = us.toArray := by rw [← Array.toList_inj]; simpa using e1
  simp only [execOp, resolve, Deferred.ofValue, Act.eval, Sem.run_bind, Sem.run_pure, Result.andThen, invoke]
  have e4 : (args.map fun x => a.eval x) = us.toArray := e3
  simp only [Act.eval] at e4
  rw [show (#[] : Array Value) ++ Array.map _ args ++ #[] = us.toArray by rw [← e3]; simp]
  exact hf _ w

/-- A call of a function. -/
theorem l_call {f : FuncId} {args : Array Operand} {tys : Array TypeId} {vs : List Value} {post : Post} (spec : Enters f ∧ Spec Tryz.prog f vs.toArray F1 A post)
    (nx : ∀ x, post.pure x → Wl n C ops.toArray k Q l ((d, post.val x) :: E) (post.F x ++ F) (post.R x ++ R')) (hw : wantL ops E ⟨some d, .call ⟨.value (.func f), args, tys⟩, ty0, pos, aft, gd⟩ = some true := by rfl) (hn : Nat.blt d n = true := by rfl)
    (hargs : evs (ev E) args.toList some = some vs := by rfl) (sel : Sels A R R' := by (repeat (first | exact Sels.nil | exact Sel.here | apply Sel.there | apply Sels.cons)); first | done | fail)
    (hF : EntF F F1 := by (repeat (first | exact trivial | exact Sel.here | apply Sel.there | apply EntF.cons)); first | done | fail) :
    Wl n C ops.toArray k Q (⟨some d, .call ⟨.value (.func f), args, tys⟩, ty0, pos, aft, gd⟩ :: l) E F R :=
  wl_op (fun t ht => by cases ht; exact Nat.le_of_ble_eq_true hn) (fun c hc => by cases hc) hw fun a w ha hsat => by
    unfold OpRes
    rw [run_call spec.1 hargs ha w]
    refine sat_call spec.2 hsat sel hF.all fun x w' hx hs' => ?_
    exact fun a' ha' => nx x hx a' w' ha' hs'


/-! ### The function's beginning and end -/

/-- The slots of the arguments. -/
def argsE : Nat → List Value → List (Nat × Value)
  | _, [] => []
  | i, v :: vs => (i, v) :: argsE (i + 1) vs

theorem argsE_look : ∀ (vs : List Value) (i t : Nat) (v : Value), look (argsE i vs) t = some v → i ≤ t ∧ vs[t - i]? = some v
  | [], _, _, _, h => by cases h
  | u :: vs, i, t, v, h => by
    unfold argsE look at h
    split at h
    · rename_i hb
      obtain rfl := Nat.eq_of_beq_eq_true hb
      exact ⟨Nat.le_refl _, by simpa using h⟩
    · obtain ⟨h1, h2⟩ := argsE_look vs (i + 1) t v h
      refine ⟨by omega, ?_⟩
      rw [show t - i = (t - (i + 1)) + 1 by omega]
      simpa using h2

theorem spec_of {f : FuncId} {fn : Func} {c : Code} {vs : List Value} {post : Post} {nt : Nat} (hf : Tryz.prog.funcs[f]? = some fn) (hb : fn.body = some c) (hnt : fn.ntmps = nt) (hle : Nat.ble vs.length nt = true)
    (t : ∀ G w hp, Wk nt ⟨none, G, w, hp, []⟩ [.c c] (bodyPost Tryz.prog fn (post.holds G w hp)) (argsE 0 vs) F R) : Spec Tryz.prog f vs.toArray F R post := by
  intro G w hp hsat
  refine (callsIn_wide (n := 0)).1 (callsIn_of_wp hf hb trivial ?_)
  refine t G w hp _ w ⟨?_, rfl, fun i v hv => ?_⟩ hsat
  · have := Nat.le_of_ble_eq_true hle
    simp [hnt]; omega
  · obtain ⟨_, h2⟩ := argsE_look vs 0 i v hv
    simp only [Nat.sub_zero] at h2
    have hlt : i < vs.length := (List.getElem?_eq_some_iff.1 h2).1
    simp only
    rw [Array.getElem?_append_left (by simpa using hlt)]
    simpa using h2

/-- The results: each lies in a slot, or in an owned block. -/
inductive ResOK (E : List (Nat × Value)) (R : List HP) : List ResultVar → List Value → Prop
  | nil : ResOK E R [] []
  | tmp {t : Nat} {v : Value} {rs : List ResultVar} {vs : List Value} (h : look E t = some v) (n : ResOK E R rs vs) : ResOK E R (.tmp t :: rs) (v :: vs)
  | cell {a t : Nat} {v : Value} {rs : List ResultVar} {vs : List Value} {b off : Nat} {cs : Array Value} {ty : TypeId} {fzn : Nat × Nat} {R0 : List HP} (h : look E a = some (.pointer (some ⟨b, off, none⟩))) (s : Sel (Pt b (.cells cs ty fzn)) R R0) (hv : ldv t cs.toList off = some v)
      (n : ResOK E R rs vs) : ResOK E R (.cell a t :: rs) (v :: vs)

def resV : List Value → Value
  | [v] => v
  | vs => .tuple vs.toArray

theorem resOK_ok {C : Cx} {a : Act} {w : World} (ha : Agree n C.ds (look E) a) (hs : Sat C.G C.w0 C.hp0 F R w) {rs : List ResultVar} {vs : List Value} (h : ResOK E R rs vs) :
    (rs.mapM (fun | .tmp t => pure (a.tmps.getD t undef) | .cell a' t => do loadVar t (← asAddr (a.tmps.getD a' undef))) : Sem (List Value)).run Tryz.prog w = .ok vs w := by
  induction h with
  | nil => rfl
  | @tmp t v rs vs h n ih =>
    have := ha.slots t v h
    simp only [List.mapM_cons, Sem.run_bind, Sem.run_pure, Result.andThen, ih]
    simp [this]
  | @cell a' t v rs vs b off cs ty fzn R0 h s hv n ih =>
    have h1 := ha.slots a' _ h
    have h2 := ldv_ok (hs.pt s) hv
    have h3 : a.tmps.getD a' undef = .pointer (some ⟨b, off, none⟩) := by simp [h1]
    have h4 : (do loadVar t (← asAddr (a.tmps.getD a' undef)) : Sem Value).run Tryz.prog w = .ok v w := by
      rw [h3]; simp only [Sem.run_bind, asAddr, Sem.run_pure, Result.andThen, h2]
    simp only [List.mapM_cons]
    rw [Sem.run_bind]
    change Result.andThen (Sem.run Tryz.prog (do loadVar t (← asAddr (a.tmps.getD a' undef)) : Sem Value) w) _ = _
    rw [h4]
    simp only [Result.andThen]
    rw [Sem.run_bind, ih]
    rfl

theorem results_ok {C : Cx} {fn : Func} {a : Act} {w : World} {vs : List Value} (ha : Agree n C.ds (look E) a) (hs : Sat C.G C.w0 C.hp0 F R w) (hr : ResOK E R fn.results.toList vs) : (results fn a.tmps).run Tryz.prog w = .ok (resV vs) w := by
  have h2 := resOK_ok ha hs hr
  unfold results
  have h3 : (fn.results.mapM (fun | .tmp t => pure (a.tmps.getD t undef) | .cell a' t => do loadVar t (← asAddr (a.tmps.getD a' undef))) : Sem (Array Value)).run Tryz.prog w = .ok vs.toArray w := by
    rw [← Array.toArray_toList (xs := fn.results), List.mapM_toArray]
    show Sem.run _ (Sem.bind _ _) w = _
    rw [Sem.run_bind', h2]; rfl
  rw [Sem.run_bind]
  change Result.andThen (Sem.run Tryz.prog (fn.results.mapM (fun | .tmp t => pure (a.tmps.getD t undef) | .cell a' t => do loadVar t (← asAddr (a.tmps.getD a' undef)))) w) _ = _
  rw [h3]
  simp only [Result.andThen, Sem.run_pure]
  congr 1
  match vs with
  | [] => simp [resV]
  | [x] => simp [resV]
  | x :: y :: l => simp [resV]

def noR : List Fr → Bool
  | [] => true
  | .c _ :: k => noR k
  | .b _ :: k => noR k
  | .r _ :: _ => false
theorem after_ret {r : Option Nat} {a : Act} {w : World} : ∀ {k : List Fr}, noR k = true → after r k Q .ret a w = Q .ret a w
  | [], _ => rfl
  | .c _ :: k, h => after_ret (k := k) h
  | .b _ :: k, h => after_ret (k := k) h

/-- A return is reached. -/
def Wret (n : Nat) (C : Cx) (Q : Exit → Act → World → Prop) (E : List (Nat × Value)) (F : List Pf) (R : List HP) : Prop :=
  ∀ a w, Agree n C.ds (look E) a → Sat C.G C.w0 C.hp0 F R w → Q .ret a w

theorem k_rt (t : Wret n C Q E F R) (h : nf 1000 k = .c .ret :: k' := by rfl) (hn : noR k' = true := by rfl) : Wk n C k Q E F R := fun a w ha hs => nf_ok 1000 k (by
  rw [h]
  refine wpIn_ret ?_
  rw [after_ret hn]
  exact t a w ha hs)
theorem w_lq {X : Type} {iE : X → List (Nat × Value)} {iF : X → List Pf} {iR : X → List HP} {μ : X → Nat} {x : X} (t : Wret n C Q E F R) (hn : noR k' = true := by rfl) : Wret n C (LQ n C k' Q iE iF iR μ x) E F R := fun a w ha hs => by
  show after C.r k' Q .ret a w
  rw [after_ret hn]
  exact t a w ha hs

theorem w_ret {fn : Func} {post : Post} {G : H} {w0 : World} {hp0 : H} {r : Option Nat} (xx : post.X) {vs : List Value} (hv : resV vs = post.val xx) (hp : post.pure xx)
    (hr : ResOK E R fn.results.toList vs := by (repeat (first | exact ResOK.nil | exact Sel.here | apply Sel.there | exact rfl | apply ResOK.tmp | apply ResOK.cell)); first | done | fail)
    (hF : EntF F (post.F xx) := by (repeat (first | exact trivial | exact Sel.here | apply Sel.there | apply EntF.cons)); first | done | fail)
    (hR : Sels (post.R xx) R R0 := by (repeat (first | exact Sels.nil | exact Sel.here | apply Sel.there | apply Sels.cons)); first | done | fail) :
    Wret n ⟨r, G, w0, hp0, []⟩ (bodyPost Tryz.prog fn (post.holds G w0 hp0)) E F R := fun a w ha hs => by
    have h2 := resOK_ok ha hs hr
    refine ⟨ha.defers, resV vs, ?_, xx, by rw [hv], hp, ((hs.sels hR).facts (F' := post.F xx) hF.all).res fun _ h => sep_left h⟩
    unfold results
    have h3 : (fn.results.mapM (fun | .tmp t => pure (a.tmps.getD t undef) | .cell a' t => do loadVar t (← asAddr (a.tmps.getD a' undef))) : Sem (Array Value)).run Tryz.prog w = .ok vs.toArray w := by
      rw [← Array.toArray_toList (xs := fn.results), List.mapM_toArray]
      show Sem.run _ (Sem.bind _ _) w = _
      rw [Sem.run_bind', h2]; rfl
    rw [Sem.run_bind]
    change Result.andThen (Sem.run Tryz.prog (fn.results.mapM (fun | .tmp t => pure (a.tmps.getD t undef) | .cell a' t => do loadVar t (← asAddr (a.tmps.getD a' undef)))) w) _ = _
    rw [h3]
    simp only [Result.andThen, Sem.run_pure]
    congr 1
    match vs with
    | [] => simp [resV]
    | [x] => simp [resV]
    | x :: y :: l => simp [resV]

theorem k_ret {fn : Func} {post : Post} {G : H} {w0 : World} {hp0 : H} {r : Option Nat} (xx : post.X) {vs : List Value} (hv : resV vs = post.val xx) (hp : post.pure xx)
    (hr : ResOK E R fn.results.toList vs := by (repeat (first | exact ResOK.nil | exact Sel.here | apply Sel.there | exact rfl | apply ResOK.tmp | apply ResOK.cell)); first | done | fail)
    (hF : EntF F (post.F xx) := by (repeat (first | exact trivial | exact Sel.here | apply Sel.there | apply EntF.cons)); first | done | fail)
    (hR : Sels (post.R xx) R R0 := by (repeat (first | exact Sels.nil | exact Sel.here | apply Sel.there | apply Sels.cons)); first | done | fail)
    (h : nf 1000 k = .c .ret :: k' := by rfl) (hn : noR k' = true := by rfl) : Wk n ⟨r, G, w0, hp0, []⟩ k (bodyPost Tryz.prog fn (post.holds G w0 hp0)) E F R := k_rt (w_ret xx hv hp hr hF hR) h hn

theorem k_end {fn : Func} {post : Post} {G : H} {w0 : World} {hp0 : H} {r : Option Nat} (xx : post.X) (hv : .tuple #[] = post.val xx) (hp : post.pure xx) (hres : fn.results = #[] := by rfl)
    (hF : EntF F (post.F xx) := by (repeat (first | exact trivial | exact Sel.here | apply Sel.there | apply EntF.cons)); first | done | fail)
    (hR : Sels (post.R xx) R R0 := by (repeat (first | exact Sels.nil | exact Sel.here | apply Sel.there | apply Sels.cons)); first | done | fail)
    (h : nf 1000 k = [] := by rfl) : Wk n ⟨r, G, w0, hp0, []⟩ k (bodyPost Tryz.prog fn (post.holds G w0 hp0)) E F R := fun a w ha hs => nf_ok 1000 k (by
    rw [h]
    refine ⟨ha.defers, .tuple #[], ?_, xx, by rw [hv], hp, ((hs.sels hR).facts (F' := post.F xx) hF.all).res fun _ h => sep_left h⟩
    exact results_none hres a.tmps _ w)
end Go.Proofs.YtgaipgbgppdfeaaGreatDoor

namespace Go.Proofs.YtgaipgbgppdfeaaGreatDoor
open Go.RowKit

variable {n : Nat} {C : Cx} {Q : Exit → Act → World → Prop} {E E' : List (Nat × Value)} {F F' F1 Fs : List Pf} {R R' R0 Rs N N' A : List HP} {k k' : List Fr} {ops l : List Oper} {L L' : List (Nat × Nat)} {Tl : List Nat}
  {i d : Nat} {t ty0 : TypeId} {x y : Operand} {pos : String} {aft : Array Edge} {gd : Option (Nat × Bool)} {b off : Nat} {cs : Array Value} {ty : TypeId} {fzn : Nat × Nat} {v : Value}

/-- The walk inside such a region: R stays as it is; F, N: what is known and owned besides. -/
def Wr (n : Nat) (C : Cx) (ops : List Oper) (k : List Fr) (Q : Exit → Act → World → Prop) (Tl : List Nat) (Fs : List Pf) (R : List HP) (L : List (Nat × Nat)) (E : List (Nat × Value)) (F : List Pf) (N : List HP) : Prop :=
  ∀ hp hr w, SatAt C.G C.w0 C.hp0 Fs R w hp hr → ∀ hz, Sub (un hr hp) hz → WS Tryz.prog tab n C.ds ops.toArray hz (WSEnd Tryz.prog C.r n C.ds ops.toArray (un C.G hr) C.w0 hp (after C.r k Q) Tl) L (look E) F N

/-- A region that draws its order is begun: Rm may change in it, R stays. -/
theorem k_draw {l : List Oper} (id : Nat) (Rm : List HP) (L : List (Nat × Nat)) (Tl : List Nat) (t : Wr n C l k' Q Tl F Rs L E F Rm) (hsel : Sels Rm R Rs := by (repeat (first | exact Sels.nil | exact Sel.here | apply Sel.there | apply Sels.cons)); first | done | fail)
    (h : nf 1000 k = .c (.region id l.toArray true) :: k' := by rfl) (hok : (okW l.toArray (Region.before l.toArray) L Tl && dstsOK n l.toArray) = true := by decide +kernel) : Wk n C k Q E F R :=
  fun a w ha hs => nf_ok 1000 k (by
    rw [h]
    obtain ⟨hp, hr, st⟩ := hs.sels hsel
    obtain ⟨h1, h2, d12, s1, s2, hA, hR⟩ := sep_append st.r
    have st2 : SatAt C.G C.w0 C.hp0 F Rs w hp h2 := ⟨st.inp, st.inr.sub s2, st.ing, (st.d1.symm.sub s2).symm, st.d2, st.d3.sub s2, st.sub, st.f, hR, st.same⟩
    have sat0 : Sat (un C.G h2) C.w0 hp F Rm w := ⟨hp, h1, st.inp, st.inr.sub s1, In.un st.ing (st.inr.sub s2), (st.d1.symm.sub s1).symm, (dj_un.2 ⟨st.d2.symm, st.d1.symm.sub s2⟩).symm,
      (dj_un.2 ⟨(st.d3.sub s1).symm, d12.symm⟩).symm, Sub.refl _, st.f, hA, st.same⟩
    have hsub : Sub (un h2 hp) (un (un C.G h2) hp) := fun c o e => by
      rcases un_or e with e | e
      · exact sub_un_left _ _ c o (sub_un_right (st.d3.sub s2).symm c o e)
      · exact sub_un_right (dj_un.2 ⟨st.d2.symm, st.d1.symm.sub s2⟩) c o e
    exact wp_region_S L Tl tab_ok mixed_ok hok hsub ha sat0 (t hp h2 w st2 _ (Sub.refl _)))

/-- One step of the list: the operation, its kind. -/
theorem wr_go {o : Oper} {kd : Nat} (ho : nth ops i = some o) (t : ∀ hp hr w, SatAt C.G C.w0 C.hp0 Fs R w hp hr → ∀ hz, Sub (un hr hp) hz → match wantF ops.toArray (look E) o with
    | none => False
    | some false => WS Tryz.prog tab n C.ds ops.toArray hz (WSEnd Tryz.prog C.r n C.ds ops.toArray (un C.G hr) C.w0 hp (after C.r k Q) Tl) L (upd (look E) o.dst undef) F N
    | some true => match kd with
      | 0 => ∃ v, (∀ a w, Agree n C.ds (look E) a → In hz w → (execOp a.eval o).run Tryz.prog w = .ok (.value v) w) ∧ WS Tryz.prog tab n C.ds ops.toArray hz (WSEnd Tryz.prog C.r n C.ds ops.toArray (un C.G hr) C.w0 hp (after C.r k Q) Tl) L (upd (look E) o.dst v) F N
      | 1 => ∃ obj mk, allocOf tab (look E) o.op = some (obj, mk) ∧ ∀ b, WS Tryz.prog tab n C.ds ops.toArray hz (WSEnd Tryz.prog C.r n C.ds ops.toArray (un C.G hr) C.w0 hp (after C.r k Q) Tl) L (upd (look E) o.dst (mk b)) F (Pt b obj :: N)
      | 2 => ∃ obj mk, allocOf tab (look E) o.op = some (obj, mk) ∧ ∀ b, hz b = none → WS Tryz.prog tab n C.ds ops.toArray (un (one b obj) hz) (WSEnd Tryz.prog C.r n C.ds ops.toArray (un C.G hr) C.w0 hp (after C.r k Q) Tl) L (upd (look E) o.dst (mk b)) F N
      | 3 => ∃ v, (∀ a G w hp', Agree n C.ds (look E) a → Sub hz (un G hp') → Sat G w hp' F N w → (execOp a.eval o).run Tryz.prog w = .ok (.value v) w) ∧ WS Tryz.prog tab n C.ds ops.toArray hz (WSEnd Tryz.prog C.r n C.ds ops.toArray (un C.G hr) C.w0 hp (after C.r k Q) Tl) L (upd (look E) o.dst v) F N
      | 4 => ∃ post : Post, (∀ a G w hp', Agree n C.ds (look E) a → Sub hz (un G hp') → Sat G w hp' F N w → OpRes Tryz.prog (execOp a.eval o) w fun v w' => ∃ x, v = post.val x ∧ post.pure x ∧ Sat G w hp' (post.F x) (post.R x) w') ∧
          ∀ x, post.pure x → WS Tryz.prog tab n C.ds ops.toArray hz (WSEnd Tryz.prog C.r n C.ds ops.toArray (un C.G hr) C.w0 hp (after C.r k Q) Tl) L (upd (look E) o.dst (post.val x)) (post.F x) (post.R x)
      | 5 => ∃ post : Post, (∀ a G w hp', Agree n C.ds (look E) a → Sub hz (un G hp') → Sat G w hp' F N w → OpRes Tryz.prog (execOp a.eval o) w fun v w' => ∃ x, v = post.val x ∧ post.pure x ∧ Sat G w hp' (post.F x) (post.R x) w') ∧
          (∀ x, post.pure x → WS Tryz.prog tab n C.ds ops.toArray hz (WSEnd Tryz.prog C.r n C.ds ops.toArray (un C.G hr) C.w0 hp (after C.r k Q) Tl) L (upd (look E) o.dst (post.val x)) (post.F x) (post.R x)) ∧
          ∀ x, post.pure x → (∀ hp, (∀ f ∈ post.F x, f.p hp) → ∀ f ∈ F, f.p hp) ∧ (post.R x).Perm N
      | _ => False) :
    Wr n C ops k Q Tl Fs R ((i, kd) :: L) E F N := by
  intro hp hr w st hz sb o' ho'
  rw [nth_eq] at ho
  simp only [List.getElem?_toArray] at ho'
  obtain rfl : o' = o := Option.some.inj (ho'.symm.trans ho)
  exact t hp hr w st hz sb

/-- One operation that only reckons, or that is passed over. -/
def rst (ops : List Oper) (i kd : Nat) (E : List (Nat × Value)) : Option (List (Nat × Value)) :=
  match nth ops i with
  | none => none
  | some o => match o.dst, wantL ops E o with
    | some d, some false => some ((d, undef) :: E)
    | some d, some true => match kd with
      | 0 => match qv tab (ev E) o.op with
        | some v => some ((d, v) :: E)
        | none => none
      | _ => none
    | _, _ => none

/-- The same, for an operation without a guard. -/
def rsu (ops : List Oper) (i kd : Nat) (E : List (Nat × Value)) : Option (List (Nat × Value)) :=
  match nth ops i with
  | none => none
  | some o => match o.guard with
    | none => rst ops i kd E
    | some _ => none
theorem rsu_ok {ops : List Oper} {i kd : Nat} {E E' : List (Nat × Value)} (h : rsu ops i kd E = some E') : rst ops i kd E = some E' := by
  unfold rsu at h
  split at h
  · cases h
  · split at h
    · exact h
    · cases h

def rgo (ops : List Oper) : List (Nat × Nat) → List (Nat × Value) → QR (List (Nat × Nat))
  | [], E => .mk E []
  | (i, kd) :: L, E => match rsu ops i kd E with
    | some E' => rgo ops L E'
    | none => .mk E ((i, kd) :: L)

def rrun (ops : List Oper) (L : List (Nat × Nat)) (E : List (Nat × Value)) : QR (List (Nat × Nat)) :=
  match L with
  | [] => .no
  | (i, kd) :: L => match rsu ops i kd E with
    | some E' => rgo ops L E'
    | none => .no

theorem rst_ok {kd : Nat} (h : rst ops i kd E = some E') (t : Wr n C ops k Q Tl Fs R L E' F N) : Wr n C ops k Q Tl Fs R ((i, kd) :: L) E F N := by
  unfold rst at h
  split at h
  · cases h
  · rename_i o ho
    split at h
    · rename_i d hd hw
      obtain rfl := Option.some.inj h
      refine wr_go ho fun hp hr w st hz sb => ?_
      simp only [wantL_ok hw]
      rw [hd]
      exact t hp hr w st hz sb
    · rename_i d hd hw
      split at h
      · split at h
        · rename_i v hv
          obtain rfl := Option.some.inj h
          refine wr_go ho fun hp hr w st hz sb => ?_
          simp only [wantL_ok hw]
          refine ⟨v, fun a w ha _ => qv_ok tab_ok hv (ρ := a.eval) (fun x _ u hu => ha.ev (by rw [evf_look]; exact hu)) w, ?_⟩
          rw [hd]
          exact t hp hr w st hz sb
        · cases h
      · cases h
    · cases h

theorem rgo_ok : ∀ (L : List (Nat × Nat)) (E E' : List (Nat × Value)) (L' : List (Nat × Nat)), rgo ops L E = .mk E' L' → Wr n C ops k Q Tl Fs R L' E' F N → Wr n C ops k Q Tl Fs R L E F N
  | [], _, _, _, h, t => by injection h with h1 h2; subst h1 h2; exact t
  | (i, kd) :: L, E, E', L', h, t => by
    unfold rgo at h
    split at h
    · rename_i E1 hE
      exact rst_ok (rsu_ok hE) (rgo_ok L E1 E' L' h t)
    · injection h with h1 h2; subst h1 h2; exact t

theorem r_run (t : Wr n C ops k Q Tl Fs R L' E' F N) (h : rrun ops L E = .mk E' L' := by rfl) : Wr n C ops k Q Tl Fs R L E F N := by
  unfold rrun at h
  split at h
  · cases h
  · split at h
    · rename_i E1 hE
      exact rst_ok (rsu_ok hE) (rgo_ok _ _ _ _ h t)
    · cases h




theorem stat_pt {hp hr : H} {w : World} (st : SatAt C.G C.w0 C.hp0 Fs R w hp hr) {o : Obj} (s : Sel (Pt b o) R R0) : un hr hp b = some o := by
  obtain ⟨h1, h2, _, s1, _, hx, _⟩ := s.sep st.r
  exact sub_un_left _ _ b o (s1 b o hx)
theorem stat_blk {hp hr : H} {w : World} {F0 : List Pf} (st : SatAt C.G C.w0 C.hp0 Fs R w hp hr) {o : Obj} (s : Sel (Blk b o) Fs F0) : un hr hp b = some o :=
  sub_un_right st.d1.symm b o (st.f _ s.mem)

/-- A load out of a block that stays as it is. -/
theorem r_ld (nx : Wr n C ops k Q Tl Fs R L ((d, v) :: E) F N) (ho : nth ops i = some ⟨some d, .load t x, ty0, pos, aft, gd⟩ := by rfl) (hw : wantL ops E ⟨some d, .load t x, ty0, pos, aft, gd⟩ = some true := by rfl)
    (hx : ev E x = some (.pointer (some ⟨b, off, none⟩)) := by rfl) (hs : Sel (Pt b (.cells cs ty fzn)) R R0 := by (repeat (first | exact Sel.here | apply Sel.there)); first | done | fail) (hv : ldv t cs.toList off = some v := by rfl) :
    Wr n C ops k Q Tl Fs R ((i, 0) :: L) E F N :=
  wr_go ho fun hp hr w st hz sb => by
    simp only [wantL_ok hw]
    refine ⟨v, fun a w ha hin => ?_, nx hp hr w st hz sb⟩
    have hr := ldv_ok (hin _ _ (sb _ _ (stat_pt st hs))) hv
    simp only [execOp, Instr.loadAt, ha.ev (by rw [evf_look]; exact hx), Instr.sureAddr, Sem.run_bind, Sem.run_pure, Result.andThen, hr]
theorem r_ldF {F0 : List Pf} (nx : Wr n C ops k Q Tl Fs R L ((d, v) :: E) F N) (ho : nth ops i = some ⟨some d, .load t x, ty0, pos, aft, gd⟩ := by rfl) (hw : wantL ops E ⟨some d, .load t x, ty0, pos, aft, gd⟩ = some true := by rfl)
    (hx : ev E x = some (.pointer (some ⟨b, off, none⟩)) := by rfl) (hs : Sel (Blk b (.cells cs ty fzn)) Fs F0 := by (repeat (first | exact Sel.here | apply Sel.there)); first | done | fail) (hv : ldv t cs.toList off = some v := by rfl) :
    Wr n C ops k Q Tl Fs R ((i, 0) :: L) E F N :=
  wr_go ho fun hp hr w st hz sb => by
    simp only [wantL_ok hw]
    refine ⟨v, fun a w ha hin => ?_, nx hp hr w st hz sb⟩
    have hr := ldv_ok (hin _ _ (sb _ _ (stat_blk st hs))) hv
    simp only [execOp, Instr.loadAt, ha.ev (by rw [evf_look]; exact hx), Instr.sureAddr, Sem.run_bind, Sem.run_pure, Result.andThen, hr]

/-- A load out of a block that may change. -/
theorem r_ldN (nx : Wr n C ops k Q Tl Fs R L ((d, v) :: E) F N) (ho : nth ops i = some ⟨some d, .load t x, ty0, pos, aft, gd⟩ := by rfl) (hw : wantL ops E ⟨some d, .load t x, ty0, pos, aft, gd⟩ = some true := by rfl)
    (hx : ev E x = some (.pointer (some ⟨b, off, none⟩)) := by rfl) (hs : Sel (Pt b (.cells cs ty fzn)) N N' := by (repeat (first | exact Sel.here | apply Sel.there)); first | done | fail) (hv : ldv t cs.toList off = some v := by rfl) :
    Wr n C ops k Q Tl Fs R ((i, 3) :: L) E F N :=
  wr_go ho fun hp hr w st hz sb => by
    simp only [wantL_ok hw]
    refine ⟨v, fun a G w hp' ha hsub hsat => ?_, nx hp hr w st hz sb⟩
    have hr := ldv_ok (hsat.pt hs) hv
    simp only [execOp, Instr.loadAt, ha.ev (by rw [evf_look]; exact hx), Instr.sureAddr, Sem.run_bind, Sem.run_pure, Result.andThen, hr]

/-- Any operation that reads nothing that changes, by its run. -/
theorem r_q {op : Op} (hq : ∀ a w, Agree n C.ds (look E) a → (execOp a.eval ⟨some d, op, ty0, pos, aft, gd⟩).run Tryz.prog w = .ok (.value v) w) (nx : Wr n C ops k Q Tl Fs R L ((d, v) :: E) F N)
    (ho : nth ops i = some ⟨some d, op, ty0, pos, aft, gd⟩ := by rfl) (hw : wantL ops E ⟨some d, op, ty0, pos, aft, gd⟩ = some true := by rfl) : Wr n C ops k Q Tl Fs R ((i, 0) :: L) E F N :=
  wr_go ho fun hp hr w st hz sb => by
    simp only [wantL_ok hw]
    exact ⟨v, fun a w ha _ => hq a w ha, nx hp hr w st hz sb⟩

/-- A new variable, a new box, a new array behind a slice. -/
theorem r_al {op : Op} {obj : Obj} (nx : ∀ b, Wr n C ops k Q Tl Fs R L ((d, .pointer (some ⟨b, 0, none⟩)) :: E) F (Pt b obj :: N)) (ho : nth ops i = some ⟨some d, op, ty0, pos, aft, gd⟩ := by rfl) (hw : wantL ops E ⟨some d, op, ty0, pos, aft, gd⟩ = some true := by rfl)
    (ha : allocOf tab (look E) op = some (obj, fun b => .pointer (some ⟨b, 0, none⟩)) := by rfl) : Wr n C ops k Q Tl Fs R ((i, 1) :: L) E F N :=
  wr_go ho fun hp hr w st hz sb => by
    simp only [wantL_ok hw]
    exact ⟨_, _, ha, fun b => nx b hp hr w st hz sb⟩
theorem r_bs {op : Op} {obj : Obj} {m : Nat} (nx : ∀ b, Wr n C ops k Q Tl Fs R L ((d, .slice (some ⟨b, 0, none⟩) m m) :: E) F (Pt b obj :: N)) (ho : nth ops i = some ⟨some d, op, ty0, pos, aft, gd⟩ := by rfl) (hw : wantL ops E ⟨some d, op, ty0, pos, aft, gd⟩ = some true := by rfl)
    (ha : allocOf tab (look E) op = some (obj, fun b => .slice (some ⟨b, 0, none⟩) m m) := by rfl) : Wr n C ops k Q Tl Fs R ((i, 1) :: L) E F N :=
  wr_go ho fun hp hr w st hz sb => by
    simp only [wantL_ok hw]
    exact ⟨_, _, ha, fun b => nx b hp hr w st hz sb⟩

/-- A call of a function. -/
theorem r_call {f : FuncId} {args : Array Operand} {tys : Array TypeId} {vs : List Value} {post : Post} (spec : Enters f ∧ Spec Tryz.prog f vs.toArray F1 A post)
    (nx : ∀ x, post.pure x → Wr n C ops k Q Tl Fs R L ((d, post.val x) :: E) (post.F x ++ F) (post.R x ++ N')) (ho : nth ops i = some ⟨some d, .call ⟨.value (.func f), args, tys⟩, ty0, pos, aft, gd⟩ := by rfl)
    (hw : wantL ops E ⟨some d, .call ⟨.value (.func f), args, tys⟩, ty0, pos, aft, gd⟩ = some true := by rfl) (hargs : evs (ev E) args.toList some = some vs := by rfl)
    (sel : Sels A N N' := by (repeat (first | exact Sels.nil | exact Sel.here | apply Sel.there | apply Sels.cons)); first | done | fail)
    (hF : EntF F F1 := by (repeat (first | exact trivial | exact Sel.here | apply Sel.there | apply EntF.cons)); first | done | fail) : Wr n C ops k Q Tl Fs R ((i, 4) :: L) E F N :=
  wr_go ho fun hp hr w st hz sb => by
    simp only [wantL_ok hw]
    refine ⟨⟨post.X, post.val, post.pure, fun x => post.F x ++ F, fun x => post.R x ++ N'⟩, fun a G w hp' ha hsub hsat => ?_, fun x hx => nx x hx hp hr w st hz sb⟩
    unfold OpRes
    rw [run_call spec.1 hargs ha w]
    exact sat_call spec.2 hsat sel hF.all fun x w' hx hs' => ⟨x, rfl, hx, hs'⟩


/-- A store into a block that may change. -/
theorem r_st {cs' : List Value} (nx : Wr n C ops k Q Tl Fs R L E F (Pt b (.cells cs'.toArray ty (0, 0)) :: N')) (ho : nth ops i = some ⟨none, .store t x y, ty0, pos, aft, gd⟩ := by rfl) (hw : wantL ops E ⟨none, .store t x y, ty0, pos, aft, gd⟩ = some true := by rfl)
    (hx : ev E x = some (.pointer (some ⟨b, off, none⟩)) := by rfl) (hy : ev E y = some v := by rfl) (hs : Sel (Pt b (.cells cs ty (0, 0))) N N' := by (repeat (first | exact Sel.here | apply Sel.there)); first | done | fail) (hv : stv t cs.toList off v = some cs' := by rfl) :
    Wr n C ops k Q Tl Fs R ((i, 4) :: L) E F N :=
  wr_go ho fun hp hr w st hz sb => by
    simp only [wantL_ok hw]
    refine ⟨⟨Unit, fun _ => undef, fun _ => True, fun _ => F, fun _ => Pt b (.cells cs'.toArray ty (0, 0)) :: N'⟩, fun a G w hp' ha hsub hsat => ?_, fun _ _ => nx hp hr w st hz sb⟩
    obtain ⟨w', g1, g2, g3, g4⟩ := stv_ok (hsat.pt hs) hv
    unfold OpRes
    simp only [execOp, Instr.storeAt, ha.ev (x := x) (by rw [evf_look]; exact hx), ha.ev (x := y) (by rw [evf_look]; exact hy), Instr.sureAddr, Sem.run_bind, Sem.run_pure, Result.andThen, g1]
    exact ⟨(), trivial, trivial, (hsat.sel hs).write g3 g2 fun c hc _ => g4 c hc⟩

/-- The operations that are left, in their order. -/
def tailF {β : Type} (ops : List Oper) : List Nat → (List Oper → Option β) → Option β
  | [], k => k []
  | i :: l, k => match nth ops i with
    | some o => tailF ops l fun r => k (o :: r)
    | none => none

theorem tailF_ok {β : Type} {ops : List Oper} : ∀ (Tl : List Nat) (k : List Oper → Option β) (v : β), tailF ops Tl k = some v → ∃ tl, k tl = some v ∧ ∀ (r : Option Nat) (Q : Exit → Act → World → Prop) (a : Act) (w : World), wpListIn (fz r) 0 Tryz.prog ops.toArray Q tl a w → wpOpsIn (fz r) 0 Tryz.prog ops.toArray Q Tl a w
  | [], k, v, h => ⟨[], h, fun _ _ _ _ h => h⟩
  | i :: Tl, k, v, h => by
    unfold tailF at h
    split at h
    · rename_i o ho
      rw [nth_eq] at ho
      obtain ⟨tl, h1, h2⟩ := tailF_ok Tl _ v h
      refine ⟨o :: tl, h1, fun r Q a w hw => ?_⟩
      have ho' : ops.toArray[i]? = some o := by simpa using ho
      unfold wpListIn at hw
      simp only [wpOpsIn, ho']
      split
      · rename_i hwt
        rw [if_pos hwt] at hw
        exact Oper.wpIn_mono (fun a w h => h2 r Q a w h) hw
      · rename_i hwt
        rw [if_neg hwt] at hw
        exact ⟨hw.1, h2 _ _ _ _ hw.2⟩
    · cases h

/-- The end: what was set aside is there again. -/
theorem r_end {tl : List Oper} (t : Wl n C ops.toArray k Q tl E F (N ++ R)) (h : tailF ops Tl some = some tl := by rfl) : Wr n C ops k Q Tl Fs R [] E F N := by
  intro hp hr w st hz sb a w' ha hs
  obtain ⟨tl', h1, h2⟩ := tailF_ok Tl _ tl h
  obtain rfl := Option.some.inj h1
  refine h2 _ _ _ _ (t a w' ha ?_)
  obtain ⟨hp', hn, t'⟩ := hs
  obtain ⟨d1, d2⟩ := dj_un.1 t'.d3.symm
  obtain ⟨d3, d4⟩ := dj_un.1 t'.d2.symm
  have dd : Dj hn hr := d2.symm
  exact ⟨hp', un hn hr, t'.inp, In.un t'.inr (t'.ing.sub (sub_un_right st.d3.symm)), t'.ing.sub (sub_un_left _ _), (dj_un.2 ⟨t'.d1.symm, d4⟩).symm, d3.symm, dj_un.2 ⟨d1.symm, st.d3⟩, st.sub.trans t'.sub, t'.f,
    append_sep dd (sub_un_left _ _) (sub_un_right dd) t'.r st.r, t'.same⟩
end Go.Proofs.YtgaipgbgppdfeaaGreatDoor

namespace Go.Proofs.YtgaipgbgppdfeaaGreatDoor
open Go.RowKit

def less (G : H) (b : Nat) : H := fun c => if c = b then none else G c


variable {n : Nat} {C : Cx} {Q : Exit → Act → World → Prop} {E E' : List (Nat × Value)} {F F' F1 Fs : List Pf} {R R' R0 Rs N N' A : List HP} {k k' : List Fr} {ops l : List Oper} {L L' : List (Nat × Nat)} {Tl : List Nat}
  {i d : Nat} {t ty0 : TypeId} {x y : Operand} {pos : String} {aft : Array Edge} {gd : Option (Nat × Bool)} {b : Nat} {o : Obj}
end Go.Proofs.YtgaipgbgppdfeaaGreatDoor

namespace Go.Proofs.YtgaipgbgppdfeaaGreatDoor
open Go.RowKit

variable {n : Nat} {C : Cx} {Q : Exit → Act → World → Prop} {E E' : List (Nat × Value)} {F F' F1 Fs F0 : List Pf} {R R' R0 Rs N N' A : List HP} {k k' : List Fr} {ops l : List Oper} {L L' : List (Nat × Nat)} {Tl : List Nat}
  {i d : Nat} {t ty0 : TypeId} {x y : Operand} {pos : String} {aft : Array Edge} {gd : Option (Nat × Bool)} {b off : Nat} {cs : Array Value} {ty : TypeId} {fzn : Nat × Nat} {v : Value}

/-- Any operation that reads nothing, by its run. -/
theorem l_q {op : Op} (hq : ∀ a w, Agree n C.ds (look E) a → (execOp a.eval ⟨some d, op, ty0, pos, aft, gd⟩).run Tryz.prog w = .ok (.value v) w) (nx : Wl n C ops.toArray k Q l ((d, v) :: E) F R)
    (hdf : ∀ c, op ≠ .defer c := by intro c h; cases h) (hw : wantL ops E ⟨some d, op, ty0, pos, aft, gd⟩ = some true := by rfl) (hn : Nat.blt d n = true := by rfl) : Wl n C ops.toArray k Q (⟨some d, op, ty0, pos, aft, gd⟩ :: l) E F R :=
  wl_op (fun t ht => by cases ht; exact Nat.le_of_ble_eq_true hn) hdf hw fun a w ha hsat => by
    unfold OpRes
    rw [hq a w ha]
    exact fun a' ha' => nx a' w ha' hsat

/-- A resource is opened. -/
theorem k_open {X : Type} {r : HP} {Lx : X → List HP} {p : X → Prop} (hs : Sel r R R0) (h : ∀ hh, r hh → ∃ x, p x ∧ Sep (Lx x) hh) (t : ∀ x, p x → Wk n C k Q E F (Lx x ++ R0)) : Wk n C k Q E F R := fun a w ha hsat => by
  obtain ⟨hp, hr, st⟩ := hsat.sel hs
  obtain ⟨h1, h2, dd, s1, s2, hx, hR⟩ := st.r
  obtain ⟨x, hpx, hsx⟩ := h h1 hx
  exact t x hpx a w ha ⟨hp, hr, st.inp, st.inr, st.ing, st.d1, st.d2, st.d3, st.sub, st.f, append_sep dd s1 s2 hsx hR, st.same⟩
/-- Resources are shut into one. -/
theorem k_shut {r : HP} {Lx : List HP} (h : ∀ hh, Sep Lx hh → r hh) (t : Wk n C k Q E F (r :: R0)) (hs : Sels Lx R R0 := by (repeat (first | exact Sels.nil | exact Sel.here | apply Sel.there | apply Sels.cons)); first | done | fail) : Wk n C k Q E F R := fun a w ha hsat =>
  t a w ha ((hsat.sels hs).shut h)
theorem l_open {X : Type} {r : HP} {Lx : X → List HP} {p : X → Prop} (hs : Sel r R R0) (h : ∀ hh, r hh → ∃ x, p x ∧ Sep (Lx x) hh) (t : ∀ x, p x → Wl n C ops.toArray k Q l E F (Lx x ++ R0)) : Wl n C ops.toArray k Q l E F R := fun a w ha hsat => by
  obtain ⟨hp, hr, st⟩ := hsat.sel hs
  obtain ⟨h1, h2, dd, s1, s2, hx, hR⟩ := st.r
  obtain ⟨x, hpx, hsx⟩ := h h1 hx
  exact t x hpx a w ha ⟨hp, hr, st.inp, st.inr, st.ing, st.d1, st.d2, st.d3, st.sub, st.f, append_sep dd s1 s2 hsx hR, st.same⟩
theorem l_shut {r : HP} {Lx : List HP} (h : ∀ hh, Sep Lx hh → r hh) (t : Wl n C ops.toArray k Q l E F (r :: R0)) (hs : Sels Lx R R0 := by (repeat (first | exact Sels.nil | exact Sel.here | apply Sel.there | apply Sels.cons)); first | done | fail) : Wl n C ops.toArray k Q l E F R := fun a w ha hsat =>
  t a w ha ((hsat.sels hs).shut h)
/-- A fact is opened. -/
theorem k_fact {X : Type} {f : Pf} {Fx : X → List Pf} {p : X → Prop} (hs : Sel f F F0) (h : ∀ hp, f.p hp → ∃ x, p x ∧ ∀ g ∈ Fx x, g.p hp) (t : ∀ x, p x → Wk n C k Q E (Fx x ++ F) R) : Wk n C k Q E F R := fun a w ha hsat => by
  obtain ⟨hp, hr, st⟩ := hsat
  obtain ⟨x, hpx, hfx⟩ := h hp (st.f f hs.mem)
  refine t x hpx a w ha ⟨hp, hr, st.inp, st.inr, st.ing, st.d1, st.d2, st.d3, st.sub, fun g hg => ?_, st.r, st.same⟩
  rcases List.mem_append.1 hg with h | h
  · exact hfx g h
  · exact st.f g h
theorem l_fact {X : Type} {f : Pf} {Fx : X → List Pf} {p : X → Prop} (hs : Sel f F F0) (h : ∀ hp, f.p hp → ∃ x, p x ∧ ∀ g ∈ Fx x, g.p hp) (t : ∀ x, p x → Wl n C ops.toArray k Q l E (Fx x ++ F) R) : Wl n C ops.toArray k Q l E F R := fun a w ha hsat => by
  obtain ⟨hp, hr, st⟩ := hsat
  obtain ⟨x, hpx, hfx⟩ := h hp (st.f f hs.mem)
  refine t x hpx a w ha ⟨hp, hr, st.inp, st.inr, st.ing, st.d1, st.d2, st.d3, st.sub, fun g hg => ?_, st.r, st.same⟩
  rcases List.mem_append.1 hg with h | h
  · exact hfx g h
  · exact st.f g h

/-- A slice of m elements, of sz cells each, that is owned: xs are its cells. -/
def Row (T sz : Nat) (o : Option Addr) (m cap : Nat) (xs : List Value) : HP := fun h =>
  (o = none ∧ m = 0 ∧ cap = 0 ∧ xs = []) ∨
  ∃ b rest fz, o = some ⟨b, 0, none⟩ ∧ h b = some (.cells (xs ++ rest).toArray T fz) ∧ xs.length = m * sz ∧ (xs ++ rest).length = cap * sz ∧ m ≤ cap ∧ (fz = (0, 0) ∨ (xs ++ rest).length ≤ fz.1)

theorem row_nil (T sz : Nat) (h : H) : Row T sz none 0 0 [] h := .inl ⟨rfl, rfl, rfl, rfl⟩

/-- What a slice or a text holds that is appended: m elements, the cells ys. -/
def Src (F : List Pf) (R : List HP) (sz : Nat) (v : Value) (m : Nat) (ys : List Value) : Prop :=
  (Builtin.lenOf v = pure m) ∧ ∀ G w0 hp0 w, Sat G w0 hp0 F R w → (Builtin.firstCells sz m v).run Tryz.prog w = .ok ys.toArray w

theorem src_pt {sz m c : Nat} {ys : List Value} (hs : Sel (Pt b (.cells cs ty fzn)) R R0) (hy : (cs.toList.drop off).take (m * sz) = ys) (hle : off + m * sz ≤ cs.size) : Src F R sz (.slice (some ⟨b, off, none⟩) m c) m ys :=
  ⟨rfl, fun G w0 hp0 w hsat => by
    have h := hsat.pt hs
    show (loadCells ⟨b, off, none⟩ (m * sz)).run Tryz.prog w = _
    unfold loadCells
    rw [run_loadCells h off (m * sz) 0 #[] (by omega)]
    simp [← hy]⟩
theorem src_str (s : ByteArray) : Src F R 1 (.string s) s.size (s.data.toList.map fun b => .int .u8 b.toNat) :=
  ⟨rfl, fun G w0 hp0 w _ => by
    show (pure _ : Sem (Array Value)).run Tryz.prog w = _
    rw [Sem.run_pure]
    congr 1
    rw [← Array.toList_inj]
    simp⟩

theorem src_row {T sz m cap : Nat} {o : Option Addr} {xs : List Value} (hs : Sel (Row T sz o m cap xs) R R0) : Src F R sz (.slice o m cap) m xs :=
  ⟨rfl, fun G w0 hp0 w hsat => by
    obtain ⟨hp, hr, st⟩ := hsat.sel hs
    obtain ⟨h1, h2, dj, s1, s2, hrow, hR⟩ := st.r
    rcases hrow with ⟨rfl, rfl, rfl, rfl⟩ | ⟨bb, rest, fz, rfl, hb, hxl, hcl, hmc, hfz⟩
    · rfl
    · have h := st.inr _ _ (s1 _ _ hb)
      show (loadCells ⟨bb, 0, none⟩ (m * sz)).run Tryz.prog w = _
      unfold loadCells
      have hmul : m * sz ≤ cap * sz := Nat.mul_le_mul_right _ hmc
      rw [run_loadCells h 0 (m * sz) 0 #[] (by simp at hcl ⊢; omega)]
      simp [← hxl]⟩

theorem row_len {T sz m cap : Nat} {o : Option Addr} {xs : List Value} {G : H} {w0 w : World} {hp0 : H} (hs : Sel (Row T sz o m cap xs) R R0) (hsat : Sat G w0 hp0 F R w) : xs.length = m * sz := by
  obtain ⟨hp, hr, st⟩ := hsat.sel hs
  obtain ⟨h1, h2, dj, s1, s2, hrow, hR⟩ := st.r
  rcases hrow with ⟨rfl, rfl, rfl, rfl⟩ | ⟨bb, rest, fz, rfl, hb, hxl, hcl, hmc, hfz⟩
  · simp
  · exact hxl

/-- Bytes as cells. -/
def byt (l : List UInt8) : List Value := l.map fun b => .int .u8 b.toNat
theorem byt_append (a b : List UInt8) : byt (a ++ b) = byt a ++ byt b := by simp [byt]
theorem one1_byt (l : List UInt8) : (byt l).all one1 = true := by simp [byt, one1]
theorem byt_len (l : List UInt8) : (byt l).length = l.length := by simp [byt]

theorem row_zero {T sz b : Nat} (h : H) (hb : Sep [Pt b (.cells #[] T)] h) : Row T sz (some ⟨b, 0, none⟩) 0 0 [] h := by
  obtain ⟨h1, _, _, s1, _, hx, _⟩ := hb
  exact .inr ⟨b, [], (0, 0), rfl, s1 _ _ hx, by simp, by simp, Nat.le_refl _, .inl rfl⟩

theorem nextcap_le (need cap : Nat) (h : cap < need) : Builtin.nextslicecap need cap ≤ 2 * need + 200 := by
  unfold Builtin.nextslicecap
  split
  · omega
  · split
    · omega
    · have gb : ∀ r c, c ≤ 2 * need + 200 → Builtin.growBy need r c ≤ 2 * need + 200 := by
        intro r
        induction r with
        | zero => intro c hc; exact hc
        | succ r ih =>
          intro c hc
          unfold Builtin.growBy
          split
          · exact hc
          · rename_i hlt
            exact ih _ (by omega)
      exact gb 4 cap (by omega)

theorem fzOK_frozen {w : World} {cs : List Value} {fz : Nat × Nat} (h : w.heap[b]? = some (.cells cs.toArray ty fz)) (hf : fz = (0, 0) ∨ cs.length ≤ fz.1) (o : Nat) (ho : o < cs.length) : w.frozen? ⟨b, o, none⟩ = false := by
  unfold World.frozen?
  rw [h]
  rcases hf with rfl | hf
  · simp
  · obtain ⟨lo, hi⟩ := fz
    simp at hf ⊢; omega

/-- Stores of several cells, whatever the mark beyond the end. -/
theorem run_storeCells' {P : Program} {b : Nat} {ty : TypeId} {fz : Nat × Nat} (off : Nat) : ∀ (vs : List Value) (i : Nat) (w : World) (cs : List Value), w.heap[b]? = some (.cells cs.toArray ty fz) → (fz = (0, 0) ∨ cs.length ≤ fz.1) → vs.all one1 = true → off + i + vs.length ≤ cs.length →
    ∃ w', (storeCells ⟨b, off, none⟩ vs i).run P w = .ok () w' ∧ w'.heap[b]? = some (.cells (cs.take (off + i) ++ vs ++ cs.drop (off + i + vs.length)).toArray ty fz) ∧ Same w w' ∧ ∀ c, c ≠ b → w'.heap[c]? = w.heap[c]?
  | [], i, w, cs, h, _, _, _ => ⟨w, rfl, by simpa using h, Same.refl _, fun _ _ => rfl⟩
  | v :: vs, i, w, cs, h, hf, hv, hle => by
    simp only [List.all_cons, Bool.and_eq_true] at hv
    simp only [List.length_cons] at hle
    have h0 : (Addr.add ⟨b, off, none⟩ i) = ⟨b, off + i, none⟩ := by
      unfold Addr.add
      split
      · rename_i h0; subst h0; rfl
      · rfl
    have hcell : w.cell? ⟨b, off + i, none⟩ = some (cs[off + i]'(by omega)) := by
      unfold World.cell?
      rw [h]; simp
    have hfz := fzOK_frozen h hf (off + i) (by omega)
    have hst : (store (Addr.add ⟨b, off, none⟩ i) v).run P w = .ok () (w.setCell ⟨b, off + i, none⟩ v) := by
      rw [h0]
      unfold store
      cases v <;> first | (simp [one1] at hv; done) | (simp only [Sem.run, hcell, hfz]; rfl)
    have hb' : (w.setCell ⟨b, off + i, none⟩ v).heap[b]? = some (.cells (cs.set (off + i) v).toArray ty fz) := by
      simp only [World.setCell, Array.getElem?_modify, if_true, h]
      simp
    have hne : ∀ c, c ≠ b → (w.setCell ⟨b, off + i, none⟩ v).heap[c]? = w.heap[c]? := fun c hc => Below.heap_setCell w _ v c hc
    obtain ⟨w', h1, h2, h3, h4⟩ := run_storeCells' (P := P) off vs (i + 1) _ (cs.set (off + i) v) hb' (by simpa using hf) hv.2 (by simp; omega)
    refine ⟨w', ?_, ?_, (⟨rfl, rfl, rfl, by simp [World.setCell]⟩ : Same w (w.setCell _ v)).trans h3, fun c hc => (h4 c hc).trans (hne c hc)⟩
    · unfold storeCells
      simp only [Sem.run_bind, hst, Result.andThen]
      exact h1
    · rw [h2]
      congr 3
      have e1 : (cs.set (off + i) v).take (off + (i + 1)) = cs.take (off + i) ++ [v] := by
        rw [show off + (i + 1) = off + i + 1 by omega, List.take_succ_eq_append_getElem (by simp; omega)]
        simp [List.take_set_of_le]
      have e2 : (cs.set (off + i) v).drop (off + (i + 1) + vs.length) = cs.drop (off + i + (v :: vs).length) := by
        rw [List.drop_set_of_lt (by omega)]
        congr 1; simp; omega
      rw [e1, e2]
      simp

theorem zeroCells_len (z : Array Value) (m : Nat) : (Builtin.zeroCells z m).size = m * z.size := by simp [Builtin.zeroCells]

/-- append, as the model runs it: some row with the new cells behind the old. -/
theorem append_ok {T sz bytes : Nat} {o : Option Addr} {m cap m2 : Nat} {xs ys : List Value} {sv : Value} {ts tx : TypeId} {G : H} {w0 w : World} {hp0 : H} {rs tr rx : TRow}
    (hts : lookT tab ts = some rs) (hrs : rs.k = .slice T) (hT : lookT tab T = some tr) (hsz : tr.size = sz) (hby : tr.bytes = bytes) (htx : lookT tab tx = some rx) (hnx : rx.k = .slice T ∨ rx.k = .str)
    (hsrc : Src F R sz sv m2 ys) (hys : ys.length = m2 * sz) (hone : ys.all one1 = true) (hroom : (2 * (m + m2) + 200) * bytes ≤ 281474976710656) (hsel : Sel (Row T sz o m cap xs) R R0) (hsat : Sat G w0 hp0 F R w) (hb0 : bytes ≠ 0) :
    ∃ o' cap' w', (Builtin.append_ #[ts, tx] ty0 #[.slice o m cap, sv]).run Tryz.prog w = .ok (.slice o' (m + m2) cap') w' ∧ Sat G w0 hp0 F (Row T sz o' (m + m2) cap' (xs ++ ys) :: R0) w' := by
  obtain ⟨d1, hd1, hk1⟩ := tab_ok.und hts
  rw [hrs] at hk1
  obtain ⟨dx, hdx, hkx⟩ := tab_ok.und htx
  have hu1 : (underlying ts).run Tryz.prog w = .ok (.slice T) w := by
    cases d1 <;> simp [chkKind] at hk1
    subst hk1
    simp [underlying, hd1, go_sem]
  have hux : (underlying tx).run Tryz.prog w = .ok (.slice T) w ∨ (underlying tx).run Tryz.prog w = .ok .string w := by
    rcases hnx with h | h <;> rw [h] at hkx <;> cases dx <;> simp [chkKind] at hkx
    · subst hkx; left; simp [underlying, hdx, go_sem]
    · right; simp [underlying, hdx, go_sem]
  have hs1 := tab_ok.sizeOf hT w
  rw [hsz] at hs1
  obtain ⟨ti, _, tz, hti, _, htsz, htby, _, htz, htzc, htzl⟩ := tab_ok.row hT
  have htI : (typeInfo T).run Tryz.prog w = .ok ti w := by simp [typeInfo, hti, go_sem]
  obtain ⟨hlen, hfirst⟩ := hsrc
  have hf1 := hfirst G w0 hp0 w hsat
  -- the row
  have hsat2 := hsat.sel hsel
  obtain ⟨hp, hr, st⟩ := hsat2
  obtain ⟨h1, h2, dj, s1, s2, hrow, hR⟩ := st.r
  have hcase : ∀ bb rest fz, o = some ⟨bb, 0, none⟩ → h1 bb = some (.cells (xs ++ rest).toArray T fz) → w.heap[bb]? = some (.cells (xs ++ rest).toArray T fz) ∧ Sat G w0 hp0 F (Pt bb (.cells (xs ++ rest).toArray T fz) :: R0) w := fun bb rest fz _ hb =>
    ⟨st.inr _ _ (s1 _ _ hb), hp, hr, st.inp, st.inr, st.ing, st.d1, st.d2, st.d3, st.sub, st.f, ⟨h1, h2, dj, s1, s2, hb, hR⟩, st.same⟩
  have hsatR : Sat G w0 hp0 F R0 w := ⟨hp, hr, st.inp, st.inr, st.ing, st.d1, st.d2, st.d3, st.sub, st.f, hR.sub s2, st.same⟩
  unfold Builtin.append_
  rcases hux with hux | hux
  all_goals
    simp only [List.getElem?_toArray, List.getElem?_cons_zero, List.getElem?_cons_succ, Sem.run_bind, hu1, Result.andThen, hs1, hux, hlen, Sem.run_pure, Bool.false_eq_true, if_false, Bool.not_false, if_true]
    by_cases hc : m + m2 ≤ cap
    · rw [if_pos hc]
      simp only [Sem.run_bind, hf1, Result.andThen]
      rcases hrow with ⟨rfl, rfl, rfl, rfl⟩ | ⟨bb, rest, fz, rfl, hb, hxl, hcl, hmc, hfz⟩
      · obtain rfl : m2 = 0 := by omega
        have : ys = [] := by simpa using hys
        subst this
        refine ⟨none, 0, w, rfl, (hsatR.shut (L := []) (x := Row T sz none (0 + 0) 0 ([] ++ [])) fun k _ => row_nil T sz k)⟩
      · obtain ⟨hwb, hsb⟩ := hcase bb rest fz rfl hb
        have hadd : (Addr.add ⟨bb, 0, none⟩ (m * sz)) = ⟨bb, m * sz, none⟩ := by
          unfold Addr.add
          split
          · rename_i h0; rw [h0]
          · simp
        have hmul : (m + m2) * sz ≤ cap * sz := Nat.mul_le_mul_right _ hc
        rw [Nat.add_mul] at hmul
        obtain ⟨w', g1, g2, g3, g4⟩ := run_storeCells' (P := Tryz.prog) (m * sz) ys 0 w (xs ++ rest) hwb hfz hone (by rw [hcl, hys]; omega)
        simp only [hadd, Sem.run_bind, g1, Result.andThen, Sem.run_pure]
        have e1 : (xs ++ rest).take (m * sz + 0) = xs := by rw [Nat.add_zero, ← hxl]; simp
        have e2 : (xs ++ rest).drop (m * sz + 0 + ys.length) = rest.drop ys.length := by rw [Nat.add_zero, ← hxl]; simp
        rw [e1, e2] at g2
        refine ⟨some ⟨bb, 0, none⟩, cap, w', rfl, ?_⟩
        have hs3 := hsb.write g3 g2 fun c hc _ => g4 c hc
        refine hs3.shut (L := [Pt bb _]) fun kk hk => ?_
        obtain ⟨k1, _, _, t1, _, hk1, _⟩ := hk
        have hlr : (rest.drop ys.length).length = rest.length - ys.length := by simp
        have hrl : xs.length + rest.length = cap * sz := by simpa using hcl
        refine .inr ⟨bb, rest.drop ys.length, fz, rfl, t1 _ _ hk1, by simp [hxl, hys, Nat.add_mul], ?_, hc, ?_⟩
        · simp; omega
        · rcases hfz with h | h
          · exact .inl h
          · right; simp at h ⊢; omega
    · rw [if_neg hc]
      have hbp : bytes ≠ 0 := hb0
      have hcl : cap < m + m2 := by omega
      have hnc := nextcap_le (m + m2) cap hcl
      have hbig : ¬ Builtin.nextslicecap (m + m2) cap * ti.bytes > 2 ^ 48 := by
        rw [htby, hby]
        have := Nat.mul_le_mul_right bytes hnc
        omega
      simp only [Sem.run_bind, htI, Result.andThen, false_or]
      rw [if_neg (by rw [htby, hby]; exact fun h => hbp h.2)]
      simp only [Sem.run_bind, htI, Result.andThen]
      rw [if_neg hbig]
      obtain ⟨nc, hnc1, hnc2⟩ : ∃ nc, (choose (.appendCap (m + m2) cap T)).run Tryz.prog w = .ok nc { w with drawn := w.drawn + 1 } ∧ m + m2 ≤ nc := ⟨_, rfl, by simp [Question.cut]⟩
      have hx : Ext w { w with drawn := w.drawn + 1 } := (Below.refl _ w).drew
      have hask : ∀ q w, (askRoom q).run Tryz.prog w = .ok () w := fun q w => by unfold askRoom; split <;> rfl
      have htI2 : ∀ w, (typeInfo T).run Tryz.prog w = .ok ti w := fun w => by simp [typeInfo, hti, go_sem]
      have hz2 : ∀ w, (zeroValue T).run Tryz.prog w = .ok tz w := fun w => by simp [zeroValue, typeInfo, hti, htz, go_sem]
      have hf2 := hfirst G w0 hp0 _ (hsat.ext hx)
      have hold : (Builtin.firstCells sz m (.slice o m cap)).run Tryz.prog { w with drawn := w.drawn + 1 } = .ok xs.toArray { w with drawn := w.drawn + 1 } := by
        rcases hrow with ⟨rfl, rfl, rfl, rfl⟩ | ⟨bb, rest, fz, rfl, hb, hxl, hcl, hmc, hfz⟩
        · rfl
        · obtain ⟨hwb, _⟩ := hcase bb rest fz rfl hb
          show (loadCells ⟨bb, 0, none⟩ (m * sz)).run Tryz.prog _ = _
          unfold loadCells
          have hmul : m * sz ≤ cap * sz := Nat.mul_le_mul_right _ hmc
          rw [run_loadCells (ext_blk hx hwb) 0 (m * sz) 0 #[] (by simp at hcl ⊢; omega)]
          simp [← hxl]
      simp only [Sem.run_bind, hnc1, Result.andThen, htI2, hask, hold, hf2, hz2, run_newRow, Sem.run_pure]
      refine ⟨_, _, _, rfl, ?_⟩
      have hs3 := ((hsatR.ext hx).alloc (.cells (xs.toArray ++ ys.toArray ++ Builtin.zeroCells tz.cells (nc - (m + m2))) T))
      refine hs3.shut (L := [Pt _ _]) fun kk hk => ?_
      obtain ⟨k1, _, _, t1, _, hk1, _⟩ := hk
      have hzl : tz.cells.size = sz := by rw [← hsz, ← htzl, ← htzc]; simp
      have hxl : xs.length = m * sz := by
        rcases hrow with ⟨rfl, rfl, rfl, rfl⟩ | ⟨_, _, _, _, _, h, _⟩
        · simp
        · exact h
      refine .inr ⟨_, (Builtin.zeroCells tz.cells (nc - (m + m2))).toList, (0, 0), rfl, ?_, by simp [hxl, hys, Nat.add_mul], ?_, hnc2, .inl rfl⟩
      · have hk2 := t1 _ _ hk1
        rw [hk2]
        have he : xs.toArray ++ ys.toArray ++ Builtin.zeroCells tz.cells (nc - (m + m2)) = (xs ++ ys ++ (Builtin.zeroCells tz.cells (nc - (m + m2))).toList).toArray := by
          rw [← Array.toList_inj]; simp
        rw [he]
      · simp only [List.length_append, hxl, hys, Array.length_toList, zeroCells_len, hzl]
        rw [← Nat.add_mul, ← Nat.add_mul, show m + m2 + (nc - (m + m2)) = nc by omega]

theorem app_res {T sz bytes : Nat} {o : Option Addr} {m cap m2 : Nat} {xs ys : List Value} {sv : Value} {ts tx : TypeId} {G : H} {w0 w : World} {hp0 : H} {rs tr rx : TRow} {dst : Option Nat} {a : Act} {ds : List Deferred}
    (ha : Agree n ds (look E) a) (hx : ev E x = some (.slice o m cap)) (hy : ev E y = some sv)
    (hts : lookT tab ts = some rs) (hrs : rs.k = .slice T) (hT : lookT tab T = some tr) (hsz : tr.size = sz) (hby : tr.bytes = bytes) (htx : lookT tab tx = some rx) (hnx : rx.k = .slice T ∨ rx.k = .str)
    (hsrc : Src F R sz sv m2 ys) (hys : ys.length = m2 * sz) (hone : ys.all one1 = true) (hroom : (2 * (m + m2) + 200) * bytes ≤ 281474976710656) (hsel : Sel (Row T sz o m cap xs) R R0) (hsat : Sat G w0 hp0 F R w) (hb0 : bytes ≠ 0) :
    OpRes Tryz.prog (execOp a.eval ⟨dst, .call ⟨.builtin .append, #[x, y], #[ts, tx]⟩, ty0, pos, aft, gd⟩) w fun v w' => ∃ o' cap', v = .slice o' (m + m2) cap' ∧ Sat G w0 hp0 F (Row T sz o' (m + m2) cap' (xs ++ ys) :: R0) w' := by
  obtain ⟨o', cap', w', h1, h2⟩ := append_ok (ty0 := ty0) hts hrs hT hsz hby htx hnx hsrc hys hone hroom hsel hsat hb0
  unfold OpRes
  have e1 := ha.ev (x := x) (by rw [evf_look]; exact hx)
  have e2 := ha.ev (x := y) (by rw [evf_look]; exact hy)
  simp only [execOp, resolve, Sem.run_bind, Sem.run_pure, Result.andThen, invoke, builtin, List.map_toArray, List.map_cons, List.map_nil, e1, e2, h1]
  exact ⟨o', cap', rfl, h2⟩

/-- append of elements that were written out. -/
theorem l_app1 {T sz bytes : Nat} {o : Option Addr} {m cap m2 c : Nat} {xs : List Value} {ts tx : TypeId} {rs tr rx : TRow} {R1 : List HP}
    (nx : ∀ o' cap', Wl n C ops.toArray k Q l ((d, .slice o' (m + m2) cap') :: E) F (Row T sz o' (m + m2) cap' (xs ++ cs.toList) :: R0))
    (hw : wantL ops E ⟨some d, .call ⟨.builtin .append, #[x, y], #[ts, tx]⟩, ty0, pos, aft, gd⟩ = some true := by rfl) (hn : Nat.blt d n = true := by rfl) (hx : ev E x = some (.slice o m cap) := by rfl) (hy : ev E y = some (.slice (some ⟨b, 0, none⟩) m2 c) := by rfl)
    (hts : lookT tab ts = some rs := by rfl) (hrs : rs.k = .slice T := by rfl) (hT : lookT tab T = some tr := by rfl) (hsz : tr.size = sz := by rfl) (hby : tr.bytes = bytes := by rfl) (htx : lookT tab tx = some rx := by rfl) (hnx : rx.k = .slice T := by rfl)
    (hs : Sel (Pt b (.cells cs ty fzn)) R R1 := by (repeat (first | exact Sel.here | apply Sel.there)); first | done | fail) (hrow : Sel (Row T sz o m cap xs) R R0 := by (repeat (first | exact Sel.here | apply Sel.there)); first | done | fail)
    (hys : cs.toList.length = m2 * sz := by rfl) (hone : cs.toList.all one1 = true := by rfl) (hb0 : bytes ≠ 0 := by decide) (hroom : (2 * (m + m2) + 200) * bytes ≤ 281474976710656 := by simp <;> omega) : Wl n C ops.toArray k Q (⟨some d, .call ⟨.builtin .append, #[x, y], #[ts, tx]⟩, ty0, pos, aft, gd⟩ :: l) E F R :=
  wl_op (fun t ht => by cases ht; exact Nat.le_of_ble_eq_true hn) (fun c hc => by cases hc) hw fun a w ha hsat =>
    (app_res ha hx hy hts hrs hT hsz hby htx (.inl hnx) (src_pt (F := F) hs (by rw [← hys, List.drop_zero, List.take_length]) (by simp at hys; omega)) hys hone hroom hrow hsat hb0).mono fun v w' ⟨o', cap', hv, hs'⟩ a' ha' => by
      subst hv; exact nx o' cap' a' w' ha' hs'
theorem r_app1 {T sz bytes : Nat} {o : Option Addr} {m cap m2 c : Nat} {xs : List Value} {ts tx : TypeId} {rs tr rx : TRow} {R1 : List HP}
    (nx : ∀ o' cap', Wr n C ops k Q Tl Fs R L ((d, .slice o' (m + m2) cap') :: E) F (Row T sz o' (m + m2) cap' (xs ++ cs.toList) :: N'))
    (ho : nth ops i = some ⟨some d, .call ⟨.builtin .append, #[x, y], #[ts, tx]⟩, ty0, pos, aft, gd⟩ := by rfl) (hw : wantL ops E ⟨some d, .call ⟨.builtin .append, #[x, y], #[ts, tx]⟩, ty0, pos, aft, gd⟩ = some true := by rfl) (hx : ev E x = some (.slice o m cap) := by rfl) (hy : ev E y = some (.slice (some ⟨b, 0, none⟩) m2 c) := by rfl)
    (hts : lookT tab ts = some rs := by rfl) (hrs : rs.k = .slice T := by rfl) (hT : lookT tab T = some tr := by rfl) (hsz : tr.size = sz := by rfl) (hby : tr.bytes = bytes := by rfl) (htx : lookT tab tx = some rx := by rfl) (hnx : rx.k = .slice T := by rfl)
    (hs : Sel (Pt b (.cells cs ty fzn)) N R1 := by (repeat (first | exact Sel.here | apply Sel.there)); first | done | fail) (hrow : Sel (Row T sz o m cap xs) N N' := by (repeat (first | exact Sel.here | apply Sel.there)); first | done | fail)
    (hys : cs.toList.length = m2 * sz := by rfl) (hone : cs.toList.all one1 = true := by rfl) (hb0 : bytes ≠ 0 := by decide) (hroom : (2 * (m + m2) + 200) * bytes ≤ 281474976710656 := by simp <;> omega) : Wr n C ops k Q Tl Fs R ((i, 4) :: L) E F N :=
  wr_go ho fun hp hr w st hz sb => by
    simp only [wantL_ok hw]
    refine ⟨⟨Option Addr × Nat, fun q => .slice q.1 (m + m2) q.2, fun _ => True, fun _ => F, fun q => Row T sz q.1 (m + m2) q.2 (xs ++ cs.toList) :: N'⟩, fun a G w hp' ha hsub hsat => ?_, fun q _ => nx q.1 q.2 hp hr w st hz sb⟩
    exact (app_res ha hx hy hts hrs hT hsz hby htx (.inl hnx) (src_pt (F := F) hs (by rw [← hys, List.drop_zero, List.take_length]) (by simp at hys; omega)) hys hone hroom hrow hsat hb0).mono fun v w' ⟨o', cap', hv, hs'⟩ => ⟨(o', cap'), hv, trivial, hs'⟩

/-- append of a row to a row. -/
theorem l_appR {T sz bytes : Nat} {o o2 : Option Addr} {m cap m2 c : Nat} {xs ys : List Value} {ts tx : TypeId} {rs tr rx : TRow} {R1 : List HP}
    (nx : ∀ o' cap', Wl n C ops.toArray k Q l ((d, .slice o' (m + m2) cap') :: E) F (Row T sz o' (m + m2) cap' (xs ++ ys) :: R0))
    (hw : wantL ops E ⟨some d, .call ⟨.builtin .append, #[x, y], #[ts, tx]⟩, ty0, pos, aft, gd⟩ = some true := by rfl) (hn : Nat.blt d n = true := by rfl) (hx : ev E x = some (.slice o m cap) := by rfl) (hy : ev E y = some (.slice o2 m2 c) := by rfl)
    (hts : lookT tab ts = some rs := by rfl) (hrs : rs.k = .slice T := by rfl) (hT : lookT tab T = some tr := by rfl) (hsz : tr.size = sz := by rfl) (hby : tr.bytes = bytes := by rfl) (htx : lookT tab tx = some rx := by rfl) (hnx : rx.k = .slice T := by rfl)
    (hs : Sel (Row T sz o2 m2 c ys) R R1 := by (repeat (first | exact Sel.here | apply Sel.there)); first | done | fail) (hrow : Sel (Row T sz o m cap xs) R R0 := by (repeat (first | exact Sel.here | apply Sel.there)); first | done | fail)
    (hone : ys.all one1 = true := by first | rfl | exact one1_byt _) (hb0 : bytes ≠ 0 := by decide) (hroom : (2 * (m + m2) + 200) * bytes ≤ 281474976710656 := by simp <;> omega) : Wl n C ops.toArray k Q (⟨some d, .call ⟨.builtin .append, #[x, y], #[ts, tx]⟩, ty0, pos, aft, gd⟩ :: l) E F R :=
  wl_op (fun t ht => by cases ht; exact Nat.le_of_ble_eq_true hn) (fun c hc => by cases hc) hw fun a w ha hsat =>
    (app_res ha hx hy hts hrs hT hsz hby htx (.inl hnx) (src_row (F := F) hs) (row_len hs hsat) hone hroom hrow hsat hb0).mono fun v w' ⟨o', cap', hv, hs'⟩ a' ha' => by
      subst hv; exact nx o' cap' a' w' ha' hs'

/-- append of a text to bytes. -/
theorem l_appS {T bytes : Nat} {o : Option Addr} {m cap : Nat} {s : ByteArray} {xs : List Value} {ts tx : TypeId} {rs tr rx : TRow}
    (nx : ∀ o' cap', Wl n C ops.toArray k Q l ((d, .slice o' (m + s.size) cap') :: E) F (Row T 1 o' (m + s.size) cap' (xs ++ s.data.toList.map fun b => .int .u8 b.toNat) :: R0))
    (hw : wantL ops E ⟨some d, .call ⟨.builtin .append, #[x, y], #[ts, tx]⟩, ty0, pos, aft, gd⟩ = some true := by rfl) (hn : Nat.blt d n = true := by rfl) (hx : ev E x = some (.slice o m cap) := by rfl) (hy : ev E y = some (.string s) := by rfl)
    (hts : lookT tab ts = some rs := by rfl) (hrs : rs.k = .slice T := by rfl) (hT : lookT tab T = some tr := by rfl) (hsz : tr.size = 1 := by rfl) (hby : tr.bytes = bytes := by rfl) (htx : lookT tab tx = some rx := by rfl) (hnx : rx.k = .str := by rfl)
    (hrow : Sel (Row T 1 o m cap xs) R R0 := by (repeat (first | exact Sel.here | apply Sel.there)); first | done | fail) (hb0 : bytes ≠ 0 := by decide) (hroom : (2 * (m + s.size) + 200) * bytes ≤ 281474976710656 := by simp <;> omega) : Wl n C ops.toArray k Q (⟨some d, .call ⟨.builtin .append, #[x, y], #[ts, tx]⟩, ty0, pos, aft, gd⟩ :: l) E F R :=
  wl_op (fun t ht => by cases ht; exact Nat.le_of_ble_eq_true hn) (fun c hc => by cases hc) hw fun a w ha hsat =>
    (app_res ha hx hy hts hrs hT hsz hby htx (.inr hnx) (src_str s) (by simp) (by rw [List.all_map]; exact List.all_eq_true.2 fun _ _ => rfl) hroom hrow hsat hb0).mono fun v w' ⟨o', cap', hv, hs'⟩ a' ha' => by
      subst hv; exact nx o' cap' a' w' ha' hs'
end Go.Proofs.YtgaipgbgppdfeaaGreatDoor

namespace Go.Proofs.YtgaipgbgppdfeaaGreatDoor
open Go.RowKit

variable {n : Nat} {C : Cx} {Q : Exit → Act → World → Prop} {E E' : List (Nat × Value)} {F F' F1 Fs F0 : List Pf} {R R' R0 : List HP} {k k' k1 k2 : List Fr} {ops l : List Oper}

theorem k_lp {X : Type} {c : Code} (iE : X → List (Nat × Value)) (iF : X → List Pf) (iR : X → List HP) (μ : X → Nat) (x0 : X) (he : EntE E (iE x0))
    (t : ∀ x, Wk n C [.c c] (LQ n C k' Q iE iF iR μ x) (iE x) (iF x) (iR x)) (h : nf 1000 k = .c (.loop c) :: k' := by rfl)
    (hf : EntF F (iF x0) := by (repeat (first | exact trivial | exact Sel.here | apply Sel.there | apply EntF.cons)); first | done | fail) (hr : Sels (iR x0) R R0 := by (repeat (first | exact Sels.nil | exact Sel.here | apply Sel.there | apply Sels.cons)); first | done | fail) : Wk n C k Q E F R :=
  k_loop iE iF iR μ x0 h he hf hr t

variable {X : Type} {iE : X → List (Nat × Value)} {iF : X → List Pf} {iR : X → List HP} {μ : X → Nat} {x : X}

/-- The round's end. -/
theorem k_next (y : X) (hμ : μ y < μ x) (he : EntE E (iE y)) (h : nf 1000 k = [] := by rfl)
    (hf : EntF F (iF y) := by (repeat (first | exact trivial | exact Sel.here | apply Sel.there | apply EntF.cons)); first | done | fail) (hr : Sels (iR y) R R0 := by (repeat (first | exact Sels.nil | exact Sel.here | apply Sel.there | apply Sels.cons)); first | done | fail) :
    Wk n C k (LQ n C k' Q iE iF iR μ x) E F R := fun a w ha hs => nf_ok 1000 k (by
    rw [h]
    exact ⟨y, hμ, ha.weaken he, ((hs.sels hr).facts (F' := iF y) hf.all).res fun _ h => sep_left h⟩)

/-- The loop is left. -/
theorem after_exit {r : Option Nat} {a : Act} {w : World} {id : Nat} : ∀ {k : List Fr}, noR k = true → pop id k = none → Q (.exit id) a w → after r k Q (.exit id) a w
  | [], _, _, h => h
  | .c _ :: k, hn, hp, h => after_exit (k := k) hn hp h
  | .b j :: k, hn, hp, h => by
    unfold pop at hp
    split at hp
    · cases hp
    · rename_i hb
      have hne : id ≠ j := Nat.ne_of_beq_eq_false hb
      simp only [after, if_neg hne]
      exact after_exit (k := k) hn hp h

theorem k_brk {id : Nat} (t : Wk n C k2 Q E F R) (h : nf 1000 k = .c (.exit id) :: k1 := by rfl) (hp : pop id k1 = none := by rfl) (hp2 : pop id k' = some k2 := by rfl) (hn : noR k1 = true := by rfl) : Wk n C k (LQ n C k' Q iE iF iR μ x) E F R := fun a w ha hs => nf_ok 1000 k (by
    rw [h]
    exact wpIn_exit (after_exit hn hp (pop_ok hp2 (t a w ha hs))))

/-- A loop, with what holds where it is left. -/
theorem k_lpx {X Y : Type} {c : Code} {id : Nat} (iE : X → List (Nat × Value)) (iF : X → List Pf) (iR : X → List HP) (μ : X → Nat) (xE : Y → List (Nat × Value)) (xF : Y → List Pf) (xR : Y → List HP) (x0 : X) (he : EntE E (iE x0))
    (t2 : ∀ y, Wk n C k2 Q (xE y) (xF y) (xR y)) (t : (∀ y, Wk n C k2 Q (xE y) (xF y) (xR y)) → ∀ x, Wk n C [.c c] (LQ n C (.b id :: k2) Q iE iF iR μ x) (iE x) (iF x) (iR x)) (h : nf 1000 k = .c (.loop c) :: .b id :: k2 := by rfl)
    (hf : EntF F (iF x0) := by (repeat (first | exact trivial | exact Sel.here | apply Sel.there | apply EntF.cons)); first | done | fail) (hr : Sels (iR x0) R R0 := by (repeat (first | exact Sels.nil | exact Sel.here | apply Sel.there | apply Sels.cons)); first | done | fail) : Wk n C k Q E F R :=
  k_loop iE iF iR μ x0 h he hf hr (t t2)
/-- The loop is left there. -/
theorem k_out {Y : Type} {id : Nat} {xE : Y → List (Nat × Value)} {xF : Y → List Pf} {xR : Y → List HP} (hx : ∀ y, Wk n C k2 Q (xE y) (xF y) (xR y)) (y : Y) (he : EntE E (xE y)) (h : nf 1000 k = .c (.exit id) :: k1 := by rfl) (hp : pop id k1 = none := by rfl) (hn : noR k1 = true := by rfl)
    (hf : EntF F (xF y) := by (repeat (first | exact trivial | exact Sel.here | apply Sel.there | apply EntF.cons)); first | done | fail) (hr : Sels (xR y) R R0 := by (repeat (first | exact Sels.nil | exact Sel.here | apply Sel.there | apply Sels.cons)); first | done | fail) :
    Wk n C k (LQ n C (.b id :: k2) Q iE iF iR μ x) E F R :=
  k_brk (k_drop he hf hr (hx y)) h hp (by simp [pop]) hn
end Go.Proofs.YtgaipgbgppdfeaaGreatDoor

namespace Go.Proofs.YtgaipgbgppdfeaaGreatDoor
open Go.RowKit

variable {n : Nat} {C : Cx} {Q : Exit → Act → World → Prop} {E E' : List (Nat × Value)} {F F' F1 Fs F0 : List Pf} {R R' R0 Rs N N' A : List HP} {k k' : List Fr} {ops l : List Oper} {L L' : List (Nat × Nat)} {Tl : List Nat}
  {i d : Nat} {t ty0 : TypeId} {x y : Operand} {pos : String} {aft : Array Edge} {gd : Option (Nat × Bool)} {b off : Nat} {cs : Array Value} {ty : TypeId} {fzn : Nat × Nat} {v : Value}

/-- A slice that stays: its elements, each with its cells. -/
def Sl {α : Type} (_T : Nat) (f : α → List Value) (o : Option Addr) (cap : Nat) (es : List α) : Pf :=
  ⟨fun h => es.length ≤ cap ∧ (es = [] ∨ ∃ (b : Nat) (cs : Array Value) (fz : Nat × Nat × Nat) (pre post : List Value), o = some ⟨b, pre.length, none⟩ ∧ h b = some (.cells cs fz.1 fz.2) ∧ cs.toList = pre ++ (es.flatMap f ++ post)),
   fun _ _ s ⟨hc, h⟩ => ⟨hc, h.imp id fun ⟨b, cs, fz, pre, post, h1, h2, h3⟩ => ⟨b, cs, fz, pre, post, h1, s _ _ h2, h3⟩⟩⟩

/-- Cells that stay. -/
def Cel (_T b off : Nat) (xs : List Value) : Pf :=
  ⟨fun h => ∃ (cs : Array Value) (fz : Nat × Nat × Nat) (pre post : List Value), h b = some (.cells cs fz.1 fz.2) ∧ cs.toList = pre ++ (xs ++ post) ∧ off = pre.length, fun _ _ s ⟨cs, fz, pre, post, h1, h2⟩ => ⟨cs, fz, pre, post, s _ _ h1, h2⟩⟩

theorem flat_split {α : Type} {f : α → List Value} : ∀ {es : List α} {i : Nat} {e : α}, es[i]? = some e → es.flatMap f = (es.take i).flatMap f ++ (f e ++ (es.drop (i + 1)).flatMap f)
  | [], _, _, h => by simp at h
  | _ :: es, 0, _, h => by obtain rfl := Option.some.inj h; simp
  | _ :: es, i + 1, _, h => by
    have := flat_split (f := f) (es := es) (i := i) (by simpa using h)
    simp [this]
theorem flat_len {α : Type} {f : α → List Value} {sz : Nat} (hf : ∀ e, (f e).length = sz) : ∀ (es : List α), (es.flatMap f).length = es.length * sz
  | [] => by simp
  | e :: es => by
    have := flat_len hf es
    rw [List.flatMap_cons, List.length_append, hf, this, List.length_cons, Nat.add_mul, Nat.one_mul, Nat.add_comm]

theorem cutF_append {β : Type} : ∀ (l post : List Value) (o m : Nat) (k : List Value → Option β) (v : β), cutF l o m k = some v → cutF (l ++ post) o m k = some v
  | l, post, o, 0, k, v, h => by unfold cutF at h ⊢; exact h
  | [], post, o, m + 1, k, v, h => by simp [cutF] at h
  | x :: l, post, 0, m + 1, k, v, h => by
    simp only [cutF, List.cons_append] at h ⊢
    exact cutF_append l post 0 m _ v h
  | x :: l, post, o + 1, m + 1, k, v, h => by
    simp only [cutF, List.cons_append] at h ⊢
    exact cutF_append l post o (m + 1) _ v h
theorem cutF_shift {β : Type} : ∀ (pre l : List Value) (o m : Nat) (k : List Value → Option β), cutF (pre ++ l) (pre.length + o) m k = cutF l o m k
  | [], l, o, m, k => by simp
  | x :: pre, l, o, 0, k => by unfold cutF; rfl
  | x :: pre, l, o, m + 1, k => by
    rw [List.length_cons, show pre.length + 1 + o = (pre.length + o) + 1 by omega]
    simp only [List.cons_append, cutF]
    exact cutF_shift pre l o (m + 1) k
theorem ldv_in {pre xs post : List Value} {o : Nat} (h : ldv t xs o = some v) : ldv t (pre ++ (xs ++ post)) (pre.length + o) = some v := by
  have hn : ∀ {v}, nth xs o = some v → nth (pre ++ (xs ++ post)) (pre.length + o) = some v := fun {v} h => by
    rw [nth_eq] at h ⊢
    rw [List.getElem?_append_right (by omega), show pre.length + o - pre.length = o by omega]
    rw [List.getElem?_append_left (List.getElem?_eq_some_iff.1 h).1]; exact h
  unfold ldv at h ⊢
  split at h
  · rename_i hr; rw [cutF_shift]; exact cutF_append _ _ _ _ _ _ h
  · rename_i hr; rw [cutF_shift]; exact cutF_append _ _ _ _ _ _ h
  · cases h
  · exact hn h
  · cases h

/-- The place of an element. -/
theorem sl_at {α : Type} {T sz : Nat} {f : α → List Value} {o : Option Addr} {cap i : Nat} {es : List α} {e : α} {h : H} (hs : (Sl T f o cap es).p h) (he : es[i]? = some e) (hsz : ∀ e, (f e).length = sz) :
    ∃ b off, o.map (·.add (i * sz)) = some ⟨b, off, none⟩ ∧ (Cel T b off (f e)).p h := by
  obtain ⟨_, rfl | ⟨b, cs, fz, pre, post, rfl, hb, hcs⟩⟩ := hs
  · simp at he
  · have hi := (List.getElem?_eq_some_iff.1 he).1
    refine ⟨b, pre.length + i * sz, ?_, cs, fz, pre ++ (es.take i).flatMap f, (es.drop (i + 1)).flatMap f ++ post, hb, ?_, ?_⟩
    · simp only [Option.map_some, Option.some.injEq]
      unfold Addr.add
      split
      · rename_i h0; rw [h0]; rfl
      · rfl
    · rw [hcs, flat_split (f := f) he]; simp
    · rw [List.length_append, flat_len hsz, List.length_take, Nat.min_eq_left (by omega)]

theorem run_indexAt {T sz : Nat} {o : Option Addr} {m cap i : Nat} {w : World} {rs tr : TRow} (hts : lookT tab t = some rs) (hrs : rs.k = .slice T) (hT : lookT tab T = some tr) (hsz : tr.size = sz) {z : Int} (hz : z = (i : Int)) (hi : i < m) {p : Addr} (ho : o.map (·.add (i * sz)) = some p) :
    (Instr.indexAt t (.slice o m cap) (.int .i64 z)).run Tryz.prog w = .ok (.pointer (some p)) w := by
  obtain ⟨d1, hd1, hk1⟩ := tab_ok.und hts
  rw [hrs] at hk1
  have hu1 : (underlying t).run Tryz.prog w = .ok (.slice T) w := by
    cases d1 <;> simp [chkKind] at hk1
    subst hk1
    simp [underlying, hd1, go_sem]
  have hs1 := tab_ok.sizeOf hT w
  rw [hsz] at hs1
  cases o with
  | none => cases ho
  | some a =>
    subst hz
    simp only [Option.map_some, Option.some.injEq] at ho
    unfold Instr.indexAt
    simp only [asIntOf, Sem.run_bind, Sem.run_pure, Result.andThen, hu1]
    have hc : (0 : Int) ≤ (i : Int) ∧ (i : Int) < ((m : Nat) : Int) := ⟨by omega, by omega⟩
    rw [if_pos hc]
    simp only [Sem.run_bind, hs1, Result.andThen, Sem.run_pure, Int.toNat_natCast, ho]

/-- The address of an element. -/
theorem l_ixe {α : Type} {T sz : Nat} {f : α → List Value} {o : Option Addr} {m cap : Nat} {es : List α} {z : Int} {rs tr : TRow} (i : Nat) (e : α) (he : es[i]? = some e)
    (nx : ∀ b off, Wl n C ops.toArray k Q l ((d, .pointer (some ⟨b, off, none⟩)) :: E) (Cel T b off (f e) :: F) R)
    (hw : wantL ops E ⟨some d, .indexAddr t x y, ty0, pos, aft, gd⟩ = some true := by rfl) (hn : Nat.blt d n = true := by rfl) (hx : ev E x = some (.slice o m cap) := by rfl) (hy : ev E y = some (.int .i64 z) := by rfl)
    (hs : Sel (Sl T f o cap es) F F0 := by (repeat (first | exact Sel.here | apply Sel.there)); first | done | fail) (hts : lookT tab t = some rs := by rfl) (hrs : rs.k = .slice T := by rfl) (hT : lookT tab T = some tr := by rfl) (hsz : tr.size = sz := by rfl) (hf : ∀ e, (f e).length = sz := by intro; rfl)
    (hm : m = es.length := by rfl) (hz : z = (i : Int) := by first | rfl | omega) : Wl n C ops.toArray k Q (⟨some d, .indexAddr t x y, ty0, pos, aft, gd⟩ :: l) E F R :=
  wl_op (fun t ht => by cases ht; exact Nat.le_of_ble_eq_true hn) (fun c hc => by cases hc) hw fun a w ha hsat => by
    obtain ⟨hp, hr, st⟩ := hsat
    obtain ⟨b, off, h1, h2⟩ := sl_at (st.f _ hs.mem) he hf
    have hi := (List.getElem?_eq_some_iff.1 he).1
    have hr1 := run_indexAt (m := m) (cap := cap) (w := w) hts hrs hT hsz hz (by rw [hm]; exact hi) h1
    unfold OpRes
    simp only [execOp, ha.ev (x := x) (by rw [evf_look]; exact hx), ha.ev (x := y) (by rw [evf_look]; exact hy), Sem.run_bind, Result.andThen, hr1, Sem.run_pure]
    exact fun a' ha' => nx b off a' w ha' ⟨hp, hr, st.inp, st.inr, st.ing, st.d1, st.d2, st.d3, st.sub, fun g hg => (List.mem_cons.1 hg).elim (fun h => h ▸ h2) (st.f g), st.r, st.same⟩
theorem r_ixe {α : Type} {T sz : Nat} {f : α → List Value} {o : Option Addr} {m cap : Nat} {es : List α} {z : Int} {rs tr : TRow} (j : Nat) (e : α) (he : es[j]? = some e)
    (nx : ∀ b off, Wr n C ops k Q Tl (Cel T b off (f e) :: Fs) R L ((d, .pointer (some ⟨b, off, none⟩)) :: E) F N)
    (ho : nth ops i = some ⟨some d, .indexAddr t x y, ty0, pos, aft, gd⟩ := by rfl) (hw : wantL ops E ⟨some d, .indexAddr t x y, ty0, pos, aft, gd⟩ = some true := by rfl) (hx : ev E x = some (.slice o m cap) := by rfl) (hy : ev E y = some (.int .i64 z) := by rfl)
    (hs : Sel (Sl T f o cap es) Fs F0 := by (repeat (first | exact Sel.here | apply Sel.there)); first | done | fail) (hts : lookT tab t = some rs := by rfl) (hrs : rs.k = .slice T := by rfl) (hT : lookT tab T = some tr := by rfl) (hsz : tr.size = sz := by rfl) (hf : ∀ e, (f e).length = sz := by intro; rfl)
    (hm : m = es.length := by rfl) (hz : z = (j : Int) := by first | rfl | omega) : Wr n C ops k Q Tl Fs R ((i, 0) :: L) E F N := fun hp hr w st hz' sb => by
  obtain ⟨b, off, h1, h2⟩ := sl_at (st.f _ hs.mem) he hf
  have hi := (List.getElem?_eq_some_iff.1 he).1
  have st' : SatAt C.G C.w0 C.hp0 (Cel T b off (f e) :: Fs) R w hp hr := ⟨st.inp, st.inr, st.ing, st.d1, st.d2, st.d3, st.sub, fun g hg => (List.mem_cons.1 hg).elim (fun h => h ▸ h2) (st.f g), st.r, st.same⟩
  refine wr_go (L := L) (Fs := Cel T b off (f e) :: Fs) ho (fun hp hr w st hz2 sb => ?_) hp hr w st' hz' sb
  simp only [wantL_ok hw]
  refine ⟨.pointer (some ⟨b, off, none⟩), fun a w ha hin => ?_, nx b off hp hr w st hz2 sb⟩
  have hr1 := run_indexAt (m := m) (cap := cap) (w := w) hts hrs hT hsz hz (by rw [hm]; exact hi) h1
  simp only [execOp, ha.ev (x := x) (by rw [evf_look]; exact hx), ha.ev (x := y) (by rw [evf_look]; exact hy), Sem.run_bind, Result.andThen, hr1, Sem.run_pure]

theorem l_ix {α : Type} {T sz : Nat} {f : α → List Value} {o : Option Addr} {m cap : Nat} {z : Int} {rs tr : TRow} (es : List α) (i : Nat) (hlt : i < es.length)
    (nx : ∀ b off, Wl n C ops.toArray k Q l ((d, .pointer (some ⟨b, off, none⟩)) :: E) (Cel T b off (f es[i]) :: F) R)
    (hw : wantL ops E ⟨some d, .indexAddr t x y, ty0, pos, aft, gd⟩ = some true := by rfl) (hn : Nat.blt d n = true := by rfl) (hx : ev E x = some (.slice o m cap) := by rfl) (hy : ev E y = some (.int .i64 z) := by rfl)
    (hs : Sel (Sl T f o cap es) F F0 := by (repeat (first | exact Sel.here | apply Sel.there)); first | done | fail) (hts : lookT tab t = some rs := by rfl) (hrs : rs.k = .slice T := by rfl) (hT : lookT tab T = some tr := by rfl) (hsz : tr.size = sz := by rfl) (hf : ∀ e, (f e).length = sz := by intro; rfl)
    (hm : m = es.length := by rfl) (hz : z = (i : Int) := by first | rfl | omega) : Wl n C ops.toArray k Q (⟨some d, .indexAddr t x y, ty0, pos, aft, gd⟩ :: l) E F R :=
  l_ixe i es[i] (List.getElem?_eq_getElem hlt) nx hw hn hx hy hs hts hrs hT hsz hf hm hz

/-- A load out of cells that stay. -/
theorem l_ldC {T b off off' o : Nat} {xs : List Value} (nx : Wl n C ops.toArray k Q l ((d, v) :: E) F R) (hw : wantL ops E ⟨some d, .load t x, ty0, pos, aft, gd⟩ = some true := by rfl) (hn : Nat.blt d n = true := by rfl)
    (hx : ev E x = some (.pointer (some ⟨b, off', none⟩)) := by rfl) (hs : Sel (Cel T b off xs) F F0 := by (repeat (first | exact Sel.here | apply Sel.there)); first | done | fail) (ho : off' = off + o := by first | exact (Nat.add_zero _).symm | rfl | exact Nat.add_assoc _ _ _) (hv : ldv t xs o = some v := by rfl) :
    Wl n C ops.toArray k Q (⟨some d, .load t x, ty0, pos, aft, gd⟩ :: l) E F R :=
  wl_op (fun t ht => by cases ht; exact Nat.le_of_ble_eq_true hn) (fun c hc => by cases hc) hw fun a w ha hsat => by
    obtain ⟨hp, hr, st⟩ := hsat
    obtain ⟨cs, fz, pre, post, h1, h2, rfl⟩ := st.f _ hs.mem
    have hv' : ldv t cs.toList off' = some v := by rw [h2, ho]; exact ldv_in hv
    have hr1 := ldv_ok (st.inp _ _ h1) hv'
    unfold OpRes
    simp only [execOp, Instr.loadAt, ha.ev (by rw [evf_look]; exact hx), Instr.sureAddr, Sem.run_bind, Sem.run_pure, Result.andThen, hr1]
    exact fun a' ha' => nx a' w ha' ⟨hp, hr, st⟩
theorem r_ldC {T b off off' o : Nat} {xs : List Value} (nx : Wr n C ops k Q Tl Fs R L ((d, v) :: E) F N) (hop : nth ops i = some ⟨some d, .load t x, ty0, pos, aft, gd⟩ := by rfl) (hw : wantL ops E ⟨some d, .load t x, ty0, pos, aft, gd⟩ = some true := by rfl)
    (hx : ev E x = some (.pointer (some ⟨b, off', none⟩)) := by rfl) (hs : Sel (Cel T b off xs) Fs F0 := by (repeat (first | exact Sel.here | apply Sel.there)); first | done | fail) (ho : off' = off + o := by first | exact (Nat.add_zero _).symm | rfl | exact Nat.add_assoc _ _ _) (hv : ldv t xs o = some v := by rfl) :
    Wr n C ops k Q Tl Fs R ((i, 0) :: L) E F N :=
  wr_go hop fun hp hr w st hz sb => by
    simp only [wantL_ok hw]
    refine ⟨v, fun a w ha hin => ?_, nx hp hr w st hz sb⟩
    obtain ⟨cs, fz, pre, post, h1, h2, rfl⟩ := st.f _ hs.mem
    have hv' : ldv t cs.toList off' = some v := by rw [h2, ho]; exact ldv_in hv
    have hr1 := ldv_ok (hin _ _ (sb _ _ (sub_un_right st.d1.symm _ _ h1))) hv'
    simp only [execOp, Instr.loadAt, ha.ev (by rw [evf_look]; exact hx), Instr.sureAddr, Sem.run_bind, Sem.run_pure, Result.andThen, hr1]

/-- A row that is no more written. -/
theorem frz_row {α : Type} {T sz : Nat} {f : α → List Value} {o : Option Addr} {m cap : Nat} {xs : List Value} {es : List α} (hx : xs = es.flatMap f) (hm : m = es.length) {G : H} {w0 w : World} {hp0 : H} (hs : Sel (Row T sz o m cap xs) R R0) (hsat : Sat G w0 hp0 F R w) : Sat G w0 hp0 (Sl T f o cap es :: F) R0 w := by
  subst hx hm
  obtain ⟨hp, hr, st⟩ := hsat.sel hs
  obtain ⟨h1, h2, dj, s1, s2, hrow, hR⟩ := st.r
  rcases hrow with ⟨rfl, h3, rfl, h4⟩ | ⟨bb, rest, fz, rfl, hb, hxl, hcl, hmc, hfz⟩
  · refine ⟨hp, hr, st.inp, st.inr, st.ing, st.d1, st.d2, st.d3, st.sub, fun g hg => (List.mem_cons.1 hg).elim (fun h => h ▸ ?_) (st.f g), hR.sub s2, st.same⟩
    have h5 : es = [] := List.eq_nil_of_length_eq_zero h3
    exact ⟨by rw [h5]; exact Nat.le_refl _, .inl h5⟩
  · have hsat2 : Sat G w0 hp0 F (Pt bb (.cells (es.flatMap f ++ rest).toArray T fz) :: R0) w := ⟨hp, hr, st.inp, st.inr, st.ing, st.d1, st.d2, st.d3, st.sub, st.f, ⟨h1, h2, dj, s1, s2, hb, hR⟩, st.same⟩
    refine hsat2.freeze.facts fun hp hF g hg => ?_
    rcases List.mem_cons.1 hg with rfl | hg
    · exact ⟨hmc, .inr ⟨bb, _, (T, fz), [], rest, rfl, hF _ (List.mem_cons_self ..), by simp⟩⟩
    · exact hF g (List.mem_cons_of_mem _ hg)
theorem k_frz {α : Type} {T sz : Nat} {f : α → List Value} {o : Option Addr} {m cap : Nat} {xs : List Value} (es : List α) (t : Wk n C k Q E (Sl T f o cap es :: F) R0) (hx : xs = es.flatMap f) (hm : m = es.length) (hs : Sel (Row T sz o m cap xs) R R0 := by (repeat (first | exact Sel.here | apply Sel.there)); first | done | fail) : Wk n C k Q E F R :=
  fun a w ha hsat => t a w ha (frz_row hx hm hs hsat)
theorem l_frz {α : Type} {T sz : Nat} {f : α → List Value} {o : Option Addr} {m cap : Nat} {xs : List Value} (es : List α) (t : Wl n C ops.toArray k Q l E (Sl T f o cap es :: F) R0) (hx : xs = es.flatMap f) (hm : m = es.length) (hs : Sel (Row T sz o m cap xs) R R0 := by (repeat (first | exact Sel.here | apply Sel.there)); first | done | fail) : Wl n C ops.toArray k Q l E F R :=
  fun a w ha hsat => t a w ha (frz_row hx hm hs hsat)
end Go.Proofs.YtgaipgbgppdfeaaGreatDoor

set_option maxRecDepth 10000
namespace Go.Proofs.YtgaipgbgppdfeaaGreatDoor
open Go.RowKit

variable {n : Nat} {C : Cx} {Q : Exit → Act → World → Prop} {E E' : List (Nat × Value)} {F F' F1 Fs F0 : List Pf} {R R' R0 Rs N N' A : List HP} {k k' : List Fr} {ops l : List Oper} {L L' : List (Nat × Nat)} {Tl : List Nat}
  {i d : Nat} {t ty0 : TypeId} {x y : Operand} {pos : String} {aft : Array Edge} {gd : Option (Nat × Bool)} {b off : Nat} {cs : Array Value} {ty : TypeId} {fzn : Nat × Nat} {v : Value}

theorem run_und {T : Nat} {w : World} {rs : TRow} (hts : lookT tab t = some rs) (hrs : rs.k = .slice T) : (underlying t).run Tryz.prog w = .ok (.slice T) w := by
  obtain ⟨d1, hd1, hk1⟩ := tab_ok.und hts
  rw [hrs] at hk1
  cases d1 <;> simp [chkKind] at hk1
  subst hk1
  simp [underlying, hd1, go_sem]
theorem run_undS {w : World} {rs : TRow} (hts : lookT tab t = some rs) (hrs : rs.k = .str) : (underlying t).run Tryz.prog w = .ok .string w := by
  obtain ⟨d1, hd1, hk1⟩ := tab_ok.und hts
  rw [hrs] at hk1
  cases d1 <;> simp [chkKind] at hk1
  simp [underlying, hd1, go_sem]
theorem run_undI {w : World} {rs : TRow} {ik : IntKind} (hts : lookT tab t = some rs) (hrs : rs.k = .int ik) : (underlying t).run Tryz.prog w = .ok (.int ik) w := by
  obtain ⟨d1, hd1, hk1⟩ := tab_ok.und hts
  rw [hrs] at hk1
  cases d1 <;> simp [chkKind] at hk1
  subst hk1
  simp [underlying, hd1, go_sem]

theorem add_add {a : Addr} {p q : Nat} (h : a = ⟨b, p, none⟩) : a.add q = ⟨b, p + q, none⟩ := by
  subst h
  unfold Addr.add
  split
  · rename_i h0; rw [h0]; rfl
  · rfl

theorem sl_drop {α : Type} {T sz : Nat} {f : α → List Value} {o : Option Addr} {cap lo : Nat} {es : List α} {h : H} (hs : (Sl T f o cap es).p h) (hlo : lo ≤ es.length) (hsz : ∀ e, (f e).length = sz) :
    (Sl T f (if cap = lo then o else o.map (·.add (lo * sz))) (cap - lo) (es.drop lo)).p h := by
  obtain ⟨hc, rfl | ⟨b, cs, fz, pre, post, rfl, hb, hcs⟩⟩ := hs
  · exact ⟨by simp, .inl (by simp)⟩
  · refine ⟨by simp; omega, .inr ?_⟩
    split
    · rename_i hcl
      have : es.drop lo = [] := List.drop_eq_nil_of_le (by omega)
      exact ⟨b, cs, fz, pre, es.flatMap f ++ post, rfl, hb, by rw [this, hcs]; simp⟩
    · refine ⟨b, cs, fz, pre ++ (es.take lo).flatMap f, post, ?_, hb, ?_⟩
      · simp only [Option.map_some, Option.some.injEq]
        rw [add_add (b := b) (p := pre.length) rfl, List.length_append, flat_len hsz, List.length_take, Nat.min_eq_left hlo]
      · rw [hcs]
        have : es.flatMap f = (es.take lo).flatMap f ++ (es.drop lo).flatMap f := by rw [← List.flatMap_append, List.take_append_drop]
        rw [this]; simp
theorem sl_take {α : Type} {T : Nat} {f : α → List Value} {o : Option Addr} {cap m : Nat} {es : List α} {h : H} (hs : (Sl T f o cap es).p h) : (Sl T f o cap (es.take m)).p h := by
  obtain ⟨hc, rfl | ⟨b, cs, fz, pre, post, rfl, hb, hcs⟩⟩ := hs
  · exact ⟨by simp, .inl (by simp)⟩
  · refine ⟨by simp; omega, .inr ⟨b, cs, fz, pre, (es.drop m).flatMap f ++ post, rfl, hb, ?_⟩⟩
    rw [hcs]
    have : es.flatMap f = (es.take m).flatMap f ++ (es.drop m).flatMap f := by rw [← List.flatMap_append, List.take_append_drop]
    rw [this]; simp

theorem add_fact {G : H} {w0 w : World} {hp0 hp hr : H} {f : Pf} (st : SatAt G w0 hp0 F R w hp hr) (h : f.p hp) : Sat G w0 hp0 (f :: F) R w :=
  ⟨hp, hr, st.inp, st.inr, st.ing, st.d1, st.d2, st.d3, st.sub, fun g hg => (List.mem_cons.1 hg).elim (fun e => e ▸ h) (st.f g), st.r, st.same⟩

/-- The end of a slice, from a place on. -/
theorem l_slL {α : Type} {T sz : Nat} {f : α → List Value} {o : Option Addr} {m cap : Nat} {es : List α} {z : Int} {rs tr : TRow} (lo : Nat) (hlo : lo ≤ es.length)
    (nx : ∀ o', Wl n C ops.toArray k Q l ((d, .slice o' (es.drop lo).length (cap - lo)) :: E) (Sl T f o' (cap - lo) (es.drop lo) :: F) R)
    (hw : wantL ops E ⟨some d, .slice t x (some y) none none, ty0, pos, aft, gd⟩ = some true := by rfl) (hn : Nat.blt d n = true := by rfl) (hx : ev E x = some (.slice o m cap) := by rfl) (hy : ev E y = some (.int .i64 z) := by rfl)
    (hs : Sel (Sl T f o cap es) F F0 := by (repeat (first | exact Sel.here | apply Sel.there)); first | done | fail) (hts : lookT tab t = some rs := by rfl) (hrs : rs.k = .slice T := by rfl) (hT : lookT tab T = some tr := by rfl) (hsz : tr.size = sz := by rfl) (hf : ∀ e, (f e).length = sz := by intro; rfl)
    (hm : m = es.length := by rfl) (hz : z = (lo : Int) := by first | rfl | omega) : Wl n C ops.toArray k Q (⟨some d, .slice t x (some y) none none, ty0, pos, aft, gd⟩ :: l) E F R :=
  wl_op (fun t ht => by cases ht; exact Nat.le_of_ble_eq_true hn) (fun c hc => by cases hc) hw fun a w ha hsat => by
    obtain ⟨hp, hr, st⟩ := hsat
    subst hm hz
    have h2 := sl_drop (st.f _ hs.mem) hlo hf
    have hs1 := tab_ok.sizeOf hT w
    rw [hsz] at hs1
    unfold OpRes
    have hc : (0 : Int) ≤ (lo : Int) ∧ (lo : Int) ≤ (es.length : Int) := ⟨by omega, by omega⟩
    simp only [execOp, ha.ev (x := x) (by rw [evf_look]; exact hx), ha.ev (x := y) (by rw [evf_look]; exact hy), Option.map_some, Option.map_none, Instr.sliceAt, Instr.slice, run_und hts hrs, Instr.sliceBounds, Instr.sliceBound, asIntOf, Sem.run_bind, Result.andThen, Sem.run_pure, if_pos hc, hs1, Int.toNat_natCast]
    rw [← List.length_drop]
    exact fun a' ha' => nx _ a' w ha' (add_fact st h2)

/-- A part of a slice. -/
theorem l_slLH {α : Type} {T sz : Nat} {f : α → List Value} {o : Option Addr} {m cap : Nat} {es : List α} {z z2 : Int} {y2 : Operand} {rs tr : TRow} (lo hi : Nat) (hlo : lo ≤ hi) (hhi : hi ≤ es.length)
    (nx : ∀ o', Wl n C ops.toArray k Q l ((d, .slice o' ((es.take hi).drop lo).length (cap - lo)) :: E) (Sl T f o' (cap - lo) ((es.take hi).drop lo) :: F) R)
    (hw : wantL ops E ⟨some d, .slice t x (some y) (some y2) none, ty0, pos, aft, gd⟩ = some true := by rfl) (hn : Nat.blt d n = true := by rfl) (hx : ev E x = some (.slice o m cap) := by rfl) (hy : ev E y = some (.int .i64 z) := by rfl) (hy2 : ev E y2 = some (.int .i64 z2) := by rfl)
    (hs : Sel (Sl T f o cap es) F F0 := by (repeat (first | exact Sel.here | apply Sel.there)); first | done | fail) (hts : lookT tab t = some rs := by rfl) (hrs : rs.k = .slice T := by rfl) (hT : lookT tab T = some tr := by rfl) (hsz : tr.size = sz := by rfl) (hf : ∀ e, (f e).length = sz := by intro; rfl)
    (hz : z = (lo : Int) := by first | rfl | omega) (hz2 : z2 = (hi : Int) := by first | rfl | omega) : Wl n C ops.toArray k Q (⟨some d, .slice t x (some y) (some y2) none, ty0, pos, aft, gd⟩ :: l) E F R :=
  wl_op (fun t ht => by cases ht; exact Nat.le_of_ble_eq_true hn) (fun c hc => by cases hc) hw fun a w ha hsat => by
    obtain ⟨hp, hr, st⟩ := hsat
    subst hz hz2
    have h1 := st.f _ hs.mem
    have hcap : es.length ≤ cap := h1.1
    have h2 := sl_drop (sl_take (m := hi) h1) (lo := lo) (by simp; omega) hf
    have hs1 := tab_ok.sizeOf hT w
    rw [hsz] at hs1
    unfold OpRes
    have hc : (0 : Int) ≤ (lo : Int) ∧ (lo : Int) ≤ (hi : Int) := ⟨by omega, by omega⟩
    have hc2 : (0 : Int) ≤ (hi : Int) ∧ (hi : Int) ≤ (cap : Int) := ⟨by omega, by omega⟩
    simp only [execOp, ha.ev (x := x) (by rw [evf_look]; exact hx), ha.ev (x := y) (by rw [evf_look]; exact hy), ha.ev (x := y2) (by rw [evf_look]; exact hy2), Option.map_some, Option.map_none, Instr.sliceAt, Instr.slice, run_und hts hrs, Instr.sliceBounds, Instr.sliceBound, asIntOf, Sem.run_bind, Result.andThen, Sem.run_pure, if_pos hc, if_pos hc2, hs1, Int.toNat_natCast]
    have hl : hi - lo = ((es.take hi).drop lo).length := by simp; omega
    rw [hl]
    exact fun a' ha' => nx _ a' w ha' (add_fact st h2)

/-- The cells of a byte. -/
abbrev bf : UInt8 → List Value := fun b => [.int .u8 b.toNat]
theorem byt_flat (l : List UInt8) : byt l = l.flatMap bf := by
  induction l with
  | nil => rfl
  | cons a l ih => rw [List.flatMap_cons, ← ih]; rfl

theorem fold_push : ∀ (es : List UInt8) (s : ByteArray), ((es.map fun b => (b.toNat : Int)).foldl (fun r m => r.push (UInt8.ofNat m.toNat)) s) = ⟨s.data ++ es.toArray⟩
  | [], s => by simp
  | b :: es, s => by
    simp only [List.map_cons, List.foldl_cons, fold_push es]
    congr 1
    rw [← Array.toList_inj]
    simp [ByteArray.push]

/-- Bytes as a text. -/
theorem l_b2s {T : Nat} {o : Option Addr} {m cap : Nat} {es : List UInt8} {td : TypeId} {rs tr rd : TRow}
    (nx : Wl n C ops.toArray k Q l ((d, .string ⟨es.toArray⟩) :: E) F R)
    (hw : wantL ops E ⟨some d, .convert t td x, ty0, pos, aft, gd⟩ = some true := by rfl) (hn : Nat.blt d n = true := by rfl) (hx : ev E x = some (.slice o m cap) := by rfl)
    (hs : Sel (Sl T bf o cap es) F F0 := by (repeat (first | exact Sel.here | apply Sel.there)); first | done | fail) (hts : lookT tab t = some rs := by rfl) (hrs : rs.k = .slice T := by rfl) (hT : lookT tab T = some tr := by rfl) (hTk : tr.k = .int .u8 := by rfl) (htd : lookT tab td = some rd := by rfl) (hrd : rd.k = .str := by rfl)
    (hm : m = es.length := by rfl) : Wl n C ops.toArray k Q (⟨some d, .convert t td x, ty0, pos, aft, gd⟩ :: l) E F R :=
  wl_op (fun t ht => by cases ht; exact Nat.le_of_ble_eq_true hn) (fun c hc => by cases hc) hw fun a w ha hsat => by
    obtain ⟨hp, hr, st⟩ := hsat
    subst hm
    have hr1 : (Conv.bytesToString (.slice o es.length cap)).run Tryz.prog w = .ok (.string ⟨es.toArray⟩) w := by
      obtain ⟨_, rfl | ⟨b, cs, fz, pre, post, rfl, hb, hcs⟩⟩ := st.f _ hs.mem
      · cases o <;> rfl
      · rw [run_bytesToString (ns := es.map fun b => (b.toNat : Int))]
        · rw [fold_push]; simp
        · unfold loadCells
          rw [← byt_flat] at hcs
          have hlen : cs.size = pre.length + (es.length + post.length) := by rw [← Array.length_toList, hcs]; simp [byt]
          rw [run_loadCells (st.inp _ _ hb) pre.length es.length 0 #[] (by omega)]
          simp [hcs, byt]
    unfold OpRes
    simp only [execOp, ha.ev (x := x) (by rw [evf_look]; exact hx), convert, run_und hts hrs, run_undS htd hrd, run_undI hT hTk, Sem.run_bind, Result.andThen, Sem.run_pure, hr1]
    exact fun a' ha' => nx a' w ha' ⟨hp, hr, st⟩

/-- A text as bytes. -/
theorem l_s2b {T : Nat} {s : ByteArray} {td : TypeId} {rs tr rd : TRow}
    (nx : ∀ o cap, Wl n C ops.toArray k Q l ((d, .slice o s.data.toList.length cap) :: E) F (Row T 1 o s.data.toList.length cap (byt s.data.toList) :: R))
    (hw : wantL ops E ⟨some d, .convert t td x, ty0, pos, aft, gd⟩ = some true := by rfl) (hn : Nat.blt d n = true := by rfl) (hx : ev E x = some (.string s) := by rfl)
    (hts : lookT tab t = some rs := by rfl) (hrs : rs.k = .str := by rfl) (htd : lookT tab td = some rd := by rfl) (hrd : rd.k = .slice T := by rfl) (hT : lookT tab T = some tr := by rfl) (hTk : tr.k = .int .u8 := by rfl) :
    Wl n C ops.toArray k Q (⟨some d, .convert t td x, ty0, pos, aft, gd⟩ :: l) E F R :=
  wl_op (fun t ht => by cases ht; exact Nat.le_of_ble_eq_true hn) (fun c hc => by cases hc) hw fun a w ha hsat => by
    obtain ⟨nc, hnc1, hnc2⟩ : ∃ nc, (choose (.appendCap s.size 0 T)).run Tryz.prog w = .ok nc { w with drawn := w.drawn + 1 } ∧ s.size ≤ nc := ⟨_, rfl, by simp [Question.cut]⟩
    have hx1 : Ext w { w with drawn := w.drawn + 1 } := (Below.refl _ w).drew
    let cells : Array Value := (s.data.map fun b => Value.int .u8 b.toNat) ++ Array.replicate (nc - s.size) (.int .u8 0)
    have hs2 := (hsat.ext hx1).alloc (.cells cells T)
    let w1 : World := { w with drawn := w.drawn + 1 }
    have hb1 : (w1.alloc (.cells cells T)).heap[w1.heap.size]? = some (.cells cells T) := heap_alloc_new w1 _
    let w2 := (w1.alloc (.cells cells T)).freeze ⟨w1.heap.size, cells.size, none⟩ 1
    have hb2 : w2.heap[w1.heap.size]? = some (.cells cells T (cells.size, cells.size + 1)) := by
      simp only [w2, World.freeze, Nat.one_ne_zero, if_false, Array.getElem?_modify, if_true, hb1]
      simp
    have hs3 : Sat C.G C.w0 C.hp0 F (Pt w1.heap.size (.cells cells T (cells.size, cells.size + 1)) :: R) w2 := by
      refine hs2.write ⟨rfl, rfl, rfl, ?_⟩ hb2 fun c hc _ => ?_
      · simp only [w2, World.freeze, Nat.one_ne_zero, if_false, Array.size_modify]; exact Nat.le_refl _
      · simp only [w2, World.freeze, Nat.one_ne_zero, if_false, Array.getElem?_modify]
        rw [if_neg (fun h => hc h.symm)]
    have hr1 : (Conv.stringToBytes T s).run Tryz.prog w = .ok (.slice (some ⟨w1.heap.size, 0, none⟩) s.size nc) w2 := by
      unfold Conv.stringToBytes
      simp only [Sem.run_bind, hnc1, Result.andThen, run_newRow, markStringish]
      have hsh : (shape w1.heap.size).run Tryz.prog (w1.alloc (.cells cells T)) = .ok (some (T, cells.size)) (w1.alloc (.cells cells T)) := by
        simp only [shape, Sem.run, World.shape?, hb1]
      have e : ({ w with drawn := w.drawn + 1 } : World) = w1 := rfl
      simp only [e]
      rw [show ((s.data.map fun b => Value.int .u8 b.toNat) ++ Array.replicate (nc - s.size) (.int .u8 0)) = cells from rfl, hsh]
      rfl
    unfold OpRes
    simp only [execOp, ha.ev (x := x) (by rw [evf_look]; exact hx), convert, run_undS hts hrs, run_und htd hrd, run_undI hT hTk, Sem.run_bind, Result.andThen, Sem.run_pure, hr1]
    have hl : s.size = s.data.toList.length := by simp
    rw [hl] at hnc2 ⊢
    refine fun a' ha' => nx _ nc a' w2 ha' (hs3.shut (L := [Pt _ _]) fun kk hk => ?_)
    obtain ⟨k1, _, _, t1, _, hk1, _⟩ := hk
    have hcl : cells.toList = byt s.data.toList ++ List.replicate (nc - s.size) (.int .u8 0) := by simp [cells, byt]
    have hcz : (byt s.data.toList ++ List.replicate (nc - s.size) (Value.int .u8 0)).toArray = cells := by rw [← hcl]
    refine .inr ⟨_, List.replicate (nc - s.size) (.int .u8 0), (cells.size, cells.size + 1), rfl, ?_, by simp [byt], ?_, hnc2, .inr ?_⟩
    · rw [hcz]; exact t1 _ _ hk1
    · simp [byt] at hnc2 ⊢; omega
    · rw [← hcl]; simp

/-- A byte of a text. -/
theorem l_six {s : ByteArray} {z : Int} {rs : TRow} (i : Nat) (c : UInt8) (hc : s.data.toList[i]? = some c)
    (nx : Wl n C ops.toArray k Q l ((d, .int .u8 c.toNat) :: E) F R)
    (hw : wantL ops E ⟨some d, .index t x y, ty0, pos, aft, gd⟩ = some true := by rfl) (hn : Nat.blt d n = true := by rfl) (hx : ev E x = some (.string s) := by rfl) (hy : ev E y = some (.int .i64 z) := by rfl)
    (hts : lookT tab t = some rs := by rfl) (hrs : rs.k = .str := by rfl) (hz : z = (i : Int) := by first | rfl | omega) : Wl n C ops.toArray k Q (⟨some d, .index t x y, ty0, pos, aft, gd⟩ :: l) E F R :=
  l_q (fun a w ha => by
    subst hz
    have h0 : (0 : Int) ≤ (i : Int) := by omega
    have h1 : s[i]? = some c := by
      obtain ⟨hlt, he⟩ := List.getElem?_eq_some_iff.1 hc
      have hlt' : i < s.size := by simpa using hlt
      rw [getElem?_pos s i hlt']
      exact congrArg some he
    simp only [execOp, ha.ev (x := x) (by rw [evf_look]; exact hx), ha.ev (x := y) (by rw [evf_look]; exact hy), Instr.index, asIntOf, run_undS hts hrs, Sem.run_bind, Result.andThen, Sem.run_pure, if_pos h0, Int.toNat_natCast, h1]) nx (by intro c h; cases h) hw hn
end Go.Proofs.YtgaipgbgppdfeaaGreatDoor

namespace Go.Proofs.YtgaipgbgppdfeaaGreatDoor
open Go.RowKit

variable {n : Nat} {C : Cx} {Q : Exit → Act → World → Prop} {E E' : List (Nat × Value)} {F F' F1 Fs F0 : List Pf} {R R' R0 Rs N N' A : List HP} {k k' : List Fr} {ops l : List Oper} {L L' : List (Nat × Nat)} {Tl : List Nat}
  {i d : Nat} {t ty0 : TypeId} {x y : Operand} {pos : String} {aft : Array Edge} {gd : Option (Nat × Bool)} {b off : Nat} {cs : Array Value} {ty : TypeId} {fzn : Nat × Nat} {v : Value}

/-- A row of elements that is owned. -/
def Ar {α : Type} (T : Nat) (f : α → List Value) (b : Nat) (es : List α) : HP := Pt b (.cells (es.flatMap f).toArray T (0, 0))

theorem putF_some {β : Type} : ∀ (vs c : List Value) (o : Nat) (k : List Value → Option β), o + vs.length ≤ c.length → putF c o vs k = k (c.take o ++ vs ++ c.drop (o + vs.length))
  | [], c, o, k, _ => by cases c <;> simp [putF]
  | v :: vs, [], o, k, h => by simp at h
  | v :: vs, x :: c, 0, k, h => by
    simp only [putF]
    rw [putF_some vs c 0 _ (by simp at h ⊢; omega)]
    simp
  | v :: vs, x :: c, o + 1, k, h => by
    simp only [putF]
    rw [putF_some (v :: vs) c o _ (by simp at h ⊢; omega), Nat.add_right_comm]
    simp
  termination_by vs c => (vs.length, c.length)

theorem stv_in {pre xs xs' post : List Value} {o : Nat} (h : stv t xs o v = some xs') : stv t (pre ++ (xs ++ post)) (pre.length + o) v = some (pre ++ (xs' ++ post)) := by
  unfold stv at h ⊢
  split at h
  · rename_i r vs hr hvs
    cases hc : (Nat.beq vs.length r.size && vs.all one1) with
    | false => simp [hc] at h
    | true =>
      simp only [hc, cond_true] at h ⊢
      obtain ⟨h1, h2⟩ := putF_eq _ _ _ _ _ h
      simp only [Option.some.injEq] at h2
      cases vs with
      | nil =>
        have e1 : xs' = xs := by rw [← h2]; simp
        subst e1
        cases hh : pre ++ (xs' ++ post) <;> simp [putF]
      | cons u us =>
        have hle := h1 (by simp)
        rw [putF_some _ _ _ _ (by simp at hle ⊢; omega)]
        rw [← h2]
        congr 1
        rw [List.take_length_add_append, List.take_append_of_le_length (by omega), show pre.length + o + (u :: us).length = pre.length + (o + (u :: us).length) by omega, List.drop_length_add_append, List.drop_append_of_le_length hle]
        simp
  · cases h

theorem ar_split {α : Type} {f : α → List Value} {sz : Nat} (hf : ∀ e, (f e).length = sz) {es : List α} {j : Nat} {e : α} (he : es[j]? = some e) : es.flatMap f = (es.take j).flatMap f ++ (f e ++ (es.drop (j + 1)).flatMap f) ∧ ((es.take j).flatMap f).length = j * sz := by
  refine ⟨flat_split he, ?_⟩
  have := (List.getElem?_eq_some_iff.1 he).1
  rw [flat_len hf, List.length_take, Nat.min_eq_left (by omega)]
theorem ar_set {α : Type} {f : α → List Value} {es : List α} {j : Nat} {e e' : α} (he : es[j]? = some e) : (es.set j e').flatMap f = (es.take j).flatMap f ++ (f e' ++ (es.drop (j + 1)).flatMap f) := by
  have hlt := (List.getElem?_eq_some_iff.1 he).1
  rw [flat_split (f := f) (es := es.set j e') (i := j) (e := e') (by simp [hlt])]
  rw [List.take_set_of_le (Nat.le_refl _), List.drop_set_of_lt (Nat.lt_succ_self _)]

theorem made_flat (z : List Value) : ∀ m, (madeCells z.toArray (m * z.length)).toList = (List.replicate m z).flatten := fun m => by
  apply List.ext_getElem?
  intro j
  by_cases hj : j < m * z.length
  · have hz : 0 < z.length := Nat.pos_of_ne_zero fun h0 => by rw [h0] at hj; simp at hj
    have h1 : (madeCells z.toArray (m * z.length)).toList[j]? = z[j % z.length]? := by
      simp only [madeCells, Array.toList_map, List.getElem?_map, Array.toList_range, List.getElem?_range hj, Option.map_some]
      have h2 : j % z.length < z.length := Nat.mod_lt _ hz
      simp [h2]
    rw [h1]
    clear h1
    induction m generalizing j with
    | zero => simp at hj
    | succ m ih =>
      rw [List.replicate_succ, List.flatten_cons]
      by_cases hlt : j < z.length
      · rw [List.getElem?_append_left hlt, Nat.mod_eq_of_lt hlt]
      · rw [List.getElem?_append_right (by omega), ← ih (j - z.length) (by rw [Nat.add_mul] at hj; omega)]
        rw [Nat.mod_eq_sub_mod (by omega)]
  · rw [List.getElem?_eq_none (by simp [size_madeCells]; omega), List.getElem?_eq_none (by simp; omega)]
theorem rep_flat {α : Type} (f : α → List Value) (z : α) (m : Nat) : (List.replicate m z).flatMap f = (List.replicate m (f z)).flatten := by
  rw [List.flatMap_def, List.map_replicate]

theorem run_mks {α : Type} {T m : Nat} {kl kc : IntKind} {zi zj : Int} {rs te : TRow} {f : α → List Value} {z0 : α} (w : World) (hb : te.bytes * m ≤ 281474976710656) (hm : m ≤ 9223372036854775807) (hts : lookT tab t = some rs) (hrs : rs.k = .slice T) (hT : lookT tab T = some te) (hzv : te.zero = f z0) (hz : zi = (m : Int)) (hz2 : zj = (m : Int)) :
    (Instr.makeSlice t (.int kl zi) (.int kc zj)).run Tryz.prog w = .ok (.slice (some ⟨w.heap.size, 0, none⟩) m m) (w.alloc (.cells ((List.replicate m z0).flatMap f).toArray T (0, 0))) := by
  subst hz hz2
  obtain ⟨d1, hd1, hk1⟩ := tab_ok.und hts
  rw [hrs] at hk1
  have hd2 : Tryz.prog.underlying t = some (.slice T) := by
    cases d1 <;> simp [chkKind] at hk1
    subst hk1; exact hd1
  obtain ⟨inf, d2, z, hi, _, h1, h2, _, h4, h5, h6⟩ := tab_ok.row hT
  have hb' : (inf.bytes : Int) * (m : Int) ≤ 281474976710656 := by
    rw [h2]
    generalize te.bytes = q at hb
    have h : ((q * m : Nat) : Int) ≤ ((281474976710656 : Nat) : Int) := Int.ofNat_le.2 hb
    rwa [Int.natCast_mul] at h
  have hr := run_make (P := Tryz.prog) w t T inf z hd2 hi h4 kl kc m m (by omega) (Int.le_refl _) hb' (by omega)
  have hc : madeCells z.cells (m * inf.size) = ((List.replicate m z0).flatMap f).toArray := by
    rw [← Array.toList_inj, h1, ← h6, ← h5]
    have := made_flat z.cells.toList m
    rw [Array.toArray_toList] at this
    rw [this, h5, hzv, rep_flat]
  simp only [Int.toNat_natCast, hc] at hr
  exact hr

/-- A new row of zero values. -/
theorem l_mks {α : Type} {T : Nat} {kl kc : IntKind} {zi zj : Int} {rs te : TRow} (f : α → List Value) (z0 : α) (m bytes : Nat) (hb : bytes * m ≤ 281474976710656) (hm : m ≤ 9223372036854775807) (nx : ∀ b, Wl n C ops.toArray k Q l ((d, .slice (some ⟨b, 0, none⟩) m m) :: E) F (Ar T f b (List.replicate m z0) :: R))
    (hw : wantL ops E ⟨some d, .makeSlice t x y, ty0, pos, aft, gd⟩ = some true := by rfl) (hn : Nat.blt d n = true := by rfl) (hx : ev E x = some (.int kl zi) := by rfl) (hy : ev E y = some (.int kc zj) := by rfl) (hts : lookT tab t = some rs := by rfl) (hrs : rs.k = .slice T := by rfl)
    (hT : lookT tab T = some te := by rfl) (hzv : te.zero = f z0 := by rfl) (hby : te.bytes = bytes := by rfl) (hz : zi = (m : Int) := by first | rfl | omega) (hz2 : zj = (m : Int) := by first | rfl | omega) :
    Wl n C ops.toArray k Q (⟨some d, .makeSlice t x y, ty0, pos, aft, gd⟩ :: l) E F R :=
  wl_op (fun t ht => by cases ht; exact Nat.le_of_ble_eq_true hn) (fun c hc => by cases hc) hw fun a w ha hsat => by
    have hr := run_mks (kl := kl) (kc := kc) w (hby ▸ hb) hm hts hrs hT hzv hz hz2
    unfold OpRes
    simp only [execOp, ha.ev (x := x) (by rw [evf_look]; exact hx), ha.ev (x := y) (by rw [evf_look]; exact hy), Sem.run_bind, hr, Result.andThen, Sem.run_pure]
    exact fun a' ha' => nx _ a' _ ha' (hsat.alloc _)


theorem run_ixArr {T sz m j off : Nat} {w : World} {kd : IntKind} {rs tr : TRow} (hts : lookT tab t = some rs) (hrs : rs.k = .arr m T) (hT : lookT tab T = some tr) (hsz : tr.size = sz) {z : Int} (hz : z = (j : Int)) (hi : j < m) :
    (Instr.indexAt t (.pointer (some ⟨b, off, none⟩)) (.int kd z)).run Tryz.prog w = .ok (.pointer (some ⟨b, off + j * sz, none⟩)) w := by
  obtain ⟨d1, hd1, hk1⟩ := tab_ok.und hts
  rw [hrs] at hk1
  have hu1 : (underlying t).run Tryz.prog w = .ok (.array m T) w := by
    cases d1 <;> simp [chkKind] at hk1
    obtain ⟨rfl, rfl⟩ := hk1
    simp [underlying, hd1, go_sem]
  have hs1 := tab_ok.sizeOf hT w
  rw [hsz] at hs1
  subst hz
  unfold Instr.indexAt
  simp only [asIntOf, Sem.run_bind, Sem.run_pure, Result.andThen, hu1, Instr.sureAddr]
  have hc : (0 : Int) ≤ (j : Int) ∧ (j : Int) < ((m : Nat) : Int) := ⟨by omega, by omega⟩
  rw [if_pos hc]
  simp only [Sem.run_bind, hs1, Result.andThen, Sem.run_pure, Int.toNat_natCast, add_add rfl]

/-- A load out of an owned row. -/
theorem l_ldA {α : Type} {T : Nat} {f : α → List Value} {es : List α} {e : α} (sz j o : Nat) (he : es[j]? = some e) (nx : Wl n C ops.toArray k Q l ((d, v) :: E) F R) (hw : wantL ops E ⟨some d, .load t x, ty0, pos, aft, gd⟩ = some true := by rfl) (hn : Nat.blt d n = true := by rfl)
    (hx : ev E x = some (.pointer (some ⟨b, off, none⟩)) := by rfl) (hs : Sel (Ar T f b es) R R0 := by (repeat (first | exact Sel.here | apply Sel.there)); first | done | fail) (hv : ldv t (f e) o = some v := by rfl) (hf : ∀ e, (f e).length = sz := by intro; rfl) (ho : off = j * sz + o := by first | rfl | omega) :
    Wl n C ops.toArray k Q (⟨some d, .load t x, ty0, pos, aft, gd⟩ :: l) E F R :=
  wl_op (fun t ht => by cases ht; exact Nat.le_of_ble_eq_true hn) (fun c hc => by cases hc) hw fun a w ha hsat => by
    obtain ⟨e1, e2⟩ := ar_split hf he
    have hv' : ldv t (es.flatMap f).toArray.toList off = some v := by
      rw [ho, ← e2]
      show ldv t (es.flatMap f) _ = _
      rw [e1]
      exact ldv_in hv
    have hr := ldv_ok (hsat.pt hs) hv'
    unfold OpRes
    simp only [execOp, Instr.loadAt, ha.ev (by rw [evf_look]; exact hx), Instr.sureAddr, Sem.run_bind, Sem.run_pure, Result.andThen, hr]
    exact fun a' ha' => nx a' w ha' hsat

/-- A store into an owned row. -/
theorem l_stA {α : Type} {T : Nat} {f : α → List Value} {es : List α} {e : α} (sz j o : Nat) (e' : α) (he : es[j]? = some e) (nx : Wl n C ops.toArray k Q l E F (Ar T f b (es.set j e') :: R0)) (hw : wantL ops E ⟨none, .store t x y, ty0, pos, aft, gd⟩ = some true := by rfl)
    (hx : ev E x = some (.pointer (some ⟨b, off, none⟩)) := by rfl) (hy : ev E y = some v := by rfl) (hs : Sel (Ar T f b es) R R0 := by (repeat (first | exact Sel.here | apply Sel.there)); first | done | fail) (hv : stv t (f e) o v = some (f e') := by rfl) (hf : ∀ e, (f e).length = sz := by intro; rfl) (ho : off = j * sz + o := by first | rfl | omega) :
    Wl n C ops.toArray k Q (⟨none, .store t x y, ty0, pos, aft, gd⟩ :: l) E F R :=
  wl_op (fun t ht => by cases ht) (fun c hc => by cases hc) hw fun a w ha hsat => by
    obtain ⟨e1, e2⟩ := ar_split hf he
    have hv' : stv t (es.flatMap f).toArray.toList off v = some ((es.set j e').flatMap f) := by
      rw [ho, ← e2, ar_set he]
      show stv t (es.flatMap f) _ _ = _
      rw [e1]
      exact stv_in hv
    obtain ⟨w', g1, g2, g3, g4⟩ := stv_ok (hsat.pt hs) hv'
    unfold OpRes
    simp only [execOp, Instr.storeAt, ha.ev (x := x) (by rw [evf_look]; exact hx), ha.ev (x := y) (by rw [evf_look]; exact hy), Instr.sureAddr, Sem.run_bind, Sem.run_pure, Result.andThen, g1]
    exact fun a' ha' => nx a' w' ha' ((hsat.sel hs).write g3 g2 fun c hc _ => g4 c hc)
theorem l_ptc {o : Obj} (o' : Obj) (h : o = o') (nx : Wl n C ops.toArray k Q l E F (Pt b o' :: R0)) (hs : Sel (Pt b o) R R0 := by (repeat (first | exact Sel.here | apply Sel.there)); first | done | fail) : Wl n C ops.toArray k Q l E F R := by
  subst h
  exact fun a w ha hsat => nx a w ha (hsat.sel hs)
end Go.Proofs.YtgaipgbgppdfeaaGreatDoor

set_option maxRecDepth 10000
namespace Go.Proofs.YtgaipgbgppdfeaaGreatDoor
open Go.RowKit

variable {n : Nat} {C : Cx} {Q : Exit → Act → World → Prop} {E E' : List (Nat × Value)} {F F' F1 Fs F0 : List Pf} {R R' R0 Rs N N' A : List HP} {k k' : List Fr} {ops l : List Oper} {L L' : List (Nat × Nat)} {Tl : List Nat}
  {i d : Nat} {t ty0 : TypeId} {x y : Operand} {pos : String} {aft : Array Edge} {gd : Option (Nat × Bool)}

/-- What a call of a function value does. -/
def CallsV (v : Value) (vs : List Value) (w : World) (K : Value → World → Prop) : Prop :=
  match v with
  | .func fn fs cs => OpRes Tryz.prog (invoke (.fn fn cs) (fs ++ vs.toArray)) w K
  | _ => False
def SpecV (v : Value) (vs : List Value) (F : List Pf) (R : List HP) (post : Post) : Prop :=
  ∀ G w hp, Sat G w hp F R w → CallsV v vs w fun u w' => ∃ x, u = post.val x ∧ post.pure x ∧ Sat G w hp (post.F x) (post.R x) w'

/-- A call of a function value, by its contract. -/
theorem l_callV {v : Value} {args : Array Operand} {tys : Array TypeId} {vs : List Value} {post : Post} (spec : SpecV v vs F1 A post)
    (nx : ∀ x, post.pure x → Wl n C ops.toArray k Q l ((d, post.val x) :: E) (post.F x ++ F) (post.R x ++ R')) (hw : wantL ops E ⟨some d, .call ⟨.value x, args, tys⟩, ty0, pos, aft, gd⟩ = some true := by rfl) (hn : Nat.blt d n = true := by rfl)
    (hx : ev E x = some v := by rfl) (hargs : evs (ev E) args.toList some = some vs := by rfl) (sel : Sels A R R' := by (repeat (first | exact Sels.nil | exact Sel.here | apply Sel.there | apply Sels.cons)); first | done | fail)
    (hF : EntF F F1 := by (repeat (first | exact trivial | exact Sel.here | apply Sel.there | apply EntF.cons)); first | done | fail) :
    Wl n C ops.toArray k Q (⟨some d, .call ⟨.value x, args, tys⟩, ty0, pos, aft, gd⟩ :: l) E F R :=
  wl_op (fun t ht => by cases ht; exact Nat.le_of_ble_eq_true hn) (fun c hc => by cases hc) hw fun a w ha hsat => by
    obtain ⟨G', hp, h1, h2⟩ := sat_frame hsat sel hF.all
    have h3 := spec G' w hp h1
    obtain ⟨us, _, e2, e3⟩ := evs_eq _ _ _ hargs
    obtain rfl := Option.some.inj e2
    have e1 := e3 a.eval fun x _ u hu => ha.ev (by rw [evf_look]; exact hu)
    have e4 : args.map a.eval = us.toArray := by rw [← Array.toList_inj]; simpa using e1
    have e5 : (args.map fun x => a.eval x) = us.toArray := e4
    have e0 := ha.ev (x := x) (by rw [evf_look]; exact hx)
    unfold CallsV at h3
    split at h3
    · rename_i fn fs cs
      have h4 := h3.mono (R' := fun v w' => ∀ a', Agree n C.ds (upd (look E) (some d) v) a' → wpListIn (fz C.r) 0 Tryz.prog ops.toArray (after C.r k Q) l a' w') (by
        rintro v w' ⟨x, rfl, hx, hs⟩ a' ha'
        exact nx x hx a' w' ha' (h2 _ _ _ hs))
      unfold OpRes at h4 ⊢
      have er : (execOp a.eval ⟨some d, .call ⟨.value x, args, tys⟩, ty0, pos, aft, gd⟩).run Tryz.prog w = (invoke (.fn fn cs) (fs ++ us.toArray)).run Tryz.prog w := by
        simp only [execOp, resolve, e0, Deferred.ofValue, Sem.run_bind, Sem.run_pure, Result.andThen]
        rw [e5]
      rw [er]
      exact h4
    · exact h3.elim

/-- The round begins. -/
theorem putObj_write {G : H} {w0 w : World} {hp0 : H} {b : Nat} {o o' : Obj} (hs : Sat G w0 hp0 F (Pt b o :: R) w) : Sat G w0 hp0 F (Pt b o' :: R) (w.putObj b o') := by
  have hb := hs.pt Sel.here
  have hlt := (Array.getElem?_eq_some_iff.1 hb).1
  refine hs.write ⟨rfl, rfl, rfl, ?_⟩ (World.putObj_heap_same hlt) fun c hc _ => World.putObj_heap_other hc
  simp [World.putObj]
/-- What a loop's record keeps. -/
structure LR where
  fn : FuncId
  tmps : Array Value
  ps : Array Tmp
  assign : Code
  body : Code
  D : Nat
def rcd (q : LR) (st : LoopState) (pe : Option Code) : Loop := { state := st, pending := pe, fn := q.fn, tmps := q.tmps, params := q.ps, assign := q.assign, body := q.body, defers := q.D }

theorem k_beg {l : Nat} {q : LR} (t : Wk n C k' Q E F (Pt l (.loop (rcd q .busy none)) :: R0)) (hs : Sel (Pt l (.loop (rcd q .ready none))) R R0 := by (repeat (first | exact Sel.here | apply Sel.there)); first | done | fail) (h : nf 1000 k = .r l :: k' := by rfl) : Wk n C k Q E F R :=
  fun a w ha hsat => nf_ok 1000 k (by
    rw [h]
    exact ⟨_, run_beginRound (hsat.pt hs) rfl, t a _ ha (putObj_write (hsat.sel hs))⟩)

def both (a b : HP) : HP := fun h => Sep [a, b] h

/-- What is asked at a round's end. -/
def RQ (q : LR) (l : Nat) (G : H) (w0 : World) (hp0 : H) (Jt Jx : HP) : Exit → Act → World → Prop :=
  roundPost Tryz.prog l fun e w' => ∃ b, e = .returned (.bool b) ∧ Sat G w0 hp0 [] [if b then both (Pt l (.loop (rcd q .ready none))) Jt else both (Pt l (.loop (rcd q .done (some .ret)))) Jx] w'

theorem k_rn {q : LR} {l : Nat} {r : Option Nat} {G : H} {w0 : World} {hp0 : H} {ds : List Deferred} {Jt Jx : HP} (hs : Sels [Pt l (.loop (rcd q .busy none)), Jt] R R0 := by (repeat (first | exact Sels.nil | exact Sel.here | apply Sel.there | apply Sels.cons)); first | done | fail) (h : nf 1000 k = [] := by rfl) :
    Wk n ⟨r, G, w0, hp0, ds⟩ k (RQ q l G w0 hp0 Jt Jx) E F R := fun a w ha hsat => nf_ok 1000 k (by
  rw [h]
  have h1 := hsat.sels hs
  refine ⟨_, _, run_endRound none (h1.pt Sel.here), true, rfl, ?_⟩
  have h2 := putObj_write (o' := .loop (rcd q .ready none)) h1
  exact ((h2.shut (x := both _ _) fun _ hh => hh).facts (F' := []) (fun _ _ _ hx => by cases hx)).res fun _ hh => sep_left (A := [_]) hh)

theorem k_rr {q : LR} {l : Nat} {r : Option Nat} {G : H} {w0 : World} {hp0 : H} {ds : List Deferred} {Jt Jx : HP} (hs : Sels [Pt l (.loop (rcd q .busy none)), Jx] R R0 := by (repeat (first | exact Sels.nil | exact Sel.here | apply Sel.there | apply Sels.cons)); first | done | fail) (h : nf 1000 k = .c .ret :: k' := by rfl) (hn : noR k' = true := by rfl) :
    Wk n ⟨r, G, w0, hp0, ds⟩ k (RQ q l G w0 hp0 Jt Jx) E F R := k_rt (fun a w ha hsat => by
  have h1 := hsat.sels hs
  refine ⟨_, _, run_endRound (some .ret) (h1.pt Sel.here), false, rfl, ?_⟩
  have h2 := putObj_write (o' := .loop (rcd q .done (some .ret))) h1
  exact ((h2.shut (x := both _ _) fun _ hh => hh).facts (F' := []) (fun _ _ _ hx => by cases hx)).res fun _ hh => sep_left (A := [_]) hh) h hn

theorem roundPost_mono {P : Program} {l : Nat} {R R' : Ending → World → Prop} (h : ∀ e w, R e w → R' e w) : ∀ e a w, roundPost P l R e a w → roundPost P l R' e a w
  | .normal, _, _, ⟨v, w', h1, h2⟩ => ⟨v, w', h1, h _ _ h2⟩
  | .ret, _, _, ⟨v, w', h1, h2⟩ => ⟨v, w', h1, h _ _ h2⟩
  | .exit _, _, _, ⟨v, w', h1, h2⟩ => ⟨v, w', h1, h _ _ h2⟩
  | .goto _, _, _, ⟨v, w', h1, h2⟩ => ⟨v, w', h1, h _ _ h2⟩
  | .panic _, _, _, h => h
  | .outgrown, _, _, h => h

/-- What yield does with an element. -/
def YPost {α : Type} (I Ix : List α → HP) (pre : List α) (e : α) : Post := ⟨Bool, fun b => .bool b, fun _ => True, fun _ => [], fun b => [if b then I (pre ++ [e]) else Ix (pre ++ [e])]⟩

theorem after_nil {r : Option Nat} : after r [] Q = Q := by funext e a w; rfl

/-- One round, as yield. -/
theorem yield_ok {α : Type} {enc : α → Value} {q : LR} {l p : Nat} {J Jx : List α → HP} {pre : List α} {e : α} (hps : q.ps = #[p]) (hpn : p < n) (hag : ∀ a : Act, a.tmps = q.tmps → a.defers = [] → Agree n [] (look E) a)
    (hbody : ∀ G w0 hp0, Wk n ⟨some l, G, w0, hp0, []⟩ [.c q.assign, .r l, .c q.body] (RQ q l G w0 hp0 (J (pre ++ [e])) (Jx (pre ++ [e]))) ((p, enc e) :: E) F [Pt l (.loop (rcd q .ready none)), J pre]) :
    SpecV (.func (.yield l) #[] #[]) [enc e] [⟨fun h => ∀ f ∈ F, f.p h, fun _ _ s h f hf => f.m _ _ s (h f hf)⟩] [both (Pt l (.loop (rcd q .ready none))) (J pre)]
      (YPost (fun pre => both (Pt l (.loop (rcd q .ready none))) (J pre)) (fun pre => both (Pt l (.loop (rcd q .done (some .ret)))) (Jx pre)) pre e) := by
  intro G w hp hsat
  have h1 : Sat G w hp F [both (Pt l (.loop (rcd q .ready none))) (J pre)] w := hsat.facts fun hp hF => hF _ (List.mem_cons_self ..)
  obtain ⟨_, h2⟩ := h1.open' (X := Unit) (L := fun _ => [Pt l (.loop (rcd q .ready none)), J pre]) fun _ hh => ⟨(), hh⟩
  have hl := h2.pt Sel.here
  unfold CallsV OpRes
  have hy := run_yield (P := Tryz.prog) (args := #[enc e]) hl (by simp [rcd, hps])
  have hi : (invoke (.fn (.yield l) #[]) (#[] ++ [enc e].toArray)).run Tryz.prog w = (Instr.yield l #[enc e]).run Tryz.prog w := by simp [invoke]
  simp only [hi, hy]
  refine roundIn_of_wpIn trivial ?_
  have ha : Agree n [] (look ((p, enc e) :: E)) ({ tmps := ((rcd q .ready none).params.zip #[enc e]).foldl (fun tmps (x : Tmp × Value) => tmps.setIfInBounds x.1 x.2) (rcd q .ready none).tmps, defers := [] } : Act) := by
    have := (hag ⟨q.tmps, []⟩ rfl rfl).put (d := some p) (fun t ht => by cases ht; exact hpn) (enc e)
    rw [look_cons]
    simpa [rcd, hps, Act.put] using this
  have hb := hbody G w hp _ w ha h2
  refine wpIn_mono (show q.assign.wpIn (fz (some l)) 0 Tryz.prog (after (some l) [.r l, .c q.body] (RQ q l G w hp (J (pre ++ [e])) (Jx (pre ++ [e])))) _ w from hb) ?_
  rintro ex a1 w1 hx
  cases ex with
  | normal =>
    obtain ⟨w2, g1, g2⟩ := hx
    refine ⟨w2, g1, ?_⟩
    have g3 : q.body.wpIn (fz (some l)) 0 Tryz.prog (after (some l) [] (RQ q l G w hp (J (pre ++ [e])) (Jx (pre ++ [e])))) a1 w2 := g2
    rw [after_nil] at g3
    refine wpIn_mono g3 (roundPost_mono ?_)
    rintro e' w' ⟨b, rfl, hs'⟩
    exact ⟨b, rfl, trivial, hs'⟩
  | _ => exact hx.elim
theorem sep_tail {X : HP} {R : List HP} {h : H} (hh : Sep (X :: R) h) : Sep R h := by
  obtain ⟨_, h2, _, _, s2, _, hR⟩ := hh
  exact hR.sub s2
theorem sels_pre : ∀ (A : List HP) (X : HP) (R : List HP), Sels A (X :: (A ++ R)) (X :: R)
  | [], _, _ => .nil
  | _ :: A, X, R => .cons (.there .here) (sels_pre A X R)

/-- What a function that is ranged over does with yield: the elements xs, in their order. -/
def Iter {α : Type} (gf : FuncId) (lb : List Value) (enc : α → Value) (xs : List α) (Fg : List Pf) (A : List HP) : Prop :=
  ∀ (v : Value) (Y : Pf) (I Ix : List α → HP), (∀ pre e, pre ++ [e] <+: xs → SpecV v [enc e] [Y] [I pre] (YPost I Ix pre e)) →
    Enters gf ∧ Spec Tryz.prog gf (v :: lb).toArray (Y :: Fg) (I [] :: A) ⟨Option (List α), fun _ => .tuple #[], fun r => ∀ pre, r = some pre → pre <+: xs, fun _ => [], fun r => [match r with | none => I xs | some pre => Ix pre]⟩

/-- The range over a function. -/
theorem k_range {α : Type} {g : Operand} {p : Nat} {assign body : Code} {gf : FuncId} {lb : Array Value} {enc : α → Value} {xs : List α} {Fg : List Pf} {G : H} {w0 : World} {hp0 : H} {ds : List Deferred} (J Jx : List α → HP) (hit : Iter gf lb.toList enc xs Fg A)
    (hbody : ∀ (q : LR) (l : Nat) (pre : List α) (e : α), pre ++ [e] <+: xs → ∀ G w0 hp0, Wk n ⟨some l, G, w0, hp0, []⟩ [.c assign, .r l, .c body] (RQ q l G w0 hp0 (J (pre ++ [e])) (Jx (pre ++ [e]))) ((p, enc e) :: E) F [Pt l (.loop (rcd q .ready none)), J pre])
    (hdone : ∀ D, Wk n ⟨none, G, w0, hp0, { target := .collected D, args := #[] } :: ds⟩ k' Q E F (J xs :: Pt D (.deferred (some [])) :: R'))
    (hstop : ∀ D pre, pre <+: xs → Wret n ⟨none, G, w0, hp0, { target := .collected D, args := #[] } :: ds⟩ Q E F (Jx pre :: Pt D (.deferred (some [])) :: R'))
    (h : nf 1000 k = .c (.rangeFunc g #[p] assign body) :: k' := by rfl) (hg : ev E g = some (.func (.func gf) #[] lb) := by rfl) (hpn : Nat.blt p n = true := by rfl) (hnr : noR k' = true := by rfl)
    (sel : Sels (J [] :: A) R R' := by (repeat (first | exact Sels.nil | exact Sel.here | apply Sel.there | apply Sels.cons)); first | done | fail) (hFg : EntF F Fg := by (repeat (first | exact trivial | exact Sel.here | apply Sel.there | apply EntF.cons)); first | done | fail) : Wk n ⟨none, G, w0, hp0, ds⟩ k Q E F R := fun a w ha hs => nf_ok 1000 k (by
  rw [h]
  show (Code.rangeFunc g #[p] assign body).wpIn (fz none) 0 Tryz.prog (after none k' Q) a w
  refine wpIn_rangeFunc fun fn hfn => ?_
  let q : LR := ⟨fn, a.tmps, #[p], assign, body, w.heap.size⟩
  let lo : Obj := .loop (rcd q .ready none)
  have hs1 : Sat G w0 hp0 F (Pt (w.heap.size + 1) lo :: Pt w.heap.size (.deferred (some [])) :: J [] :: (A ++ R')) ((w.alloc (.deferred (some []))).alloc lo) := by
    have := ((hs.sels sel).alloc (.deferred (some []))).alloc lo
    simpa using this
  have hs2 : Sat G w0 hp0 F (both (Pt (w.heap.size + 1) lo) (J []) :: Pt w.heap.size (.deferred (some [])) :: (A ++ R')) ((w.alloc (.deferred (some []))).alloc lo) :=
    (hs1.sels (A := [Pt (w.heap.size + 1) lo, J []]) (.cons .here (.cons (.there .here) .nil))).shut (x := both _ _) fun _ hh => hh
  have hy : ∀ pre e, pre ++ [e] <+: xs → SpecV (.func (.yield (w.heap.size + 1)) #[] #[]) [enc e] _ _ _ := fun pre e hpre =>
    yield_ok (n := n) (E := E) (F := F) (enc := enc) (q := q) (l := w.heap.size + 1) (p := p) (J := J) (Jx := Jx) (pre := pre) (e := e) rfl (Nat.le_of_ble_eq_true hpn)
      (fun b hb hd => ⟨by rw [hb]; exact ha.size, hd, fun t v hv => by rw [hb]; exact ha.slots t v hv⟩) (fun G w0 hp0 => hbody q _ pre e hpre G w0 hp0)
  obtain ⟨eg, hsp⟩ := hit _ _ _ _ hy
  have hev := ha.ev (x := g) (by rw [evf_look]; exact hg)
  refine ⟨w.heap.size + 1, [{ target := .collected w.heap.size, args := #[] }], (w.alloc (.deferred (some []))).alloc lo, { target := .fn (.func gf) lb, args := #[.func (.yield (w.heap.size + 1)) #[] #[]] }, (w.alloc (.deferred (some []))).alloc lo, gf, #[.func (.yield (w.heap.size + 1)) #[] #[]] ++ lb, (w.alloc (.deferred (some []))).alloc lo, run_enterLoop_outer _ _ _ _ _, ?_, fun _ _ => trivial, ?_, (fun hx => by cases hx), ?_⟩
  · simp only [resolve, hev]
    simp [go_sem, Deferred.ofValue, Act.eval]
  · simp only [invoke]
    exact eg _ _
  · have e1 : #[Value.func (.yield (w.heap.size + 1)) #[] #[]] ++ lb = (Value.func (.yield (w.heap.size + 1)) #[] #[] :: lb.toList).toArray := by rw [← Array.toList_inj]; simp
    rw [e1]
    refine callsIn_fz (sat_call hsp hs2 (.cons .here (sels_pre A _ R')) (fun hp hF f hf => ?_) fun r w' hr hs3 => ?_)
    · rcases List.mem_cons.1 hf with rfl | hf
      · exact hF
      · exact hFg.all hp hF f hf
    · have hds : ({ a with defers := [{ target := .collected w.heap.size, args := #[] }] ++ a.defers } : Act).defers = { target := .collected w.heap.size, args := #[] } :: ds := by simp [ha.defers]
      have ha' : Agree n ({ target := .collected w.heap.size, args := #[] } :: ds) (look E) { a with defers := [{ target := .collected w.heap.size, args := #[] }] ++ a.defers } := ⟨ha.size, hds, ha.slots⟩
      cases r with
      | none =>
        obtain ⟨_, h4⟩ := (show Sat G w0 hp0 F (both (Pt (w.heap.size + 1) lo) (J xs) :: Pt w.heap.size (.deferred (some [])) :: R') w' from hs3).open' (X := Unit) (L := fun _ => [Pt (w.heap.size + 1) lo, J xs]) fun _ hh => ⟨(), hh⟩
        refine ⟨none, _, run_endLoop (h4.pt Sel.here) (by simp [rcd]), ?_⟩
        have h5 := putObj_write (o' := .loop (rcd q .exhausted none)) h4
        exact hdone w.heap.size _ _ ha' (h5.res fun _ hh => sep_tail hh)
      | some pre =>
        obtain ⟨_, h4⟩ := (show Sat G w0 hp0 F (both (Pt (w.heap.size + 1) (.loop (rcd q .done (some .ret)))) (Jx pre) :: Pt w.heap.size (.deferred (some [])) :: R') w' from hs3).open' (X := Unit) (L := fun _ => [Pt (w.heap.size + 1) (.loop (rcd q .done (some .ret))), Jx pre]) fun _ hh => ⟨(), hh⟩
        refine ⟨some .ret, _, run_endLoop (h4.pt Sel.here) (by simp [rcd]), ?_⟩
        have h5 := putObj_write (o' := .loop (rcd q .exhausted (some .ret))) h4
        refine wpIn_ret ?_
        rw [after_ret hnr]
        exact hstop w.heap.size pre (hr pre rfl) _ _ ha' (h5.res fun _ hh => sep_tail hh))
/-- A function whose body holds a range over a function. -/
theorem spec_ofM {f : FuncId} {fn : Func} {c : Code} {vs : List Value} {post : Post} {nt : Nat} (hf : Tryz.prog.funcs[f]? = some fn) (hb : fn.body = some c) (hnt : fn.ntmps = nt) (hle : Nat.ble vs.length nt = true)
    (t : ∀ G w hp, Wk nt ⟨none, G, w, hp, []⟩ [.c c] (bodyPostM Fence.wide 0 Tryz.prog fn (post.holds G w hp)) (argsE 0 vs) F R) : Spec Tryz.prog f vs.toArray F R post := by
  intro G w hp hsat
  refine (callsIn_wide (n := 0)).1 (callsIn_of_wp_marks hf hb trivial ?_)
  refine t G w hp _ w ⟨?_, rfl, fun i v hv => ?_⟩ hsat
  · have := Nat.le_of_ble_eq_true hle
    simp [hnt]; omega
  · obtain ⟨_, h2⟩ := argsE_look vs 0 i v hv
    simp only [Nat.sub_zero] at h2
    have hlt : i < vs.length := (List.getElem?_eq_some_iff.1 h2).1
    simp only
    rw [Array.getElem?_append_left (by simpa using hlt)]
    simpa using h2

theorem w_retM {fn : Func} {post : Post} {G : H} {w0 : World} {hp0 : H} {D : Nat} {R1 : List HP} (xx : post.X) {vs : List Value} (hv : resV vs = post.val xx) (hp : post.pure xx)
    (hD : Sel (Pt D (.deferred (some []))) R R1 := by (repeat (first | exact Sel.here | apply Sel.there)); first | done | fail)
    (hr : ResOK E R1 fn.results.toList vs := by (repeat (first | exact ResOK.nil | exact Sel.here | apply Sel.there | exact rfl | apply ResOK.tmp | apply ResOK.cell)); first | done | fail)
    (hF : EntF F (post.F xx) := by (repeat (first | exact trivial | exact Sel.here | apply Sel.there | apply EntF.cons)); first | done | fail)
    (hR : Sels (post.R xx) R1 R0 := by (repeat (first | exact Sels.nil | exact Sel.here | apply Sel.there | apply Sels.cons)); first | done | fail) :
    Wret n ⟨none, G, w0, hp0, [{ target := .collected D, args := #[] }]⟩ (bodyPostM Fence.wide 0 Tryz.prog fn (post.holds G w0 hp0)) E F R := fun a w ha hs => by
  have h1 := hs.sel hD
  have h2 := (putObj_write (o' := .deferred none) h1).res fun _ hh => sep_tail hh
  show LeavesInM Fence.wide 0 Tryz.prog fn a.tmps _ a.defers .returning w
  rw [show a.defers = [{ target := .collected D, args := #[] }] from ha.defers]
  refine ⟨by simp, .inl ⟨D, _, rfl, run_takeDeferred (h1.pt Sel.here), ?_⟩⟩
  exact ⟨_, results_ok (C := ⟨none, G, w0, hp0, [{ target := .collected D, args := #[] }]⟩) ha h2 hr, xx, by rw [hv], hp, ((h2.sels hR).facts (F' := post.F xx) hF.all).res fun _ h => sep_left h⟩

theorem k_retM {fn : Func} {post : Post} {G : H} {w0 : World} {hp0 : H} {D : Nat} {R1 : List HP} (xx : post.X) {vs : List Value} (hv : resV vs = post.val xx) (hp : post.pure xx)
    (hD : Sel (Pt D (.deferred (some []))) R R1 := by (repeat (first | exact Sel.here | apply Sel.there)); first | done | fail)
    (hr : ResOK E R1 fn.results.toList vs := by (repeat (first | exact ResOK.nil | exact Sel.here | apply Sel.there | exact rfl | apply ResOK.tmp | apply ResOK.cell)); first | done | fail)
    (hF : EntF F (post.F xx) := by (repeat (first | exact trivial | exact Sel.here | apply Sel.there | apply EntF.cons)); first | done | fail)
    (hR : Sels (post.R xx) R1 R0 := by (repeat (first | exact Sels.nil | exact Sel.here | apply Sel.there | apply Sels.cons)); first | done | fail)
    (h : nf 1000 k = .c .ret :: k' := by rfl) (hn : noR k' = true := by rfl) :
    Wk n ⟨none, G, w0, hp0, [{ target := .collected D, args := #[] }]⟩ k (bodyPostM Fence.wide 0 Tryz.prog fn (post.holds G w0 hp0)) E F R := k_rt (w_retM xx hv hp hD hr hF hR) h hn
end Go.Proofs.YtgaipgbgppdfeaaGreatDoor

set_option maxRecDepth 10000
namespace Go.Proofs.YtgaipgbgppdfeaaGreatDoor
open Go.RowKit

variable {n : Nat} {C : Cx} {Q : Exit → Act → World → Prop} {E E' : List (Nat × Value)} {F F' F1 Fs F0 : List Pf} {R R' R0 Rs N N' A : List HP} {k k' : List Fr} {ops l : List Oper} {L L' : List (Nat × Nat)} {Tl : List Nat}
  {i d : Nat} {t ty0 : TypeId} {x y : Operand} {pos : String} {aft : Array Edge} {gd : Option (Nat × Bool)}

/-- What a function that is ranged over does with yield: what was met stays within Ok; at the end it is All. -/
def IterU {α : Type} (gf : FuncId) (lb : List Value) (enc : α → Value) (Ok All : List α → Prop) (Fg : List Pf) (A A' : List HP) : Prop :=
  ∀ (v : Value) (Y : Pf) (I Ix : List α → HP), (∀ pre e, Ok (pre ++ [e]) → SpecV v [enc e] [Y] [I pre] (YPost I Ix pre e)) →
    Enters gf ∧ Spec Tryz.prog gf (v :: lb).toArray (Y :: Fg) (I [] :: A) ⟨Option (List α) × List α, fun _ => .tuple #[], fun r => match r.1 with | none => All r.2 | some _ => True, fun _ => [], fun r => (match r.1 with | none => I r.2 | some pre => Ix pre) :: A'⟩

end Go.Proofs.YtgaipgbgppdfeaaGreatDoor

set_option maxRecDepth 10000
namespace Go.Proofs.YtgaipgbgppdfeaaGreatDoor
open Go.RowKit

/-- The code behind the first statements. -/
def drpS : Nat → List Fr → List Fr
  | m + 1, .c (.seq _ b) :: k => drpS m (.c b :: k)
  | _, k => k
section
variable {n : Nat} {C : Cx} {Q : Exit → Act → World → Prop} {E : List (Nat × Value)} {F : List Pf} {R : List HP} {k : List Fr}
end
end Go.Proofs.YtgaipgbgppdfeaaGreatDoor
