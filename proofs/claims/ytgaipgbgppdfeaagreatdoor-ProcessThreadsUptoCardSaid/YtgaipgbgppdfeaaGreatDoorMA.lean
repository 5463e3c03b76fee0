/-
  A region of operations whose order is drawn: a law that reduces every order to one chosen order.
  A small separation logic over worlds: facts that stay, memory that is owned, and what a call leaves.
  Operations that only reckon, evaluated by a function on the frame's known slots; and that this is what the model does.
  What the evaluating function gives is what the model's operation gives.
  The walk through a region that draws its order, in terms of facts and owned memory.
  A region that draws its order, walked once, in terms of facts and owned memory.
  Conditions: those that each theorem states.
-/
import Derived.WalkKit
import Derived.OrdersIn
import Derived.Below
namespace Go.Proofs.YtgaipgbgppdfeaaGreatDoor
open Go.RowKit

/-- The fence that bars nothing; r: the loop whose round is walked, if any. -/
abbrev fz (r : Option Nat) : Fence := { Fence.wide with round := r }

/-- Memory that was there stays; new blocks may come. -/
abbrev Ext (w w' : World) : Prop := Below w.heap.size w w'

theorem ext_trans {a b c : World} (h : Ext a b) (k : Ext b c) : Ext a c := Below.trans h (Below.mono k h.size)
theorem ext_blk {w w' : World} (h : Ext w w') {b : Nat} {o : Obj} (hb : w.heap[b]? = some o) : w'.heap[b]? = some o :=
  (h.block b (Array.getElem?_eq_some_iff.1 hb).1).trans hb
theorem ext_alloc (w : World) (o : Obj) : Ext w (w.alloc o) := (Below.refl _ w).alloc (Nat.le_refl _) o
theorem heap_alloc_new (w : World) (o : Obj) : (w.alloc o).heap[w.heap.size]? = some o := by
  show (w.heap.push o)[w.heap.size]? = _
  simp

/-- A property of worlds that new memory does not end. -/
def Stab (F : World → Prop) : Prop := ∀ w w', Ext w w' → F w → F w'

theorem stab_and {F G : World → Prop} (hF : Stab F) (hG : Stab G) : Stab (fun w => F w ∧ G w) :=
  fun w w' h hw => ⟨hF w w' h hw.1, hG w w' h hw.2⟩
theorem stab_new (n b : Nat) (o : Obj) : Stab (fun w => n ≤ b ∧ w.heap[b]? = some o) := fun _ _ h hw => ⟨hw.1, ext_blk h hw.2⟩

/-- An operation that makes one block, whatever the world. -/
def AllocRun (P : Program) (e : Sem Next) (obj : Obj) (mk : Nat → Value) : Prop :=
  ∀ w : World, e.run P w = .ok (.value (mk w.heap.size)) (w.alloc obj)

theorem allocRun_unique {P : Program} {e : Sem Next} {o o' : Obj} {mk mk' : Nat → Value} (h : AllocRun P e o mk) (h' : AllocRun P e o' mk') :
    o = o' ∧ mk = mk' := by
  have key : ∀ n : Nat, mk n = mk' n ∧ o = o' := fun n => by
    let w : World := { (default : World) with heap := Array.replicate n default }
    have hs : w.heap.size = n := by simp [w]
    have h1 := (h w).symm.trans (h' w)
    rw [hs] at h1
    injection h1 with h1 h2
    injection h1 with h1
    refine ⟨h1, ?_⟩
    have h3 : (w.alloc o).heap[w.heap.size]? = (w.alloc o').heap[w.heap.size]? := by rw [h2]
    rw [heap_alloc_new, heap_alloc_new] at h3
    exact Option.some.inj h3
  exact ⟨(key 0).2, funext fun n => (key n).1⟩

/-- What an operation does, told by its result. -/
def OpRes (P : Program) (e : Sem Next) (w : World) (R : Value → World → Prop) : Prop :=
  match e.run P w with
  | .ok (.value v) w' => R v w'
  | .ok .skip w' => R undef w'
  | .ok (.enter f args) w' => Calls P f args w' fun
      | .returned v, w'' => R v w''
      | _, _ => False
  | .ok (.round l f tmps assign body) w' => RoundIn Fence.wide 0 P l f tmps assign body w' fun
      | .returned v, w'' => R v w''
      | _, _ => False
  | _ => False

theorem OpRes.mono {P : Program} {e : Sem Next} {w : World} {R R' : Value → World → Prop} (h : OpRes P e w R) (hr : ∀ v w', R v w' → R' v w') : OpRes P e w R' := by
  unfold OpRes at *
  split at h
  · exact hr _ _ h
  · exact hr _ _ h
  · exact Calls.mono h fun e w' he => by cases e <;> first | exact hr _ _ he | exact he
  · exact RoundIn.mono h fun e w' he => by cases e <;> first | exact hr _ _ he | exact he
  · exact h.elim

theorem OpRes.ex {P : Program} {e : Sem Next} {w : World} {R : Value → World → Prop} (h : OpRes P e w R) : ∃ v w', R v w' := by
  unfold OpRes at h
  split at h
  · exact ⟨_, _, h⟩
  · exact ⟨_, _, h⟩
  · obtain ⟨e, w', _, hr, _⟩ := h []
    cases e with
    | returned v => exact ⟨v, w', hr⟩
    | panicked c => exact hr.elim
    | outgrown => exact hr.elim
  · obtain ⟨e, w', hr, _⟩ := h.2 default [] (fun d hd => by cases hd)
    cases e with
    | returned v => exact ⟨v, w', hr⟩
    | panicked c => exact hr.elim
    | outgrown => exact hr.elim
  · exact h.elim

theorem callsIn_fz {r : Option Nat} {P : Program} {f : FuncId} {args : Array Value} {w : World} {R : Ending → World → Prop} (h : Calls P f args w R) : CallsIn (fz r) 0 P f args w R :=
  (callsIn_wide (n := 0)).2 h

/-- The operation's step, told by its result. -/
theorem wpIn_of_res {P : Program} {r : Option Nat} {Q : Exit → Act → World → Prop} {o : Oper} {a : Act} {w : World} {R : Value → World → Prop} {K : Act → World → Prop}
    (hd : ∀ c, o.op ≠ .defer c) (h : OpRes P (execOp a.eval o) w R) (hk : ∀ v w', R v w' → K (a.put o.dst v) w') : o.wpIn (fz r) 0 P a w K Q := by
  refine ⟨fun _ _ => trivial, ?_⟩
  rw [Oper.semAt_eq _ _ _ hd]
  unfold OpRes at h
  split at h
  · rename_i v w' hr; simp only [hr, Oper.uponIn]; exact hk _ _ h
  · rename_i w' hr; simp only [hr, Oper.uponIn]; exact hk _ _ h
  · rename_i f args w' hr
    simp only [hr, Oper.uponIn]
    exact ⟨fun hx => (by cases hx), callsIn_fz (Calls.mono h fun e w'' he => by cases e <;> first | exact hk _ _ he | exact he.elim)⟩
  · rename_i l f tmps assign body w' hr
    simp only [hr, Oper.uponIn]
    exact ⟨fun hx => (by cases hx), (RoundIn.mono h fun e w'' he => by cases e <;> first | exact hk _ _ he | exact he.elim)⟩
  · exact h.elim

theorem wpOp_of_res {P : Program} {r : Option Nat} {ops : Array Oper} {Q : Exit → Act → World → Prop} {i : Nat} {o : Oper} {a : Act} {w : World} {R : Value → World → Prop} {K : Act → World → Prop}
    (hi : ops[i]? = some o) (hd : ∀ c, o.op ≠ .defer c) (hw : Region.wanted o (yielded ops a.tmps) = true) (h : OpRes P (execOp a.eval o) w R) (hk : ∀ v w', R v w' → K (a.put o.dst v) w') :
    wpOpIn (fz r) 0 P ops Q i K a w := by
  unfold wpOpIn
  simp only [hi, hw, if_true]
  exact wpIn_of_res hd h hk

/-- The walk through a region in a chosen order: kind 0 reads, kind 1 makes one block, kind 2 may do more; 'E': what stands at the end. -/
def WL (P : Program) (ops : Array Oper) (w0 : World) (E : (World → Prop) → Act → Prop) : List (Nat × Nat) → (World → Prop) → Act → Prop
  | [], F, a => E F a
  | (i, k) :: L, F, a => ∀ o, ops[i]? = some o → (∃ w, Ext w0 w ∧ F w) →
    if Region.wanted o (yielded ops a.tmps) = true then
      match k with
      | 0 => ∃ v, (∀ w, Ext w0 w → F w → (execOp a.eval o).run P w = .ok (.value v) w) ∧ WL P ops w0 E L F (a.put o.dst v)
      | 1 => ∃ obj mk, AllocRun P (execOp a.eval o) obj mk ∧ ∀ b, WL P ops w0 E L (fun w => F w ∧ w0.heap.size ≤ b ∧ w.heap[b]? = some obj) (a.put o.dst (mk b))
      | _ => ∃ Φ : Value → World → Prop, (∀ v, Stab (Φ v)) ∧ (∀ w, Ext w0 w → F w → OpRes P (execOp a.eval o) w fun v w' => Ext w w' ∧ Φ v w') ∧
          ∀ v, WL P ops w0 E L (fun w => F w ∧ Φ v w) (a.put o.dst v)
    else WL P ops w0 E L F (a.put o.dst undef)

section
variable {P : Program} {ops : Array Oper} {w0 : World} {E : (World → Prop) → Act → Prop}

theorem WL.anti (hE : ∀ F F' a, (∀ w, F' w → F w) → E F a → E F' a) : ∀ (L : List (Nat × Nat)) (F F' : World → Prop) (a : Act), (∀ w, F' w → F w) → WL P ops w0 E L F a → WL P ops w0 E L F' a
  | [], F, F', a, hF, h => hE F F' a hF h
  | (i, k) :: L, F, F', a, hF, h => by
    rintro o ho ⟨wx, hwx, hfx⟩
    have h := h o ho ⟨wx, hwx, hF wx hfx⟩
    split
    · rename_i hw
      rw [if_pos hw] at h
      match k with
      | 0 =>
        obtain ⟨v, h1, h2⟩ := h
        exact ⟨v, fun w hb hf => h1 w hb (hF w hf), WL.anti hE L F F' _ hF h2⟩
      | 1 =>
        obtain ⟨obj, mk, h1, h2⟩ := h
        exact ⟨obj, mk, h1, fun b => WL.anti hE L _ _ _ (fun w hw => ⟨hF w hw.1, hw.2⟩) (h2 b)⟩
      | k + 2 =>
        obtain ⟨Φ, hs, h1, h2⟩ := h
        exact ⟨Φ, hs, fun w hb hf => h1 w hb (hF w hf), fun v => WL.anti hE L _ _ _ (fun w hw => ⟨hF w hw.1, hw.2⟩) (h2 v)⟩
    · rename_i hw
      rw [if_neg hw] at h
      exact WL.anti hE L F F' _ hF h

theorem WL.none (hE0 : ∀ F a, (∀ w, Ext w0 w → ¬ F w) → E F a) {F : World → Prop} (hF : ∀ w, Ext w0 w → ¬ F w) (L : List (Nat × Nat)) (a : Act) : WL P ops w0 E L F a := by
  cases L with
  | nil => exact hE0 F a hF
  | cons x L => exact fun _ _ ⟨w, hx, hf⟩ => (hF w hx hf).elim

/-- The operations y and x stand apart: neither looks at what the other writes. -/
def apartOf (ops : Array Oper) (y x : Nat) : Bool :=
  match ops[y]?, ops[x]? with
  | some oy, some ox => oy.apart ops ox
  | _, _ => false

theorem apartOf_spec {y x : Nat} {oy ox : Oper} (hy : ops[y]? = some oy) (hx : ops[x]? = some ox) (h : apartOf ops y x = true) :
    (∀ d, oy.dst = some d → d ∉ ox.looksAt ops) ∧ (∀ d, oy.dst = some d → ox.dst ≠ some d) ∧ (∀ d, ox.dst = some d → d ∉ oy.looksAt ops) := by
  simp only [apartOf, hy, hx] at h
  exact Oper.apart_spec h

variable (hsel : Region.noSelect ops = true) (hE : ∀ F F' a, (∀ w, F' w → F w) → E F a → E F' a) (hE0 : ∀ F a, (∀ w, Ext w0 w → ¬ F w) → E F a)
include hsel hE hE0

theorem WL.pull {i : Nat} {oi : Oper} (hi : ops[i]? = some oi) (C : List (Nat × Nat)) : ∀ (A : List (Nat × Nat)) (F : World → Prop) (a : Act),
    (∀ y ∈ A, apartOf ops y.1 i = true) → (∀ y ∈ A, ∃ oy, ops[y.1]? = some oy) → Stab F → (∃ w, Ext w0 w ∧ F w) → WL P ops w0 E (A ++ (i, 1) :: C) F a →
    if Region.wanted oi (yielded ops a.tmps) = true then
      ∃ obj mk, AllocRun P (execOp a.eval oi) obj mk ∧ ∀ b, WL P ops w0 E (A ++ C) (fun w => F w ∧ w0.heap.size ≤ b ∧ w.heap[b]? = some obj) (a.put oi.dst (mk b))
    else WL P ops w0 E (A ++ C) F (a.put oi.dst undef)
  | [], F, a, _, _, _, hne, h => by
    have h := h oi hi hne
    exact h
  | (y, ky) :: A, F, a, hap, hin, hst, hne, h => by
    obtain ⟨oy, hy⟩ := hin (y, ky) List.mem_cons_self
    obtain ⟨ap1, ap2, ap3⟩ := apartOf_spec hy hi (hap (y, ky) List.mem_cons_self)
    have hsi : ∀ cs b, oi.op ≠ .select cs b := fun cs b => Region.noSelect_spec hsel i oi cs b hi
    have hsy : ∀ cs b, oy.op ≠ .select cs b := fun cs b => Region.noSelect_spec hsel y oy cs b hy
    have hap' : ∀ z ∈ A, apartOf ops z.1 i = true := fun z hz => hap z (List.mem_cons_of_mem _ hz)
    have hin' : ∀ z ∈ A, ∃ oz, ops[z.1]? = some oz := fun z hz => hin z (List.mem_cons_of_mem _ hz)
    obtain ⟨wn, hwn, hfn⟩ := hne
    have h := h oy hy ⟨wn, hwn, hfn⟩
    have ih := fun F' v (hst' : Stab F') (hne' : ∃ w, Ext w0 w ∧ F' w) (hh : WL P ops w0 E (A ++ (i, 1) :: C) F' (a.put oy.dst v)) => WL.pull hi C A F' (a.put oy.dst v) hap' hin' hst' hne' hh
    have ewi : ∀ v, Region.wanted oi (yielded ops (a.put oy.dst v).tmps) = Region.wanted oi (yielded ops a.tmps) := fun v => wanted_put oi a oy.dst v ap1
    have eei : ∀ v, execOp (a.put oy.dst v).eval oi = execOp a.eval oi := fun v => execOp_put oi hsi a oy.dst v ap1
    have ewy : ∀ v, Region.wanted oy (yielded ops (a.put oi.dst v).tmps) = Region.wanted oy (yielded ops a.tmps) := fun v => wanted_put oy a oi.dst v ap3
    have eey : ∀ v, execOp (a.put oi.dst v).eval oy = execOp a.eval oy := fun v => execOp_put oy hsy a oi.dst v ap3
    have hcom : ∀ v u, (a.put oy.dst v).put oi.dst u = (a.put oi.dst u).put oy.dst v := fun v u => Act.put_comm a v u ap2
    have only : ∀ {o' : Oper}, ops[y]? = some o' → o' = oy := fun ho => Option.some.inj (ho.symm.trans hy)
    by_cases hwy : Region.wanted oy (yielded ops a.tmps) = true
    · rw [if_pos hwy] at h
      match ky with
      | 0 =>
        obtain ⟨v, hq, h2⟩ := h
        have h3 := ih F v hst ⟨wn, hwn, hfn⟩ h2
        rw [ewi, eei] at h3
        by_cases hwi : Region.wanted oi (yielded ops a.tmps) = true
        · rw [if_pos hwi] at h3 ⊢
          obtain ⟨obj, mk, hr, h4⟩ := h3
          refine ⟨obj, mk, hr, fun b o' ho' _ => ?_⟩
          rw [only ho', ewy, if_pos hwy]
          refine ⟨v, fun w hb hf => by rw [eey]; exact hq w hb hf.1, ?_⟩
          rw [← hcom]; exact h4 b
        · rw [if_neg hwi] at h3 ⊢
          intro o' ho' _
          rw [only ho', ewy, if_pos hwy]
          refine ⟨v, fun w hb hf => by rw [eey]; exact hq w hb hf, ?_⟩
          rw [← hcom]; exact h3
      | 1 =>
        obtain ⟨obj', mk', hr', h2⟩ := h
        have hst2 : ∀ b', Stab (fun w => F w ∧ w0.heap.size ≤ b' ∧ w.heap[b']? = some obj') := fun b' => stab_and hst (stab_new _ _ _)
        have h3 := fun b' hne' => ih _ _ (hst2 b') hne' (h2 b')
        have hne0 : ∃ w, Ext w0 w ∧ F w ∧ w0.heap.size ≤ wn.heap.size ∧ w.heap[wn.heap.size]? = some obj' :=
          ⟨wn.alloc obj', ext_trans hwn (ext_alloc _ _), hst _ _ (ext_alloc _ _) hfn, hwn.size, heap_alloc_new _ _⟩
        simp only [ewi, eei] at h3
        by_cases hwi : Region.wanted oi (yielded ops a.tmps) = true
        · simp only [if_pos hwi] at h3 ⊢
          obtain ⟨obj, mk, hr, _⟩ := h3 wn.heap.size hne0
          refine ⟨obj, mk, hr, fun b o' ho' _ => ?_⟩
          rw [only ho', ewy, if_pos hwy]
          refine ⟨obj', mk', by rw [eey]; exact hr', fun b' => ?_⟩
          by_cases hx : ∃ w, Ext w0 w ∧ F w ∧ w0.heap.size ≤ b' ∧ w.heap[b']? = some obj'
          · obtain ⟨obj2, mk2, hr2, h4⟩ := h3 b' hx
            obtain ⟨rfl, rfl⟩ := allocRun_unique hr hr2
            rw [← hcom]
            exact WL.anti hE _ _ _ _ (fun w hw => ⟨⟨hw.1.1, hw.2⟩, hw.1.2⟩) (h4 b)
          · exact WL.none hE0 (fun w hw hf => hx ⟨w, hw, hf.1.1, hf.2⟩) _ _
        · simp only [if_neg hwi] at h3 ⊢
          intro o' ho' _
          rw [only ho', ewy, if_pos hwy]
          refine ⟨obj', mk', by rw [eey]; exact hr', fun b' => ?_⟩
          by_cases hx : ∃ w, Ext w0 w ∧ F w ∧ w0.heap.size ≤ b' ∧ w.heap[b']? = some obj'
          · rw [← hcom]; exact h3 b' hx
          · exact WL.none hE0 (fun w hw hf => hx ⟨w, hw, hf⟩) _ _
      | k + 2 =>
        obtain ⟨Φ, hs, hq, h2⟩ := h
        have hst2 : ∀ v, Stab (fun w => F w ∧ Φ v w) := fun v => stab_and hst (hs v)
        have h3 := fun v hne' => ih _ _ (hst2 v) hne' (h2 v)
        obtain ⟨v0, w1, hx1, hΦ1⟩ := (hq wn hwn hfn).ex
        have hne0 : ∃ w, Ext w0 w ∧ F w ∧ Φ v0 w := ⟨w1, ext_trans hwn hx1, hst _ _ hx1 hfn, hΦ1⟩
        simp only [ewi, eei] at h3
        by_cases hwi : Region.wanted oi (yielded ops a.tmps) = true
        · simp only [if_pos hwi] at h3 ⊢
          obtain ⟨obj, mk, hr, _⟩ := h3 v0 hne0
          refine ⟨obj, mk, hr, fun b o' ho' _ => ?_⟩
          rw [only ho', ewy, if_pos hwy]
          refine ⟨Φ, hs, fun w hb hf => by rw [eey]; exact hq w hb hf.1, fun v => ?_⟩
          by_cases hx : ∃ w, Ext w0 w ∧ F w ∧ Φ v w
          · obtain ⟨obj2, mk2, hr2, h4⟩ := h3 v hx
            obtain ⟨rfl, rfl⟩ := allocRun_unique hr hr2
            rw [← hcom]
            exact WL.anti hE _ _ _ _ (fun w hw => ⟨⟨hw.1.1, hw.2⟩, hw.1.2⟩) (h4 b)
          · exact WL.none hE0 (fun w hw hf => hx ⟨w, hw, hf.1.1, hf.2⟩) _ _
        · simp only [if_neg hwi] at h3 ⊢
          intro o' ho' _
          rw [only ho', ewy, if_pos hwy]
          refine ⟨Φ, hs, fun w hb hf => by rw [eey]; exact hq w hb hf, fun v => ?_⟩
          by_cases hx : ∃ w, Ext w0 w ∧ F w ∧ Φ v w
          · rw [← hcom]; exact h3 v hx
          · exact WL.none hE0 (fun w hw hf => hx ⟨w, hw, hf⟩) _ _
    · rw [if_neg hwy] at h
      have h3 := ih F undef hst ⟨wn, hwn, hfn⟩ h
      rw [ewi, eei] at h3
      by_cases hwi : Region.wanted oi (yielded ops a.tmps) = true
      · rw [if_pos hwi] at h3 ⊢
        obtain ⟨obj, mk, hr, h4⟩ := h3
        refine ⟨obj, mk, hr, fun b o' ho' _ => ?_⟩
        rw [only ho', ewy, if_neg hwy, ← hcom]
        exact h4 b
      · rw [if_neg hwi] at h3 ⊢
        intro o' ho' _
        rw [only ho', ewy, if_neg hwy, ← hcom]
        exact h3

theorem WL.first {i k : Nat} {oi : Oper} (hi : ops[i]? = some oi) (C : List (Nat × Nat)) : ∀ (A : List (Nat × Nat)) (F : World → Prop) (a : Act),
    (∀ y ∈ A, apartOf ops y.1 i = true ∧ (y.2 = 0 ∨ k = 1)) → (∀ y ∈ A, ∃ oy, ops[y.1]? = some oy) → Stab F → (∃ w, Ext w0 w ∧ F w) → WL P ops w0 E (A ++ (i, k) :: C) F a →
    if Region.wanted oi (yielded ops a.tmps) = true then
      ∀ w, Ext w0 w → F w → OpRes P (execOp a.eval oi) w fun v w' => Ext w w' ∧ ∃ F' : World → Prop, Stab F' ∧ F' w' ∧ (∀ w, F' w → F w) ∧ WL P ops w0 E (A ++ C) F' (a.put oi.dst v)
    else WL P ops w0 E (A ++ C) F (a.put oi.dst undef) := by
  intro A F a hap hin hst hne h
  by_cases hk : k = 1
  · subst hk
    have h1 := WL.pull hsel hE hE0 hi C A F a (fun y hy => (hap y hy).1) hin hst hne h
    split
    · rename_i hw
      rw [if_pos hw] at h1
      obtain ⟨obj, mk, hr, h2⟩ := h1
      intro w hb hf
      unfold OpRes
      rw [hr w]
      exact ⟨ext_alloc w obj, _, stab_and hst (stab_new _ _ _), ⟨hst _ _ (ext_alloc w obj) hf, hb.size, heap_alloc_new w obj⟩, fun w hw => hw.1, h2 w.heap.size⟩
    · rename_i hw
      rw [if_neg hw] at h1
      exact h1
  · induction A generalizing F a with
    | nil =>
      have h := h oi hi hne
      split
      · rename_i hw
        rw [if_pos hw] at h
        intro w hb hf
        match k, hk with
        | 0, _ =>
          obtain ⟨v, hq, h2⟩ := h
          unfold OpRes
          rw [hq w hb hf]
          exact ⟨Below.refl _ _, F, hst, hf, fun _ h => h, h2⟩
        | k + 2, _ =>
          obtain ⟨Φ, hs, hq, h2⟩ := h
          exact (hq w hb hf).mono fun v w' hv => ⟨hv.1, _, stab_and hst (hs v), ⟨hst _ _ hv.1 hf, hv.2⟩, fun _ h => h.1, h2 v⟩
      · rename_i hw
        rw [if_neg hw] at h
        exact h
    | cons yk A ihA =>
      obtain ⟨y, ky⟩ := yk
      obtain ⟨oy, hy⟩ := hin (y, ky) List.mem_cons_self
      obtain ⟨hap0, hky⟩ := hap (y, ky) List.mem_cons_self
      obtain ⟨ap1, ap2, ap3⟩ := apartOf_spec hy hi hap0
      obtain rfl : ky = 0 := by rcases hky with h | h; exact h; exact absurd h hk
      have hsi : ∀ cs b, oi.op ≠ .select cs b := fun cs b => Region.noSelect_spec hsel i oi cs b hi
      have hsy : ∀ cs b, oy.op ≠ .select cs b := fun cs b => Region.noSelect_spec hsel y oy cs b hy
      have hap' := fun z hz => hap z (List.mem_cons_of_mem _ hz)
      have hin' := fun z hz => hin z (List.mem_cons_of_mem _ hz)
      have h := h oy hy hne
      have ih := fun v (hh : WL P ops w0 E (A ++ (i, k) :: C) F (a.put oy.dst v)) => ihA F (a.put oy.dst v) hap' hin' hst hne hh
      have ewi : ∀ v, Region.wanted oi (yielded ops (a.put oy.dst v).tmps) = Region.wanted oi (yielded ops a.tmps) := fun v => wanted_put oi a oy.dst v ap1
      have eei : ∀ v, execOp (a.put oy.dst v).eval oi = execOp a.eval oi := fun v => execOp_put oi hsi a oy.dst v ap1
      have ewy : ∀ v, Region.wanted oy (yielded ops (a.put oi.dst v).tmps) = Region.wanted oy (yielded ops a.tmps) := fun v => wanted_put oy a oi.dst v ap3
      have eey : ∀ v, execOp (a.put oi.dst v).eval oy = execOp a.eval oy := fun v => execOp_put oy hsy a oi.dst v ap3
      have hcom : ∀ v u, (a.put oy.dst v).put oi.dst u = (a.put oi.dst u).put oy.dst v := fun v u => Act.put_comm a v u ap2
      have only : ∀ {o' : Oper}, ops[y]? = some o' → o' = oy := fun ho => Option.some.inj (ho.symm.trans hy)
      by_cases hwy : Region.wanted oy (yielded ops a.tmps) = true
      · rw [if_pos hwy] at h
        obtain ⟨v, hq, h2⟩ := h
        have h3 := ih v h2
        rw [ewi, eei] at h3
        by_cases hwi : Region.wanted oi (yielded ops a.tmps) = true
        · rw [if_pos hwi] at h3 ⊢
          intro w hb hf
          refine (h3 w hb hf).mono fun u w' hu => ?_
          obtain ⟨he, F', hs', hf', himp, h4⟩ := hu
          refine ⟨he, F', hs', hf', himp, fun o' ho' _ => ?_⟩
          rw [only ho', ewy, if_pos hwy]
          refine ⟨v, fun w hb hf => by rw [eey]; exact hq w hb (himp w hf), ?_⟩
          rw [← hcom]; exact h4
        · rw [if_neg hwi] at h3 ⊢
          intro o' ho' _
          rw [only ho', ewy, if_pos hwy]
          refine ⟨v, fun w hb hf => by rw [eey]; exact hq w hb hf, ?_⟩
          rw [← hcom]; exact h3
      · rw [if_neg hwy] at h
        have h3 := ih undef h
        rw [ewi, eei] at h3
        by_cases hwi : Region.wanted oi (yielded ops a.tmps) = true
        · rw [if_pos hwi] at h3 ⊢
          intro w hb hf
          refine (h3 w hb hf).mono fun u w' hu => ?_
          obtain ⟨he, F', hs', hf', himp, h4⟩ := hu
          refine ⟨he, F', hs', hf', himp, fun o' ho' _ => ?_⟩
          rw [only ho', ewy, if_neg hwy, ← hcom]
          exact h4
        · rw [if_neg hwi] at h3 ⊢
          intro o' ho' _
          rw [only ho', ewy, if_neg hwy, ← hcom]
          exact h3
end

section
variable {P : Program} {r : Option Nat} {ops : Array Oper} {w0 : World} {M : Array Nat}

/-- y comes before x in every order. -/
def earlier (M : Array Nat) (y x : Nat) : Bool := (M.getD x 0).testBit y
def dirDep (ops : Array Oper) (x y : Nat) : Bool := (ops[x]?).any fun o => o.after.any fun e => Region.binds .any e && e.on == y
def pairsAll {α : Type} (f : α → α → Bool) : List α → Bool
  | [] => true
  | x :: l => l.all (f x) && pairsAll f l

theorem pairsAll_spec {α : Type} {f : α → α → Bool} : ∀ {l : List α}, pairsAll f l = true → l.Pairwise fun x y => f x y = true
  | [], _ => List.Pairwise.nil
  | x :: l, h => by
    simp only [pairsAll, Bool.and_eq_true, List.all_eq_true] at h
    exact List.Pairwise.cons h.1 (pairsAll_spec h.2)

def okPair (ops : Array Oper) (M : Array Nat) (y x : Nat × Nat) : Bool := earlier M y.1 x.1 || (apartOf ops y.1 x.1 && (y.2 == 0 || x.2 == 1 || x.2 == 2 || (x.2 == 0 && y.2 != 2) || (x.2 == 3 && y.2 == 3) || (x.2 == 5 && y.2 == 3)))

def okEdges (ops : Array Oper) (M : Array Nat) : Bool :=
  (List.range ops.size).all fun x => match ops[x]? with
    | none => true
    | some o => (o.after.all fun e => !Region.binds .any e || (e.on != x && decide (e.on < ops.size))) &&
        (List.range ops.size).all fun y => !earlier M y x || o.after.any fun e => Region.binds .any e && (e.on == y || earlier M y e.on)

def noDefer (ops : Array Oper) : Bool := ops.all fun o => match o.op with | .defer _ => false | _ => true
theorem noDefer_spec {ops : Array Oper} (h : noDefer ops = true) {j : Nat} {o : Oper} (ho : ops[j]? = some o) (c : Call) : o.op ≠ .defer c := by
  intro heq
  have := Array.all_eq_true_iff_forall_mem.1 h o (Array.mem_of_getElem? ho)
  simp [heq] at this

def okW (ops : Array Oper) (M : Array Nat) (L : List (Nat × Nat)) (T : List Nat) : Bool :=
  let R := L.map (·.1) ++ T
  noDefer ops && Region.noSelect ops && decide (M.size ≤ ops.size) && (M.all fun m => decide (m < 2 ^ ops.size)) && okEdges ops M && (R.all fun i => decide (i < ops.size)) && (List.range ops.size).all (R.contains ·) &&
  pairsAll (fun y x => y != x && !dirDep ops y x) R && pairsAll (okPair ops M) L && (L.all fun y => T.all fun t => earlier M y.1 t) && pairsAll (fun y t => earlier M y t) T

structure RInv (ops : Array Oper) (M : Array Nat) (listed : Array Bool) (L : List (Nat × Nat)) (T : List Nat) : Prop where
  size : listed.size = ops.size
  mem : ∀ i, listed.getD i true = false ↔ i ∈ L.map (·.1) ++ T
  blk : ∀ y ∈ L.map (·.1) ++ T, ∀ x, earlier M y x = true → x ∈ L.map (·.1) ++ T
  topo : (L.map (·.1) ++ T).Pairwise fun y x => (y != x && !dirDep ops y x) = true
  pl : L.Pairwise fun y x => okPair ops M y x = true
  plt : ∀ y ∈ L, ∀ t ∈ T, earlier M y.1 t = true
  pt : T.Pairwise fun y t => earlier M y t = true

structure RFix (ops : Array Oper) (M : Array Nat) : Prop where
  def_ : noDefer ops = true
  sel : Region.noSelect ops = true
  cl : ∀ x y, earlier M y x = true → ∃ o, ops[x]? = some o ∧ ∃ e ∈ o.after, Region.binds .any e = true ∧ (e.on = y ∨ earlier M y e.on = true)
  ed : ∀ (x : Nat) (o : Oper), ops[x]? = some o → ∀ e ∈ o.after, Region.binds .any e = true → e.on ≠ x ∧ e.on < ops.size

theorem rfix_of (hdf : noDefer ops = true) (h : okEdges ops M = true) (hsel : Region.noSelect ops = true) (hM : M.size ≤ ops.size) (hb : ∀ m ∈ M, m < 2 ^ ops.size) : RFix ops M := by
  have h0 : ∀ x, x < ops.size → _ := List.all_eq_true.1 h |> fun h x hx => h x (List.mem_range.2 hx)
  refine ⟨hdf, hsel, fun x y hxy => ?_, fun x o ho e he hbd => ?_⟩
  · have hx : x < M.size := by
      rcases Nat.lt_or_ge x M.size with hx | hx
      · exact hx
      · simp [earlier, Array.getElem?_eq_none hx] at hxy
    have hx' : x < ops.size := Nat.lt_of_lt_of_le hx hM
    have h1 := h0 x hx'
    have ho : ops[x]? = some ops[x] := by simp [hx']
    rw [ho] at h1
    simp only [Bool.and_eq_true, List.all_eq_true] at h1
    have hy : y < ops.size := by
      rcases Nat.lt_or_ge y ops.size with hy | hy
      · exact hy
      · have hm := hb M[x] (by simp)
        have : M[x].testBit y = false := Nat.testBit_lt_two_pow (Nat.lt_of_lt_of_le hm (Nat.pow_le_pow_right (by omega) hy))
        simp [earlier, hx, this] at hxy
    have h2 := h1.2 y (List.mem_range.2 hy)
    simp only [hxy, Bool.not_true, Bool.false_or] at h2
    obtain ⟨e, he, hbe⟩ := Array.any_eq_true'.1 h2
    simp only [Bool.and_eq_true, Bool.or_eq_true, beq_iff_eq] at hbe
    exact ⟨_, ho, e, he, hbe.1, hbe.2⟩
  · have hx' : x < ops.size := (Array.getElem?_eq_some_iff.1 ho).1
    have h1 := h0 x hx'
    rw [ho] at h1
    simp only [Bool.and_eq_true] at h1
    have h2 := Array.all_eq_true_iff_forall_mem.1 h1.1 e he
    simp only [hbd, Bool.not_true, Bool.false_or, Bool.and_eq_true, bne_iff_ne, ne_eq, decide_eq_true_eq] at h2
    exact h2

theorem listed_true {listed : Array Bool} {i : Nat} (hs : i < listed.size) (h : ¬ listed.getD i true = false) : listed.getD i false = true := by
  simp [hs] at h ⊢; exact h

theorem RInv.notB {listed : Array Bool} {L : List (Nat × Nat)} {T : List Nat} (fx : RFix ops M) (inv : RInv ops M listed L T) {i : Nat} (hi : i ∈ Region.ready .any ops listed) {y : Nat}
    (hy : y ∈ L.map (·.1) ++ T) : earlier M y i = false := by
  cases hB : earlier M y i with
  | false => rfl
  | true =>
    exfalso
    obtain ⟨_, o, ho, hall⟩ := mem_ready.1 hi
    obtain ⟨o', ho', e, he, hbd, hor⟩ := fx.cl i y hB
    obtain rfl : o' = o := Option.some.inj (ho'.symm.trans ho)
    have h1 := hall e he hbd
    have hmem : e.on ∈ L.map (·.1) ++ T := by
      rcases hor with h | h
      · rw [h]; exact hy
      · exact inv.blk y hy _ h
    have h2 := (inv.mem e.on).2 hmem
    rcases Nat.lt_or_ge e.on listed.size with h' | h'
    · simp [h'] at h1 h2; rw [h2] at h1; cases h1
    · simp [Array.getElem?_eq_none h'] at h1

theorem RInv.headReady {listed : Array Bool} {L : List (Nat × Nat)} {T : List Nat} (fx : RFix ops M) (inv : RInv ops M listed L T) {x : Nat} {R : List Nat} (hR : L.map (·.1) ++ T = x :: R) (hx : x < ops.size) :
    x ∈ Region.ready .any ops listed := by
  have ho : ops[x]? = some ops[x] := by simp [hx]
  refine mem_ready.2 ⟨(inv.mem x).2 (by rw [hR]; exact List.mem_cons_self), _, ho, fun e he hbd => ?_⟩
  obtain ⟨hne, hlt⟩ := fx.ed x _ ho e he hbd
  refine listed_true (by rw [inv.size]; exact hlt) fun hun => ?_
  have hm := (inv.mem e.on).1 hun
  have ht := inv.topo
  rw [hR] at hm ht
  rcases List.mem_cons.1 hm with h | h
  · exact hne h
  · have := (List.pairwise_cons.1 ht).1 _ h
    have hd : dirDep ops x e.on = true := by
      simp only [dirDep, ho, Option.any_some]
      exact Array.any_eq_true'.2 ⟨e, he, by simp [hbd]⟩
    simp [hd] at this

theorem RInv.step {listed : Array Bool} {L L' : List (Nat × Nat)} {T T' : List Nat} (fx : RFix ops M) (inv : RInv ops M listed L T) {i : Nat} (hi : i ∈ Region.ready .any ops listed)
    (hsubL : L'.Sublist L) (hsubT : T'.Sublist T) (hmem : ∀ j, j ∈ L'.map (·.1) ++ T' ↔ j ∈ L.map (·.1) ++ T ∧ j ≠ i) : RInv ops M (listed.setIfInBounds i true) L' T' := by
  have hlt : i < listed.size := by
    obtain ⟨_, o, ho, _⟩ := mem_ready.1 hi
    rw [inv.size]; exact (Array.getElem?_eq_some_iff.1 ho).1
  refine ⟨by simp [inv.size], fun j => ?_, fun y hy x hB => ?_, inv.topo.sublist ((hsubL.map _).append hsubT), inv.pl.sublist hsubL, fun y hy t ht => inv.plt y (hsubL.subset hy) t (hsubT.subset ht), inv.pt.sublist hsubT⟩
  · rw [hmem]
    by_cases hji : j = i
    · subst hji; simp [hlt]
    · rw [getD_set_ne true (Ne.symm hji), inv.mem]; simp [hji]
  · rw [hmem] at hy ⊢
    refine ⟨inv.blk y hy.1 x hB, fun hxi => ?_⟩
    subst hxi
    rw [inv.notB fx hi hy.1] at hB
    cases hB

theorem wpAny_tail {Q : Exit → Act → World → Prop} (fx : RFix ops M) : ∀ (T : List Nat) (a : Act) (w : World) (listed : Array Bool), RInv ops M listed [] T → (∀ t ∈ T, t < ops.size) → wpOpsIn (fz r) 0 P ops Q T a w → wpAnyIn (fz r) 0 P .any ops Q T.length listed a w
  | [], a, w, listed, inv, _, h => by
    have hr : Region.ready .any ops listed = [] := by
      refine List.eq_nil_iff_forall_not_mem.2 fun i hi => ?_
      have := (inv.mem i).1 (mem_ready.1 hi).1
      simp at this
    exact ⟨hr, h⟩
  | t :: T, a, w, listed, inv, hlt, h => by
    have htr := inv.headReady fx (x := t) (R := T) (by simp) (hlt t List.mem_cons_self)
    refine ⟨fun h0 => (by rw [h0] at htr; cases htr), fun i hi => ?_⟩
    have him := (inv.mem i).1 (mem_ready.1 hi).1
    simp only [List.map_nil, List.nil_append] at him
    have hit : i = t := by
      rcases List.mem_cons.1 him with h | h
      · exact h
      · have h1 := (List.pairwise_cons.1 inv.pt).1 i h
        rw [inv.notB fx hi (y := t) (by simp)] at h1
        cases h1
    subst hit
    rw [wpOpsIn_cons] at h
    have hnd : ∀ j ∈ T, j ≠ i := fun j hj e => by
      have h1 := (List.pairwise_cons.1 inv.topo).1 j hj
      simp [e] at h1
    refine wpOpIn_mono (fun a' w' h' => wpAny_tail fx T a' w' _ (inv.step fx hi (List.Sublist.refl _) (List.sublist_cons_self _ _) fun j => ?_) (fun t ht => hlt t (List.mem_cons_of_mem _ ht)) h') h
    simp only [List.map_nil, List.nil_append, List.mem_cons]
    exact ⟨fun hj => ⟨.inr hj, hnd j hj⟩, fun hj => hj.1.resolve_left hj.2⟩

end

end Go.Proofs.YtgaipgbgppdfeaaGreatDoor

namespace Go.Proofs.YtgaipgbgppdfeaaGreatDoor
open Go.RowKit

/-- A part of memory. -/
abbrev H := Nat → Option Obj
abbrev HP := H → Prop
def Sub (h k : H) : Prop := ∀ b o, h b = some o → k b = some o
def Dj (h k : H) : Prop := ∀ b, h b = none ∨ k b = none
def un (h k : H) : H := fun b => match h b with | some o => some o | none => k b
def In (h : H) (w : World) : Prop := ∀ b o, h b = some o → w.heap[b]? = some o
def one (b : Nat) (o : Obj) : H := fun c => if c = b then some o else none
def emp : H := fun _ => none

theorem Sub.refl (h : H) : Sub h h := fun _ _ e => e
theorem Sub.trans {a b c : H} (h : Sub a b) (k : Sub b c) : Sub a c := fun x o e => k x o (h x o e)
theorem Dj.symm {h k : H} (d : Dj h k) : Dj k h := fun b => (d b).symm
theorem Dj.sub {h k h' : H} (d : Dj h k) (s : Sub h' h) : Dj h' k := fun b => by
  rcases d b with e | e
  · left; cases hb : h' b with
    | none => rfl
    | some o => rw [s b o hb] at e; cases e
  · exact .inr e
theorem Dj.sub2 {h k h' k' : H} (d : Dj h k) (s : Sub h' h) (t : Sub k' k) : Dj h' k' := (d.sub s).symm.sub t |>.symm
theorem sub_un_left (h k : H) : Sub h (un h k) := fun b o e => by simp [un, e]
theorem sub_un_right {h k : H} (d : Dj h k) : Sub k (un h k) := fun b o e => by
  rcases d b with h1 | h1
  · simp [un, h1, e]
  · rw [h1] at e; cases e
theorem un_or {h k : H} {b : Nat} {o : Obj} (e : un h k b = some o) : h b = some o ∨ k b = some o := by
  unfold un at e
  split at e
  · rename_i x hx; exact .inl (by rw [hx]; exact e)
  · exact .inr e
theorem un_none {h k : H} {b : Nat} : un h k b = none ↔ h b = none ∧ k b = none := by
  unfold un; split <;> simp_all
theorem dj_un {h k l : H} : Dj (un h k) l ↔ Dj h l ∧ Dj k l := by
  constructor
  · intro d
    refine ⟨fun b => ?_, fun b => ?_⟩
    · rcases d b with e | e
      · exact .inl (un_none.1 e).1
      · exact .inr e
    · rcases d b with e | e
      · exact .inl (un_none.1 e).2
      · exact .inr e
  · rintro ⟨d, e⟩ b
    rcases d b with h1 | h1
    · rcases e b with h2 | h2
      · exact .inl (un_none.2 ⟨h1, h2⟩)
      · exact .inr h2
    · exact .inr h1
theorem sub_un {h k l : H} (a : Sub h l) (b : Sub k l) : Sub (un h k) l := fun x o e => (un_or e).elim (a x o) (b x o)
theorem In.sub {h k : H} {w : World} (i : In h w) (s : Sub k h) : In k w := fun b o e => i b o (s b o e)
theorem In.un {h k : H} {w : World} (i : In h w) (j : In k w) : In (un h k) w := fun b o e => (un_or e).elim (i b o) (j b o)
theorem In.ext {h : H} {w w' : World} (i : In h w) (x : Ext w w') : In h w' := fun b o e => ext_blk x (i b o e)
theorem In.lt {h : H} {w : World} (i : In h w) {b : Nat} {o : Obj} (e : h b = some o) : b < w.heap.size := (Array.getElem?_eq_some_iff.1 (i b o e)).1
theorem one_same (b : Nat) (o : Obj) : one b o b = some o := by simp [one]
theorem one_some {b c : Nat} {o p : Obj} (e : one b o c = some p) : c = b ∧ p = o := by
  unfold one at e
  split at e
  · rename_i h; exact ⟨h, (Option.some.inj e).symm⟩
  · cases e
theorem dj_one {b : Nat} {o : Obj} {h : H} (e : h b = none) : Dj (one b o) h := fun c => by
  by_cases hc : c = b
  · subst hc; exact .inr e
  · left; simp [one, hc]

/-- A fact about memory that more memory does not end. -/
structure Pf where
  p : HP
  m : ∀ h k, Sub h k → p h → p k

/-- A block that is known and will not change. -/
def Blk (b : Nat) (o : Obj) : Pf := ⟨fun h => h b = some o, fun _ _ s e => s b o e⟩
/-- A block that is owned. -/
def Pt (b : Nat) (o : Obj) : HP := fun h => h b = some o

def Sep : List HP → H → Prop
  | [], _ => True
  | r :: R, h => ∃ h1 h2, Dj h1 h2 ∧ Sub h1 h ∧ Sub h2 h ∧ r h1 ∧ Sep R h2

theorem Sep.sub : ∀ {R : List HP} {h k : H}, Sep R h → Sub h k → Sep R k
  | [], _, _, _, _ => trivial
  | _ :: _, _, _, ⟨h1, h2, d, s1, s2, hr, hs⟩, s => ⟨h1, h2, d, s1.trans s, s2.trans s, hr, hs⟩

/-- x is one of R; R' are the others. -/
inductive Sel {α : Type} (x : α) : List α → List α → Prop
  | here {R : List α} : Sel x (x :: R) R
  | there {y : α} {R R' : List α} : Sel x R R' → Sel x (y :: R) (y :: R')

theorem Sel.sep {x : HP} {R R' : List HP} (s : Sel x R R') : ∀ {h : H}, Sep R h → Sep (x :: R') h := by
  induction s with
  | here => exact fun h => h
  | there _ ih =>
    rintro h ⟨h1, h2, d, s1, s2, hy, hs⟩
    obtain ⟨k1, k2, d', t1, t2, hx, hs'⟩ := ih hs
    exact ⟨k1, un h1 k2, (dj_un.2 ⟨d.sub2 (Sub.refl _) t1, d'.symm⟩).symm, t1.trans s2, sub_un s1 (t2.trans s2), hx,
      h1, k2, d.sub2 (Sub.refl _) t2, sub_un_left _ _, sub_un_right (d.sub2 (Sub.refl _) t2), hy, hs'⟩

theorem Sel.mem {α : Type} {x : α} {R R' : List α} (s : Sel x R R') : x ∈ R := by
  induction s with
  | here => exact List.mem_cons_self
  | there _ ih => exact List.mem_cons_of_mem _ ih

/-- All of A are among R, each once; R' are the others. -/
inductive Sels {α : Type} : List α → List α → List α → Prop
  | nil {R : List α} : Sels [] R R
  | cons {x : α} {A R R1 R' : List α} : Sel x R R1 → Sels A R1 R' → Sels (x :: A) R R'

theorem sep_append : ∀ {A R : List HP} {h : H}, Sep (A ++ R) h → ∃ h1 h2, Dj h1 h2 ∧ Sub h1 h ∧ Sub h2 h ∧ Sep A h1 ∧ Sep R h2
  | [], R, h, hs => ⟨emp, h, fun _ => .inl rfl, fun _ _ e => (by cases e), Sub.refl _, trivial, hs⟩
  | x :: A, R, h, ⟨h1, h2, d, s1, s2, hx, hs⟩ => by
    obtain ⟨k1, k2, d', t1, t2, ha, hr⟩ := sep_append (A := A) hs
    exact ⟨un h1 k1, k2, dj_un.2 ⟨d.sub2 (Sub.refl _) t2, d'⟩, sub_un s1 (t1.trans s2), t2.trans s2,
      ⟨h1, k1, d.sub2 (Sub.refl _) t1, sub_un_left _ _, sub_un_right (d.sub2 (Sub.refl _) t1), hx, ha⟩, hr⟩

theorem append_sep : ∀ {A R : List HP} {h h1 h2 : H}, Dj h1 h2 → Sub h1 h → Sub h2 h → Sep A h1 → Sep R h2 → Sep (A ++ R) h
  | [], _, _, _, _, _, _, s2, _, hr => hr.sub s2
  | _ :: _, _, _, _, h2, d, s1, s2, ⟨k1, k2, d', t1, t2, hx, ha⟩, hr =>
    ⟨k1, un k2 h2, (dj_un.2 ⟨d'.symm, (d.sub t1).symm⟩).symm, t1.trans s1, sub_un (t2.trans s1) s2, hx, append_sep (d.sub t2) (sub_un_left _ _) (sub_un_right (d.sub t2)) ha hr⟩

theorem Sels.sep {A R R' : List HP} (s : Sels A R R') : ∀ {h : H}, Sep R h → Sep (A ++ R') h := by
  induction s with
  | nil => exact fun h => h
  | cons s1 _ ih =>
    intro h hs
    obtain ⟨h1, h2, d, t1, t2, hx, hr⟩ := s1.sep hs
    exact ⟨h1, h2, d, t1, t2, hx, ih hr⟩

structure Same (w w' : World) : Prop where
  os : w'.os = w.os
  tape : w'.tape = w.tape
  output : w'.output = w.output
  size : w.heap.size ≤ w'.heap.size

theorem Same.refl (w : World) : Same w w := ⟨rfl, rfl, rfl, Nat.le_refl _⟩
theorem Same.trans {a b c : World} (h : Same a b) (k : Same b c) : Same a c := ⟨k.os.trans h.os, k.tape.trans h.tape, k.output.trans h.output, Nat.le_trans h.size k.size⟩
theorem Same.of_ext {a b : World} (h : Ext a b) : Same a b := ⟨h.os, h.tape, h.output, h.size⟩

/-- What a walk keeps: the frame's memory G, the world w0 where it began, the facts hp0 that were there. -/
structure SatAt (G : H) (w0 : World) (hp0 : H) (F : List Pf) (R : List HP) (w : World) (hp hr : H) : Prop where
  inp : In hp w
  inr : In hr w
  ing : In G w
  d1 : Dj hp hr
  d2 : Dj hp G
  d3 : Dj hr G
  sub : Sub hp0 hp
  f : ∀ x ∈ F, x.p hp
  r : Sep R hr
  same : Same w0 w

def Sat (G : H) (w0 : World) (hp0 : H) (F : List Pf) (R : List HP) (w : World) : Prop := ∃ hp hr, SatAt G w0 hp0 F R w hp hr

section
variable {G : H} {w0 : World} {hp0 : H} {F F' : List Pf} {R R' : List HP} {w w' : World}

theorem Sat.ext (h : Sat G w0 hp0 F R w) (x : Ext w w') : Sat G w0 hp0 F R w' :=
  let ⟨hp, hr, s⟩ := h
  ⟨hp, hr, s.inp.ext x, s.inr.ext x, s.ing.ext x, s.d1, s.d2, s.d3, s.sub, s.f, s.r, s.same.trans (.of_ext x)⟩


theorem Sat.sels {A : List HP} (h : Sat G w0 hp0 F R w) (s : Sels A R R') : Sat G w0 hp0 F (A ++ R') w :=
  let ⟨hp, hr, t⟩ := h
  ⟨hp, hr, t.inp, t.inr, t.ing, t.d1, t.d2, t.d3, t.sub, t.f, s.sep t.r, t.same⟩

theorem Sat.sel {x : HP} (h : Sat G w0 hp0 F R w) (s : Sel x R R') : Sat G w0 hp0 F (x :: R') w :=
  h.sels (.cons s .nil)

theorem Sat.facts (h : Sat G w0 hp0 F R w) (hF : ∀ hp, (∀ x ∈ F, x.p hp) → ∀ x ∈ F', x.p hp) : Sat G w0 hp0 F' R w :=
  let ⟨hp, hr, t⟩ := h
  ⟨hp, hr, t.inp, t.inr, t.ing, t.d1, t.d2, t.d3, t.sub, hF hp t.f, t.r, t.same⟩

theorem Sat.res (h : Sat G w0 hp0 F R w) (hR : ∀ k, Sep R k → Sep R' k) : Sat G w0 hp0 F R' w :=
  let ⟨hp, hr, t⟩ := h
  ⟨hp, hr, t.inp, t.inr, t.ing, t.d1, t.d2, t.d3, t.sub, t.f, hR hr t.r, t.same⟩

/-- A resource is opened. -/
theorem Sat.open' {X : Type} {x : HP} {L : X → List HP} (h : Sat G w0 hp0 F (x :: R) w) (hx : ∀ k, x k → ∃ y, Sep (L y) k) : ∃ y, Sat G w0 hp0 F (L y ++ R) w := by
  obtain ⟨hp, hr, t⟩ := h
  obtain ⟨h1, h2, d, s1, s2, hx1, hR⟩ := t.r
  obtain ⟨y, hy⟩ := hx h1 hx1
  exact ⟨y, hp, hr, t.inp, t.inr, t.ing, t.d1, t.d2, t.d3, t.sub, t.f, append_sep d s1 s2 hy hR, t.same⟩

/-- Resources are shut into one. -/
theorem Sat.shut {x : HP} {L : List HP} (h : Sat G w0 hp0 F (L ++ R) w) (hx : ∀ k, Sep L k → x k) : Sat G w0 hp0 F (x :: R) w := by
  obtain ⟨hp, hr, t⟩ := h
  obtain ⟨h1, h2, d, s1, s2, hL, hR⟩ := sep_append t.r
  exact ⟨hp, hr, t.inp, t.inr, t.ing, t.d1, t.d2, t.d3, t.sub, t.f, ⟨h1, h2, d, s1, s2, hx h1 hL, hR⟩, t.same⟩

theorem Sat.pt {b : Nat} {o : Obj} (h : Sat G w0 hp0 F R w) (s : Sel (Pt b o) R R') : w.heap[b]? = some o := by
  obtain ⟨hp, hr, t⟩ := h.sel s
  obtain ⟨h1, h2, _, s1, _, hx, _⟩ := t.r
  exact t.inr b o (s1 b o hx)

theorem Sat.blk {b : Nat} {o : Obj} (h : Sat G w0 hp0 F R w) (s : Sel (Blk b o) F F') : w.heap[b]? = some o := by
  obtain ⟨hp, hr, t⟩ := h
  exact t.inp b o (t.f _ s.mem)

/-- A new block is owned. -/
theorem Sat.alloc (h : Sat G w0 hp0 F R w) (o : Obj) : Sat G w0 hp0 F (Pt w.heap.size o :: R) (w.alloc o) := by
  obtain ⟨hp, hr, t⟩ := h
  have hx := ext_alloc w o
  have nn : ∀ {k : H}, In k w → k w.heap.size = none := fun {k} i => by
    cases e : k w.heap.size with
    | none => rfl
    | some x => exact absurd (i.lt e) (Nat.lt_irrefl _)
  have d0 : Dj (one w.heap.size o) hr := dj_one (nn t.inr)
  refine ⟨hp, un (one w.heap.size o) hr, t.inp.ext hx, In.un (fun b x e => ?_) (t.inr.ext hx), t.ing.ext hx, (dj_un.2 ⟨dj_one (nn t.inp), t.d1.symm⟩).symm, t.d2,
    dj_un.2 ⟨dj_one (nn t.ing), t.d3⟩, t.sub, t.f, ⟨one w.heap.size o, hr, d0, sub_un_left _ _, sub_un_right d0, one_same _ _, t.r⟩, t.same.trans (.of_ext hx)⟩
  obtain ⟨rfl, rfl⟩ := one_some e
  exact heap_alloc_new w x

/-- An owned block changes. -/
theorem Sat.write {b : Nat} {o o' : Obj} (h : Sat G w0 hp0 F (Pt b o :: R) w) (hs : Same w w') (hb : w'.heap[b]? = some o') (hk : ∀ c, c ≠ b → c < w.heap.size → w'.heap[c]? = w.heap[c]?) :
    Sat G w0 hp0 F (Pt b o' :: R) w' := by
  obtain ⟨hp, hr, t⟩ := h
  obtain ⟨h1, h2, d, s1, s2, hx, hR⟩ := t.r
  have hrb : hr b = some o := s1 b o hx
  have h2b : h2 b = none := by
    rcases d b with e | e
    · rw [show h1 b = some o from hx] at e; cases e
    · exact e
  have keep : ∀ {k : H}, In k w → k b = none → In k w' := fun {k} i e c x hc => by
    have hne : c ≠ b := fun e' => by rw [e', e] at hc; cases hc
    rw [hk c hne (i.lt hc)]; exact i c x hc
  have hpb : hp b = none := by
    rcases t.d1 b with e | e
    · exact e
    · rw [hrb] at e; cases e
  have hgb : G b = none := by
    rcases t.d3 b with e | e
    · rw [hrb] at e; cases e
    · exact e
  have d0 : Dj (one b o') h2 := dj_one h2b
  refine ⟨hp, un (one b o') h2, keep t.inp hpb, In.un (fun c x e => ?_) (keep (t.inr.sub s2) h2b), keep t.ing hgb, (dj_un.2 ⟨dj_one hpb, (t.d1.symm.sub s2)⟩).symm, t.d2,
    dj_un.2 ⟨dj_one hgb, t.d3.sub s2⟩, t.sub, t.f, ⟨one b o', h2, d0, sub_un_left _ _, sub_un_right d0, one_same _ _, hR⟩, t.same.trans hs⟩
  obtain ⟨rfl, rfl⟩ := one_some e
  exact hb

/-- An owned block becomes a fact. -/
theorem Sat.freeze {b : Nat} {o : Obj} (h : Sat G w0 hp0 F (Pt b o :: R) w) : Sat G w0 hp0 (Blk b o :: F) R w := by
  obtain ⟨hp, hr, t⟩ := h
  obtain ⟨h1, h2, d, s1, s2, hx, hR⟩ := t.r
  have hrb : hr b = some o := s1 b o hx
  have so : Sub (one b o) hr := fun c p e => by obtain ⟨rfl, rfl⟩ := one_some e; exact hrb
  have h2b : h2 b = none := by
    rcases d b with e | e
    · rw [show h1 b = some o from hx] at e; cases e
    · exact e
  have hpb : hp b = none := by
    rcases t.d1 b with e | e
    · exact e
    · rw [hrb] at e; cases e
  have s3 : Sub hp (un hp (one b o)) := sub_un_left _ _
  refine ⟨un hp (one b o), h2, In.un t.inp (t.inr.sub so), t.inr.sub s2, t.ing, dj_un.2 ⟨(t.d1.symm.sub s2).symm, dj_one h2b⟩, dj_un.2 ⟨t.d2, t.d3.sub so⟩, t.d3.sub s2, t.sub.trans s3,
    fun x hx => ?_, hR, t.same⟩
  rcases List.mem_cons.1 hx with e | e
  · subst e; exact sub_un_right (dj_one hpb).symm b o (one_same b o)
  · exact x.m _ _ s3 (t.f x e)
end

/-- What a call leaves: a result, facts, owned memory, for some x. -/
structure Post where
  X : Type
  val : X → Value
  pure : X → Prop
  F : X → List Pf
  R : X → List HP

def Post.holds (post : Post) (G : H) (w0 : World) (hp0 : H) (e : Ending) (w' : World) : Prop :=
  ∃ x, e = .returned (post.val x) ∧ post.pure x ∧ Sat G w0 hp0 (post.F x) (post.R x) w'

/-- The function f, called with args where F holds and R is owned, leaves post. -/
def Spec (P : Program) (f : FuncId) (args : Array Value) (F : List Pf) (R : List HP) (post : Post) : Prop :=
  ∀ G w hp, Sat G w hp F R w → Calls P f args w (post.holds G w hp)

/-- What is not handed over is kept. -/
theorem sat_frame {F1 F : List Pf} {A R R' : List HP} {G : H} {w0 w : World} {hp0 : H} (hs : Sat G w0 hp0 F R w) (sel : Sels A R R') (hF : ∀ hp, (∀ x ∈ F, x.p hp) → ∀ x ∈ F1, x.p hp) :
    ∃ G' hp, Sat G' w hp F1 A w ∧ ∀ (F2 : List Pf) (R2 : List HP) (w' : World), Sat G' w hp F2 R2 w' → Sat G w0 hp0 (F2 ++ F) (R2 ++ R') w' := by
  obtain ⟨hp, hr, t⟩ := hs.sels sel
  obtain ⟨h1, h2, d, s1, s2, hA, hR⟩ := sep_append t.r
  refine ⟨un G h2, hp, ⟨hp, h1, t.inp, t.inr.sub s1, In.un t.ing (t.inr.sub s2), (t.d1.symm.sub s1).symm, (dj_un.2 ⟨t.d2.symm, (t.d1.symm.sub s2)⟩).symm,
    (dj_un.2 ⟨(t.d3.sub s1).symm, d.symm⟩).symm, Sub.refl _, hF hp t.f, hA, Same.refl _⟩, ?_⟩
  rintro F2 R2 w' ⟨hp', hr', t'⟩
  obtain ⟨dg, dr⟩ := dj_un.1 t'.d3.symm
  obtain ⟨dpg, dpr⟩ := dj_un.1 t'.d2.symm
  have dhr : Dj hr' h2 := dr.symm
  refine ⟨hp', un hr' h2, t'.inp, In.un t'.inr (t'.ing.sub (sub_un_right (t.d3.sub s2).symm)), t'.ing.sub (sub_un_left _ _), (dj_un.2 ⟨t'.d1.symm, dpr⟩).symm, dpg.symm,
    dj_un.2 ⟨dg.symm, t.d3.sub s2⟩, t.sub.trans t'.sub, fun y hy => ?_, append_sep dhr (sub_un_left _ _) (sub_un_right dhr) t'.r hR, t.same.trans t'.same⟩
  rcases List.mem_append.1 hy with e | e
  · exact t'.f y e
  · exact y.m _ _ t'.sub (t.f y e)

theorem sat_call {P : Program} {f : FuncId} {args : Array Value} {F1 F : List Pf} {A R R' : List HP} {post : Post} {G : H} {w0 w : World} {hp0 : H} (h : Spec P f args F1 A post)
    (hs : Sat G w0 hp0 F R w) (sel : Sels A R R') (hF : ∀ hp, (∀ x ∈ F, x.p hp) → ∀ x ∈ F1, x.p hp) {K : Ending → World → Prop}
    (k : ∀ x w', post.pure x → Sat G w0 hp0 (post.F x ++ F) (post.R x ++ R') w' → K (.returned (post.val x)) w') : Calls P f args w K := by
  obtain ⟨hp, hr, t⟩ := hs.sels sel
  obtain ⟨h1, h2, d, s1, s2, hA, hR⟩ := sep_append t.r
  have pre : Sat (un G h2) w hp F1 A w := ⟨hp, h1, t.inp, t.inr.sub s1, In.un t.ing (t.inr.sub s2), (t.d1.symm.sub s1).symm, (dj_un.2 ⟨t.d2.symm, (t.d1.symm.sub s2)⟩).symm,
    (dj_un.2 ⟨(t.d3.sub s1).symm, d.symm⟩).symm, Sub.refl _, hF hp t.f, hA, Same.refl _⟩
  refine (h _ w hp pre).mono ?_
  rintro e w' ⟨x, rfl, hx, hp', hr', t'⟩
  obtain ⟨dg, dr⟩ := dj_un.1 t'.d3.symm
  obtain ⟨dpg, dpr⟩ := dj_un.1 t'.d2.symm
  have dhr : Dj hr' h2 := dr.symm
  refine k x w' hx ⟨hp', un hr' h2, t'.inp, In.un t'.inr (t'.ing.sub (sub_un_right (t.d3.sub s2).symm)), t'.ing.sub (sub_un_left _ _), (dj_un.2 ⟨t'.d1.symm, dpr⟩).symm, dpg.symm,
    dj_un.2 ⟨dg.symm, t.d3.sub s2⟩, t.sub.trans t'.sub, fun y hy => ?_, append_sep dhr (sub_un_left _ _) (sub_un_right dhr) t'.r hR, t.same.trans t'.same⟩
  rcases List.mem_append.1 hy with e | e
  · exact t'.f y e
  · exact y.m _ _ t'.sub (t.f y e)
end Go.Proofs.YtgaipgbgppdfeaaGreatDoor

namespace Go.Proofs.YtgaipgbgppdfeaaGreatDoor
open Go.RowKit

/-- What is known of a type. -/
inductive TK where
  | bool | int (k : IntKind) | str | ptr (e : Nat) | slice (e : Nat) | arr (n e : Nat) | map (k e : Nat) | struct (fs : List (Nat × Nat × Nat)) | other

structure TRow where
  k : TK
  size : Nat
  bytes : Nat
  zero : List Value

def TK.isAgg : TK → Bool
  | .struct _ | .arr _ _ => true
  | _ => false

abbrev Tab := List (Nat × TRow)

def lookT : Tab → Nat → Option TRow
  | [], _ => none
  | (s, r) :: T, t => match Nat.beq s t with
    | true => some r
    | false => lookT T t

/-- Values that a zero value can hold. -/
def zeq : Value → Value → Bool
  | .bool a, .bool b => a == b
  | .int k a, .int l b => k == l && a == b
  | .string a, .string b => a.data.toList == b.data.toList
  | .pointer none, .pointer none => true
  | .slice none m n, .slice none k l => m == k && n == l
  | .map none, .map none => true
  | .nilFunc, .nilFunc => true
  | .nilIface, .nilIface => true
  | _, _ => false

def zeqs : List Value → List Value → Bool
  | [], [] => true
  | a :: l, b :: m => zeq a b && zeqs l m
  | _, _ => false

theorem zeq_eq : ∀ {a b : Value}, zeq a b = true → a = b := by
  intro a b h
  unfold zeq at h
  split at h <;> simp_all
  rename_i a b
  obtain ⟨⟨a⟩⟩ := a
  obtain ⟨⟨b⟩⟩ := b
  simp_all

theorem zeqs_eq : ∀ {a b : List Value}, zeqs a b = true → a = b
  | [], [], _ => rfl
  | [], _ :: _, h => by simp [zeqs] at h
  | _ :: _, [], h => by simp [zeqs] at h
  | a :: l, b :: m, h => by
    simp only [zeqs, Bool.and_eq_true] at h
    rw [zeq_eq h.1, zeqs_eq h.2]

def chkKind (P : Program) (k : TK) (d : TypeDesc) : Bool :=
  match k, d with
  | .bool, .bool => true
  | .int a, .int b => a == b
  | .str, .string => true
  | .ptr a, .pointer b => a == b
  | .slice a, .slice b => a == b
  | .arr n a, .array m b => n == m && a == b
  | .map a b, .map c e => a == c && b == e
  | .struct fs, .struct fields => fields.toList.map (fun f => (f.offset, f.type, ((P.info? f.type).map (·.size)).getD 0)) == fs && fs.all fun f => decide (0 < f.2.2)
  | .other, _ => true
  | _, _ => false

def chkRow (P : Program) (t : Nat) (r : TRow) : Bool :=
  match P.info? t, P.underlying t with
  | some i, some d => r.zero.length == r.size && i.size == r.size && i.bytes == r.bytes && chkKind P r.k d && (match i.zero with
      | some z => zeqs z.cells.toList r.zero && (match z with | .agg _ => r.k.isAgg | _ => !r.k.isAgg)
      | none => false)
  | _, _ => false

def TabOK (P : Program) (T : Tab) : Prop := (T.all fun x => chkRow P x.1 x.2) = true

theorem lookT_mem {T : Tab} {t : Nat} {r : TRow} (h : lookT T t = some r) : (t, r) ∈ T := by
  induction T with
  | nil => cases h
  | cons x T ih =>
    obtain ⟨s, q⟩ := x
    unfold lookT at h
    split at h
    · rename_i hb
      obtain rfl := Nat.eq_of_beq_eq_true hb
      obtain rfl := Option.some.inj h
      exact List.mem_cons_self
    · exact List.mem_cons_of_mem _ (ih h)

theorem TabOK.row {P : Program} {T : Tab} (h : TabOK P T) {t : Nat} {r : TRow} (hr : lookT T t = some r) :
    ∃ i d z, P.info? t = some i ∧ P.underlying t = some d ∧ i.size = r.size ∧ i.bytes = r.bytes ∧ chkKind P r.k d = true ∧ i.zero = some z ∧ z.cells.toList = r.zero ∧ r.zero.length = r.size := by
  have h1 := List.all_eq_true.1 h _ (lookT_mem hr)
  simp only [chkRow] at h1
  split at h1
  · rename_i i d hi hd
    simp only [Bool.and_eq_true, beq_iff_eq] at h1
    obtain ⟨⟨⟨⟨h0, h2⟩, h3⟩, h4⟩, h5⟩ := h1
    split at h5
    · rename_i z hz
      simp only [Bool.and_eq_true] at h5
      exact ⟨i, d, z, hi, hd, h2, h3, h4, hz, zeqs_eq h5.1, h0⟩
    · cases h5
  · cases h1

section
variable {P : Program} {T : Tab} (hT : TabOK P T) {t : Nat} {r : TRow}
include hT
theorem TabOK.sizeOf (hr : lookT T t = some r) (w : World) : (Go.sizeOf t).run P w = .ok r.size w := by
  obtain ⟨i, d, z, hi, hd, h1, h2, h3, h4, h5, h6⟩ := hT.row hr
  simp [Go.sizeOf, typeInfo, hi, h1, go_sem]
theorem TabOK.isAgg (hr : lookT T t = some r) (hk : r.k ≠ .other := by simp) (w : World) : (Go.isAgg t).run P w = .ok r.k.isAgg w := by
  obtain ⟨i, d, z, hi, hd, h1, h2, h3, h4, h5, h6⟩ := hT.row hr
  cases r with | mk k size bytes zero => 
  cases k <;> cases d <;> simp_all [chkKind, Go.isAgg, go_sem, TK.isAgg, underlying]
theorem TabOK.und (hr : lookT T t = some r) : ∃ d, P.underlying t = some d ∧ chkKind P r.k d = true :=
  let ⟨_, d, _, _, hd, _, _, h3, _, _, _⟩ := hT.row hr
  ⟨d, hd, h3⟩
end

/-- The known slots of a frame. -/
def look : List (Nat × Value) → Nat → Option Value
  | [], _ => none
  | (s, v) :: E, t => match Nat.beq s t with
    | true => some v
    | false => look E t

def ev (E : List (Nat × Value)) : Operand → Option Value
  | .tmp t => look E t
  | .const v => some v
  | .global g => some (.pointer (some ⟨g, 0, none⟩))
  | .func f => some (.func (.func f) #[] #[])

def ikEq : IntKind → IntKind → Bool
  | .i8, .i8 | .i16, .i16 | .i32, .i32 | .i64, .i64 | .u8, .u8 | .u16, .u16 | .u32, .u32 | .u64, .u64 => true
  | _, _ => false
theorem ikEq_eq {a b : IntKind} (h : ikEq a b = true) : a = b := by cases a <;> cases b <;> first | rfl | cases h

/-- Integers. -/
def iop (op : BinOp) (k : IntKind) (a b : Int) : Option Value :=
  match op with
  | .add => some (.int k (k.wrap (a + b)))
  | .sub => some (.int k (k.wrap (a - b)))
  | .mul => some (.int k (k.wrap (a * b)))
  | .quo => if b = 0 then none else some (.int k (k.wrap (a.tdiv b)))
  | .rem => if b = 0 then none else some (.int k (a.tmod b))
  | .and => some (.int k (k.wrap (BitVec.ofInt k.bits a &&& BitVec.ofInt k.bits b).toNat))
  | .or => some (.int k (k.wrap (BitVec.ofInt k.bits a ||| BitVec.ofInt k.bits b).toNat))
  | .xor => some (.int k (k.wrap (BitVec.ofInt k.bits a ^^^ BitVec.ofInt k.bits b).toNat))
  | .andNot => some (.int k (k.wrap (BitVec.ofInt k.bits a &&& ~~~ BitVec.ofInt k.bits b).toNat))
  | .eql => some (.bool (a == b))
  | .neq => some (.bool (a != b))
  | .lss => some (.bool (decide (a < b)))
  | .leq => some (.bool (decide (a ≤ b)))
  | .gtr => some (.bool (decide (b < a)))
  | .geq => some (.bool (decide (b ≤ a)))
  | _ => none

def shop (op : BinOp) (k : IntKind) (a b : Int) : Option Value :=
  match op with
  | .shl => if b < 0 then none else some (.int k (k.wrap (a * 2 ^ (min b.toNat k.bits))))
  | .shr => if b < 0 then none else some (.int k (a.fdiv (2 ^ (min b.toNat k.bits))))
  | _ => none

def sop (op : BinOp) (a b : ByteArray) : Option Value :=
  match op with
  | .eql => some (.bool (a.toList == b.toList))
  | .neq => some (.bool !(a.toList == b.toList))
  | .lss => some (.bool (Op.bytesLess a.toList b.toList))
  | .gtr => some (.bool !(Op.bytesLess a.toList b.toList || a.toList == b.toList))
  | .leq => some (.bool (Op.bytesLess a.toList b.toList || a.toList == b.toList))
  | .geq => some (.bool !Op.bytesLess a.toList b.toList)
  | _ => none

/-- Booleans, pointers, slices and maps against nil. -/
def eqop (T : Tab) (t : Nat) (x y : Value) : Option Bool :=
  match lookT T t, x, y with
  | some ⟨.bool, _, _, _⟩, .bool a, .bool b => some (a == b)
  | some ⟨.ptr _, _, _, _⟩, .pointer a, .pointer b => match a, b with
    | some _, none => some false
    | none, some _ => some false
    | none, none => some true
    | _, _ => none
  | some ⟨.slice _, _, _, _⟩, .slice a _ _, .slice b _ _ => match a, b with
    | some _, none => some false
    | none, some _ => some false
    | none, none => some true
    | _, _ => none
  | _, _, _ => none

def eop (T : Tab) (op : BinOp) (t : Nat) (x y : Value) : Option Value :=
  match op with
  | .eql => match eqop T t x y with
    | some b => some (.bool b)
    | none => none
  | .neq => match eqop T t x y with
    | some b => some (.bool (!b))
    | none => none
  | _ => none

def nth {α : Type} : List α → Nat → Option α
  | [], _ => none
  | x :: _, 0 => some x
  | _ :: l, n + 1 => nth l n

theorem nth_eq {α : Type} : ∀ (l : List α) (n : Nat), nth l n = l[n]?
  | [], _ => rfl
  | _ :: _, 0 => rfl
  | _ :: l, n + 1 => by simp only [nth]; simpa using nth_eq l n

def addOff (a : Addr) (n : Nat) : Option Addr :=
  match a with
  | ⟨b, o, none⟩ => match n with
    | 0 => some ⟨b, o, none⟩
    | n + 1 => some ⟨b, o + (n + 1), none⟩
  | _ => none

theorem addOff_eq {a c : Addr} {n : Nat} (h : addOff a n = some c) : a.add n = c := by
  obtain ⟨b, o, s⟩ := a
  cases s <;> cases n <;> simp_all [addOff, Addr.add]

/-- Part of a list of cells, its spine written out. -/
def cutF {β : Type} : List Value → Nat → Nat → (List Value → Option β) → Option β
  | _, _, 0, k => k []
  | [], _, _ + 1, _ => none
  | x :: l, 0, n + 1, k => cutF l 0 n fun r => k (x :: r)
  | _ :: l, o + 1, n + 1, k => cutF l o (n + 1) k

theorem cutF_eq {β : Type} : ∀ (l : List Value) (o n : Nat) (k : List Value → Option β) (v : β), cutF l o n k = some v → k ((l.drop o).take n) = some v ∧ o + n ≤ max (o + n) l.length ∧ (n ≠ 0 → o + n ≤ l.length)
  | l, o, 0, k, v, h => by
    unfold cutF at h
    refine ⟨by simpa using h, by omega, by omega⟩
  | [], o, n + 1, k, v, h => by simp [cutF] at h
  | x :: l, 0, n + 1, k, v, h => by
    simp only [cutF] at h
    obtain ⟨h1, _, h3⟩ := cutF_eq l 0 n _ v h
    refine ⟨by simpa using h1, by omega, fun _ => ?_⟩
    by_cases hn : n = 0
    · subst hn; simp
    · have := h3 hn; simp at this ⊢; omega
  | x :: l, o + 1, n + 1, k, v, h => by
    simp only [cutF] at h
    obtain ⟨h1, _, h3⟩ := cutF_eq l o (n + 1) k v h
    refine ⟨by simpa using h1, by omega, fun _ => ?_⟩
    have := h3 (by omega)
    simp; omega

/-- The operand values, written out. -/
def evs {β : Type} (e : Operand → Option Value) : List Operand → (List Value → Option β) → Option β
  | [], k => k []
  | x :: l, k => match e x with
    | some v => evs e l fun r => k (v :: r)
    | none => none

theorem evs_eq {β : Type} {e : Operand → Option Value} : ∀ (l : List Operand) (k : List Value → Option β) (v : β), evs e l k = some v →
    ∃ vs, vs.length = l.length ∧ k vs = some v ∧ ∀ ρ : Operand → Value, (∀ x ∈ l, ∀ u, e x = some u → ρ x = u) → l.map ρ = vs
  | [], k, v, h => ⟨[], rfl, h, fun _ _ => rfl⟩
  | x :: l, k, v, h => by
    unfold evs at h
    split at h
    · rename_i u hu
      obtain ⟨vs, h1, h2, h3⟩ := evs_eq l _ v h
      refine ⟨u :: vs, by simp [h1], h2, fun ρ hρ => ?_⟩
      simp only [List.map_cons]
      rw [hρ x List.mem_cons_self u hu, h3 ρ fun y hy => hρ y (List.mem_cons_of_mem _ hy)]
    · cases h

/-- Cells put over others from an offset on. -/
def putF {β : Type} : List Value → Nat → List Value → (List Value → Option β) → Option β
  | c, _, [], k => k c
  | [], _, _ :: _, _ => none
  | _ :: c, 0, v :: vs, k => putF c 0 vs fun r => k (v :: r)
  | x :: c, o + 1, v :: vs, k => putF c o (v :: vs) fun r => k (x :: r)

def vcells : Value → Option (List Value)
  | .agg cs => some cs.toList
  | .bool b => some [.bool b]
  | .int k n => some [.int k n]
  | .string s => some [.string s]
  | .pointer a => some [.pointer a]
  | .slice a m n => some [.slice a m n]
  | .map r => some [.map r]
  | .func f a b => some [.func f a b]
  | .nilFunc => some [.nilFunc]
  | .iface t v => some [.iface t v]
  | .nilIface => some [.nilIface]
  | _ => none

theorem vcells_eq {v : Value} {l : List Value} (h : vcells v = some l) : v.cells = l.toArray := by
  unfold vcells at h
  split at h <;> simp_all [Value.cells]
  · subst h; simp
  all_goals subst h; rfl

def setsAt (c : List Value) (o : Nat) (vs : List Value) : List Value := (vs.zipIdx.foldl (fun cs (x : Value × Nat) => cs.setIfInBounds (o + x.2) x.1) c.toArray).toList

theorem putF_eq {β : Type} : ∀ (vs c : List Value) (o : Nat) (k : List Value → Option β) (v : β), putF c o vs k = some v →
    (vs ≠ [] → o + vs.length ≤ c.length) ∧ k (c.take o ++ vs ++ c.drop (o + vs.length)) = some v
  | [], c, o, k, v, h => by
    have h : k c = some v := by cases c <;> simpa [putF] using h
    exact ⟨fun h => absurd rfl h, by simpa using h⟩
  | v :: vs, [], o, k, u, h => by simp [putF] at h
  | v :: vs, x :: c, 0, k, u, h => by
    simp only [putF] at h
    obtain ⟨h1, h2⟩ := putF_eq vs c 0 _ u h
    refine ⟨fun _ => ?_, by simpa using h2⟩
    by_cases hv : vs = []
    · subst hv; simp
    · have := h1 hv; simp at this ⊢; omega
  | v :: vs, x :: c, o + 1, k, u, h => by
    simp only [putF] at h
    obtain ⟨h1, h2⟩ := putF_eq (v :: vs) c o _ u h
    refine ⟨fun _ => ?_, ?_⟩
    · have := h1 (by simp); simp at this ⊢; omega
    · rw [Nat.add_right_comm]; simpa using h2
  termination_by vs c => (vs.length, c.length)

theorem foldl_sets : ∀ (vs : List Value) (c : Array Value) (o k : Nat), o + k + vs.length ≤ c.size →
    ((vs.zipIdx k).foldl (fun cs (x : Value × Nat) => cs.setIfInBounds (o + x.2) x.1) c).toList = c.toList.take (o + k) ++ vs ++ c.toList.drop (o + k + vs.length)
  | [], c, o, k, _ => by simp
  | v :: vs, c, o, k, h => by
    simp only [List.length_cons] at h
    simp only [List.zipIdx_cons, List.foldl_cons]
    rw [foldl_sets vs _ o (k + 1) (by simp; omega)]
    obtain ⟨c⟩ := c
    simp only [List.setIfInBounds_toArray]
    simp at h
    have e1 : o + (k + 1) = o + k + 1 := by omega
    have e2 : o + (k + 1) + vs.length = o + k + (v :: vs).length := by simp; omega
    rw [e2, e1]
    have e3 : (c.set (o + k) v).take (o + k + 1) = c.take (o + k) ++ [v] := by
      rw [List.take_succ_eq_append_getElem (by simp; omega)]
      simp [List.take_set_of_le]
    have e4 : (c.set (o + k) v).drop (o + k + (v :: vs).length) = c.drop (o + k + (v :: vs).length) := by
      rw [List.drop_set_of_lt (by simp)]
    rw [e3, e4]
    simp

/-- A struct out of its parts. -/
def parts (e : Operand → Option Value) (place : Nat → Option (Nat × Nat)) : List Value → List (Nat × Operand) → Option Value
  | cells, [] => some (.agg cells.toArray)
  | cells, (i, x) :: ps => match place i, e x with
    | some (off, n), some v => match vcells v with
      | some vs => bif Nat.beq vs.length n then putF cells off vs fun cells' => parts e place cells' ps else none
      | none => none
    | _, _ => none

theorem parts_eq {e : Operand → Option Value} {place : Nat → Option (Nat × Nat)} (hn : ∀ i o n, place i = some (o, n) → 0 < n) : ∀ (ps : List (Nat × Operand)) (cells : List Value) (v : Value), parts e place cells ps = some v →
    ∀ ρ : Operand → Value, (∀ x ∈ ps, ∀ u, e x.2 = some u → ρ x.2 = u) → ∃ c, Instr.fill place cells.toArray (ps.map fun x => (x.1, ρ x.2)) = some c ∧ v = .agg c
  | [], cells, v, h, ρ, _ => ⟨cells.toArray, rfl, (Option.some.inj h).symm⟩
  | (i, x) :: ps, cells, v, h, ρ, hρ => by
    unfold parts at h
    split at h
    · rename_i off n u hpl hu
      split at h
      · rename_i vs hvs
        cases hb : Nat.beq vs.length n with
        | false => simp [hb] at h
        | true =>
          simp only [hb, cond_true] at h
          have hlen := Nat.eq_of_beq_eq_true hb
          obtain ⟨h1, h2⟩ := putF_eq vs cells off _ v h
          have hpos := hn i off n hpl
          have hne : vs ≠ [] := fun e => by rw [e] at hlen; simp at hlen; omega
          have hle := h1 hne
          obtain ⟨c, hc, hv⟩ := parts_eq hn ps _ v h2 ρ fun y hy => hρ y (List.mem_cons_of_mem _ hy)
          refine ⟨c, ?_, hv⟩
          have hx := hρ (i, x) List.mem_cons_self u hu
          simp only at hx
          simp only [List.map_cons, Instr.fill, hpl, hx, vcells_eq hvs]
          rw [if_neg (by simp; omega)]
          rw [← hc]
          congr 1
          have := foldl_sets vs cells.toArray off 0 (by simp; omega)
          simp only [Nat.add_zero] at this
          rw [← Array.toList_inj, ← Array.foldl_toList]
          simpa using this
      · cases h
    · cases h

/-- Operations that only reckon. -/
def qv (T : Tab) (e : Operand → Option Value) : Op → Option Value
  | .move x => e x
  | .assign x => e x
  | .pick c a b => match e c, e a, e b with
    | some (.bool c), some (.bool x), some (.bool y) => some (.bool (cond c x y))
    | some (.bool c), some x, some y => match c with
      | true => some x
      | false => some y
    | _, _, _ => none
  | .binOp op t x y _ => match e x, e y with
    | some (.int k a), some (.int l b) => match op with
      | .shl => shop .shl k a b
      | .shr => shop .shr k a b
      | op => bif ikEq k l then iop op k a b else none
    | some (.string a), some (.string b) => sop op a b
    | some (.bool a), some (.bool b) => eop T op t (.bool a) (.bool b)
    | some (.pointer a), some (.pointer b) => eop T op t (.pointer a) (.pointer b)
    | some (.slice a m n), some (.slice b m' n') => eop T op t (.slice a m n) (.slice b m' n')
    | _, _ => none
  | .unOp op _ x => match op, e x with
    | .not, some (.bool b) => some (.bool !b)
    | .neg, some (.int k n) => some (.int k (k.wrap (0 - n)))
    | _, _ => none
  | .convert s d x => match lookT T s, lookT T d, e x with
    | some _, some ⟨.int k, _, _, _⟩, some (.int _ n) => some (.int k (k.wrap n))
    | some ⟨.str, _, _, _⟩, some ⟨.str, _, _, _⟩, some (.string s) => some (.string s)
    | _, _, _ => none
  | .nilCheck x => match e x with
    | some (.pointer (some a)) => some (.pointer (some a))
    | some (.func (.func f) a b) => some (.func (.func f) a b)
    | some (.func (.yield f) a b) => some (.func (.yield f) a b)
    | _ => none
  | .fieldAddr s x f => match lookT T s, e x with
    | some ⟨.struct fs, _, _, _⟩, some (.pointer (some a)) => match nth fs f with
      | some (o, _, _) => match addOff a o with
        | some c => some (.pointer (some c))
        | none => none
      | none => none
    | _, _ => none
  | .field s x f => match lookT T s, e x with
    | some ⟨.struct fs, _, _, _⟩, some (.agg cs) => match nth fs f with
      | some (o, t, n) => match lookT T t with
        | some ⟨.struct _, _, _, _⟩ => cutF cs.toList o n fun l => some (.agg l.toArray)
        | some ⟨.arr _ _, _, _, _⟩ => cutF cs.toList o n fun l => some (.agg l.toArray)
        | some ⟨.other, _, _, _⟩ => none
        | some _ => nth cs.toList o
        | none => none
      | none => none
    | _, _ => none
  | .build t ps => match lookT T t with
    | some ⟨.struct fs, _, _, zero⟩ => parts e (fun i => match nth fs i with | some (o, _, n) => some (o, n) | none => none) zero ps.toList
    | some ⟨.arr _ el, _, _, zero⟩ => match lookT T el with
      | some r => bif Nat.beq r.size 0 then none else parts e (fun i => some (i * r.size, r.size)) zero ps.toList
      | none => none
    | _ => none
  | .extract x i => match e x with
    | some (.tuple vs) => nth vs.toList i
    | _ => none
  | .makeFunc fn first cap => evs e first.toList fun fs => evs e cap.toList fun cs => some (.func fn fs.toArray cs.toArray)
  | .call ⟨.builtin .len, args, tys⟩ => match args.toList, tys.toList with
    | [x], [t] => match lookT T t, e x with
      | some ⟨.str, _, _, _⟩, some (.string s) => some (.int .i64 s.size)
      | some ⟨.slice _, _, _, _⟩, some (.slice _ n _) => some (.int .i64 n)
      | some ⟨.arr n _, _, _, _⟩, some _ => some (.int .i64 n)
      | _, _ => none
    | _, _ => none
  | .call ⟨.builtin .min, args, _⟩ => match args.toList with
    | [x, y] => match e x, e y with
      | some (.int k a), some (.int _ b) => some (.int k (if b < a then b else a))
      | _, _ => none
    | _ => none
  | .call ⟨.builtin .max, args, _⟩ => match args.toList with
    | [x, y] => match e x, e y with
      | some (.int k a), some (.int _ b) => some (.int k (if a < b then b else a))
      | _, _ => none
    | _ => none
  | _ => none
end Go.Proofs.YtgaipgbgppdfeaaGreatDoor

namespace Go.Proofs.YtgaipgbgppdfeaaGreatDoor
open Go.RowKit

section
variable {P : Program} {T : Tab} (hT : TabOK P T) {e : Operand → Option Value} {ρ : Operand → Value}

theorem iop_ok {op : BinOp} {k : IntKind} {a b : Int} {v : Value} (h : iop op k a b = some v) (hop : op ≠ .shl ∧ op ≠ .shr) (t : TypeId) (w : World) :
    (binOp op t (.int k a) (.int k b)).run P w = .ok v w := by
  cases op <;> simp_all [iop, binOp, Op.intArith, Op.intDiv, Op.intBits, Op.intCmp, go_sem] <;> (try (obtain ⟨h1, h2⟩ := h; simp_all)) <;> (try rfl)

theorem shop_ok {op : BinOp} {k l : IntKind} {a b : Int} {v : Value} (h : shop op k a b = some v) (t : TypeId) (w : World) :
    (binOp op t (.int k a) (.int l b)).run P w = .ok v w := by
  cases op <;> simp_all [shop, binOp, Op.shift, go_sem] <;> (obtain ⟨h1, h2⟩ := h; simp_all [Int.not_lt.2 h1]) <;> omega

theorem sop_ok {op : BinOp} {a b : ByteArray} {v : Value} (h : sop op a b = some v) (t : TypeId) (w : World) : (binOp op t (.string a) (.string b)).run P w = .ok v w := by
  cases op <;> simp_all [sop, binOp, Op.stringOp, go_sem]

include hT in
theorem eqop_ok {t : TypeId} {x y : Value} {b : Bool} (h : eqop T t x y = some b) (w : World) : (Op.equal t x y).run P w = .ok b w := by
  suffices hd : ∀ d, (Op.equalIn (d + 1) t x y).run P w = .ok b w from hd 9999
  intro n
  unfold eqop at h
  split at h
  · rename_i hr
    obtain ⟨d, hd, hk⟩ := hT.und hr
    cases d <;> simp [chkKind] at hk
    simp at h; subst h
    simp [Op.equalIn, underlying, hd, go_sem]
  · rename_i hr
    obtain ⟨d, hd, hk⟩ := hT.und hr
    cases d <;> simp [chkKind] at hk
    split at h <;> simp at h <;> subst h <;> simp [Op.equalIn, underlying, hd, go_sem]
  · rename_i hr
    obtain ⟨d, hd, hk⟩ := hT.und hr
    cases d <;> simp [chkKind] at hk
    split at h <;> simp at h <;> subst h <;> simp [Op.equalIn, underlying, hd, go_sem]
  · cases h

include hT in
theorem eop_ok {op : BinOp} {t : TypeId} {x y v : Value} (hxy : (∃ a b, x = .bool a ∧ y = .bool b) ∨ (∃ a b, x = .pointer a ∧ y = .pointer b) ∨ (∃ a m n b m' n', x = .slice a m n ∧ y = .slice b m' n')) (h : eop T op t x y = some v) (w : World) :
    (binOp op t x y).run P w = .ok v w := by
  cases op <;> simp only [eop] at h <;> try (cases h; done)
  all_goals
    split at h
    · rename_i b hb
      simp at h; subst h
      have := eqop_ok hT hb w
      rcases hxy with ⟨a, c, rfl, rfl⟩ | ⟨a, c, rfl, rfl⟩ | ⟨a, m, n, c, m', n', rfl, rfl⟩ <;> simp [binOp, this, go_sem]
    · cases h

theorem mapM_sizes (P : Program) (w : World) (fields : Array Field) (h : ∀ f ∈ fields, ∃ i, P.info? f.type = some i) :
    (fields.mapM fun f => do pure (f.offset, ← Go.sizeOf f.type) : Sem (Array (Nat × Nat))).run P w = .ok ((fields.toList.map fun f => (f.offset, ((P.info? f.type).map (·.size)).getD 0)).toArray) w := by
  obtain ⟨l⟩ := fields
  simp only [List.mapM_toArray]
  suffices hl : (l.mapM fun f => do pure (f.offset, ← Go.sizeOf f.type) : Sem (List (Nat × Nat))).run P w = .ok (l.map fun f => (f.offset, ((P.info? f.type).map (·.size)).getD 0)) w by
    show Sem.run P (Sem.bind _ _) w = _
    rw [Sem.run_bind', hl]; rfl
  induction l with
  | nil => rfl
  | cons f l ih =>
    obtain ⟨i, hi⟩ := h f (by simp)
    have ih := ih fun g hg => h g (by simp at hg ⊢; exact .inr hg)
    simp [List.mapM_cons, Go.sizeOf, typeInfo, hi, go_sem] at ih ⊢
    simp [ih]

include hT in
theorem qv_call_ok {c : Call} {v : Value} {dst : Option Tmp} {ty : TypeId} {pos : String} {after : Array Edge} {guard : Option (Nat × Bool)} (h : qv T e (.call c) = some v) (hev : ∀ x ∈ (Op.call c).operands, ∀ u, e x = some u → ρ x = u) (w : World) :
    (execOp ρ ⟨dst, .call c, ty, pos, after, guard⟩).run P w = .ok (.value v) w := by
  obtain ⟨callee, args, tys⟩ := c
  cases callee with
  | value f => simp only [qv] at h; cases h
  | invoke r m => simp only [qv] at h; cases h
  | builtin b =>
    cases b <;> simp only [qv] at h <;> try (cases h; done)
    case len =>
      split at h
      · rename_i x t ha ht
        have ha' : args = #[x] := by rw [← Array.toList_inj]; simpa using ha
        have ht' : tys = #[t] := by rw [← Array.toList_inj]; simpa using ht
        subst ha' ht'
        have hx := hev x (by simp [Op.operands, Call.operands])
        split at h
        · rename_i hr he
          obtain ⟨d, hd, hk⟩ := hT.und hr
          cases d <;> simp [chkKind] at hk
          simp at h; subst h
          simp [Builtin.len_, hx _ he, underlying, hd, go_sem, goInt]
        · rename_i hr he
          obtain ⟨d, hd, hk⟩ := hT.und hr
          cases d <;> simp [chkKind] at hk
          simp at h; subst h
          simp [Builtin.len_, hx _ he, underlying, hd, go_sem, goInt]
        · rename_i hr he
          obtain ⟨d, hd, hk⟩ := hT.und hr
          cases d <;> simp [chkKind] at hk
          obtain ⟨rfl, rfl⟩ := hk
          simp at h; subst h
          simp [Builtin.len_, underlying, hd, go_sem, goInt]
        · cases h
      · cases h
    case min =>
      split at h
      · rename_i x y ha
        have ha' : args = #[x, y] := by rw [← Array.toList_inj]; simpa using ha
        subst ha'
        split at h
        · rename_i k a l b hx hy
          have h1 := hev x (by simp [Op.operands, Call.operands]) _ hx
          have h2 := hev y (by simp [Op.operands, Call.operands]) _ hy
          simp at h; subst h
          simp [Builtin.min_, Builtin.min2, h1, h2, go_sem]
        · cases h
      · cases h
    case max =>
      split at h
      · rename_i x y ha
        have ha' : args = #[x, y] := by rw [← Array.toList_inj]; simpa using ha
        subst ha'
        split at h
        · rename_i k a l b hx hy
          have h1 := hev x (by simp [Op.operands, Call.operands]) _ hx
          have h2 := hev y (by simp [Op.operands, Call.operands]) _ hy
          simp at h; subst h
          simp [Builtin.max_, Builtin.max2, h1, h2, go_sem]
        · cases h
      · cases h

include hT in
/-- The evaluating function is right. -/
theorem qv_ok {o : Oper} {v : Value} (h : qv T e o.op = some v) (hev : ∀ x ∈ o.op.operands, ∀ u, e x = some u → ρ x = u) (w : World) : (execOp ρ o).run P w = .ok (.value v) w := by
  obtain ⟨dst, op, ty, pos, after, guard⟩ := o
  simp only at h hev
  cases op
  case call c => exact qv_call_ok hT h hev w
  all_goals simp only [qv] at h
  all_goals try (cases h; done)
  case move x => 
    have := hev x (by simp [Op.operands]) v h
    simp [execOp, this, go_sem]
  case assign x =>
    have := hev x (by simp [Op.operands]) v h
    simp [execOp, this, go_sem]
  case pick c a b =>
    split at h
    · rename_i c' x y hc ha hb
      have h1 := hev c (by simp [Op.operands]) _ hc
      have h2 := hev a (by simp [Op.operands]) _ ha
      have h3 := hev b (by simp [Op.operands]) _ hb
      simp at h; subst h
      cases c' <;> simp [execOp, h1, h2, h3, go_sem, asBool]
    · rename_i c' x y _ hc ha hb
      have h1 := hev c (by simp [Op.operands]) _ hc
      have h2 := hev a (by simp [Op.operands]) _ ha
      have h3 := hev b (by simp [Op.operands]) _ hb
      cases c' <;> simp at h <;> subst h <;> simp [execOp, h1, h2, h3, go_sem, asBool]
    · cases h
  case binOp op t x y yt =>
    split at h
    · rename_i k a l b hx hy
      have h1 := hev x (by simp [Op.operands]) _ hx
      have h2 := hev y (by simp [Op.operands]) _ hy
      have hr : (binOp op t (.int k a) (.int l b)).run P w = .ok v w := by
        split at h
        · exact shop_ok h t w
        · exact shop_ok h t w
        · rename_i hn1 hn2
          cases hk : ikEq k l with
          | false => simp [hk] at h
          | true =>
            obtain rfl := ikEq_eq hk
            simp only [hk, cond_true] at h
            exact iop_ok h ⟨hn1, hn2⟩ t w
      simp [execOp, h1, h2, hr, go_sem]
    · rename_i a b hx hy
      have h1 := hev x (by simp [Op.operands]) _ hx
      have h2 := hev y (by simp [Op.operands]) _ hy
      have hr := sop_ok (P := P) h t w
      simp [execOp, h1, h2, hr, go_sem]
    · rename_i a b hx hy
      have h1 := hev x (by simp [Op.operands]) _ hx
      have h2 := hev y (by simp [Op.operands]) _ hy
      have hr := eop_ok hT (.inl ⟨_, _, rfl, rfl⟩) h w
      simp [execOp, h1, h2, hr, go_sem]
    · rename_i a b hx hy
      have h1 := hev x (by simp [Op.operands]) _ hx
      have h2 := hev y (by simp [Op.operands]) _ hy
      have hr := eop_ok hT (.inr (.inl ⟨_, _, rfl, rfl⟩)) h w
      simp [execOp, h1, h2, hr, go_sem]
    · rename_i a m n b m' n' hx hy
      have h1 := hev x (by simp [Op.operands]) _ hx
      have h2 := hev y (by simp [Op.operands]) _ hy
      have hr := eop_ok hT (.inr (.inr ⟨_, _, _, _, _, _, rfl, rfl⟩)) h w
      simp [execOp, h1, h2, hr, go_sem]
    · cases h
  case unOp op t x =>
    split at h
    · rename_i b hx
      have h1 := hev x (by simp [Op.operands]) _ hx
      simp at h; subst h
      simp [execOp, h1, Op.unary, go_sem]
    · rename_i k n hx
      have h1 := hev x (by simp [Op.operands]) _ hx
      simp at h; subst h
      simp [execOp, h1, Op.unary, Op.intArith, go_sem]
    · cases h
  case convert s d x =>
    split at h
    · rename_i rs k hsz hb hz k' n hs hd hx
      have h1 := hev x (by simp [Op.operands]) _ hx
      obtain ⟨ds, hds, _⟩ := hT.und hs
      obtain ⟨dd, hdd, hk⟩ := hT.und hd
      cases dd <;> simp [chkKind] at hk
      subst hk
      simp at h; subst h
      simp [execOp, h1, convert, underlying, hds, hdd, Conv.intToInt, go_sem]
    · rename_i hs hd hx
      have h1 := hev x (by simp [Op.operands]) _ hx
      obtain ⟨ds, hds, hks⟩ := hT.und hs
      obtain ⟨dd, hdd, hk⟩ := hT.und hd
      cases dd <;> simp [chkKind] at hk
      cases ds <;> simp [chkKind] at hks
      simp at h; subst h
      simp [execOp, h1, convert, underlying, hds, hdd, go_sem]
    · cases h
  case nilCheck x =>
    split at h
    all_goals first | (cases h; done) | skip
    all_goals
      rename_i hx
      have h1 := hev x (by simp [Op.operands]) _ hx
      simp at h; subst h
      simp [execOp, h1, go_sem]
  case fieldAddr s x f =>
    split at h
    · rename_i fs _ _ _ a hs hx
      have h1 := hev x (by simp [Op.operands]) _ hx
      obtain ⟨d, hd, hk⟩ := hT.und hs
      cases d <;> simp [chkKind] at hk
      rename_i fields
      split at h
      · rename_i o t n hn
        split at h
        · rename_i c hc
          simp at h; subst h
          rw [nth_eq, ← hk.1] at hn
          simp only [List.getElem?_map, Option.map_eq_some_iff, Array.getElem?_toList, Prod.mk.injEq] at hn
          obtain ⟨fl, hfl, rfl, rfl, rfl⟩ := hn
          have hpos := hk.2 fl.offset fl.type (((P.info? fl.type).map (·.size)).getD 0) (by rw [← hk.1]; exact List.mem_map.2 ⟨fl, by simpa using Array.mem_of_getElem? hfl, rfl⟩)
          cases hi : P.info? fl.type with
          | none => simp [hi] at hpos
          | some i =>
            have hsz : i.size ≠ 0 := by simp [hi] at hpos; omega
            simp [execOp, h1, Instr.fieldAt, Instr.sureAddr, underlying, hd, hfl, fieldPlace, Go.sizeOf, typeInfo, hi, hsz, addOff_eq hc, go_sem]
        · cases h
      · cases h
    · cases h
  case field s x f =>
    split at h
    · rename_i fs _ _ _ cs hs hx
      have h1 := hev x (by simp [Op.operands]) _ hx
      obtain ⟨d, hd, hk⟩ := hT.und hs
      cases d <;> simp [chkKind] at hk
      rename_i fields
      split at h
      · rename_i o t n hn
        rw [nth_eq, ← hk.1] at hn
        simp only [List.getElem?_map, Option.map_eq_some_iff, Array.getElem?_toList, Prod.mk.injEq] at hn
        obtain ⟨fl, hfl, rfl, rfl, rfl⟩ := hn
        have hag : ∀ r, lookT T fl.type = some r → r.k.isAgg = true → r.k ≠ .other → cutF cs.toList fl.offset (((P.info? fl.type).map (·.size)).getD 0) (fun l => some (Value.agg l.toArray)) = some v →
            (execOp ρ ⟨dst, .field s x f, ty, pos, after, guard⟩).run P w = .ok (.value v) w := fun r hr ha ho hc => by
          obtain ⟨h2, _, h3⟩ := cutF_eq _ _ _ _ _ hc
          obtain ⟨i, d', z, hi, hd', hsz, _, hk', _, _, _⟩ := hT.row hr
          have hia := hT.isAgg hr ho
          rw [ha] at hia
          simp [hi] at h2 h3
          simp [execOp, h1, Instr.field, underlying, hd, hfl, part, hia, Go.sizeOf, typeInfo, hi, go_sem, asAgg]
          rw [← h2]
          congr 1
          rw [← Array.toList_inj]
          simp [List.extract_eq_take_drop]
        have hno : ∀ r, lookT T fl.type = some r → r.k.isAgg = false → r.k ≠ .other → nth cs.toList fl.offset = some v →
            (execOp ρ ⟨dst, .field s x f, ty, pos, after, guard⟩).run P w = .ok (.value v) w := fun r hr ha ho hc => by
          have hia := hT.isAgg hr ho
          rw [ha] at hia
          rw [nth_eq] at hc
          simp at hc
          simp [execOp, h1, Instr.field, underlying, hd, hfl, part, hia, go_sem, asAgg, hc]
        split at h
        · rename_i hr; exact hag _ hr rfl (by simp) h
        · rename_i hr; exact hag _ hr rfl (by simp) h
        · cases h
        · rename_i r hn1 hn2 hn3 hr
          refine hno _ hr ?_ ?_ h
          · cases hk2 : r.k <;> simp [TK.isAgg] <;> (obtain ⟨k, s1, b1, z1⟩ := r; simp at hk2; subst hk2; first | exact hn1 _ _ _ _ rfl | exact hn2 _ _ _ _ _ rfl)
          · intro hk2; obtain ⟨k, s1, b1, z1⟩ := r; simp at hk2; subst hk2; exact hn3 _ _ _ rfl
        · cases h
      · cases h
    · cases h
  case build t ps =>
    have hops : ∀ x ∈ ps.toList, ∀ u, e x.2 = some u → ρ x.2 = u := fun x hx => hev x.2 (by simp only [Op.operands, List.mem_toArray, List.mem_map]; exact ⟨x, hx, rfl⟩)
    have hmap : (ps.map fun (x : Nat × Operand) => (x.1, ρ x.2)).toList = ps.toList.map fun x => (x.1, ρ x.2) := by simp
    split at h
    · rename_i fs _ _ zero hs
      obtain ⟨i, d, z, hi, hd, _, _, hk, hz, hzc, _⟩ := hT.row hs
      cases d <;> simp [chkKind] at hk
      rename_i fields
      have hpl : ∀ k : Nat, (fields.toList.map fun f => (f.offset, ((P.info? f.type).map (·.size)).getD 0))[k]? = (match nth fs k with | some (o, _, n) => some (o, n) | none => none) := fun k => by
        rw [nth_eq, ← hk.1]
        simp only [List.getElem?_map]
        cases fields.toList[k]? <;> rfl
      obtain ⟨c, hc, rfl⟩ := parts_eq (fun k o n hkn => by
        rw [nth_eq] at hkn
        split at hkn
        · rename_i o' t' n' hn
          simp at hkn
          have := hk.2 _ _ _ (List.mem_of_getElem? hn)
          omega
        · cases hkn) _ _ _ h ρ hops
      have hplaces : (fields.mapM fun f => do pure (f.offset, ← Go.sizeOf f.type) : Sem (Array (Nat × Nat))).run P w = .ok ((fields.toList.map fun f => (f.offset, ((P.info? f.type).map (·.size)).getD 0)).toArray) w := by
        refine mapM_sizes P w fields fun f hf => ?_
        have := hk.2 f.offset f.type (((P.info? f.type).map (·.size)).getD 0) (by rw [← hk.1]; exact List.mem_map.2 ⟨f, by simpa using hf, rfl⟩)
        cases hfi : P.info? f.type with
        | none => simp [hfi] at this
        | some i => exact ⟨i, rfl⟩
      have hz1 : (zeroValue t).run P w = .ok z w := by simp [zeroValue, typeInfo, hi, hz, go_sem]
      have hu : (underlying t).run P w = .ok (.struct fields) w := by simp [underlying, hd, go_sem]
      have hfill : Instr.fill (fun k => (fields.toList.map fun f => (f.offset, ((P.info? f.type).map (·.size)).getD 0)).toArray[k]?) z.cells (ps.map fun (x : Nat × Operand) => (x.1, ρ x.2)).toList = some c := by
        rw [hmap, ← hc]
        congr 1
        · funext k; rw [List.getElem?_toArray]; exact hpl k
        · rw [← Array.toList_inj]; exact hzc
      have hb : (Instr.build t (ps.map fun (x : Nat × Operand) => (x.1, ρ x.2))).run P w = .ok (.agg c) w := by
        unfold Instr.build
        simp only [Sem.run_bind, hz1, Result.andThen, hu, hplaces, hfill]
        rfl
      simp only [execOp, Sem.run_bind, hb, Result.andThen]; rfl
    · rename_i nn el _ _ zero hs
      obtain ⟨i, d, z, hi, hd, _, _, hk, hz, hzc, _⟩ := hT.row hs
      cases d <;> simp [chkKind] at hk
      obtain ⟨rfl, rfl⟩ := hk
      split at h
      · rename_i r hr
        cases hb0 : Nat.beq r.size 0 with
        | true => simp [hb0] at h
        | false =>
          simp only [hb0, cond_false] at h
          have hpos : 0 < r.size := by have := Nat.ne_of_beq_eq_false hb0; omega
          obtain ⟨c, hc, rfl⟩ := parts_eq (fun k o n hkn => by simp at hkn; omega) _ _ _ h ρ hops
          have hz1 : (zeroValue t).run P w = .ok z w := by simp [zeroValue, typeInfo, hi, hz, go_sem]
          have hu : (underlying t).run P w = .ok (.array nn el) w := by simp [underlying, hd, go_sem]
          have hsz := hT.sizeOf hr w
          have hfill : Instr.fill (fun i => some (i * r.size, r.size)) z.cells (ps.map fun (x : Nat × Operand) => (x.1, ρ x.2)).toList = some c := by
            rw [hmap, ← hc]
            congr 1
            rw [← Array.toList_inj]; exact hzc
          have hb : (Instr.build t (ps.map fun (x : Nat × Operand) => (x.1, ρ x.2))).run P w = .ok (.agg c) w := by
            unfold Instr.build
            simp only [Sem.run_bind, hz1, Result.andThen, hu, hsz, hfill]
            rfl
          simp only [execOp, Sem.run_bind, hb, Result.andThen]; rfl
      · cases h
    · cases h
  case extract x i =>
    split at h
    · rename_i vs hx
      have h1 := hev x (by simp [Op.operands]) _ hx
      rw [nth_eq] at h
      simp at h
      simp [execOp, h1, Instr.extract, h, go_sem]
    · cases h
  case makeFunc fn first cap =>
    obtain ⟨fs, _, h2, h3⟩ := evs_eq _ _ _ h
    obtain ⟨cs, _, h4, h5⟩ := evs_eq _ _ _ h2
    have e1 := h3 ρ fun x hx => hev x (by simp [Op.operands]; exact .inl (by simpa using hx))
    have e2 := h5 ρ fun x hx => hev x (by simp [Op.operands]; exact .inr (by simpa using hx))
    simp at h4; subst h4
    have e3 : first.map ρ = fs.toArray := by rw [← Array.toList_inj]; simpa using e1
    have e4 : cap.map ρ = cs.toArray := by rw [← Array.toList_inj]; simpa using e2
    simp [execOp, Instr.makeFunc, e3, e4, go_sem]
end
end Go.Proofs.YtgaipgbgppdfeaaGreatDoor

namespace Go.Proofs.YtgaipgbgppdfeaaGreatDoor
open Go.RowKit

abbrev Env := Nat → Option Value
def upd (e : Env) (d : Option Nat) (v : Value) : Env :=
  match d with
  | none => e
  | some d => fun t => match Nat.beq d t with
    | true => some v
    | false => e t

/-- The frame a holds what e tells. -/
structure Agree (n : Nat) (ds : List Deferred) (e : Env) (a : Act) : Prop where
  size : a.tmps.size = n
  defers : a.defers = ds
  slots : ∀ t v, e t = some v → a.tmps[t]? = some v

theorem upd_same (e : Env) (d : Nat) (v : Value) : upd e (some d) v d = some v := by simp [upd]
theorem upd_ne (e : Env) {d t : Nat} (v : Value) (h : d ≠ t) : upd e (some d) v t = e t := by
  have : Nat.beq d t = false := by
    cases hb : Nat.beq d t with
    | false => rfl
    | true => exact absurd (Nat.eq_of_beq_eq_true hb) h
  simp [upd, this]
theorem upd_comm (e : Env) (x y : Option Nat) (v u : Value) (h : ∀ d, x = some d → y ≠ some d) : upd (upd e x v) y u = upd (upd e y u) x v := by
  cases x with
  | none => rfl
  | some d =>
    cases y with
    | none => rfl
    | some c =>
      have hne : d ≠ c := fun hdc => h d rfl (by rw [hdc])
      funext t
      by_cases h1 : d = t
      · subst h1; rw [upd_ne _ _ (Ne.symm hne), upd_same, upd_same]
      · by_cases h2 : c = t
        · subst h2; rw [upd_same, upd_ne _ _ h1, upd_same]
        · rw [upd_ne _ _ h2, upd_ne _ _ h1, upd_ne _ _ h1, upd_ne _ _ h2]

theorem Agree.put {n : Nat} {ds : List Deferred} {e : Env} {a : Act} (h : Agree n ds e a) {d : Option Nat} (hd : ∀ t, d = some t → t < n) (v : Value) : Agree n ds (upd e d v) (a.put d v) := by
  cases d with
  | none => exact h
  | some d =>
    have hlt := hd d rfl
    refine ⟨by simp [Act.put, h.size], by simp [Act.put, h.defers], fun t u ht => ?_⟩
    by_cases hdt : d = t
    · subst hdt
      rw [upd_same] at ht
      have : d < a.tmps.size := by rw [h.size]; exact hlt
      simp [Act.put, this, Option.some.inj ht]
    · rw [upd_ne _ _ hdt] at ht
      simp only [Act.put]
      rw [Array.getElem?_setIfInBounds_ne hdt]
      exact h.slots t u ht

def evf (e : Env) : Operand → Option Value
  | .tmp t => e t
  | .const v => some v
  | .global g => some (.pointer (some ⟨g, 0, none⟩))
  | .func f => some (.func (.func f) #[] #[])

theorem Agree.ev {n : Nat} {ds : List Deferred} {e : Env} {a : Act} (h : Agree n ds e a) {x : Operand} {v : Value} (hx : evf e x = some v) : a.eval x = v := by
  cases x with
  | tmp t => simp [Act.eval, h.slots t v hx]
  | const u => exact Option.some.inj hx
  | global g => exact Option.some.inj hx
  | func f => exact Option.some.inj hx

/-- Is the operation wanted? -/
def wantF (ops : Array Oper) (e : Env) (o : Oper) : Option Bool :=
  match o.guard with
  | none => some true
  | some (j, want) => match (ops[j]?).bind (·.dst) with
    | none => none
    | some d => match e d with
      | some (.bool b) => some (b == want)
      | some (.tuple _) => some false
      | _ => none

theorem wantF_ok {n : Nat} {ds : List Deferred} {e : Env} {a : Act} (h : Agree n ds e a) {ops : Array Oper} {o : Oper} {b : Bool} (hw : wantF ops e o = some b) : Region.wanted o (yielded ops a.tmps) = b := by
  unfold wantF at hw
  unfold Region.wanted
  cases hg : o.guard with
  | none => simpa [hg] using hw
  | some g =>
    obtain ⟨j, want⟩ := g
    simp only [hg] at hw
    cases hd : (ops[j]?).bind (·.dst) with
    | none => simp [hd] at hw
    | some d =>
      simp only [hd] at hw
      split at hw
      · rename_i c hc
        have := h.slots _ _ hc
        simp only [yielded, hd, Option.bind_some, this]
        have := Option.some.inj hw
        subst this
        cases c <;> cases want <;> rfl
      · rename_i vs hc
        have := h.slots _ _ hc
        simp only [yielded, hd, Option.bind_some, this]
        exact Option.some.inj hw
      · cases hw

theorem wantF_upd {ops : Array Oper} {e : Env} {o : Oper} {d : Option Nat} {v : Value} (h : ∀ t, d = some t → t ∉ o.looksAt ops) : wantF ops (upd e d v) o = wantF ops e o := by
  cases d with
  | none => rfl
  | some d =>
    unfold wantF
    cases hg : o.guard with
    | none => rfl
    | some g =>
      obtain ⟨j, want⟩ := g
      simp only
      cases hd : (ops[j]?).bind (·.dst) with
      | none => rfl
      | some c =>
        have : d ≠ c := fun e => h d rfl (by subst e; simp [Oper.looksAt, hg, hd])
        simp only [upd_ne e v this]

theorem evf_upd {e : Env} {d : Option Nat} {v : Value} {x : Operand} (h : ∀ t, d = some t → x ≠ .tmp t) : evf (upd e d v) x = evf e x := by
  cases d with
  | none => rfl
  | some d =>
    cases x with
    | tmp t => exact upd_ne e v fun hdt => h d rfl (by rw [hdt])
    | _ => rfl

/-- A list, its spine written out. -/
def forceL {α β : Type} : List α → (List α → β) → β
  | [], k => k []
  | x :: l, k => forceL l fun r => k (x :: r)
theorem forceL_eq {α β : Type} : ∀ (l : List α) (k : List α → β), forceL l k = k l
  | [], _ => rfl
  | x :: l, k => by simp only [forceL]; exact forceL_eq l _

/-- The block that an operation makes, and the value that tells it. -/
def allocOf (T : Tab) (e : Env) : Op → Option (Obj × (Nat → Value))
  | .alloc t => match lookT T t with
    | some ⟨_, _, _, zero⟩ => some (.cells zero.toArray t, fun b => .pointer (some ⟨b, 0, none⟩))
    | none => none
  | .box t x => match evf e x with
    | some v => match vcells v with
      | some l => some (.cells l.toArray t, fun b => .pointer (some ⟨b, 0, none⟩))
      | none => none
    | none => none
  | .buildSlice t n ps => match lookT T t with
    | some ⟨.slice el, _, _, _⟩ => match lookT T el with
      | some r => bif Nat.beq r.size 0 || !Nat.ble (n * r.size) 16777216 then none else forceL (List.replicate n r.zero).flatten fun cells =>
        match parts (evf e) (fun i => some (i * r.size, r.size)) cells ps.toList with
        | some (.agg c) => some (.cells c el, fun b => .slice (some ⟨b, 0, none⟩) n n)
        | _ => none
      | none => none
    | _ => none
  | _ => none

theorem evf_ops {e e' : Env} {ps : List (Nat × Operand)} (h : ∀ x ∈ ps, evf e x.2 = evf e' x.2) {place : Nat → Option (Nat × Nat)} : ∀ c, parts (evf e) place c ps = parts (evf e') place c ps := by
  induction ps with
  | nil => intro c; rfl
  | cons x ps ih =>
    intro c
    obtain ⟨i, x⟩ := x
    have h1 := h (i, x) List.mem_cons_self
    have h2 := ih fun y hy => h y (List.mem_cons_of_mem _ hy)
    simp only at h1
    simp only [parts, h1, h2]

theorem allocOf_upd {T : Tab} {ops : Array Oper} {e : Env} {o : Oper} {d : Option Nat} {v : Value} (h : ∀ t, d = some t → t ∉ o.looksAt ops) : allocOf T (upd e d v) o.op = allocOf T e o.op := by
  have hx : ∀ x ∈ o.op.operands, evf (upd e d v) x = evf e x := fun x hx => evf_upd fun t ht hxt => h t ht (by
    subst hxt
    exact List.mem_append_left _ (List.mem_filterMap.2 ⟨.tmp t, by simpa using hx, rfl⟩))
  obtain ⟨dst, op, ty, pos, after, guard⟩ := o
  cases op <;> try rfl
  case box t x => simp only [allocOf]; rw [hx x (by simp [Op.operands])]
  case buildSlice t n ps =>
    simp only [allocOf]
    have hp : ∀ x ∈ ps.toList, evf (upd e d v) x.2 = evf e x.2 := fun x hxp => hx x.2 (by simp only [Op.operands, List.mem_toArray, List.mem_map]; exact ⟨x, hxp, rfl⟩)
    simp only [evf_ops hp]

theorem fill_zero (T : TRow) (n : Nat) (z : Array Value) (hz : z.toList = T.zero) (hs : T.zero.length = T.size) : (Array.range (n * T.size)).map (fun i => z[i % z.size]!) = (List.replicate n T.zero).flatten.toArray := by
  have hzs : z.size = T.size := by rw [← hs, ← hz]; simp
  rw [← Array.toList_inj]
  simp only [Array.toList_map, Array.toList_range]
  rw [hzs]
  induction n with
  | zero => simp
  | succ n ih =>
    rw [Nat.succ_mul, List.range_add, List.map_append, ih, List.replicate_succ', List.flatten_append]
    congr 1
    simp only [List.map_map, List.flatten_cons, List.flatten_nil, List.append_nil]
    rw [← hz]
    refine List.ext_getElem (by simp [hzs]) fun i h1 h2 => ?_
    simp at h1 h2
    simp [Nat.mod_eq_of_lt h1, h2]

theorem run_newVar {P : Program} (t : TypeId) (v : Value) (w : World) : (newVar t v).run P w = .ok ⟨w.heap.size, 0, none⟩ (w.alloc (.cells v.cells t)) := rfl
theorem run_newRow {P : Program} (t : TypeId) (c : Array Value) (w : World) : (newRow t c).run P w = .ok ⟨w.heap.size, 0, none⟩ (w.alloc (.cells c t)) := rfl

theorem allocOf_ok {P : Program} {T : Tab} (hT : TabOK P T) {n : Nat} {ds : List Deferred} {e : Env} {a : Act} (h : Agree n ds e a) {o : Oper} {obj : Obj} {mk : Nat → Value} (ha : allocOf T e o.op = some (obj, mk)) : AllocRun P (execOp a.eval o) obj mk := by
  intro w
  obtain ⟨dst, op, ty, pos, after, guard⟩ := o
  simp only at ha
  cases op <;> simp only [allocOf] at ha <;> try (cases ha; done)
  case alloc t =>
    split at ha
    · rename_i zero hr
      obtain ⟨i, d, z, hi, hd, _, _, _, hz, hzc, _⟩ := hT.row hr
      simp at ha
      obtain ⟨rfl, rfl⟩ := ha
      have hz' : z.cells = zero.toArray := by rw [← Array.toList_inj]; exact hzc
      have hz1 : (zeroValue t).run P w = .ok z w := by simp [zeroValue, typeInfo, hi, hz, go_sem]
      simp only [execOp, Instr.alloc, Sem.run_bind, hz1, Result.andThen, run_newVar, hz']
      rfl
    · cases ha
  case box t x =>
    split at ha
    · rename_i v hv
      split at ha
      · rename_i l hl
        simp at ha
        obtain ⟨rfl, rfl⟩ := ha
        simp only [execOp, Instr.box, h.ev hv, Sem.run_bind, Result.andThen, run_newVar, vcells_eq hl]
        rfl
      · cases ha
    · cases ha
  case buildSlice t m ps =>
    split at ha
    · rename_i el _ _ _ ht
      obtain ⟨d, hd, hk⟩ := hT.und ht
      cases d <;> simp [chkKind] at hk
      subst hk
      split at ha
      · rename_i r hr
        cases hc : (Nat.beq r.size 0 || !Nat.ble (m * r.size) 16777216) with
        | true => simp [hc] at ha
        | false =>
          simp only [hc, cond_false, forceL_eq] at ha
          simp only [Bool.or_eq_false_iff] at hc
          have hpos : 0 < r.size := by have := Nat.ne_of_beq_eq_false hc.1; omega
          have hle : m * r.size ≤ 16777216 := Nat.le_of_ble_eq_true (by simpa using hc.2)
          split at ha
          · rename_i c hpt
            simp at ha
            obtain ⟨rfl, rfl⟩ := ha
            obtain ⟨i, d', z, hi, hd', hsz, _, _, hz, hzc, hzl⟩ := hT.row hr
            obtain ⟨c', hc', hcc⟩ := parts_eq (fun k o n hkn => by simp at hkn; omega) _ _ _ hpt a.eval (fun x _ u hu => h.ev hu)
            simp at hcc; subst hcc
            have hcells := fill_zero r m z.cells hzc hzl
            have hsz1 := hT.sizeOf hr w
            have hu : (underlying t).run P w = .ok (.slice el) w := by simp [underlying, hd, go_sem]
            have hz1 : (zeroValue el).run P w = .ok z w := by simp [zeroValue, typeInfo, hi, hz, go_sem]
            have hmap : (ps.map fun (x : Nat × Operand) => (x.1, a.eval x.2)).toList = ps.toList.map fun x => (x.1, a.eval x.2) := by simp
            have hne : ¬ m * r.size > 2 ^ 24 := by omega
            have hb : (Instr.buildSlice t m (ps.map fun (x : Nat × Operand) => (x.1, a.eval x.2))).run P w = .ok (.slice (some ⟨w.heap.size, 0, none⟩) m m) (w.alloc (.cells c el)) := by
              unfold Instr.buildSlice
              simp only [Sem.run_bind, hu, Result.andThen, hsz1, if_neg hne]
              by_cases h0 : m * r.size = 0
              · rw [if_pos h0]
                have e0 : (List.replicate m r.zero).flatten.toArray = (Array.range (m * r.size)).map fun i => (#[] : Array Value)[i % (#[] : Array Value).size]! := by rw [← hcells]; simp [h0]
                rw [e0] at hc'
                simp only [Sem.run_bind, Sem.run_pure, Result.andThen, hmap, hc']
                rfl
              · rw [if_neg h0]
                rw [← hcells] at hc'
                simp only [Sem.run_bind, hz1, Sem.run_pure, Result.andThen, hmap, hc']
                rfl
            simp only [execOp, Sem.run_bind, hb, Result.andThen]
            rfl
          · cases ha
      · cases ha
    · cases ha
end Go.Proofs.YtgaipgbgppdfeaaGreatDoor

namespace Go.Proofs.YtgaipgbgppdfeaaGreatDoor
open Go.RowKit

theorem Sep.perm {R R' : List HP} (p : R.Perm R') : ∀ {h : H}, Sep R h → Sep R' h := by
  induction p with
  | nil => exact fun h => h
  | cons x _ ih => rintro h ⟨h1, h2, d, s1, s2, hx, hs⟩; exact ⟨h1, h2, d, s1, s2, hx, ih hs⟩
  | swap x y l => exact fun hs => (Sel.there (y := y) (Sel.here (x := x) (R := l))).sep hs
  | trans _ _ ih1 ih2 => exact fun h => ih2 (ih1 h)

section
variable {G : H} {w0 : World} {hp0 : H} {F F' : List Pf} {R R' : List HP} {w w' : World}

theorem Sat.perm (h : Sat G w0 hp0 F R w) (p : R.Perm R') : Sat G w0 hp0 F R' w := h.res fun _ hk => hk.perm p

theorem Sat.rebase (h : Sat G w0 hp0 F R w) : ∃ hp, Sub hp0 hp ∧ Same w0 w ∧ Sat G w hp F R w :=
  let ⟨hp, hr, t⟩ := h
  ⟨hp, t.sub, t.same, hp, hr, t.inp, t.inr, t.ing, t.d1, t.d2, t.d3, Sub.refl _, t.f, t.r, Same.refl _⟩

theorem Sat.back {hp : H} (s : Sub hp0 hp) (m : Same w0 w) (h : Sat G w hp F R w') : Sat G w0 hp0 F R w' :=
  let ⟨hp', hr, t⟩ := h
  ⟨hp', hr, t.inp, t.inr, t.ing, t.d1, t.d2, t.d3, s.trans t.sub, t.f, t.r, m.trans t.same⟩

/-- One resource is set aside, and taken back. -/
theorem Sat.aside {r : HP} (h : Sat G w0 hp0 F (r :: R) w) : ∃ h1, r h1 ∧ Dj G h1 ∧ Sat (un G h1) w0 hp0 F R w := by
  obtain ⟨hp, hr, t⟩ := h
  obtain ⟨h1, h2, d, s1, s2, hx, hR⟩ := t.r
  exact ⟨h1, hx, (t.d3.sub s1).symm, hp, h2, t.inp, t.inr.sub s2, In.un t.ing (t.inr.sub s1), (t.d1.symm.sub s2).symm, (dj_un.2 ⟨t.d2.symm, t.d1.symm.sub s1⟩).symm,
    (dj_un.2 ⟨(t.d3.sub s2).symm, d⟩).symm, t.sub, t.f, hR, t.same⟩

theorem Sat.taken {r : HP} {h1 : H} (hr : r h1) (hd : Dj G h1) (h : Sat (un G h1) w0 hp0 F R w) : Sat G w0 hp0 F (r :: R) w := by
  obtain ⟨hp, h2, t⟩ := h
  obtain ⟨d1, d2⟩ := dj_un.1 t.d3.symm
  obtain ⟨d3, d4⟩ := dj_un.1 t.d2.symm
  exact ⟨hp, un h1 h2, t.inp, In.un (t.ing.sub (sub_un_right hd)) t.inr, t.ing.sub (sub_un_left _ _), (dj_un.2 ⟨d4, t.d1.symm⟩).symm, d3.symm, dj_un.2 ⟨hd.symm, d1.symm⟩, t.sub, t.f,
    ⟨h1, h2, d2, sub_un_left _ _, sub_un_right d2, hr, t.r⟩, t.same⟩

theorem Sat.subG {G' : H} (h : Sat G' w0 hp0 F R w) (s : Sub G G') : Sat G w0 hp0 F R w :=
  let ⟨hp, hr, t⟩ := h
  ⟨hp, hr, t.inp, t.inr, t.ing.sub s, t.d1, (t.d2.symm.sub s).symm, (t.d3.symm.sub s).symm, t.sub, t.f, t.r, t.same⟩

theorem Sat.stat {hs : H} (h : Sat G w hp0 F R w') (s : Sub hs (un G hp0)) : In hs w' :=
  let ⟨_, _, t⟩ := h
  (In.un t.ing (t.inp.sub t.sub)).sub s
end

theorem sub_un_mono {hs G hp hp' : H} (s : Sub hs (un G hp)) (t : Sub hp hp') : Sub hs (un G hp') := fun b o e => by
  have h := s b o e
  unfold un at h ⊢
  split at h
  · exact h
  · exact t b o h

theorem Agree.undo {n : Nat} {ds : List Deferred} {e : Env} {a : Act} {d : Option Nat} {v : Value} (hd : ∀ t, d = some t → t < n) (h : Agree n ds (upd e d v) a) : ∃ u, Agree n ds e (a.put d u) := by
  cases d with
  | none => exact ⟨v, h⟩
  | some d =>
    refine ⟨(e d).getD undef, by simp [Act.put, h.size], by simp [Act.put, h.defers], fun t u ht => ?_⟩
    by_cases hdt : d = t
    · subst hdt
      have : d < a.tmps.size := by rw [h.size]; exact hd d rfl
      simp [Act.put, this, ht]
    · simp only [Act.put]
      rw [Array.getElem?_setIfInBounds_ne hdt]
      exact h.slots t u (by rw [upd_ne _ _ hdt]; exact ht)

/-- The walk in a chosen order: 0: it reads what stays; 1: it makes one block; 2: it makes one block that stays as it is; 3: it reads what is owned; 4: anything else; 5: it leaves what is owned as it is. -/
def WS (P : Program) (T : Tab) (n : Nat) (ds : List Deferred) (ops : Array Oper) (hs : H) (End : Env → List Pf → List HP → Prop) : List (Nat × Nat) → Env → List Pf → List HP → Prop
  | [], e, F, N => End e F N
  | (i, k) :: L, e, F, N => ∀ o, ops[i]? = some o → match wantF ops e o with
    | none => False
    | some false => WS P T n ds ops hs End L (upd e o.dst undef) F N
    | some true => match k with
      | 0 => ∃ v, (∀ a w, Agree n ds e a → In hs w → (execOp a.eval o).run P w = .ok (.value v) w) ∧ WS P T n ds ops hs End L (upd e o.dst v) F N
      | 1 => ∃ obj mk, allocOf T e o.op = some (obj, mk) ∧ ∀ b, WS P T n ds ops hs End L (upd e o.dst (mk b)) F (Pt b obj :: N)
      | 2 => ∃ obj mk, allocOf T e o.op = some (obj, mk) ∧ ∀ b, hs b = none → WS P T n ds ops (un (one b obj) hs) End L (upd e o.dst (mk b)) F N
      | 3 => ∃ v, (∀ a G w hp, Agree n ds e a → Sub hs (un G hp) → Sat G w hp F N w → (execOp a.eval o).run P w = .ok (.value v) w) ∧ WS P T n ds ops hs End L (upd e o.dst v) F N
      | 4 => ∃ post : Post, (∀ a G w hp, Agree n ds e a → Sub hs (un G hp) → Sat G w hp F N w → OpRes P (execOp a.eval o) w fun v w' => ∃ x, v = post.val x ∧ post.pure x ∧ Sat G w hp (post.F x) (post.R x) w') ∧
          ∀ x, post.pure x → WS P T n ds ops hs End L (upd e o.dst (post.val x)) (post.F x) (post.R x)
      | 5 => ∃ post : Post, (∀ a G w hp, Agree n ds e a → Sub hs (un G hp) → Sat G w hp F N w → OpRes P (execOp a.eval o) w fun v w' => ∃ x, v = post.val x ∧ post.pure x ∧ Sat G w hp (post.F x) (post.R x) w') ∧
          (∀ x, post.pure x → WS P T n ds ops hs End L (upd e o.dst (post.val x)) (post.F x) (post.R x)) ∧
          ∀ x, post.pure x → (∀ hp, (∀ f ∈ post.F x, f.p hp) → ∀ f ∈ F, f.p hp) ∧ (post.R x).Perm N
      | _ => False

section
variable {P : Program} {T : Tab} {n : Nat} {ds : List Deferred} {ops : Array Oper} {hs : H} {End : Env → List Pf → List HP → Prop}

theorem un_r {k hs hs' : H} (s : Sub hs hs') : Sub (un k hs) (un k hs') := fun b o e => by
  unfold un at e ⊢
  split at e
  · exact e
  · exact s b o e
theorem none_of_sub {hs hs' : H} (s : Sub hs hs') {b : Nat} (h : hs' b = none) : hs b = none := by
  cases e : hs b with
  | none => rfl
  | some o => rw [s b o e] at h; cases h
theorem sub_one {hs : H} {b : Nat} {o : Obj} (h : hs b = none) : Sub hs (un (one b o) hs) := fun c x e => by
  unfold un one
  by_cases hc : c = b
  · subst hc; rw [h] at e; cases e
  · simp [hc, e]
theorem sub_swap {hs : H} {b c : Nat} {o x : Obj} (h : b ≠ c) : Sub (un (one b o) (un (one c x) hs)) (un (one c x) (un (one b o) hs)) := fun d y e => by
  unfold un one at e ⊢
  by_cases h1 : d = b
  · subst h1; simp [h] at e ⊢; exact e
  · by_cases h2 : d = c
    · subst h2; simp [h1] at e ⊢; exact e
    · simp [h1, h2] at e ⊢; exact e
theorem un_noneS {b c : Nat} {o : Obj} {hs : H} (h : un (one b o) hs c = none) : c ≠ b ∧ hs c = none := by
  unfold un one at h
  by_cases hc : c = b
  · subst hc; simp at h
  · simp [hc] at h; exact ⟨hc, h⟩
theorem un_noneS' {b c : Nat} {o : Obj} {hs : H} (hc : c ≠ b) (h : hs c = none) : un (one b o) hs c = none := by
  unfold un one; simp [hc, h]

theorem WS.mono {End' : Env → List Pf → List HP → Prop} (hE : ∀ e F N, End e F N → End' e F N) : ∀ (L : List (Nat × Nat)) (hs hs' : H) (e : Env) (F : List Pf) (N : List HP), Sub hs hs' → WS P T n ds ops hs End L e F N → WS P T n ds ops hs' End' L e F N
  | [], _, _, e, F, N, _, h => hE e F N h
  | (i, k) :: L, hs, hs', e, F, N, s, h => by
    intro o ho
    have h := h o ho
    cases hw : wantF ops e o with
    | none => simp only [hw] at h
    | some b =>
      cases b with
      | false => simp only [hw] at h ⊢; exact WS.mono hE L hs hs' _ F N s h
      | true =>
        simp only [hw] at h ⊢
        match k with
        | 0 => obtain ⟨v, h1, h2⟩ := h; exact ⟨v, fun a w ha hin => h1 a w ha (hin.sub s), WS.mono hE L hs hs' _ F N s h2⟩
        | 1 => obtain ⟨obj, mk, h1, h2⟩ := h; exact ⟨obj, mk, h1, fun b => WS.mono hE L hs hs' _ F _ s (h2 b)⟩
        | 2 => obtain ⟨obj, mk, h1, h2⟩ := h; exact ⟨obj, mk, h1, fun b hb => WS.mono hE L _ _ _ F _ (un_r s) (h2 b (none_of_sub s hb))⟩
        | 3 => obtain ⟨v, h1, h2⟩ := h; exact ⟨v, fun a G w hp ha hsub hsat => h1 a G w hp ha (s.trans hsub) hsat, WS.mono hE L hs hs' _ F N s h2⟩
        | 4 => obtain ⟨post, h1, h2⟩ := h; exact ⟨post, fun a G w hp ha hsub hsat => h1 a G w hp ha (s.trans hsub) hsat, fun x hx => WS.mono hE L hs hs' _ _ _ s (h2 x hx)⟩
        | 5 => obtain ⟨post, h1, h2, h5⟩ := h; exact ⟨post, fun a G w hp ha hsub hsat => h1 a G w hp ha (s.trans hsub) hsat, fun x hx => WS.mono hE L hs hs' _ _ _ s (h2 x hx), h5⟩
        | k + 6 => exact h.elim

theorem WS.perm (hEnd : ∀ e F N N', List.Perm N N' → End e F N → End e F N') : ∀ (L : List (Nat × Nat)) (hs : H) (e : Env) (F : List Pf) (N N' : List HP), N.Perm N' → WS P T n ds ops hs End L e F N → WS P T n ds ops hs End L e F N'
  | [], _, e, F, N, N', p, h => hEnd e F N N' p h
  | (i, k) :: L, hs, e, F, N, N', p, h => by
    intro o ho
    have h := h o ho
    cases hw : wantF ops e o with
    | none => simp only [hw] at h
    | some b =>
      cases b with
      | false => simp only [hw] at h ⊢; exact WS.perm hEnd L _ _ F N N' p h
      | true =>
        simp only [hw] at h ⊢
        match k with
        | 0 => obtain ⟨v, h1, h2⟩ := h; exact ⟨v, h1, WS.perm hEnd L _ _ F N N' p h2⟩
        | 1 => obtain ⟨obj, mk, h1, h2⟩ := h; exact ⟨obj, mk, h1, fun b => WS.perm hEnd L _ _ F _ _ (p.cons _) (h2 b)⟩
        | 2 => obtain ⟨obj, mk, h1, h2⟩ := h; exact ⟨obj, mk, h1, fun b hb => WS.perm hEnd L _ _ F _ _ p (h2 b hb)⟩
        | 3 => obtain ⟨v, h1, h2⟩ := h; exact ⟨v, fun a G w hp ha hsub hsat => h1 a G w hp ha hsub (hsat.perm p.symm), WS.perm hEnd L _ _ F N N' p h2⟩
        | 4 => obtain ⟨post, h1, h2⟩ := h; exact ⟨post, fun a G w hp ha hsub hsat => h1 a G w hp ha hsub (hsat.perm p.symm), h2⟩
        | 5 => obtain ⟨post, h1, h2, h5⟩ := h; exact ⟨post, fun a G w hp ha hsub hsat => h1 a G w hp ha hsub (hsat.perm p.symm), h2, fun x hx => ⟨(h5 x hx).1, (h5 x hx).2.trans p⟩⟩
        | k + 6 => exact h.elim

variable (hsel : Region.noSelect ops = true) (hdst : ∀ (i : Nat) (o : Oper), ops[i]? = some o → ∀ t, o.dst = some t → t < n)
include hsel hdst

theorem WS.pull (hEnd : ∀ e F N N', List.Perm N N' → End e F N → End e F N') {i : Nat} {oi : Oper} (hi : ops[i]? = some oi) {obj : Obj} {mk : Nat → Value} (C : List (Nat × Nat)) : ∀ (A : List (Nat × Nat)) (hs : H) (e : Env) (F : List Pf) (N : List HP),
    (∀ y ∈ A, apartOf ops y.1 i = true) → (∀ y ∈ A, ∃ oy, ops[y.1]? = some oy) → WS P T n ds ops hs End (A ++ (i, 1) :: C) e F N → wantF ops e oi = some true → allocOf T e oi.op = some (obj, mk) →
    ∀ b, WS P T n ds ops hs End (A ++ C) (upd e oi.dst (mk b)) F (Pt b obj :: N)
  | [], hs, e, F, N, _, _, h, hw, ha, b => by
    have h := h oi hi
    simp only [hw] at h
    obtain ⟨obj', mk', ha', h⟩ := h
    rw [ha] at ha'
    obtain ⟨rfl, rfl⟩ := Prod.mk.inj (Option.some.inj ha')
    exact h b
  | (y, ky) :: A, hs, e, F, N, hap, hin, h, hw, ha, b => by
    obtain ⟨oy, hy⟩ := hin (y, ky) List.mem_cons_self
    obtain ⟨ap1, ap2, ap3⟩ := apartOf_spec hy hi (hap (y, ky) List.mem_cons_self)
    have hsy : ∀ cs b, oy.op ≠ .select cs b := fun cs b => Region.noSelect_spec hsel y oy cs b hy
    have hap' : ∀ z ∈ A, apartOf ops z.1 i = true := fun z hz => hap z (List.mem_cons_of_mem _ hz)
    have hin' : ∀ z ∈ A, ∃ oz, ops[z.1]? = some oz := fun z hz => hin z (List.mem_cons_of_mem _ hz)
    have ih := fun (hs : H) v F' N' (hh : WS P T n ds ops hs End (A ++ (i, 1) :: C) (upd e oy.dst v) F' N') => WS.pull hEnd hi (obj := obj) (mk := mk) C A hs (upd e oy.dst v) F' N' hap' hin' hh (by rw [wantF_upd ap1]; exact hw) (by rw [allocOf_upd ap1]; exact ha) b
    have hcom : ∀ v u, upd (upd e oy.dst v) oi.dst u = upd (upd e oi.dst u) oy.dst v := fun v u => upd_comm e _ _ v u ap2
    have h := h oy hy
    intro o' ho'
    obtain rfl : o' = oy := Option.some.inj (ho'.symm.trans hy)
    rw [wantF_upd ap3]
    have und : ∀ (a : Act) (u : Value), Agree n ds (upd e oi.dst u) a → ∃ a', Agree n ds e a' ∧ execOp a'.eval o' = execOp a.eval o' := fun a u hag => by
      obtain ⟨z, hz⟩ := hag.undo (hdst i oi hi)
      exact ⟨_, hz, execOp_put o' hsy a oi.dst z ap3⟩
    cases hwy : wantF ops e o' with
    | none => simp only [hwy] at h
    | some wb =>
      cases wb with
      | false =>
        simp only [hwy] at h ⊢
        rw [← hcom]; exact ih _ _ _ _ h
      | true =>
        simp only [hwy] at h ⊢
        match ky with
        | 0 =>
          obtain ⟨v, hq, h2⟩ := h
          refine ⟨v, fun a w hag hin => ?_, by rw [← hcom]; exact ih _ _ _ _ h2⟩
          obtain ⟨a', h1, h3⟩ := und a _ hag
          rw [← h3]; exact hq a' w h1 hin
        | 1 =>
          obtain ⟨obj', mk', ha', h2⟩ := h
          refine ⟨obj', mk', by rw [allocOf_upd ap3]; exact ha', fun b' => ?_⟩
          rw [← hcom]
          exact WS.perm hEnd _ _ _ _ _ _ (List.Perm.swap _ _ _) (ih _ _ _ _ (h2 b'))
        | 2 =>
          obtain ⟨obj', mk', ha', h2⟩ := h
          refine ⟨obj', mk', by rw [allocOf_upd ap3]; exact ha', fun b' hb' => ?_⟩
          rw [← hcom]
          exact ih _ _ _ _ (h2 b' hb')
        | 3 =>
          obtain ⟨v, hq, h2⟩ := h
          refine ⟨v, fun a G w hp hag hsub hsat => ?_, by rw [← hcom]; exact ih _ _ _ _ h2⟩
          obtain ⟨a', h1, h3⟩ := und a _ hag
          rw [← h3]
          obtain ⟨k1, hk1, hdk, hs1⟩ := hsat.aside
          refine hq a' (un G k1) w hp h1 (fun c o e => ?_) hs1
          have := hsub c o e
          obtain ⟨hp', hr', t⟩ := hs1
          rcases un_or this with e1 | e1
          · exact sub_un_left _ _ c o (sub_un_left _ _ c o e1)
          · exact sub_un_right (t.d2.sub t.sub).symm c o e1
        | 4 =>
          obtain ⟨post, hq, h2⟩ := h
          refine ⟨{ post with R := fun x => Pt b obj :: post.R x }, fun a G w hp hag hsub hsat => ?_, fun x hx => by rw [← hcom]; exact ih _ _ _ _ (h2 x hx)⟩
          obtain ⟨a', h1, h3⟩ := und a _ hag
          rw [← h3]
          obtain ⟨k1, hk1, hdk, hs1⟩ := hsat.aside
          have hsub' : Sub hs (un (un G k1) hp) := fun c o e => by
            have := hsub c o e
            obtain ⟨hp', hr', t⟩ := hs1
            rcases un_or this with e1 | e1
            · exact sub_un_left _ _ c o (sub_un_left _ _ c o e1)
            · exact sub_un_right (t.d2.sub t.sub).symm c o e1
          refine (hq a' (un G k1) w hp h1 hsub' hs1).mono fun v w' hv => ?_
          obtain ⟨x, hv, hx, hsx⟩ := hv
          exact ⟨x, hv, hx, hsx.taken hk1 hdk⟩
        | 5 =>
          obtain ⟨post, hq, h2, h5⟩ := h
          refine ⟨{ post with R := fun x => Pt b obj :: post.R x }, fun a G w hp hag hsub hsat => ?_, fun x hx => by rw [← hcom]; exact ih _ _ _ _ (h2 x hx), fun x hx => ⟨(h5 x hx).1, (h5 x hx).2.cons _⟩⟩
          obtain ⟨a', h1, h3⟩ := und a _ hag
          rw [← h3]
          obtain ⟨k1, hk1, hdk, hs1⟩ := hsat.aside
          have hsub' : Sub hs (un (un G k1) hp) := fun c o e => by
            have := hsub c o e
            obtain ⟨hp', hr', t⟩ := hs1
            rcases un_or this with e1 | e1
            · exact sub_un_left _ _ c o (sub_un_left _ _ c o e1)
            · exact sub_un_right (t.d2.sub t.sub).symm c o e1
          refine (hq a' (un G k1) w hp h1 hsub' hs1).mono fun v w' hv => ?_
          obtain ⟨x, hv, hx, hsx⟩ := hv
          exact ⟨x, hv, hx, hsx.taken hk1 hdk⟩
        | k + 6 => exact h.elim

theorem WS.pullS {i : Nat} {oi : Oper} (hi : ops[i]? = some oi) {obj : Obj} {mk : Nat → Value} (C : List (Nat × Nat)) : ∀ (A : List (Nat × Nat)) (hs : H) (e : Env) (F : List Pf) (N : List HP),
    (∀ y ∈ A, apartOf ops y.1 i = true) → (∀ y ∈ A, ∃ oy, ops[y.1]? = some oy) → WS P T n ds ops hs End (A ++ (i, 2) :: C) e F N → wantF ops e oi = some true → allocOf T e oi.op = some (obj, mk) →
    ∀ b, hs b = none → WS P T n ds ops (un (one b obj) hs) End (A ++ C) (upd e oi.dst (mk b)) F N
  | [], hs, e, F, N, _, _, h, hw, ha, b, hb => by
    have h := h oi hi
    simp only [hw] at h
    obtain ⟨obj', mk', ha', h⟩ := h
    rw [ha] at ha'
    obtain ⟨rfl, rfl⟩ := Prod.mk.inj (Option.some.inj ha')
    exact h b hb
  | (y, ky) :: A, hs, e, F, N, hap, hin, h, hw, ha, b, hb => by
    obtain ⟨oy, hy⟩ := hin (y, ky) List.mem_cons_self
    obtain ⟨ap1, ap2, ap3⟩ := apartOf_spec hy hi (hap (y, ky) List.mem_cons_self)
    have hsy : ∀ cs b, oy.op ≠ .select cs b := fun cs b => Region.noSelect_spec hsel y oy cs b hy
    have hap' : ∀ z ∈ A, apartOf ops z.1 i = true := fun z hz => hap z (List.mem_cons_of_mem _ hz)
    have hin' : ∀ z ∈ A, ∃ oz, ops[z.1]? = some oz := fun z hz => hin z (List.mem_cons_of_mem _ hz)
    have ih := fun (hs : H) v F' N' (hh : WS P T n ds ops hs End (A ++ (i, 2) :: C) (upd e oy.dst v) F' N') (hb : hs b = none) => WS.pullS hi (obj := obj) (mk := mk) C A hs (upd e oy.dst v) F' N' hap' hin' hh (by rw [wantF_upd ap1]; exact hw) (by rw [allocOf_upd ap1]; exact ha) b hb
    have hcom : ∀ v u, upd (upd e oy.dst v) oi.dst u = upd (upd e oi.dst u) oy.dst v := fun v u => upd_comm e _ _ v u ap2
    have h := h oy hy
    intro o' ho'
    obtain rfl : o' = oy := Option.some.inj (ho'.symm.trans hy)
    rw [wantF_upd ap3]
    have und : ∀ (a : Act) (u : Value), Agree n ds (upd e oi.dst u) a → ∃ a', Agree n ds e a' ∧ execOp a'.eval o' = execOp a.eval o' := fun a u hag => by
      obtain ⟨z, hz⟩ := hag.undo (hdst i oi hi)
      exact ⟨_, hz, execOp_put o' hsy a oi.dst z ap3⟩
    cases hwy : wantF ops e o' with
    | none => simp only [hwy] at h
    | some wb =>
      cases wb with
      | false =>
        simp only [hwy] at h ⊢
        rw [← hcom]; exact ih _ _ _ _ h hb
      | true =>
        simp only [hwy] at h ⊢
        match ky with
        | 0 =>
          obtain ⟨v, hq, h2⟩ := h
          refine ⟨v, fun a w hag hin => ?_, by rw [← hcom]; exact ih _ _ _ _ h2 hb⟩
          obtain ⟨a', h1, h3⟩ := und a _ hag
          rw [← h3]; exact hq a' w h1 (hin.sub (sub_one hb))
        | 1 =>
          obtain ⟨obj', mk', ha', h2⟩ := h
          refine ⟨obj', mk', by rw [allocOf_upd ap3]; exact ha', fun b' => ?_⟩
          rw [← hcom]
          exact ih _ _ _ _ (h2 b') hb
        | 2 =>
          obtain ⟨obj', mk', ha', h2⟩ := h
          refine ⟨obj', mk', by rw [allocOf_upd ap3]; exact ha', fun b' hb' => ?_⟩
          rw [← hcom]
          obtain ⟨n1, n2⟩ := un_noneS hb'
          exact WS.mono (fun _ _ _ h => h) _ _ _ _ _ _ (sub_swap (fun e => n1 e.symm)) (ih _ _ _ _ (h2 b' n2) (un_noneS' (fun e => n1 e.symm) hb))
        | 3 =>
          obtain ⟨v, hq, h2⟩ := h
          refine ⟨v, fun a G w hp hag hsub hsat => ?_, by rw [← hcom]; exact ih _ _ _ _ h2 hb⟩
          obtain ⟨a', h1, h3⟩ := und a _ hag
          rw [← h3]
          exact hq a' G w hp h1 ((sub_one hb).trans hsub) hsat
        | 4 =>
          obtain ⟨post, hq, h2⟩ := h
          refine ⟨post, fun a G w hp hag hsub hsat => ?_, fun x hx => by rw [← hcom]; exact ih _ _ _ _ (h2 x hx) hb⟩
          obtain ⟨a', h1, h3⟩ := und a _ hag
          rw [← h3]
          exact hq a' G w hp h1 ((sub_one hb).trans hsub) hsat
        | 5 =>
          obtain ⟨post, hq, h2, h5⟩ := h
          refine ⟨post, fun a G w hp hag hsub hsat => ?_, fun x hx => by rw [← hcom]; exact ih _ _ _ _ (h2 x hx) hb, h5⟩
          obtain ⟨a', h1, h3⟩ := und a _ hag
          rw [← h3]
          exact hq a' G w hp h1 ((sub_one hb).trans hsub) hsat
        | k + 6 => exact h.elim

theorem WS.skip {i k : Nat} {oi : Oper} (hi : ops[i]? = some oi) (C : List (Nat × Nat)) : ∀ (A : List (Nat × Nat)) (hs : H) (e : Env) (F : List Pf) (N : List HP),
    (∀ y ∈ A, apartOf ops y.1 i = true) → (∀ y ∈ A, ∃ oy, ops[y.1]? = some oy) → WS P T n ds ops hs End (A ++ (i, k) :: C) e F N → wantF ops e oi = some false →
    WS P T n ds ops hs End (A ++ C) (upd e oi.dst undef) F N
  | [], hs, e, F, N, _, _, h, hw => by
    have h := h oi hi
    simp only [hw] at h
    exact h
  | (y, ky) :: A, hs, e, F, N, hap, hin, h, hw => by
    obtain ⟨oy, hy⟩ := hin (y, ky) List.mem_cons_self
    obtain ⟨ap1, ap2, ap3⟩ := apartOf_spec hy hi (hap (y, ky) List.mem_cons_self)
    have hsy : ∀ cs b, oy.op ≠ .select cs b := fun cs b => Region.noSelect_spec hsel y oy cs b hy
    have hap' : ∀ z ∈ A, apartOf ops z.1 i = true := fun z hz => hap z (List.mem_cons_of_mem _ hz)
    have hin' : ∀ z ∈ A, ∃ oz, ops[z.1]? = some oz := fun z hz => hin z (List.mem_cons_of_mem _ hz)
    have ih := fun (hs : H) v F' N' (hh : WS P T n ds ops hs End (A ++ (i, k) :: C) (upd e oy.dst v) F' N') => WS.skip hi C A hs (upd e oy.dst v) F' N' hap' hin' hh (by rw [wantF_upd ap1]; exact hw)
    have hcom : ∀ v u, upd (upd e oy.dst v) oi.dst u = upd (upd e oi.dst u) oy.dst v := fun v u => upd_comm e _ _ v u ap2
    have h := h oy hy
    intro o' ho'
    obtain rfl : o' = oy := Option.some.inj (ho'.symm.trans hy)
    rw [wantF_upd ap3]
    have und : ∀ (a : Act) (u : Value), Agree n ds (upd e oi.dst u) a → ∃ a', Agree n ds e a' ∧ execOp a'.eval o' = execOp a.eval o' := fun a u hag => by
      obtain ⟨z, hz⟩ := hag.undo (hdst i oi hi)
      exact ⟨_, hz, execOp_put o' hsy a oi.dst z ap3⟩
    cases hwy : wantF ops e o' with
    | none => simp only [hwy] at h
    | some wb =>
      cases wb with
      | false =>
        simp only [hwy] at h ⊢
        rw [← hcom]; exact ih _ _ _ _ h
      | true =>
        simp only [hwy] at h ⊢
        match ky with
        | 0 =>
          obtain ⟨v, hq, h2⟩ := h
          refine ⟨v, fun a w hag hin => ?_, by rw [← hcom]; exact ih _ _ _ _ h2⟩
          obtain ⟨a', h1, h3⟩ := und a _ hag
          rw [← h3]; exact hq a' w h1 hin
        | 1 =>
          obtain ⟨obj', mk', ha', h2⟩ := h
          refine ⟨obj', mk', by rw [allocOf_upd ap3]; exact ha', fun b' => ?_⟩
          rw [← hcom]
          exact ih _ _ _ _ (h2 b')
        | 2 =>
          obtain ⟨obj', mk', ha', h2⟩ := h
          refine ⟨obj', mk', by rw [allocOf_upd ap3]; exact ha', fun b' hb' => ?_⟩
          rw [← hcom]
          exact ih _ _ _ _ (h2 b' hb')
        | 3 =>
          obtain ⟨v, hq, h2⟩ := h
          refine ⟨v, fun a G w hp hag hsub hsat => ?_, by rw [← hcom]; exact ih _ _ _ _ h2⟩
          obtain ⟨a', h1, h3⟩ := und a _ hag
          rw [← h3]
          exact hq a' G w hp h1 hsub hsat
        | 4 =>
          obtain ⟨post, hq, h2⟩ := h
          refine ⟨post, fun a G w hp hag hsub hsat => ?_, fun x hx => by rw [← hcom]; exact ih _ _ _ _ (h2 x hx)⟩
          obtain ⟨a', h1, h3⟩ := und a _ hag
          rw [← h3]
          exact hq a' G w hp h1 hsub hsat
        | 5 =>
          obtain ⟨post, hq, h2, h5⟩ := h
          refine ⟨post, fun a G w hp hag hsub hsat => ?_, fun x hx => by rw [← hcom]; exact ih _ _ _ _ (h2 x hx), h5⟩
          obtain ⟨a', h1, h3⟩ := und a _ hag
          rw [← h3]
          exact hq a' G w hp h1 hsub hsat
        | kk + 6 => exact h.elim

omit hsel hdst in
theorem Sat.stalloc {G : H} {w : World} {hp : H} {F : List Pf} {N : List HP} {hs : H} (hsat : Sat G w hp F N w) (hsub : Sub hs (un G hp)) (obj : Obj) :
    hs w.heap.size = none ∧ ∃ G', Sub G G' ∧ (∀ hp1, Sub hp1 hp → Sub hs (un G hp1) → Sub (un (one w.heap.size obj) hs) (un G' hp1)) ∧ Sat G' w hp F N (w.alloc obj) := by
  have hb : hs w.heap.size = none := by
    cases e : hs w.heap.size with
    | none => rfl
    | some o => have := hsat.stat hsub _ _ e; simp at this
  refine ⟨hb, ?_⟩
  obtain ⟨h1, hx, hdj, hs1⟩ := (hsat.alloc obj).aside
  refine ⟨un G h1, sub_un_left _ _, fun hp1 s1 hsub1 c o e => ?_, hs1⟩
  obtain ⟨hp', hr', t⟩ := hs1
  by_cases hc : c = w.heap.size
  · subst hc
    have e' : some obj = some o := by simpa [un, one] using e
    cases e'
    exact sub_un_left _ _ _ _ (sub_un_right hdj _ _ hx)
  · have e' : hs c = some o := by simpa [un, one, hc] using e
    rcases un_or (hsub1 c o e') with e1 | e1
    · exact sub_un_left _ _ c o (sub_un_left _ _ c o e1)
    · exact sub_un_right ((t.d2.sub (s1.trans t.sub)).symm) c o e1

omit hsel in
theorem WS.reach (hT : TabOK P T) {i k : Nat} {oi : Oper} (hi : ops[i]? = some oi) (C : List (Nat × Nat)) : ∀ (A : List (Nat × Nat)) (hs : H) (e : Env) (F : List Pf) (N : List HP),
    (∀ y ∈ A, apartOf ops y.1 i = true) → (∀ y ∈ A, ∃ oy, ops[y.1]? = some oy) → WS P T n ds ops hs End (A ++ (i, k) :: C) e F N → (∃ a G w hp, Agree n ds e a ∧ Sub hs (un G hp) ∧ Sat G w hp F N w) →
    ∃ wb, wantF ops e oi = some wb ∧ (wb = true → k = 1 ∨ k = 2 → ∃ obj mk, allocOf T e oi.op = some (obj, mk))
  | [], hs, e, F, N, _, _, h, _ => by
    have h := h oi hi
    cases hw : wantF ops e oi with
    | none => simp only [hw] at h
    | some wb =>
      refine ⟨wb, rfl, fun hb hk => ?_⟩
      subst hb
      rcases hk with rfl | rfl
      · simp only [hw] at h
        obtain ⟨obj, mk, ha, _⟩ := h
        exact ⟨obj, mk, ha⟩
      · simp only [hw] at h
        obtain ⟨obj, mk, ha, _⟩ := h
        exact ⟨obj, mk, ha⟩
  | (y, ky) :: A, hs, e, F, N, hap, hin, h, ⟨a, G, w, hp, hag, hsub, hsat⟩ => by
    obtain ⟨oy, hy⟩ := hin (y, ky) List.mem_cons_self
    obtain ⟨ap1, ap2, ap3⟩ := apartOf_spec hy hi (hap (y, ky) List.mem_cons_self)
    have hap' : ∀ z ∈ A, apartOf ops z.1 i = true := fun z hz => hap z (List.mem_cons_of_mem _ hz)
    have hin' : ∀ z ∈ A, ∃ oz, ops[z.1]? = some oz := fun z hz => hin z (List.mem_cons_of_mem _ hz)
    have ih := fun (hs : H) v F' N' (hh : WS P T n ds ops hs End (A ++ (i, k) :: C) (upd e oy.dst v) F' N') hne => WS.reach hT hi C A hs (upd e oy.dst v) F' N' hap' hin' hh hne
    simp only [wantF_upd ap1, allocOf_upd ap1] at ih
    have hput := fun v => hag.put (hdst y oy hy) v
    have h := h oy hy
    cases hwy : wantF ops e oy with
    | none => simp only [hwy] at h
    | some wb =>
      cases wb with
      | false => simp only [hwy] at h; exact ih _ _ _ _ h ⟨_, G, w, hp, hput _, hsub, hsat⟩
      | true =>
        simp only [hwy] at h
        match ky with
        | 0 => obtain ⟨v, hq, h2⟩ := h; exact ih _ _ _ _ h2 ⟨_, G, w, hp, hput _, hsub, hsat⟩
        | 1 =>
          obtain ⟨obj', mk', ha', h2⟩ := h
          obtain ⟨hpc, s1, m1, hs1⟩ := (hsat.alloc obj').rebase
          exact ih _ _ _ _ (h2 w.heap.size) ⟨_, G, w.alloc obj', hpc, hput _, sub_un_mono hsub s1, hs1⟩
        | 2 =>
          obtain ⟨obj', mk', ha', h2⟩ := h
          obtain ⟨hb, G', _, s2, hs1⟩ := hsat.stalloc hsub obj'
          obtain ⟨hpc, s1, m1, hs2⟩ := hs1.rebase
          exact ih _ _ _ _ (h2 _ hb) ⟨_, G', w.alloc obj', hpc, hput _, sub_un_mono (s2 hp (Sub.refl _) hsub) s1, hs2⟩
        | 3 => obtain ⟨v, hq, h2⟩ := h; exact ih _ _ _ _ h2 ⟨_, G, w, hp, hput _, hsub, hsat⟩
        | 4 =>
          obtain ⟨post, hq, h2⟩ := h
          obtain ⟨v, w', x, _, hx, hsx⟩ := (hq a G w hp hag hsub hsat).ex
          obtain ⟨hpc, s1, m1, hs1⟩ := hsx.rebase
          exact ih _ _ _ _ (h2 x hx) ⟨_, G, w', hpc, hput _, sub_un_mono hsub s1, hs1⟩
        | 5 =>
          obtain ⟨post, hq, h2, _⟩ := h
          obtain ⟨v, w', x, _, hx, hsx⟩ := (hq a G w hp hag hsub hsat).ex
          obtain ⟨hpc, s1, m1, hs1⟩ := hsx.rebase
          exact ih _ _ _ _ (h2 x hx) ⟨_, G, w', hpc, hput _, sub_un_mono hsub s1, hs1⟩
        | kk + 6 => exact h.elim

omit hsel hdst in
theorem eval_put {y i : Nat} {oy oi : Oper} (hsel : Region.noSelect ops = true) (hi : ops[i]? = some oi) (hy : ops[y]? = some oy) (hap : apartOf ops y i = true) (a : Act) (v : Value) : execOp (a.put oy.dst v).eval oi = execOp a.eval oi :=
  execOp_put oi (fun cs b => Region.noSelect_spec hsel i oi cs b hi) a oy.dst v (apartOf_spec hy hi hap).1

/-- What such a reading yields now. -/
theorem WS.val0 {i : Nat} {oi : Oper} (hi : ops[i]? = some oi) (C : List (Nat × Nat)) : ∀ (A : List (Nat × Nat)) (e : Env) (F : List Pf) (N : List HP),
    (∀ y ∈ A, apartOf ops y.1 i = true ∧ y.2 ≠ 2) → (∀ y ∈ A, ∃ oy, ops[y.1]? = some oy) → WS P T n ds ops hs End (A ++ (i, 0) :: C) e F N → (∃ a G w hp, Agree n ds e a ∧ Sub hs (un G hp) ∧ Sat G w hp F N w) → wantF ops e oi = some true →
    ∀ a w, Agree n ds e a → In hs w → ∃ v, (execOp a.eval oi).run P w = .ok (.value v) w
  | [], e, F, N, _, _, h, _, hw, a, w, hag, hin => by
    have h := h oi hi
    simp only [hw] at h
    obtain ⟨v, hq, _⟩ := h
    exact ⟨v, hq a w hag hin⟩
  | (y, ky) :: A, e, F, N, hap, hin, h, ⟨a2, G, w2, hp, hag2, hsub, hsat⟩, hw, a, w, hag, hinw => by
    obtain ⟨oy, hy⟩ := hin (y, ky) List.mem_cons_self
    obtain ⟨hap0, hk2⟩ := hap (y, ky) List.mem_cons_self
    obtain ⟨ap1, ap2, ap3⟩ := apartOf_spec hy hi hap0
    have hap' : ∀ z ∈ A, apartOf ops z.1 i = true ∧ z.2 ≠ 2 := fun z hz => hap z (List.mem_cons_of_mem _ hz)
    have hin' : ∀ z ∈ A, ∃ oz, ops[z.1]? = some oz := fun z hz => hin z (List.mem_cons_of_mem _ hz)
    have ih := fun v F' N' (hh : WS P T n ds ops hs End (A ++ (i, 0) :: C) (upd e oy.dst v) F' N') hne => WS.val0 hi C A (upd e oy.dst v) F' N' hap' hin' hh hne (by rw [wantF_upd ap1]; exact hw) (a.put oy.dst v) w (hag.put (hdst y oy hy) v) hinw
    simp only [eval_put hsel hi hy hap0] at ih
    have hput := fun v => hag2.put (hdst y oy hy) v
    have h := h oy hy
    cases hwy : wantF ops e oy with
    | none => simp only [hwy] at h
    | some wb =>
      cases wb with
      | false => simp only [hwy] at h; exact ih _ _ _ h ⟨_, G, w2, hp, hput _, hsub, hsat⟩
      | true =>
        simp only [hwy] at h
        match ky, hk2 with
        | 0, _ => obtain ⟨v, hq, h2⟩ := h; exact ih _ _ _ h2 ⟨_, G, w2, hp, hput _, hsub, hsat⟩
        | 1, _ =>
          obtain ⟨obj', mk', ha', h2⟩ := h
          obtain ⟨hpc, s1, m1, hs1⟩ := (hsat.alloc obj').rebase
          exact ih _ _ _ (h2 w2.heap.size) ⟨_, G, w2.alloc obj', hpc, hput _, sub_un_mono hsub s1, hs1⟩
        | 2, hne => exact absurd rfl hne
        | 3, _ => obtain ⟨v, hq, h2⟩ := h; exact ih _ _ _ h2 ⟨_, G, w2, hp, hput _, hsub, hsat⟩
        | 4, _ =>
          obtain ⟨post, hq, h2⟩ := h
          obtain ⟨v, w', x, _, hx, hsx⟩ := (hq a2 G w2 hp hag2 hsub hsat).ex
          obtain ⟨hpc, s1, m1, hs1⟩ := hsx.rebase
          exact ih _ _ _ (h2 x hx) ⟨_, G, w', hpc, hput _, sub_un_mono hsub s1, hs1⟩
        | 5, _ =>
          obtain ⟨post, hq, h2, _⟩ := h
          obtain ⟨v, w', x, _, hx, hsx⟩ := (hq a2 G w2 hp hag2 hsub hsat).ex
          obtain ⟨hpc, s1, m1, hs1⟩ := hsx.rebase
          exact ih _ _ _ (h2 x hx) ⟨_, G, w', hpc, hput _, sub_un_mono hsub s1, hs1⟩
        | kk + 6, _ => exact h.elim

/-- It yields the same later. -/
theorem WS.uniq0 {i : Nat} {oi : Oper} (hi : ops[i]? = some oi) (C : List (Nat × Nat)) {w : World} {v0 : Value} (hinw : In hs w) : ∀ (A : List (Nat × Nat)) (e : Env) (F : List Pf) (N : List HP) (a : Act),
    (∀ y ∈ A, apartOf ops y.1 i = true ∧ y.2 ≠ 2) → (∀ y ∈ A, ∃ oy, ops[y.1]? = some oy) → WS P T n ds ops hs End (A ++ (i, 0) :: C) e F N → wantF ops e oi = some true → Agree n ds e a →
    (execOp a.eval oi).run P w = .ok (.value v0) w → WS P T n ds ops hs End (A ++ C) (upd e oi.dst v0) F N
  | [], e, F, N, a, _, _, h, hw, hag, hr => by
    have h := h oi hi
    simp only [hw] at h
    obtain ⟨v, hq, h2⟩ := h
    have := (hq a w hag hinw).symm.trans hr
    simp only [Result.ok.injEq, Next.value.injEq, and_true] at this
    rw [← this]
    exact h2
  | (y, ky) :: A, e, F, N, a, hap, hin, h, hw, hag, hr => by
    obtain ⟨oy, hy⟩ := hin (y, ky) List.mem_cons_self
    obtain ⟨hap0, hk2⟩ := hap (y, ky) List.mem_cons_self
    obtain ⟨ap1, ap2, ap3⟩ := apartOf_spec hy hi hap0
    have hsy : ∀ cs b, oy.op ≠ .select cs b := fun cs b => Region.noSelect_spec hsel y oy cs b hy
    have hap' : ∀ z ∈ A, apartOf ops z.1 i = true ∧ z.2 ≠ 2 := fun z hz => hap z (List.mem_cons_of_mem _ hz)
    have hin' : ∀ z ∈ A, ∃ oz, ops[z.1]? = some oz := fun z hz => hin z (List.mem_cons_of_mem _ hz)
    have ih := fun v F' N' (hh : WS P T n ds ops hs End (A ++ (i, 0) :: C) (upd e oy.dst v) F' N') => WS.uniq0 hi C hinw A (upd e oy.dst v) F' N' (a.put oy.dst v) hap' hin' hh (by rw [wantF_upd ap1]; exact hw) (hag.put (hdst y oy hy) v) (by rw [eval_put hsel hi hy hap0]; exact hr)
    have hcom : ∀ v u, upd (upd e oy.dst v) oi.dst u = upd (upd e oi.dst u) oy.dst v := fun v u => upd_comm e _ _ v u ap2
    have h := h oy hy
    intro o' ho'
    obtain rfl : o' = oy := Option.some.inj (ho'.symm.trans hy)
    rw [wantF_upd ap3]
    have und : ∀ (a : Act) (u : Value), Agree n ds (upd e oi.dst u) a → ∃ a', Agree n ds e a' ∧ execOp a'.eval o' = execOp a.eval o' := fun a u hag => by
      obtain ⟨z, hz⟩ := hag.undo (hdst i oi hi)
      exact ⟨_, hz, execOp_put o' hsy a oi.dst z ap3⟩
    cases hwy : wantF ops e o' with
    | none => simp only [hwy] at h
    | some wb =>
      cases wb with
      | false =>
        simp only [hwy] at h ⊢
        rw [← hcom]; exact ih _ _ _ h
      | true =>
        simp only [hwy] at h ⊢
        match ky, hk2 with
        | 0, _ =>
          obtain ⟨v, hq, h2⟩ := h
          refine ⟨v, fun a w hag hin => ?_, by rw [← hcom]; exact ih _ _ _ h2⟩
          obtain ⟨a', h1, h3⟩ := und a _ hag
          rw [← h3]; exact hq a' w h1 hin
        | 1, _ =>
          obtain ⟨obj', mk', ha', h2⟩ := h
          refine ⟨obj', mk', by rw [allocOf_upd ap3]; exact ha', fun b' => ?_⟩
          rw [← hcom]
          exact ih _ _ _ (h2 b')
        | 2, hne => exact absurd rfl hne
        | 3, _ =>
          obtain ⟨v, hq, h2⟩ := h
          refine ⟨v, fun a G w hp hag hsub hsat => ?_, by rw [← hcom]; exact ih _ _ _ h2⟩
          obtain ⟨a', h1, h3⟩ := und a _ hag
          rw [← h3]
          exact hq a' G w hp h1 hsub hsat
        | 4, _ =>
          obtain ⟨post, hq, h2⟩ := h
          refine ⟨post, fun a G w hp hag hsub hsat => ?_, fun x hx => by rw [← hcom]; exact ih _ _ _ (h2 x hx)⟩
          obtain ⟨a', h1, h3⟩ := und a _ hag
          rw [← h3]
          exact hq a' G w hp h1 hsub hsat
        | 5, _ =>
          obtain ⟨post, hq, h2, h5⟩ := h
          refine ⟨post, fun a G w hp hag hsub hsat => ?_, fun x hx => by rw [← hcom]; exact ih _ _ _ (h2 x hx), h5⟩
          obtain ⟨a', h1, h3⟩ := und a _ hag
          rw [← h3]
          exact hq a' G w hp h1 hsub hsat
        | kk + 6, _ => exact h.elim

/-- A reading of what is owned, pulled to the front of readings. -/
theorem WS.val3 {i : Nat} {oi : Oper} (hi : ops[i]? = some oi) (C : List (Nat × Nat)) {G : H} {w : World} {hp : H} {F : List Pf} {N : List HP} (hsub : Sub hs (un G hp)) (hsat : Sat G w hp F N w) : ∀ (A : List (Nat × Nat)) (e : Env) (a : Act),
    (∀ y ∈ A, apartOf ops y.1 i = true ∧ (y.2 = 0 ∨ y.2 = 3)) → (∀ y ∈ A, ∃ oy, ops[y.1]? = some oy) → WS P T n ds ops hs End (A ++ (i, 3) :: C) e F N → wantF ops e oi = some true → Agree n ds e a →
    ∃ v, (execOp a.eval oi).run P w = .ok (.value v) w ∧ WS P T n ds ops hs End (A ++ C) (upd e oi.dst v) F N
  | [], e, a, _, _, h, hw, hag => by
    have h := h oi hi
    simp only [hw] at h
    obtain ⟨v, hq, h2⟩ := h
    exact ⟨v, hq a G w hp hag hsub hsat, h2⟩
  | (y, ky) :: A, e, a, hap, hin, h, hw, hag => by
    obtain ⟨oy, hy⟩ := hin (y, ky) List.mem_cons_self
    obtain ⟨hap0, hk2⟩ := hap (y, ky) List.mem_cons_self
    obtain ⟨ap1, ap2, ap3⟩ := apartOf_spec hy hi hap0
    have hsy : ∀ cs b, oy.op ≠ .select cs b := fun cs b => Region.noSelect_spec hsel y oy cs b hy
    have hap' : ∀ z ∈ A, apartOf ops z.1 i = true ∧ (z.2 = 0 ∨ z.2 = 3) := fun z hz => hap z (List.mem_cons_of_mem _ hz)
    have hin' : ∀ z ∈ A, ∃ oz, ops[z.1]? = some oz := fun z hz => hin z (List.mem_cons_of_mem _ hz)
    have ih := fun v (hh : WS P T n ds ops hs End (A ++ (i, 3) :: C) (upd e oy.dst v) F N) => WS.val3 hi C hsub hsat A (upd e oy.dst v) (a.put oy.dst v) hap' hin' hh (by rw [wantF_upd ap1]; exact hw) (hag.put (hdst y oy hy) v)
    simp only [eval_put hsel hi hy hap0] at ih
    have hcom : ∀ v u, upd (upd e oy.dst v) oi.dst u = upd (upd e oi.dst u) oy.dst v := fun v u => upd_comm e _ _ v u ap2
    have h := h oy hy
    have und : ∀ (a : Act) (u : Value), Agree n ds (upd e oi.dst u) a → ∃ a', Agree n ds e a' ∧ execOp a'.eval oy = execOp a.eval oy := fun a u hag => by
      obtain ⟨z, hz⟩ := hag.undo (hdst i oi hi)
      exact ⟨_, hz, execOp_put oy hsy a oi.dst z ap3⟩
    cases hwy : wantF ops e oy with
    | none => simp only [hwy] at h
    | some wb =>
      cases wb with
      | false =>
        simp only [hwy] at h
        obtain ⟨v, h1, h2⟩ := ih _ h
        refine ⟨v, h1, fun o' ho' => ?_⟩
        obtain rfl : o' = oy := Option.some.inj (ho'.symm.trans hy)
        rw [wantF_upd ap3]
        simp only [hwy]
        rw [← hcom]; exact h2
      | true =>
        simp only [hwy] at h
        rcases hk2 with hk2 | hk2 <;> simp only at hk2 <;> subst hk2
        · obtain ⟨v0, hq, h2⟩ := h
          obtain ⟨v, h3, h4⟩ := ih _ h2
          refine ⟨v, h3, fun o' ho' => ?_⟩
          obtain rfl : o' = oy := Option.some.inj (ho'.symm.trans hy)
          rw [wantF_upd ap3]
          simp only [hwy]
          refine ⟨v0, fun a w hag hin => ?_, by rw [← hcom]; exact h4⟩
          obtain ⟨a', h5, h6⟩ := und a _ hag
          rw [← h6]; exact hq a' w h5 hin
        · obtain ⟨v0, hq, h2⟩ := h
          obtain ⟨v, h3, h4⟩ := ih _ h2
          refine ⟨v, h3, fun o' ho' => ?_⟩
          obtain rfl : o' = oy := Option.some.inj (ho'.symm.trans hy)
          rw [wantF_upd ap3]
          simp only [hwy]
          refine ⟨v0, fun a G w hp hag hsub hsat => ?_, by rw [← hcom]; exact h4⟩
          obtain ⟨a', h5, h6⟩ := und a _ hag
          rw [← h6]; exact hq a' G w hp h5 hsub hsat


theorem WS.first (hT : TabOK P T) (hEnd : ∀ e F N N', List.Perm N N' → End e F N → End e F N') {i k : Nat} {oi : Oper} (hi : ops[i]? = some oi) (C : List (Nat × Nat)) (A : List (Nat × Nat)) (e : Env) (F : List Pf) (N : List HP)
    (hap : ∀ y ∈ A, apartOf ops y.1 i = true ∧ (y.2 = 0 ∨ k = 1 ∨ k = 2 ∨ (k = 0 ∧ y.2 ≠ 2) ∨ (k = 3 ∧ y.2 = 3) ∨ (k = 5 ∧ y.2 = 3))) (hin : ∀ y ∈ A, ∃ oy, ops[y.1]? = some oy) (h : WS P T n ds ops hs End (A ++ (i, k) :: C) e F N)
    {a : Act} {G : H} {w : World} {hp : H} (hag : Agree n ds e a) (hsub : Sub hs (un G hp)) (hsat : Sat G w hp F N w) :
    (wantF ops e oi = some false ∧ WS P T n ds ops hs End (A ++ C) (upd e oi.dst undef) F N) ∨
    (wantF ops e oi = some true ∧ OpRes P (execOp a.eval oi) w fun v w' => ∃ G' hs' F' N', Sub G G' ∧ (∀ hp1, Sub hp1 hp → Sub hs (un G hp1) → Sub hs' (un G' hp1)) ∧ Sat G' w hp F' N' w' ∧ WS P T n ds ops hs' End (A ++ C) (upd e oi.dst v) F' N') := by
  by_cases hk : k = 1
  · subst hk
    obtain ⟨wb, hwb, hal⟩ := WS.reach hdst hT hi C A _ e F N (fun y hy => (hap y hy).1) hin h ⟨a, G, w, hp, hag, hsub, hsat⟩
    cases wb with
    | true =>
      obtain ⟨obj, mk, ha⟩ := hal rfl (.inl rfl)
      refine .inr ⟨hwb, ?_⟩
      have hp2 := WS.pull hsel hdst hEnd hi C A _ e F N (fun y hy => (hap y hy).1) hin h hwb ha
      unfold OpRes
      rw [allocOf_ok hT hag ha w]
      exact ⟨G, hs, F, _, Sub.refl _, fun _ _ h => h, hsat.alloc obj, hp2 _⟩
    | false =>
      refine .inl ⟨hwb, ?_⟩
      exact WS.skip hsel hdst hi C A _ e F N (fun y hy => (hap y hy).1) hin h hwb
  by_cases hk2 : k = 2
  · subst hk2
    obtain ⟨wb, hwb, hal⟩ := WS.reach hdst hT hi C A _ e F N (fun y hy => (hap y hy).1) hin h ⟨a, G, w, hp, hag, hsub, hsat⟩
    cases wb with
    | true =>
      obtain ⟨obj, mk, ha⟩ := hal rfl (.inr rfl)
      refine .inr ⟨hwb, ?_⟩
      obtain ⟨hb, G', sG, s2, hs1⟩ := hsat.stalloc hsub obj
      have hp2 := WS.pullS hsel hdst hi C A _ e F N (fun y hy => (hap y hy).1) hin h hwb ha _ hb
      unfold OpRes
      rw [allocOf_ok hT hag ha w]
      exact ⟨G', _, F, N, sG, s2, hs1, hp2⟩
    | false =>
      refine .inl ⟨hwb, ?_⟩
      exact WS.skip hsel hdst hi C A _ e F N (fun y hy => (hap y hy).1) hin h hwb
  by_cases hk0 : k = 0
  · subst hk0
    have hap0 : (∀ y ∈ A, apartOf ops y.1 i = true ∧ y.2 ≠ 2) := fun y hy => ⟨(hap y hy).1, by
      rcases (hap y hy).2 with h | h | h | h | h | h
      · rw [h]; decide
      · cases h
      · cases h
      · exact h.2
      · cases h.1
      · cases h.1⟩
    obtain ⟨wb, hwb, _⟩ := WS.reach hdst hT hi C A _ e F N (fun y hy => (hap y hy).1) hin h ⟨a, G, w, hp, hag, hsub, hsat⟩
    cases wb with
    | true =>
      refine .inr ⟨hwb, ?_⟩
      obtain ⟨v, hv⟩ := WS.val0 hsel hdst hi C A e F N hap0 hin h ⟨a, G, w, hp, hag, hsub, hsat⟩ hwb a w hag (hsat.stat hsub)
      unfold OpRes
      rw [hv]
      exact ⟨G, hs, F, N, Sub.refl _, fun _ _ h => h, hsat, WS.uniq0 hsel hdst hi C (hsat.stat hsub) A e F N a hap0 hin h hwb hag hv⟩
    | false =>
      refine .inl ⟨hwb, ?_⟩
      exact WS.skip hsel hdst hi C A _ e F N (fun y hy => (hap y hy).1) hin h hwb
  by_cases hk3 : k = 3
  · subst hk3
    have hap0 : (∀ y ∈ A, apartOf ops y.1 i = true ∧ (y.2 = 0 ∨ y.2 = 3)) := fun y hy => ⟨(hap y hy).1, by
      rcases (hap y hy).2 with h | h | h | h | h | h
      · exact .inl h
      · cases h
      · cases h
      · cases h.1
      · exact .inr h.2
      · cases h.1⟩
    obtain ⟨wb, hwb, _⟩ := WS.reach hdst hT hi C A _ e F N (fun y hy => (hap y hy).1) hin h ⟨a, G, w, hp, hag, hsub, hsat⟩
    cases wb with
    | true =>
      refine .inr ⟨hwb, ?_⟩
      obtain ⟨v, hv, h2⟩ := WS.val3 hsel hdst hi C hsub hsat A e a hap0 hin h hwb hag
      unfold OpRes
      rw [hv]
      exact ⟨G, hs, F, N, Sub.refl _, fun _ _ h => h, hsat, h2⟩
    | false =>
      refine .inl ⟨hwb, ?_⟩
      exact WS.skip hsel hdst hi C A _ e F N (fun y hy => (hap y hy).1) hin h hwb
  have hap2 : ∀ y ∈ A, apartOf ops y.1 i = true ∧ (y.2 = 0 ∨ (k = 5 ∧ y.2 = 3)) := fun y hy => ⟨(hap y hy).1, by
    rcases (hap y hy).2 with h | h | h | h | h | h
    · exact .inl h
    · exact absurd h hk
    · exact absurd h hk2
    · exact absurd h.1 hk0
    · exact absurd h.1 hk3
    · exact .inr h⟩
  clear hap
  suffices hsuf : (wantF ops e oi = some false ∧ WS P T n ds ops hs End (A ++ C) (upd e oi.dst undef) F N) ∨
      (wantF ops e oi = some true ∧ OpRes P (execOp a.eval oi) w fun v w' => ∃ F' N', Sat G w hp F' N' w' ∧ WS P T n ds ops hs End (A ++ C) (upd e oi.dst v) F' N' ∧ (k = 5 → (∀ hp, (∀ f ∈ F', f.p hp) → ∀ f ∈ F, f.p hp) ∧ N'.Perm N)) by
    rcases hsuf with h | ⟨h1, h2⟩
    · exact .inl h
    · exact .inr ⟨h1, h2.mono fun v w' ⟨F', N', h3, h4, _⟩ => ⟨G, hs, F', N', Sub.refl _, fun _ _ h => h, h3, h4⟩⟩
  · induction A generalizing e a with
    | nil =>
      have h := h oi hi
      cases hw : wantF ops e oi with
      | none => simp only [hw] at h
      | some wb =>
        cases wb with
        | false => simp only [hw] at h; exact .inl ⟨rfl, h⟩
        | true =>
          simp only [hw] at h
          refine .inr ⟨rfl, ?_⟩
          match k, hk, hk2, hk0, hk3, h with
          | 0, _, _, h0, _, _ => exact absurd rfl h0
          | 1, h1, _, _, _, _ => exact absurd rfl h1
          | 2, _, h2, _, _, _ => exact absurd rfl h2
          | 3, _, _, _, h3, _ => exact absurd rfl h3
          | 4, _, _, _, _, h =>
            obtain ⟨post, hq, h2⟩ := h
            refine (hq a G w hp hag hsub hsat).mono fun v w' hv => ?_
            obtain ⟨x, rfl, hx, hsx⟩ := hv
            exact ⟨_, _, hsx, h2 x hx, fun h => absurd h (by decide)⟩
          | 5, _, _, _, _, h =>
            obtain ⟨post, hq, h2, h5⟩ := h
            refine (hq a G w hp hag hsub hsat).mono fun v w' hv => ?_
            obtain ⟨x, rfl, hx, hsx⟩ := hv
            exact ⟨_, _, hsx, h2 x hx, fun _ => h5 x hx⟩
          | k + 6, _, _, _, _, h => exact h.elim
    | cons yk A ihA =>
      obtain ⟨y, ky⟩ := yk
      obtain ⟨oy, hy⟩ := hin (y, ky) List.mem_cons_self
      obtain ⟨hap0, hky⟩ := hap2 (y, ky) List.mem_cons_self
      obtain ⟨ap1, ap2, ap3⟩ := apartOf_spec hy hi hap0
      have hsi : ∀ cs b, oi.op ≠ .select cs b := fun cs b => Region.noSelect_spec hsel i oi cs b hi
      have hsy : ∀ cs b, oy.op ≠ .select cs b := fun cs b => Region.noSelect_spec hsel y oy cs b hy
      have hap' := fun z hz => hap2 z (List.mem_cons_of_mem (y, ky) hz)
      have hin' := fun z hz => hin z (List.mem_cons_of_mem (y, ky) hz)
      have hput := fun v => hag.put (hdst y oy hy) v
      have hcom : ∀ v u, upd (upd e oy.dst v) oi.dst u = upd (upd e oi.dst u) oy.dst v := fun v u => upd_comm e _ _ v u ap2
      have eei : ∀ v, execOp (a.put oy.dst v).eval oi = execOp a.eval oi := fun v => execOp_put oi hsi a oy.dst v ap1
      have h := h oy hy
      have ih := fun v (hh : WS P T n ds ops hs End (A ++ (i, k) :: C) (upd e oy.dst v) F N) => ihA (upd e oy.dst v) hin' hh (hput v) hap'
      simp only [wantF_upd ap1, eei] at ih
      have und : ∀ (a : Act) (u : Value), Agree n ds (upd e oi.dst u) a → ∃ a', Agree n ds e a' ∧ execOp a'.eval oy = execOp a.eval oy := fun a u hag => by
        obtain ⟨z, hz⟩ := hag.undo (hdst i oi hi)
        exact ⟨_, hz, execOp_put oy hsy a oi.dst z ap3⟩
      cases hwy : wantF ops e oy with
      | none => simp only [hwy] at h
      | some wb =>
        cases wb with
        | false =>
          simp only [hwy] at h
          have re : ∀ u F' N', WS P T n ds ops hs End (A ++ C) (upd (upd e oy.dst undef) oi.dst u) F' N' → WS P T n ds ops hs End ((y, ky) :: A ++ C) (upd e oi.dst u) F' N' := fun u F' N' hh o' ho' => by
            obtain rfl : o' = oy := Option.some.inj (ho'.symm.trans hy)
            rw [wantF_upd ap3]
            simp only [hwy]
            rw [← hcom]; exact hh
          rcases ih _ h with ⟨h1, h2⟩ | ⟨h1, h2⟩
          · exact .inl ⟨h1, re _ _ _ h2⟩
          · exact .inr ⟨h1, h2.mono fun v w' ⟨F', N', h3, h4, h5⟩ => ⟨F', N', h3, re _ _ _ h4, h5⟩⟩
        | true =>
          simp only [hwy] at h
          rcases hky with hky | ⟨hk5, hky⟩ <;> simp only at hky <;> subst hky
          · obtain ⟨v0, hq, h2⟩ := h
            have re : ∀ u F' N', WS P T n ds ops hs End (A ++ C) (upd (upd e oy.dst v0) oi.dst u) F' N' → WS P T n ds ops hs End ((y, 0) :: A ++ C) (upd e oi.dst u) F' N' := fun u F' N' hh o' ho' => by
              obtain rfl : o' = oy := Option.some.inj (ho'.symm.trans hy)
              rw [wantF_upd ap3]
              simp only [hwy]
              refine ⟨v0, fun a w hag hin => ?_, by rw [← hcom]; exact hh⟩
              obtain ⟨a', h5, h6⟩ := und a _ hag
              rw [← h6]; exact hq a' w h5 hin
            rcases ih _ h2 with ⟨h1, h2⟩ | ⟨h1, h2⟩
            · exact .inl ⟨h1, re _ _ _ h2⟩
            · exact .inr ⟨h1, h2.mono fun v w' ⟨F', N', h3, h4, h5⟩ => ⟨F', N', h3, re _ _ _ h4, h5⟩⟩
          · obtain ⟨v0, hq, h2⟩ := h
            have skp : WS P T n ds ops hs End (A ++ C) (upd (upd e oy.dst v0) oi.dst undef) F N → WS P T n ds ops hs End ((y, 3) :: A ++ C) (upd e oi.dst undef) F N := fun hh o' ho' => by
              obtain rfl : o' = oy := Option.some.inj (ho'.symm.trans hy)
              rw [wantF_upd ap3]
              simp only [hwy]
              refine ⟨v0, fun a G w hp hag hsub hsat => ?_, by rw [← hcom]; exact hh⟩
              obtain ⟨a', h5, h6⟩ := und a _ hag
              rw [← h6]; exact hq a' G w hp h5 hsub hsat
            have re : ∀ u F' N', ((∀ hp, (∀ f ∈ F', f.p hp) → ∀ f ∈ F, f.p hp) ∧ N'.Perm N) → WS P T n ds ops hs End (A ++ C) (upd (upd e oy.dst v0) oi.dst u) F' N' → WS P T n ds ops hs End ((y, 3) :: A ++ C) (upd e oi.dst u) F' N' := fun u F' N' hk5 hh o' ho' => by
              obtain rfl : o' = oy := Option.some.inj (ho'.symm.trans hy)
              rw [wantF_upd ap3]
              simp only [hwy]
              refine ⟨v0, fun a G w hp hag hsub hsat => ?_, by rw [← hcom]; exact hh⟩
              obtain ⟨a', h5, h6⟩ := und a _ hag
              rw [← h6]; exact hq a' G w hp h5 hsub ((hsat.facts hk5.1).perm hk5.2)
            rcases ih _ h2 with ⟨h1, h2⟩ | ⟨h1, h2⟩
            · exact .inl ⟨h1, skp h2⟩
            · exact .inr ⟨h1, h2.mono fun v w' ⟨F', N', h3, h4, h5⟩ => ⟨F', N', h3, re _ _ _ (h5 hk5) h4, h5⟩⟩
end

/-- What stands at the end of such a walk: the operations T, in their order. -/
def WSEnd (P : Program) (r : Option Nat) (n : Nat) (ds : List Deferred) (ops : Array Oper) (G : H) (w0 : World) (hp0 : H) (Q : Exit → Act → World → Prop) (Tl : List Nat) (e : Env) (F : List Pf) (N : List HP) : Prop :=
  ∀ a w, Agree n ds e a → Sat G w0 hp0 F N w → wpOpsIn (fz r) 0 P ops Q Tl a w

section
variable {P : Program} {r : Option Nat} {T : Tab} {n : Nat} {ds : List Deferred} {ops : Array Oper} {hs : H} {M : Array Nat} {G : H} {w0 : World} {hp0 : H}

theorem wpAny_of_WS {Q : Exit → Act → World → Prop} (hT : TabOK P T) (hdst : ∀ (i : Nat) (o : Oper), ops[i]? = some o → ∀ t, o.dst = some t → t < n) (fx : RFix ops M) (Tl : List Nat) (hTl : ∀ t ∈ Tl, t < ops.size) :
    ∀ (m : Nat) (G : H) (hs : H) (_ : Sub hs (un G hp0)) (L : List (Nat × Nat)) (e : Env) (F : List Pf) (N : List HP) (a : Act) (w : World) (listed : Array Bool),
    L.length = m → RInv ops M listed L Tl → (∀ y ∈ L, y.1 < ops.size) → Agree n ds e a → Sat G w0 hp0 F N w →
    WS P T n ds ops hs (WSEnd P r n ds ops G w0 hp0 Q Tl) L e F N → wpAnyIn (fz r) 0 P .any ops Q (L.length + Tl.length) listed a w := by
  intro m
  induction m with
  | zero =>
    intro G hs hsub L e F N a w listed hn inv hL hag hsat h
    obtain rfl := List.length_eq_zero_iff.1 hn
    rw [List.length_nil, Nat.zero_add]
    exact wpAny_tail fx Tl a w listed inv hTl (h a w hag hsat)
  | succ m ih =>
    intro G hs hsub L e F N a w listed hn inv hL hag hsat h
    match L, hn with
    | (x, kx) :: L0, hn =>
      have hxr := inv.headReady fx (x := x) (R := L0.map (·.1) ++ Tl) (by simp) (hL _ List.mem_cons_self)
      rw [List.length_cons, Nat.add_right_comm]
      refine ⟨fun h0 => (by rw [h0] at hxr; cases hxr), fun i hi => ?_⟩
      have him := (inv.mem i).1 (mem_ready.1 hi).1
      rcases List.mem_append.1 him with hm | hm
      · obtain ⟨⟨i', k⟩, hik, rfl⟩ := List.mem_map.1 hm
        obtain ⟨A, C, hAC⟩ := List.append_of_mem hik
        have hpl := inv.pl
        rw [hAC] at hpl h
        have hcond : ∀ y ∈ A, apartOf ops y.1 i' = true ∧ (y.2 = 0 ∨ k = 1 ∨ k = 2 ∨ (k = 0 ∧ y.2 ≠ 2) ∨ (k = 3 ∧ y.2 = 3) ∨ (k = 5 ∧ y.2 = 3)) := fun y hy => by
          have h1 := (List.pairwise_append.1 hpl).2.2 y hy (i', k) List.mem_cons_self
          have h2 := inv.notB fx hi (y := y.1) (List.mem_append_left _ (List.mem_map.2 ⟨y, by rw [hAC]; exact List.mem_append_left _ hy, rfl⟩))
          simpa [okPair, h2, or_assoc] using h1
        have hin : ∀ y ∈ A, ∃ oy, ops[y.1]? = some oy := fun y hy => by
          have := hL y (by rw [hAC]; exact List.mem_append_left _ hy)
          exact ⟨ops[y.1], by simp [this]⟩
        obtain ⟨_, oi, hoi, _⟩ := mem_ready.1 hi
        have hsubl : (A ++ C).Sublist ((x, kx) :: L0) := by rw [hAC]; exact (List.Sublist.refl A).append (List.sublist_cons_self _ _)
        have hlen : (A ++ C).length = m := by
          have := congrArg List.length hAC
          simp at this hn ⊢; omega
        have hnd := inv.topo
        have inv' : RInv ops M (listed.setIfInBounds i' true) (A ++ C) Tl := by
          refine inv.step fx hi hsubl (List.Sublist.refl _) fun j => ?_
          rw [hAC] at hnd ⊢
          simp only [List.map_append, List.map_cons, List.append_assoc, List.cons_append] at hnd ⊢
          obtain ⟨_, h2, h3⟩ := List.pairwise_append.1 hnd
          obtain ⟨h4, _⟩ := List.pairwise_cons.1 h2
          have e1 : ∀ j ∈ A.map (·.1), j ≠ i' := fun j hj e => by have := h3 j hj i' List.mem_cons_self; simp [e] at this
          have e2 : ∀ j ∈ C.map (·.1) ++ Tl, j ≠ i' := fun j hj e => by have := h4 j hj; simp [e] at this
          simp only [List.mem_append, List.mem_cons]
          constructor
          · rintro (hj | hj | hj)
            · exact ⟨.inl hj, e1 j hj⟩
            · exact ⟨.inr (.inr (.inl hj)), e2 j (List.mem_append_left _ hj)⟩
            · exact ⟨.inr (.inr (.inr hj)), e2 j (List.mem_append_right _ hj)⟩
          · rintro ⟨hj | hj | hj | hj, hne⟩
            · exact .inl hj
            · exact absurd hj hne
            · exact .inr (.inl hj)
            · exact .inr (.inr hj)
        have hL' : ∀ y ∈ A ++ C, y.1 < ops.size := fun y hy => hL y (hsubl.subset hy)
        have hEnd : ∀ (e : Env) (F : List Pf) (N N' : List HP), List.Perm N N' → WSEnd P r n ds ops G w0 hp0 Q Tl e F N → WSEnd P r n ds ops G w0 hp0 Q Tl e F N' :=
          fun e F N N' p h a w hag hs => h a w hag (hs.perm p.symm)
        obtain ⟨hpc, s1, m1, hs1⟩ := hsat.rebase
        have h1 := WS.first (P := P) fx.sel hdst hT hEnd hoi C A e F N hcond hin h hag (sub_un_mono hsub s1) hs1
        have hl0 : L0.length = (A ++ C).length := by simp at hn; omega
        rw [hl0]
        rcases h1 with ⟨hw, h2⟩ | ⟨hw, h2⟩
        · have h3 := ih G hs hsub (A ++ C) _ F N _ w _ hlen inv' hL' (hag.put (hdst i' oi hoi) undef) hsat h2
          unfold wpOpIn
          simp only [hoi]
          rw [if_neg (by rw [wantF_ok hag hw]; simp)]
          exact ⟨fun _ _ => trivial, h3⟩
        · refine wpOp_of_res hoi (fun c => noDefer_spec fx.def_ hoi c) (wantF_ok hag hw) h2 fun v w' hv => ?_
          obtain ⟨G', hs', F', N', sG, s2, h3, h4⟩ := hv
          exact ih G' hs' (s2 hp0 s1 hsub) (A ++ C) _ F' N' _ w' _ hlen inv' hL' (hag.put (hdst i' oi hoi) v) (h3.back s1 m1) (WS.mono (fun e F N hh a w hag hsat => hh a w hag (hsat.subG sG)) _ _ _ _ _ _ (Sub.refl _) h4)
      · have h1 := inv.plt (x, kx) List.mem_cons_self i hm
        rw [inv.notB fx hi (y := x) (by simp)] at h1
        cases h1

def dstsOK (n : Nat) (ops : Array Oper) : Bool := ops.all fun o => match o.dst with | some t => decide (t < n) | none => true
theorem dstsOK_spec {n : Nat} {ops : Array Oper} (h : dstsOK n ops = true) (i : Nat) (o : Oper) (ho : ops[i]? = some o) (t : Nat) (ht : o.dst = some t) : t < n := by
  have := Array.all_eq_true_iff_forall_mem.1 h o (Array.mem_of_getElem? ho)
  simpa [ht] using this

/-- A region that draws its order, walked in the order L, then Tl. -/
theorem wp_region_S {id : Nat} {Q : Exit → Act → World → Prop} {a : Act} {e : Env} {F : List Pf} {N : List HP} {w : World} (L : List (Nat × Nat)) (Tl : List Nat) (hT : TabOK P T) (hm : P.follows .mixedOrders = true) (hok : (okW ops (Region.before ops) L Tl && dstsOK n ops) = true)
    (hsub : Sub hs (un G hp0)) (hag : Agree n ds e a) (hsat : Sat G w0 hp0 F N w) (h : WS P T n ds ops hs (WSEnd P r n ds ops G w0 hp0 Q Tl) L e F N) : (Code.region id ops true).wpIn (fz r) 0 P Q a w := by
  rw [Bool.and_eq_true] at hok
  obtain ⟨hok, hds⟩ := hok
  simp only [okW, Bool.and_eq_true, decide_eq_true_eq, List.all_eq_true] at hok
  obtain ⟨⟨⟨⟨⟨⟨⟨⟨⟨⟨h0, h1⟩, h2⟩, h3⟩, h4⟩, h5⟩, h6⟩, h7⟩, h8⟩, h9⟩, h10⟩ := hok
  have h3' : ∀ m ∈ Region.before ops, m < 2 ^ ops.size := fun m hm => by simpa using Array.all_eq_true_iff_forall_mem.1 h3 m hm
  have fx := rfix_of h0 h4 h1 h2 h3'
  have hmem : ∀ i, i ∈ L.map (·.1) ++ Tl ↔ i < ops.size := fun i => ⟨fun hi => h5 i hi, fun hi => by simpa using h6 i (List.mem_range.2 hi)⟩
  have inv : RInv ops (Region.before ops) (Array.replicate ops.size false) L Tl := by
    refine ⟨by simp, fun i => ?_, fun y _ x hB => ?_, pairsAll_spec h7, pairsAll_spec h8, fun y hy t ht => h9 y hy t ht, pairsAll_spec h10⟩
    · rw [hmem]
      rcases Nat.lt_or_ge i ops.size with hi | hi
      · simp [hi]
      · simp [hi]
    · rw [hmem]
      obtain ⟨o, ho, _⟩ := fx.cl x y hB
      exact (Array.getElem?_eq_some_iff.1 ho).1
  have hlen : L.length + Tl.length = ops.size := by
    have hnd : (L.map (·.1) ++ Tl).Nodup := (pairsAll_spec h7).imp fun h => by simp at h; exact h.1
    have hp : (L.map (·.1) ++ Tl).Perm (List.range ops.size) := (List.perm_ext_iff_of_nodup hnd List.nodup_range).2 fun i => by rw [hmem, List.mem_range]
    simpa using hp.length_eq
  refine wpIn_region_any hm ?_
  have hd : Ext w { w with drawn := w.drawn + 1 } := (Below.refl _ w).drew
  have h := wpAny_of_WS (P := P) (r := r) hT (dstsOK_spec hds) fx Tl (fun t ht => h5 t (List.mem_append_right _ ht)) L.length G hs hsub L e F N a _ _ rfl inv (fun y hy => h5 _ (List.mem_append_left _ (List.mem_map_of_mem hy))) hag (hsat.ext hd) h
  rw [hlen] at h
  exact h
end
end Go.Proofs.YtgaipgbgppdfeaaGreatDoor
