/-
  A region of operations whose order is drawn: a law that reduces every order to one chosen order.
  Conditions: none beyond those that each theorem states.
-/
import Derived.WalkKit
import Derived.OrdersIn
import Derived.Below
namespace Go.Proofs.YtijaglinajfplaaGreatDoor
open Go.RowKit

/-- The fence that bars nothing; r: the loop whose round is walked, if any. -/
abbrev fz (r : Option Nat) : Fence := { Fence.wide with round := r }

/-- Memory that was there stays; new blocks may come. -/
abbrev Ext (w w' : World) : Prop := Below w.heap.size w w'

theorem ext_trans {a b c : World} (h : Ext a b) (k : Ext b c) : Ext a c := Below.trans h (Below.mono k h.size)
theorem ext_blk {w w' : World} (h : Ext w w') {b : Nat} {o : Obj} (hb : w.heap[b]? = some o) : w'.heap[b]? = some o :=
  (h.block b (Array.getElem?_eq_some_iff.1 hb).1).trans hb
theorem ext_alloc (w : World) (o : Obj) : Ext w (w.alloc o) := (Below.refl _ w).alloc (Nat.le_refl _) o
theorem heap_alloc_new (w : World) (o : Obj) : (w.alloc o).heap[w.heap.size]? = some o := by
  show (w.heap.push o)[w.heap.size]? = _
  simp

/-- A property of worlds that new memory does not end. -/
def Stab (F : World → Prop) : Prop := ∀ w w', Ext w w' → F w → F w'

theorem stab_and {F G : World → Prop} (hF : Stab F) (hG : Stab G) : Stab (fun w => F w ∧ G w) :=
  fun w w' h hw => ⟨hF w w' h hw.1, hG w w' h hw.2⟩
theorem stab_true : Stab (fun _ => True) := fun _ _ _ _ => trivial
theorem stab_const (p : Prop) : Stab (fun _ => p) := fun _ _ _ h => h
theorem stab_blk (b : Nat) (o : Obj) : Stab (fun w => w.heap[b]? = some o) := fun _ _ h hw => ext_blk h hw
theorem stab_new (n b : Nat) (o : Obj) : Stab (fun w => n ≤ b ∧ w.heap[b]? = some o) := fun _ _ h hw => ⟨hw.1, ext_blk h hw.2⟩

/-- An operation that makes one block, whatever the world. -/
def AllocRun (P : Program) (e : Sem Next) (obj : Obj) (mk : Nat → Value) : Prop :=
  ∀ w : World, e.run P w = .ok (.value (mk w.heap.size)) (w.alloc obj)

theorem allocRun_unique {P : Program} {e : Sem Next} {o o' : Obj} {mk mk' : Nat → Value} (h : AllocRun P e o mk) (h' : AllocRun P e o' mk') :
    o = o' ∧ mk = mk' := by
  have key : ∀ n : Nat, mk n = mk' n ∧ o = o' := fun n => by
    let w : World := { (default : World) with heap := Array.replicate n default }
    have hs : w.heap.size = n := by simp [w]
    have h1 := (h w).symm.trans (h' w)
    rw [hs] at h1
    injection h1 with h1 h2
    injection h1 with h1
    refine ⟨h1, ?_⟩
    have h3 : (w.alloc o).heap[w.heap.size]? = (w.alloc o').heap[w.heap.size]? := by rw [h2]
    rw [heap_alloc_new, heap_alloc_new] at h3
    exact Option.some.inj h3
  exact ⟨(key 0).2, funext fun n => (key n).1⟩

/-- What an operation does, told by its result. -/
def OpRes (P : Program) (e : Sem Next) (w : World) (R : Value → World → Prop) : Prop :=
  match e.run P w with
  | .ok (.value v) w' => R v w'
  | .ok .skip w' => R undef w'
  | .ok (.enter f args) w' => Calls P f args w' fun
      | .returned v, w'' => R v w''
      | _, _ => False
  | .ok (.round l f tmps assign body) w' => RoundIn Fence.wide 0 P l f tmps assign body w' fun
      | .returned v, w'' => R v w''
      | _, _ => False
  | _ => False

theorem OpRes.mono {P : Program} {e : Sem Next} {w : World} {R R' : Value → World → Prop} (h : OpRes P e w R) (hr : ∀ v w', R v w' → R' v w') : OpRes P e w R' := by
  unfold OpRes at *
  split at h
  · exact hr _ _ h
  · exact hr _ _ h
  · exact Calls.mono h fun e w' he => by cases e <;> first | exact hr _ _ he | exact he
  · exact RoundIn.mono h fun e w' he => by cases e <;> first | exact hr _ _ he | exact he
  · exact h.elim

theorem OpRes.ex {P : Program} {e : Sem Next} {w : World} {R : Value → World → Prop} (h : OpRes P e w R) : ∃ v w', R v w' := by
  unfold OpRes at h
  split at h
  · exact ⟨_, _, h⟩
  · exact ⟨_, _, h⟩
  · obtain ⟨e, w', _, hr, _⟩ := h []
    cases e with
    | returned v => exact ⟨v, w', hr⟩
    | panicked c => exact hr.elim
    | outgrown => exact hr.elim
  · obtain ⟨e, w', hr, _⟩ := h.2 default [] (fun d hd => by cases hd)
    cases e with
    | returned v => exact ⟨v, w', hr⟩
    | panicked c => exact hr.elim
    | outgrown => exact hr.elim
  · exact h.elim

theorem callsIn_fz {r : Option Nat} {P : Program} {f : FuncId} {args : Array Value} {w : World} {R : Ending → World → Prop} (h : Calls P f args w R) : CallsIn (fz r) 0 P f args w R :=
  (callsIn_wide (n := 0)).2 h

/-- The operation's step, told by its result. -/
theorem wpIn_of_res {P : Program} {r : Option Nat} {Q : Exit → Act → World → Prop} {o : Oper} {a : Act} {w : World} {R : Value → World → Prop} {K : Act → World → Prop}
    (hd : ∀ c, o.op ≠ .defer c) (h : OpRes P (execOp a.eval o) w R) (hk : ∀ v w', R v w' → K (a.put o.dst v) w') : o.wpIn (fz r) 0 P a w K Q := by
  refine ⟨fun _ _ => trivial, ?_⟩
  rw [Oper.semAt_eq _ _ _ hd]
  unfold OpRes at h
  split at h
  · rename_i v w' hr; simp only [hr, Oper.uponIn]; exact hk _ _ h
  · rename_i w' hr; simp only [hr, Oper.uponIn]; exact hk _ _ h
  · rename_i f args w' hr
    simp only [hr, Oper.uponIn]
    exact ⟨fun hx => (by cases hx), callsIn_fz (Calls.mono h fun e w'' he => by cases e <;> first | exact hk _ _ he | exact he.elim)⟩
  · rename_i l f tmps assign body w' hr
    simp only [hr, Oper.uponIn]
    exact ⟨fun hx => (by cases hx), (RoundIn.mono h fun e w'' he => by cases e <;> first | exact hk _ _ he | exact he.elim)⟩
  · exact h.elim

theorem wpOp_of_res {P : Program} {r : Option Nat} {ops : Array Oper} {Q : Exit → Act → World → Prop} {i : Nat} {o : Oper} {a : Act} {w : World} {R : Value → World → Prop} {K : Act → World → Prop}
    (hi : ops[i]? = some o) (hd : ∀ c, o.op ≠ .defer c) (hw : Region.wanted o (yielded ops a.tmps) = true) (h : OpRes P (execOp a.eval o) w R) (hk : ∀ v w', R v w' → K (a.put o.dst v) w') :
    wpOpIn (fz r) 0 P ops Q i K a w := by
  unfold wpOpIn
  simp only [hi, hw, if_true]
  exact wpIn_of_res hd h hk

/-- The walk through a region in a chosen order: kind 0 reads, kind 1 makes one block, kind 2 may do more; 'E': what stands at the end. -/
def WL (P : Program) (ops : Array Oper) (w0 : World) (E : (World → Prop) → Act → Prop) : List (Nat × Nat) → (World → Prop) → Act → Prop
  | [], F, a => E F a
  | (i, k) :: L, F, a => ∀ o, ops[i]? = some o → (∃ w, Ext w0 w ∧ F w) →
    if Region.wanted o (yielded ops a.tmps) = true then
      match k with
      | 0 => ∃ v, (∀ w, Ext w0 w → F w → (execOp a.eval o).run P w = .ok (.value v) w) ∧ WL P ops w0 E L F (a.put o.dst v)
      | 1 => ∃ obj mk, AllocRun P (execOp a.eval o) obj mk ∧ ∀ b, WL P ops w0 E L (fun w => F w ∧ w0.heap.size ≤ b ∧ w.heap[b]? = some obj) (a.put o.dst (mk b))
      | _ => ∃ Φ : Value → World → Prop, (∀ v, Stab (Φ v)) ∧ (∀ w, Ext w0 w → F w → OpRes P (execOp a.eval o) w fun v w' => Ext w w' ∧ Φ v w') ∧
          ∀ v, WL P ops w0 E L (fun w => F w ∧ Φ v w) (a.put o.dst v)
    else WL P ops w0 E L F (a.put o.dst undef)

section
variable {P : Program} {ops : Array Oper} {w0 : World} {E : (World → Prop) → Act → Prop}

theorem WL.anti (hE : ∀ F F' a, (∀ w, F' w → F w) → E F a → E F' a) : ∀ (L : List (Nat × Nat)) (F F' : World → Prop) (a : Act), (∀ w, F' w → F w) → WL P ops w0 E L F a → WL P ops w0 E L F' a
  | [], F, F', a, hF, h => hE F F' a hF h
  | (i, k) :: L, F, F', a, hF, h => by
    rintro o ho ⟨wx, hwx, hfx⟩
    have h := h o ho ⟨wx, hwx, hF wx hfx⟩
    split
    · rename_i hw
      rw [if_pos hw] at h
      match k with
      | 0 =>
        obtain ⟨v, h1, h2⟩ := h
        exact ⟨v, fun w hb hf => h1 w hb (hF w hf), WL.anti hE L F F' _ hF h2⟩
      | 1 =>
        obtain ⟨obj, mk, h1, h2⟩ := h
        exact ⟨obj, mk, h1, fun b => WL.anti hE L _ _ _ (fun w hw => ⟨hF w hw.1, hw.2⟩) (h2 b)⟩
      | k + 2 =>
        obtain ⟨Φ, hs, h1, h2⟩ := h
        exact ⟨Φ, hs, fun w hb hf => h1 w hb (hF w hf), fun v => WL.anti hE L _ _ _ (fun w hw => ⟨hF w hw.1, hw.2⟩) (h2 v)⟩
    · rename_i hw
      rw [if_neg hw] at h
      exact WL.anti hE L F F' _ hF h

theorem WL.none (hE0 : ∀ F a, (∀ w, Ext w0 w → ¬ F w) → E F a) {F : World → Prop} (hF : ∀ w, Ext w0 w → ¬ F w) (L : List (Nat × Nat)) (a : Act) : WL P ops w0 E L F a := by
  cases L with
  | nil => exact hE0 F a hF
  | cons x L => exact fun _ _ ⟨w, hx, hf⟩ => (hF w hx hf).elim

/-- The operations y and x stand apart: neither looks at what the other writes. -/
def apartOf (ops : Array Oper) (y x : Nat) : Bool :=
  match ops[y]?, ops[x]? with
  | some oy, some ox => oy.apart ops ox
  | _, _ => false

theorem apartOf_spec {y x : Nat} {oy ox : Oper} (hy : ops[y]? = some oy) (hx : ops[x]? = some ox) (h : apartOf ops y x = true) :
    (∀ d, oy.dst = some d → d ∉ ox.looksAt ops) ∧ (∀ d, oy.dst = some d → ox.dst ≠ some d) ∧ (∀ d, ox.dst = some d → d ∉ oy.looksAt ops) := by
  simp only [apartOf, hy, hx] at h
  exact Oper.apart_spec h

variable (hsel : Region.noSelect ops = true) (hE : ∀ F F' a, (∀ w, F' w → F w) → E F a → E F' a) (hE0 : ∀ F a, (∀ w, Ext w0 w → ¬ F w) → E F a)
include hsel hE hE0

theorem WL.pull {i : Nat} {oi : Oper} (hi : ops[i]? = some oi) (C : List (Nat × Nat)) : ∀ (A : List (Nat × Nat)) (F : World → Prop) (a : Act),
    (∀ y ∈ A, apartOf ops y.1 i = true) → (∀ y ∈ A, ∃ oy, ops[y.1]? = some oy) → Stab F → (∃ w, Ext w0 w ∧ F w) → WL P ops w0 E (A ++ (i, 1) :: C) F a →
    if Region.wanted oi (yielded ops a.tmps) = true then
      ∃ obj mk, AllocRun P (execOp a.eval oi) obj mk ∧ ∀ b, WL P ops w0 E (A ++ C) (fun w => F w ∧ w0.heap.size ≤ b ∧ w.heap[b]? = some obj) (a.put oi.dst (mk b))
    else WL P ops w0 E (A ++ C) F (a.put oi.dst undef)
  | [], F, a, _, _, _, hne, h => by
    have h := h oi hi hne
    exact h
  | (y, ky) :: A, F, a, hap, hin, hst, hne, h => by
    obtain ⟨oy, hy⟩ := hin (y, ky) List.mem_cons_self
    obtain ⟨ap1, ap2, ap3⟩ := apartOf_spec hy hi (hap (y, ky) List.mem_cons_self)
    have hsi : ∀ cs b, oi.op ≠ .select cs b := fun cs b => Region.noSelect_spec hsel i oi cs b hi
    have hsy : ∀ cs b, oy.op ≠ .select cs b := fun cs b => Region.noSelect_spec hsel y oy cs b hy
    have hap' : ∀ z ∈ A, apartOf ops z.1 i = true := fun z hz => hap z (List.mem_cons_of_mem _ hz)
    have hin' : ∀ z ∈ A, ∃ oz, ops[z.1]? = some oz := fun z hz => hin z (List.mem_cons_of_mem _ hz)
    obtain ⟨wn, hwn, hfn⟩ := hne
    have h := h oy hy ⟨wn, hwn, hfn⟩
    have ih := fun F' v (hst' : Stab F') (hne' : ∃ w, Ext w0 w ∧ F' w) (hh : WL P ops w0 E (A ++ (i, 1) :: C) F' (a.put oy.dst v)) => WL.pull hi C A F' (a.put oy.dst v) hap' hin' hst' hne' hh
    have ewi : ∀ v, Region.wanted oi (yielded ops (a.put oy.dst v).tmps) = Region.wanted oi (yielded ops a.tmps) := fun v => wanted_put oi a oy.dst v ap1
    have eei : ∀ v, execOp (a.put oy.dst v).eval oi = execOp a.eval oi := fun v => execOp_put oi hsi a oy.dst v ap1
    have ewy : ∀ v, Region.wanted oy (yielded ops (a.put oi.dst v).tmps) = Region.wanted oy (yielded ops a.tmps) := fun v => wanted_put oy a oi.dst v ap3
    have eey : ∀ v, execOp (a.put oi.dst v).eval oy = execOp a.eval oy := fun v => execOp_put oy hsy a oi.dst v ap3
    have hcom : ∀ v u, (a.put oy.dst v).put oi.dst u = (a.put oi.dst u).put oy.dst v := fun v u => Act.put_comm a v u ap2
    have only : ∀ {o' : Oper}, ops[y]? = some o' → o' = oy := fun ho => Option.some.inj (ho.symm.trans hy)
    by_cases hwy : Region.wanted oy (yielded ops a.tmps) = true
    · rw [if_pos hwy] at h
      match ky with
      | 0 =>
        obtain ⟨v, hq, h2⟩ := h
        have h3 := ih F v hst ⟨wn, hwn, hfn⟩ h2
        rw [ewi, eei] at h3
        by_cases hwi : Region.wanted oi (yielded ops a.tmps) = true
        · rw [if_pos hwi] at h3 ⊢
          obtain ⟨obj, mk, hr, h4⟩ := h3
          refine ⟨obj, mk, hr, fun b o' ho' _ => ?_⟩
          rw [only ho', ewy, if_pos hwy]
          refine ⟨v, fun w hb hf => by rw [eey]; exact hq w hb hf.1, ?_⟩
          rw [← hcom]; exact h4 b
        · rw [if_neg hwi] at h3 ⊢
          intro o' ho' _
          rw [only ho', ewy, if_pos hwy]
          refine ⟨v, fun w hb hf => by rw [eey]; exact hq w hb hf, ?_⟩
          rw [← hcom]; exact h3
      | 1 =>
        obtain ⟨obj', mk', hr', h2⟩ := h
        have hst2 : ∀ b', Stab (fun w => F w ∧ w0.heap.size ≤ b' ∧ w.heap[b']? = some obj') := fun b' => stab_and hst (stab_new _ _ _)
        have h3 := fun b' hne' => ih _ _ (hst2 b') hne' (h2 b')
        have hne0 : ∃ w, Ext w0 w ∧ F w ∧ w0.heap.size ≤ wn.heap.size ∧ w.heap[wn.heap.size]? = some obj' :=
          ⟨wn.alloc obj', ext_trans hwn (ext_alloc _ _), hst _ _ (ext_alloc _ _) hfn, hwn.size, heap_alloc_new _ _⟩
        simp only [ewi, eei] at h3
        by_cases hwi : Region.wanted oi (yielded ops a.tmps) = true
        · simp only [if_pos hwi] at h3 ⊢
          obtain ⟨obj, mk, hr, _⟩ := h3 wn.heap.size hne0
          refine ⟨obj, mk, hr, fun b o' ho' _ => ?_⟩
          rw [only ho', ewy, if_pos hwy]
          refine ⟨obj', mk', by rw [eey]; exact hr', fun b' => ?_⟩
          by_cases hx : ∃ w, Ext w0 w ∧ F w ∧ w0.heap.size ≤ b' ∧ w.heap[b']? = some obj'
          · obtain ⟨obj2, mk2, hr2, h4⟩ := h3 b' hx
            obtain ⟨rfl, rfl⟩ := allocRun_unique hr hr2
            rw [← hcom]
            exact WL.anti hE _ _ _ _ (fun w hw => ⟨⟨hw.1.1, hw.2⟩, hw.1.2⟩) (h4 b)
          · exact WL.none hE0 (fun w hw hf => hx ⟨w, hw, hf.1.1, hf.2⟩) _ _
        · simp only [if_neg hwi] at h3 ⊢
          intro o' ho' _
          rw [only ho', ewy, if_pos hwy]
          refine ⟨obj', mk', by rw [eey]; exact hr', fun b' => ?_⟩
          by_cases hx : ∃ w, Ext w0 w ∧ F w ∧ w0.heap.size ≤ b' ∧ w.heap[b']? = some obj'
          · rw [← hcom]; exact h3 b' hx
          · exact WL.none hE0 (fun w hw hf => hx ⟨w, hw, hf⟩) _ _
      | k + 2 =>
        obtain ⟨Φ, hs, hq, h2⟩ := h
        have hst2 : ∀ v, Stab (fun w => F w ∧ Φ v w) := fun v => stab_and hst (hs v)
        have h3 := fun v hne' => ih _ _ (hst2 v) hne' (h2 v)
        obtain ⟨v0, w1, hx1, hΦ1⟩ := (hq wn hwn hfn).ex
        have hne0 : ∃ w, Ext w0 w ∧ F w ∧ Φ v0 w := ⟨w1, ext_trans hwn hx1, hst _ _ hx1 hfn, hΦ1⟩
        simp only [ewi, eei] at h3
        by_cases hwi : Region.wanted oi (yielded ops a.tmps) = true
        · simp only [if_pos hwi] at h3 ⊢
          obtain ⟨obj, mk, hr, _⟩ := h3 v0 hne0
          refine ⟨obj, mk, hr, fun b o' ho' _ => ?_⟩
          rw [only ho', ewy, if_pos hwy]
          refine ⟨Φ, hs, fun w hb hf => by rw [eey]; exact hq w hb hf.1, fun v => ?_⟩
          by_cases hx : ∃ w, Ext w0 w ∧ F w ∧ Φ v w
          · obtain ⟨obj2, mk2, hr2, h4⟩ := h3 v hx
            obtain ⟨rfl, rfl⟩ := allocRun_unique hr hr2
            rw [← hcom]
            exact WL.anti hE _ _ _ _ (fun w hw => ⟨⟨hw.1.1, hw.2⟩, hw.1.2⟩) (h4 b)
          · exact WL.none hE0 (fun w hw hf => hx ⟨w, hw, hf.1.1, hf.2⟩) _ _
        · simp only [if_neg hwi] at h3 ⊢
          intro o' ho' _
          rw [only ho', ewy, if_pos hwy]
          refine ⟨Φ, hs, fun w hb hf => by rw [eey]; exact hq w hb hf, fun v => ?_⟩
          by_cases hx : ∃ w, Ext w0 w ∧ F w ∧ Φ v w
          · rw [← hcom]; exact h3 v hx
          · exact WL.none hE0 (fun w hw hf => hx ⟨w, hw, hf⟩) _ _
    · rw [if_neg hwy] at h
      have h3 := ih F undef hst ⟨wn, hwn, hfn⟩ h
      rw [ewi, eei] at h3
      by_cases hwi : Region.wanted oi (yielded ops a.tmps) = true
      · rw [if_pos hwi] at h3 ⊢
        obtain ⟨obj, mk, hr, h4⟩ := h3
        refine ⟨obj, mk, hr, fun b o' ho' _ => ?_⟩
        rw [only ho', ewy, if_neg hwy, ← hcom]
        exact h4 b
      · rw [if_neg hwi] at h3 ⊢
        intro o' ho' _
        rw [only ho', ewy, if_neg hwy, ← hcom]
        exact h3

theorem WL.first {i k : Nat} {oi : Oper} (hi : ops[i]? = some oi) (C : List (Nat × Nat)) : ∀ (A : List (Nat × Nat)) (F : World → Prop) (a : Act),
    (∀ y ∈ A, apartOf ops y.1 i = true ∧ (y.2 = 0 ∨ k = 1)) → (∀ y ∈ A, ∃ oy, ops[y.1]? = some oy) → Stab F → (∃ w, Ext w0 w ∧ F w) → WL P ops w0 E (A ++ (i, k) :: C) F a →
    if Region.wanted oi (yielded ops a.tmps) = true then
      ∀ w, Ext w0 w → F w → OpRes P (execOp a.eval oi) w fun v w' => Ext w w' ∧ ∃ F' : World → Prop, Stab F' ∧ F' w' ∧ (∀ w, F' w → F w) ∧ WL P ops w0 E (A ++ C) F' (a.put oi.dst v)
    else WL P ops w0 E (A ++ C) F (a.put oi.dst undef) := by
  intro A F a hap hin hst hne h
  by_cases hk : k = 1
  · subst hk
    have h1 := WL.pull hsel hE hE0 hi C A F a (fun y hy => (hap y hy).1) hin hst hne h
    split
    · rename_i hw
      rw [if_pos hw] at h1
      obtain ⟨obj, mk, hr, h2⟩ := h1
      intro w hb hf
      unfold OpRes
      rw [hr w]
      exact ⟨ext_alloc w obj, _, stab_and hst (stab_new _ _ _), ⟨hst _ _ (ext_alloc w obj) hf, hb.size, heap_alloc_new w obj⟩, fun w hw => hw.1, h2 w.heap.size⟩
    · rename_i hw
      rw [if_neg hw] at h1
      exact h1
  · induction A generalizing F a with
    | nil =>
      have h := h oi hi hne
      split
      · rename_i hw
        rw [if_pos hw] at h
        intro w hb hf
        match k, hk with
        | 0, _ =>
          obtain ⟨v, hq, h2⟩ := h
          unfold OpRes
          rw [hq w hb hf]
          exact ⟨Below.refl _ _, F, hst, hf, fun _ h => h, h2⟩
        | k + 2, _ =>
          obtain ⟨Φ, hs, hq, h2⟩ := h
          exact (hq w hb hf).mono fun v w' hv => ⟨hv.1, _, stab_and hst (hs v), ⟨hst _ _ hv.1 hf, hv.2⟩, fun _ h => h.1, h2 v⟩
      · rename_i hw
        rw [if_neg hw] at h
        exact h
    | cons yk A ihA =>
      obtain ⟨y, ky⟩ := yk
      obtain ⟨oy, hy⟩ := hin (y, ky) List.mem_cons_self
      obtain ⟨hap0, hky⟩ := hap (y, ky) List.mem_cons_self
      obtain ⟨ap1, ap2, ap3⟩ := apartOf_spec hy hi hap0
      obtain rfl : ky = 0 := by rcases hky with h | h; exact h; exact absurd h hk
      have hsi : ∀ cs b, oi.op ≠ .select cs b := fun cs b => Region.noSelect_spec hsel i oi cs b hi
      have hsy : ∀ cs b, oy.op ≠ .select cs b := fun cs b => Region.noSelect_spec hsel y oy cs b hy
      have hap' := fun z hz => hap z (List.mem_cons_of_mem _ hz)
      have hin' := fun z hz => hin z (List.mem_cons_of_mem _ hz)
      have h := h oy hy hne
      have ih := fun v (hh : WL P ops w0 E (A ++ (i, k) :: C) F (a.put oy.dst v)) => ihA F (a.put oy.dst v) hap' hin' hst hne hh
      have ewi : ∀ v, Region.wanted oi (yielded ops (a.put oy.dst v).tmps) = Region.wanted oi (yielded ops a.tmps) := fun v => wanted_put oi a oy.dst v ap1
      have eei : ∀ v, execOp (a.put oy.dst v).eval oi = execOp a.eval oi := fun v => execOp_put oi hsi a oy.dst v ap1
      have ewy : ∀ v, Region.wanted oy (yielded ops (a.put oi.dst v).tmps) = Region.wanted oy (yielded ops a.tmps) := fun v => wanted_put oy a oi.dst v ap3
      have eey : ∀ v, execOp (a.put oi.dst v).eval oy = execOp a.eval oy := fun v => execOp_put oy hsy a oi.dst v ap3
      have hcom : ∀ v u, (a.put oy.dst v).put oi.dst u = (a.put oi.dst u).put oy.dst v := fun v u => Act.put_comm a v u ap2
      have only : ∀ {o' : Oper}, ops[y]? = some o' → o' = oy := fun ho => Option.some.inj (ho.symm.trans hy)
      by_cases hwy : Region.wanted oy (yielded ops a.tmps) = true
      · rw [if_pos hwy] at h
        obtain ⟨v, hq, h2⟩ := h
        have h3 := ih v h2
        rw [ewi, eei] at h3
        by_cases hwi : Region.wanted oi (yielded ops a.tmps) = true
        · rw [if_pos hwi] at h3 ⊢
          intro w hb hf
          refine (h3 w hb hf).mono fun u w' hu => ?_
          obtain ⟨he, F', hs', hf', himp, h4⟩ := hu
          refine ⟨he, F', hs', hf', himp, fun o' ho' _ => ?_⟩
          rw [only ho', ewy, if_pos hwy]
          refine ⟨v, fun w hb hf => by rw [eey]; exact hq w hb (himp w hf), ?_⟩
          rw [← hcom]; exact h4
        · rw [if_neg hwi] at h3 ⊢
          intro o' ho' _
          rw [only ho', ewy, if_pos hwy]
          refine ⟨v, fun w hb hf => by rw [eey]; exact hq w hb hf, ?_⟩
          rw [← hcom]; exact h3
      · rw [if_neg hwy] at h
        have h3 := ih undef h
        rw [ewi, eei] at h3
        by_cases hwi : Region.wanted oi (yielded ops a.tmps) = true
        · rw [if_pos hwi] at h3 ⊢
          intro w hb hf
          refine (h3 w hb hf).mono fun u w' hu => ?_
          obtain ⟨he, F', hs', hf', himp, h4⟩ := hu
          refine ⟨he, F', hs', hf', himp, fun o' ho' _ => ?_⟩
          rw [only ho', ewy, if_neg hwy, ← hcom]
          exact h4
        · rw [if_neg hwi] at h3 ⊢
          intro o' ho' _
          rw [only ho', ewy, if_neg hwy, ← hcom]
          exact h3
end

section
variable {P : Program} {r : Option Nat} {ops : Array Oper} {w0 : World} {M : Array Nat}

/-- y comes before x in every order. -/
def earlier (M : Array Nat) (y x : Nat) : Bool := (M.getD x 0).testBit y
def dirDep (ops : Array Oper) (x y : Nat) : Bool := (ops[x]?).any fun o => o.after.any fun e => Region.binds .any e && e.on == y
def pairsAll {α : Type} (f : α → α → Bool) : List α → Bool
  | [] => true
  | x :: l => l.all (f x) && pairsAll f l

theorem pairsAll_spec {α : Type} {f : α → α → Bool} : ∀ {l : List α}, pairsAll f l = true → l.Pairwise fun x y => f x y = true
  | [], _ => List.Pairwise.nil
  | x :: l, h => by
    simp only [pairsAll, Bool.and_eq_true, List.all_eq_true] at h
    exact List.Pairwise.cons h.1 (pairsAll_spec h.2)

def okPair (ops : Array Oper) (M : Array Nat) (y x : Nat × Nat) : Bool := earlier M y.1 x.1 || (apartOf ops y.1 x.1 && (y.2 == 0 || x.2 == 1 || x.2 == 2 || (x.2 == 0 && y.2 != 2) || (x.2 == 3 && y.2 == 3)))

def okEdges (ops : Array Oper) (M : Array Nat) : Bool :=
  (List.range ops.size).all fun x => match ops[x]? with
    | none => true
    | some o => (o.after.all fun e => !Region.binds .any e || (e.on != x && decide (e.on < ops.size))) &&
        (List.range ops.size).all fun y => !earlier M y x || o.after.any fun e => Region.binds .any e && (e.on == y || earlier M y e.on)

def noDefer (ops : Array Oper) : Bool := ops.all fun o => match o.op with | .defer _ => false | _ => true
theorem noDefer_spec {ops : Array Oper} (h : noDefer ops = true) {j : Nat} {o : Oper} (ho : ops[j]? = some o) (c : Call) : o.op ≠ .defer c := by
  intro heq
  have := Array.all_eq_true_iff_forall_mem.1 h o (Array.mem_of_getElem? ho)
  simp [heq] at this

def okW (ops : Array Oper) (M : Array Nat) (L : List (Nat × Nat)) (T : List Nat) : Bool :=
  let R := L.map (·.1) ++ T
  noDefer ops && Region.noSelect ops && decide (M.size ≤ ops.size) && (M.all fun m => decide (m < 2 ^ ops.size)) && okEdges ops M && (R.all fun i => decide (i < ops.size)) && (List.range ops.size).all (R.contains ·) &&
  pairsAll (fun y x => y != x && !dirDep ops y x) R && pairsAll (okPair ops M) L && (L.all fun y => T.all fun t => earlier M y.1 t) && pairsAll (fun y t => earlier M y t) T

structure RInv (ops : Array Oper) (M : Array Nat) (listed : Array Bool) (L : List (Nat × Nat)) (T : List Nat) : Prop where
  size : listed.size = ops.size
  mem : ∀ i, listed.getD i true = false ↔ i ∈ L.map (·.1) ++ T
  blk : ∀ y ∈ L.map (·.1) ++ T, ∀ x, earlier M y x = true → x ∈ L.map (·.1) ++ T
  topo : (L.map (·.1) ++ T).Pairwise fun y x => (y != x && !dirDep ops y x) = true
  pl : L.Pairwise fun y x => okPair ops M y x = true
  plt : ∀ y ∈ L, ∀ t ∈ T, earlier M y.1 t = true
  pt : T.Pairwise fun y t => earlier M y t = true

structure RFix (ops : Array Oper) (M : Array Nat) : Prop where
  def_ : noDefer ops = true
  sel : Region.noSelect ops = true
  cl : ∀ x y, earlier M y x = true → ∃ o, ops[x]? = some o ∧ ∃ e ∈ o.after, Region.binds .any e = true ∧ (e.on = y ∨ earlier M y e.on = true)
  ed : ∀ (x : Nat) (o : Oper), ops[x]? = some o → ∀ e ∈ o.after, Region.binds .any e = true → e.on ≠ x ∧ e.on < ops.size

theorem rfix_of (hdf : noDefer ops = true) (h : okEdges ops M = true) (hsel : Region.noSelect ops = true) (hM : M.size ≤ ops.size) (hb : ∀ m ∈ M, m < 2 ^ ops.size) : RFix ops M := by
  have h0 : ∀ x, x < ops.size → _ := List.all_eq_true.1 h |> fun h x hx => h x (List.mem_range.2 hx)
  refine ⟨hdf, hsel, fun x y hxy => ?_, fun x o ho e he hbd => ?_⟩
  · have hx : x < M.size := by
      rcases Nat.lt_or_ge x M.size with hx | hx
      · exact hx
      · simp [earlier, Array.getElem?_eq_none hx] at hxy
    have hx' : x < ops.size := Nat.lt_of_lt_of_le hx hM
    have h1 := h0 x hx'
    have ho : ops[x]? = some ops[x] := by simp [hx']
    rw [ho] at h1
    simp only [Bool.and_eq_true, List.all_eq_true] at h1
    have hy : y < ops.size := by
      rcases Nat.lt_or_ge y ops.size with hy | hy
      · exact hy
      · have hm := hb M[x] (by simp)
        have : M[x].testBit y = false := Nat.testBit_lt_two_pow (Nat.lt_of_lt_of_le hm (Nat.pow_le_pow_right (by omega) hy))
        simp [earlier, hx, this] at hxy
    have h2 := h1.2 y (List.mem_range.2 hy)
    simp only [hxy, Bool.not_true, Bool.false_or] at h2
    obtain ⟨e, he, hbe⟩ := Array.any_eq_true'.1 h2
    simp only [Bool.and_eq_true, Bool.or_eq_true, beq_iff_eq] at hbe
    exact ⟨_, ho, e, he, hbe.1, hbe.2⟩
  · have hx' : x < ops.size := (Array.getElem?_eq_some_iff.1 ho).1
    have h1 := h0 x hx'
    rw [ho] at h1
    simp only [Bool.and_eq_true] at h1
    have h2 := Array.all_eq_true_iff_forall_mem.1 h1.1 e he
    simp only [hbd, Bool.not_true, Bool.false_or, Bool.and_eq_true, bne_iff_ne, ne_eq, decide_eq_true_eq] at h2
    exact h2

theorem listed_true {listed : Array Bool} {i : Nat} (hs : i < listed.size) (h : ¬ listed.getD i true = false) : listed.getD i false = true := by
  simp [hs] at h ⊢; exact h

theorem RInv.notB {listed : Array Bool} {L : List (Nat × Nat)} {T : List Nat} (fx : RFix ops M) (inv : RInv ops M listed L T) {i : Nat} (hi : i ∈ Region.ready .any ops listed) {y : Nat}
    (hy : y ∈ L.map (·.1) ++ T) : earlier M y i = false := by
  cases hB : earlier M y i with
  | false => rfl
  | true =>
    exfalso
    obtain ⟨_, o, ho, hall⟩ := mem_ready.1 hi
    obtain ⟨o', ho', e, he, hbd, hor⟩ := fx.cl i y hB
    obtain rfl : o' = o := Option.some.inj (ho'.symm.trans ho)
    have h1 := hall e he hbd
    have hmem : e.on ∈ L.map (·.1) ++ T := by
      rcases hor with h | h
      · rw [h]; exact hy
      · exact inv.blk y hy _ h
    have h2 := (inv.mem e.on).2 hmem
    rcases Nat.lt_or_ge e.on listed.size with h' | h'
    · simp [h'] at h1 h2; rw [h2] at h1; cases h1
    · simp [Array.getElem?_eq_none h'] at h1

theorem RInv.headReady {listed : Array Bool} {L : List (Nat × Nat)} {T : List Nat} (fx : RFix ops M) (inv : RInv ops M listed L T) {x : Nat} {R : List Nat} (hR : L.map (·.1) ++ T = x :: R) (hx : x < ops.size) :
    x ∈ Region.ready .any ops listed := by
  have ho : ops[x]? = some ops[x] := by simp [hx]
  refine mem_ready.2 ⟨(inv.mem x).2 (by rw [hR]; exact List.mem_cons_self), _, ho, fun e he hbd => ?_⟩
  obtain ⟨hne, hlt⟩ := fx.ed x _ ho e he hbd
  refine listed_true (by rw [inv.size]; exact hlt) fun hun => ?_
  have hm := (inv.mem e.on).1 hun
  have ht := inv.topo
  rw [hR] at hm ht
  rcases List.mem_cons.1 hm with h | h
  · exact hne h
  · have := (List.pairwise_cons.1 ht).1 _ h
    have hd : dirDep ops x e.on = true := by
      simp only [dirDep, ho, Option.any_some]
      exact Array.any_eq_true'.2 ⟨e, he, by simp [hbd]⟩
    simp [hd] at this

theorem RInv.step {listed : Array Bool} {L L' : List (Nat × Nat)} {T T' : List Nat} (fx : RFix ops M) (inv : RInv ops M listed L T) {i : Nat} (hi : i ∈ Region.ready .any ops listed)
    (hsubL : L'.Sublist L) (hsubT : T'.Sublist T) (hmem : ∀ j, j ∈ L'.map (·.1) ++ T' ↔ j ∈ L.map (·.1) ++ T ∧ j ≠ i) : RInv ops M (listed.setIfInBounds i true) L' T' := by
  have hlt : i < listed.size := by
    obtain ⟨_, o, ho, _⟩ := mem_ready.1 hi
    rw [inv.size]; exact (Array.getElem?_eq_some_iff.1 ho).1
  refine ⟨by simp [inv.size], fun j => ?_, fun y hy x hB => ?_, inv.topo.sublist ((hsubL.map _).append hsubT), inv.pl.sublist hsubL, fun y hy t ht => inv.plt y (hsubL.subset hy) t (hsubT.subset ht), inv.pt.sublist hsubT⟩
  · rw [hmem]
    by_cases hji : j = i
    · subst hji; simp [hlt]
    · rw [getD_set_ne true (Ne.symm hji), inv.mem]; simp [hji]
  · rw [hmem] at hy ⊢
    refine ⟨inv.blk y hy.1 x hB, fun hxi => ?_⟩
    subst hxi
    rw [inv.notB fx hi hy.1] at hB
    cases hB

theorem wpAny_tail {Q : Exit → Act → World → Prop} (fx : RFix ops M) : ∀ (T : List Nat) (a : Act) (w : World) (listed : Array Bool), RInv ops M listed [] T → (∀ t ∈ T, t < ops.size) → wpOpsIn (fz r) 0 P ops Q T a w → wpAnyIn (fz r) 0 P .any ops Q T.length listed a w
  | [], a, w, listed, inv, _, h => by
    have hr : Region.ready .any ops listed = [] := by
      refine List.eq_nil_iff_forall_not_mem.2 fun i hi => ?_
      have := (inv.mem i).1 (mem_ready.1 hi).1
      simp at this
    exact ⟨hr, h⟩
  | t :: T, a, w, listed, inv, hlt, h => by
    have htr := inv.headReady fx (x := t) (R := T) (by simp) (hlt t List.mem_cons_self)
    refine ⟨fun h0 => (by rw [h0] at htr; cases htr), fun i hi => ?_⟩
    have him := (inv.mem i).1 (mem_ready.1 hi).1
    simp only [List.map_nil, List.nil_append] at him
    have hit : i = t := by
      rcases List.mem_cons.1 him with h | h
      · exact h
      · have h1 := (List.pairwise_cons.1 inv.pt).1 i h
        rw [inv.notB fx hi (y := t) (by simp)] at h1
        cases h1
    subst hit
    rw [wpOpsIn_cons] at h
    have hnd : ∀ j ∈ T, j ≠ i := fun j hj e => by
      have h1 := (List.pairwise_cons.1 inv.topo).1 j hj
      simp [e] at h1
    refine wpOpIn_mono (fun a' w' h' => wpAny_tail fx T a' w' _ (inv.step fx hi (List.Sublist.refl _) (List.sublist_cons_self _ _) fun j => ?_) (fun t ht => hlt t (List.mem_cons_of_mem _ ht)) h') h
    simp only [List.map_nil, List.nil_append, List.mem_cons]
    exact ⟨fun hj => ⟨.inr hj, hnd j hj⟩, fun hj => hj.1.resolve_left hj.2⟩

end

end Go.Proofs.YtijaglinajfplaaGreatDoor
