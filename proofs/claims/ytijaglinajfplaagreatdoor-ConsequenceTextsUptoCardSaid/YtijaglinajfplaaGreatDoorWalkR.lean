/-
  The walk through a region that draws its order, in terms of facts and owned memory.
  Conditions: none beyond those that each theorem states.
-/
import Derived.Test.YtijaglinajfplaaGreatDoorEvalOk
namespace Go.Proofs.YtijaglinajfplaaGreatDoor
open Go.RowKit

abbrev Env := Nat → Option Value
def upd (e : Env) (d : Option Nat) (v : Value) : Env :=
  match d with
  | none => e
  | some d => fun t => match Nat.beq d t with
    | true => some v
    | false => e t

/-- The frame a holds what e tells. -/
structure Agree (n : Nat) (ds : List Deferred) (e : Env) (a : Act) : Prop where
  size : a.tmps.size = n
  defers : a.defers = ds
  slots : ∀ t v, e t = some v → a.tmps[t]? = some v

theorem upd_same (e : Env) (d : Nat) (v : Value) : upd e (some d) v d = some v := by simp [upd]
theorem upd_ne (e : Env) {d t : Nat} (v : Value) (h : d ≠ t) : upd e (some d) v t = e t := by
  have : Nat.beq d t = false := by
    cases hb : Nat.beq d t with
    | false => rfl
    | true => exact absurd (Nat.eq_of_beq_eq_true hb) h
  simp [upd, this]
theorem upd_comm (e : Env) (x y : Option Nat) (v u : Value) (h : ∀ d, x = some d → y ≠ some d) : upd (upd e x v) y u = upd (upd e y u) x v := by
  cases x with
  | none => rfl
  | some d =>
    cases y with
    | none => rfl
    | some c =>
      have hne : d ≠ c := fun hdc => h d rfl (by rw [hdc])
      funext t
      by_cases h1 : d = t
      · subst h1; rw [upd_ne _ _ (Ne.symm hne), upd_same, upd_same]
      · by_cases h2 : c = t
        · subst h2; rw [upd_same, upd_ne _ _ h1, upd_same]
        · rw [upd_ne _ _ h2, upd_ne _ _ h1, upd_ne _ _ h1, upd_ne _ _ h2]

theorem Agree.put {n : Nat} {ds : List Deferred} {e : Env} {a : Act} (h : Agree n ds e a) {d : Option Nat} (hd : ∀ t, d = some t → t < n) (v : Value) : Agree n ds (upd e d v) (a.put d v) := by
  cases d with
  | none => exact h
  | some d =>
    have hlt := hd d rfl
    refine ⟨by simp [Act.put, h.size], by simp [Act.put, h.defers], fun t u ht => ?_⟩
    by_cases hdt : d = t
    · subst hdt
      rw [upd_same] at ht
      have : d < a.tmps.size := by rw [h.size]; exact hlt
      simp [Act.put, this, Option.some.inj ht]
    · rw [upd_ne _ _ hdt] at ht
      simp only [Act.put]
      rw [Array.getElem?_setIfInBounds_ne hdt]
      exact h.slots t u ht

def evf (e : Env) : Operand → Option Value
  | .tmp t => e t
  | .const v => some v
  | .global g => some (.pointer (some ⟨g, 0, none⟩))
  | .func f => some (.func (.func f) #[] #[])

theorem Agree.ev {n : Nat} {ds : List Deferred} {e : Env} {a : Act} (h : Agree n ds e a) {x : Operand} {v : Value} (hx : evf e x = some v) : a.eval x = v := by
  cases x with
  | tmp t => simp [Act.eval, h.slots t v hx]
  | const u => exact Option.some.inj hx
  | global g => exact Option.some.inj hx
  | func f => exact Option.some.inj hx

/-- Is the operation wanted? -/
def wantF (ops : Array Oper) (e : Env) (o : Oper) : Option Bool :=
  match o.guard with
  | none => some true
  | some (j, want) => match (ops[j]?).bind (·.dst) with
    | none => none
    | some d => match e d with
      | some (.bool b) => some (b == want)
      | some (.tuple _) => some false
      | _ => none

theorem wantF_ok {n : Nat} {ds : List Deferred} {e : Env} {a : Act} (h : Agree n ds e a) {ops : Array Oper} {o : Oper} {b : Bool} (hw : wantF ops e o = some b) : Region.wanted o (yielded ops a.tmps) = b := by
  unfold wantF at hw
  unfold Region.wanted
  cases hg : o.guard with
  | none => simpa [hg] using hw
  | some g =>
    obtain ⟨j, want⟩ := g
    simp only [hg] at hw
    cases hd : (ops[j]?).bind (·.dst) with
    | none => simp [hd] at hw
    | some d =>
      simp only [hd] at hw
      split at hw
      · rename_i c hc
        have := h.slots _ _ hc
        simp only [yielded, hd, Option.bind_some, this]
        have := Option.some.inj hw
        subst this
        cases c <;> cases want <;> rfl
      · rename_i vs hc
        have := h.slots _ _ hc
        simp only [yielded, hd, Option.bind_some, this]
        exact Option.some.inj hw
      · cases hw

theorem wantF_upd {ops : Array Oper} {e : Env} {o : Oper} {d : Option Nat} {v : Value} (h : ∀ t, d = some t → t ∉ o.looksAt ops) : wantF ops (upd e d v) o = wantF ops e o := by
  cases d with
  | none => rfl
  | some d =>
    unfold wantF
    cases hg : o.guard with
    | none => rfl
    | some g =>
      obtain ⟨j, want⟩ := g
      simp only
      cases hd : (ops[j]?).bind (·.dst) with
      | none => rfl
      | some c =>
        have : d ≠ c := fun e => h d rfl (by subst e; simp [Oper.looksAt, hg, hd])
        simp only [upd_ne e v this]

theorem evf_upd {e : Env} {d : Option Nat} {v : Value} {x : Operand} (h : ∀ t, d = some t → x ≠ .tmp t) : evf (upd e d v) x = evf e x := by
  cases d with
  | none => rfl
  | some d =>
    cases x with
    | tmp t => exact upd_ne e v fun hdt => h d rfl (by rw [hdt])
    | _ => rfl

/-- A list, its spine written out. -/
def forceL {α β : Type} : List α → (List α → β) → β
  | [], k => k []
  | x :: l, k => forceL l fun r => k (x :: r)
theorem forceL_eq {α β : Type} : ∀ (l : List α) (k : List α → β), forceL l k = k l
  | [], _ => rfl
  | x :: l, k => by simp only [forceL]; exact forceL_eq l _

/-- The block that an operation makes, and the value that tells it. -/
def allocOf (T : Tab) (e : Env) : Op → Option (Obj × (Nat → Value))
  | .alloc t => match lookT T t with
    | some ⟨_, _, _, zero⟩ => some (.cells zero.toArray t, fun b => .pointer (some ⟨b, 0, none⟩))
    | none => none
  | .box t x => match evf e x with
    | some v => match vcells v with
      | some l => some (.cells l.toArray t, fun b => .pointer (some ⟨b, 0, none⟩))
      | none => none
    | none => none
  | .buildSlice t n ps => match lookT T t with
    | some ⟨.slice el, _, _, _⟩ => match lookT T el with
      | some r => bif Nat.beq r.size 0 || !Nat.ble (n * r.size) 16777216 then none else forceL (List.replicate n r.zero).flatten fun cells =>
        match parts (evf e) (fun i => some (i * r.size, r.size)) cells ps.toList with
        | some (.agg c) => some (.cells c el, fun b => .slice (some ⟨b, 0, none⟩) n n)
        | _ => none
      | none => none
    | _ => none
  | _ => none

theorem evf_ops {e e' : Env} {ps : List (Nat × Operand)} (h : ∀ x ∈ ps, evf e x.2 = evf e' x.2) {place : Nat → Option (Nat × Nat)} : ∀ c, parts (evf e) place c ps = parts (evf e') place c ps := by
  induction ps with
  | nil => intro c; rfl
  | cons x ps ih =>
    intro c
    obtain ⟨i, x⟩ := x
    have h1 := h (i, x) List.mem_cons_self
    have h2 := ih fun y hy => h y (List.mem_cons_of_mem _ hy)
    simp only at h1
    simp only [parts, h1, h2]

theorem allocOf_upd {T : Tab} {ops : Array Oper} {e : Env} {o : Oper} {d : Option Nat} {v : Value} (h : ∀ t, d = some t → t ∉ o.looksAt ops) : allocOf T (upd e d v) o.op = allocOf T e o.op := by
  have hx : ∀ x ∈ o.op.operands, evf (upd e d v) x = evf e x := fun x hx => evf_upd fun t ht hxt => h t ht (by
    subst hxt
    exact List.mem_append_left _ (List.mem_filterMap.2 ⟨.tmp t, by simpa using hx, rfl⟩))
  obtain ⟨dst, op, ty, pos, after, guard⟩ := o
  cases op <;> try rfl
  case box t x => simp only [allocOf]; rw [hx x (by simp [Op.operands])]
  case buildSlice t n ps =>
    simp only [allocOf]
    have hp : ∀ x ∈ ps.toList, evf (upd e d v) x.2 = evf e x.2 := fun x hxp => hx x.2 (by simp only [Op.operands, List.mem_toArray, List.mem_map]; exact ⟨x, hxp, rfl⟩)
    simp only [evf_ops hp]

theorem fill_zero (T : TRow) (n : Nat) (z : Array Value) (hz : z.toList = T.zero) (hs : T.zero.length = T.size) : (Array.range (n * T.size)).map (fun i => z[i % z.size]!) = (List.replicate n T.zero).flatten.toArray := by
  have hzs : z.size = T.size := by rw [← hs, ← hz]; simp
  rw [← Array.toList_inj]
  simp only [Array.toList_map, Array.toList_range]
  rw [hzs]
  induction n with
  | zero => simp
  | succ n ih =>
    rw [Nat.succ_mul, List.range_add, List.map_append, ih, List.replicate_succ', List.flatten_append]
    congr 1
    simp only [List.map_map, List.flatten_cons, List.flatten_nil, List.append_nil]
    rw [← hz]
    refine List.ext_getElem (by simp [hzs]) fun i h1 h2 => ?_
    simp at h1 h2
    simp [Nat.mod_eq_of_lt h1, h2]

theorem run_newVar {P : Program} (t : TypeId) (v : Value) (w : World) : (newVar t v).run P w = .ok ⟨w.heap.size, 0, none⟩ (w.alloc (.cells v.cells t)) := rfl
theorem run_newRow {P : Program} (t : TypeId) (c : Array Value) (w : World) : (newRow t c).run P w = .ok ⟨w.heap.size, 0, none⟩ (w.alloc (.cells c t)) := rfl

theorem allocOf_ok {P : Program} {T : Tab} (hT : TabOK P T) {n : Nat} {ds : List Deferred} {e : Env} {a : Act} (h : Agree n ds e a) {o : Oper} {obj : Obj} {mk : Nat → Value} (ha : allocOf T e o.op = some (obj, mk)) : AllocRun P (execOp a.eval o) obj mk := by
  intro w
  obtain ⟨dst, op, ty, pos, after, guard⟩ := o
  simp only at ha
  cases op <;> simp only [allocOf] at ha <;> try (cases ha; done)
  case alloc t =>
    split at ha
    · rename_i zero hr
      obtain ⟨i, d, z, hi, hd, _, _, _, hz, hzc, _⟩ := hT.row hr
      simp at ha
      obtain ⟨rfl, rfl⟩ := ha
      have hz' : z.cells = zero.toArray := by rw [← Array.toList_inj]; exact hzc
      have hz1 : (zeroValue t).run P w = .ok z w := by simp [zeroValue, typeInfo, hi, hz, go_sem]
      simp only [execOp, Instr.alloc, Sem.run_bind, hz1, Result.andThen, run_newVar, hz']
      rfl
    · cases ha
  case box t x =>
    split at ha
    · rename_i v hv
      split at ha
      · rename_i l hl
        simp at ha
        obtain ⟨rfl, rfl⟩ := ha
        simp only [execOp, Instr.box, h.ev hv, Sem.run_bind, Result.andThen, run_newVar, vcells_eq hl]
        rfl
      · cases ha
    · cases ha
  case buildSlice t m ps =>
    split at ha
    · rename_i el _ _ _ ht
      obtain ⟨d, hd, hk⟩ := hT.und ht
      cases d <;> simp [chkKind] at hk
      subst hk
      split at ha
      · rename_i r hr
        cases hc : (Nat.beq r.size 0 || !Nat.ble (m * r.size) 16777216) with
        | true => simp [hc] at ha
        | false =>
          simp only [hc, cond_false, forceL_eq] at ha
          simp only [Bool.or_eq_false_iff] at hc
          have hpos : 0 < r.size := by have := Nat.ne_of_beq_eq_false hc.1; omega
          have hle : m * r.size ≤ 16777216 := Nat.le_of_ble_eq_true (by simpa using hc.2)
          split at ha
          · rename_i c hpt
            simp at ha
            obtain ⟨rfl, rfl⟩ := ha
            obtain ⟨i, d', z, hi, hd', hsz, _, _, hz, hzc, hzl⟩ := hT.row hr
            obtain ⟨c', hc', hcc⟩ := parts_eq (fun k o n hkn => by simp at hkn; omega) _ _ _ hpt a.eval (fun x _ u hu => h.ev hu)
            simp at hcc; subst hcc
            have hcells := fill_zero r m z.cells hzc hzl
            have hsz1 := hT.sizeOf hr w
            have hu : (underlying t).run P w = .ok (.slice el) w := by simp [underlying, hd, go_sem]
            have hz1 : (zeroValue el).run P w = .ok z w := by simp [zeroValue, typeInfo, hi, hz, go_sem]
            have hmap : (ps.map fun (x : Nat × Operand) => (x.1, a.eval x.2)).toList = ps.toList.map fun x => (x.1, a.eval x.2) := by simp
            have hne : ¬ m * r.size > 2 ^ 24 := by omega
            have hb : (Instr.buildSlice t m (ps.map fun (x : Nat × Operand) => (x.1, a.eval x.2))).run P w = .ok (.slice (some ⟨w.heap.size, 0, none⟩) m m) (w.alloc (.cells c el)) := by
              unfold Instr.buildSlice
              simp only [Sem.run_bind, hu, Result.andThen, hsz1, if_neg hne]
              by_cases h0 : m * r.size = 0
              · rw [if_pos h0]
                have e0 : (List.replicate m r.zero).flatten.toArray = (Array.range (m * r.size)).map fun i => (#[] : Array Value)[i % (#[] : Array Value).size]! := by rw [← hcells]; simp [h0]
                rw [e0] at hc'
                simp only [Sem.run_bind, Sem.run_pure, Result.andThen, hmap, hc']
                rfl
              · rw [if_neg h0]
                rw [← hcells] at hc'
                simp only [Sem.run_bind, hz1, Sem.run_pure, Result.andThen, hmap, hc']
                rfl
            simp only [execOp, Sem.run_bind, hb, Result.andThen]
            rfl
          · cases ha
      · cases ha
    · cases ha
end Go.Proofs.YtijaglinajfplaaGreatDoor
