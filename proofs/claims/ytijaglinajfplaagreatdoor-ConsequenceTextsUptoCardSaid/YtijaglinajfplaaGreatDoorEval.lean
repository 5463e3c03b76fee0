/-
  Operations that only reckon, evaluated by a function on the frame's known slots; and that this is what the model does.
  Conditions: none beyond those that each theorem states.
-/
import Derived.Test.YtijaglinajfplaaGreatDoorSep
namespace Go.Proofs.YtijaglinajfplaaGreatDoor
open Go.RowKit

/-- What is known of a type. -/
inductive TK where
  | bool | int (k : IntKind) | str | ptr (e : Nat) | slice (e : Nat) | arr (n e : Nat) | map (k e : Nat) | struct (fs : List (Nat × Nat × Nat)) | other

structure TRow where
  k : TK
  size : Nat
  bytes : Nat
  zero : List Value

def TK.isAgg : TK → Bool
  | .struct _ | .arr _ _ => true
  | _ => false

abbrev Tab := List (Nat × TRow)

def lookT : Tab → Nat → Option TRow
  | [], _ => none
  | (s, r) :: T, t => match Nat.beq s t with
    | true => some r
    | false => lookT T t

/-- Values that a zero value can hold. -/
def zeq : Value → Value → Bool
  | .bool a, .bool b => a == b
  | .int k a, .int l b => k == l && a == b
  | .string a, .string b => a.data.toList == b.data.toList
  | .pointer none, .pointer none => true
  | .slice none m n, .slice none k l => m == k && n == l
  | .map none, .map none => true
  | .nilFunc, .nilFunc => true
  | .nilIface, .nilIface => true
  | _, _ => false

def zeqs : List Value → List Value → Bool
  | [], [] => true
  | a :: l, b :: m => zeq a b && zeqs l m
  | _, _ => false

theorem zeq_eq : ∀ {a b : Value}, zeq a b = true → a = b := by
  intro a b h
  unfold zeq at h
  split at h <;> simp_all
  rename_i a b
  obtain ⟨⟨a⟩⟩ := a
  obtain ⟨⟨b⟩⟩ := b
  simp_all

theorem zeqs_eq : ∀ {a b : List Value}, zeqs a b = true → a = b
  | [], [], _ => rfl
  | [], _ :: _, h => by simp [zeqs] at h
  | _ :: _, [], h => by simp [zeqs] at h
  | a :: l, b :: m, h => by
    simp only [zeqs, Bool.and_eq_true] at h
    rw [zeq_eq h.1, zeqs_eq h.2]

def chkKind (P : Program) (k : TK) (d : TypeDesc) : Bool :=
  match k, d with
  | .bool, .bool => true
  | .int a, .int b => a == b
  | .str, .string => true
  | .ptr a, .pointer b => a == b
  | .slice a, .slice b => a == b
  | .arr n a, .array m b => n == m && a == b
  | .map a b, .map c e => a == c && b == e
  | .struct fs, .struct fields => fields.toList.map (fun f => (f.offset, f.type, ((P.info? f.type).map (·.size)).getD 0)) == fs && fs.all fun f => decide (0 < f.2.2)
  | .other, _ => true
  | _, _ => false

def chkRow (P : Program) (t : Nat) (r : TRow) : Bool :=
  match P.info? t, P.underlying t with
  | some i, some d => r.zero.length == r.size && i.size == r.size && i.bytes == r.bytes && chkKind P r.k d && (match i.zero with
      | some z => zeqs z.cells.toList r.zero && (match z with | .agg _ => r.k.isAgg | _ => !r.k.isAgg)
      | none => false)
  | _, _ => false

def TabOK (P : Program) (T : Tab) : Prop := (T.all fun x => chkRow P x.1 x.2) = true

theorem lookT_mem {T : Tab} {t : Nat} {r : TRow} (h : lookT T t = some r) : (t, r) ∈ T := by
  induction T with
  | nil => cases h
  | cons x T ih =>
    obtain ⟨s, q⟩ := x
    unfold lookT at h
    split at h
    · rename_i hb
      obtain rfl := Nat.eq_of_beq_eq_true hb
      obtain rfl := Option.some.inj h
      exact List.mem_cons_self
    · exact List.mem_cons_of_mem _ (ih h)

theorem TabOK.row {P : Program} {T : Tab} (h : TabOK P T) {t : Nat} {r : TRow} (hr : lookT T t = some r) :
    ∃ i d z, P.info? t = some i ∧ P.underlying t = some d ∧ i.size = r.size ∧ i.bytes = r.bytes ∧ chkKind P r.k d = true ∧ i.zero = some z ∧ z.cells.toList = r.zero ∧ r.zero.length = r.size := by
  have h1 := List.all_eq_true.1 h _ (lookT_mem hr)
  simp only [chkRow] at h1
  split at h1
  · rename_i i d hi hd
    simp only [Bool.and_eq_true, beq_iff_eq] at h1
    obtain ⟨⟨⟨⟨h0, h2⟩, h3⟩, h4⟩, h5⟩ := h1
    split at h5
    · rename_i z hz
      simp only [Bool.and_eq_true] at h5
      exact ⟨i, d, z, hi, hd, h2, h3, h4, hz, zeqs_eq h5.1, h0⟩
    · cases h5
  · cases h1

section
variable {P : Program} {T : Tab} (hT : TabOK P T) {t : Nat} {r : TRow}
include hT
theorem TabOK.sizeOf (hr : lookT T t = some r) (w : World) : (Go.sizeOf t).run P w = .ok r.size w := by
  obtain ⟨i, d, z, hi, hd, h1, h2, h3, h4, h5, h6⟩ := hT.row hr
  simp [Go.sizeOf, typeInfo, hi, h1, go_sem]
theorem TabOK.isAgg (hr : lookT T t = some r) (hk : r.k ≠ .other := by simp) (w : World) : (Go.isAgg t).run P w = .ok r.k.isAgg w := by
  obtain ⟨i, d, z, hi, hd, h1, h2, h3, h4, h5, h6⟩ := hT.row hr
  cases r with | mk k size bytes zero => 
  cases k <;> cases d <;> simp_all [chkKind, Go.isAgg, go_sem, TK.isAgg, underlying]
theorem TabOK.und (hr : lookT T t = some r) : ∃ d, P.underlying t = some d ∧ chkKind P r.k d = true :=
  let ⟨_, d, _, _, hd, _, _, h3, _, _, _⟩ := hT.row hr
  ⟨d, hd, h3⟩
end

/-- The known slots of a frame. -/
def look : List (Nat × Value) → Nat → Option Value
  | [], _ => none
  | (s, v) :: E, t => match Nat.beq s t with
    | true => some v
    | false => look E t

def ev (E : List (Nat × Value)) : Operand → Option Value
  | .tmp t => look E t
  | .const v => some v
  | .global g => some (.pointer (some ⟨g, 0, none⟩))
  | .func f => some (.func (.func f) #[] #[])

def ikEq : IntKind → IntKind → Bool
  | .i8, .i8 | .i16, .i16 | .i32, .i32 | .i64, .i64 | .u8, .u8 | .u16, .u16 | .u32, .u32 | .u64, .u64 => true
  | _, _ => false
theorem ikEq_eq {a b : IntKind} (h : ikEq a b = true) : a = b := by cases a <;> cases b <;> first | rfl | cases h

/-- Integers. -/
def iop (op : BinOp) (k : IntKind) (a b : Int) : Option Value :=
  match op with
  | .add => some (.int k (k.wrap (a + b)))
  | .sub => some (.int k (k.wrap (a - b)))
  | .mul => some (.int k (k.wrap (a * b)))
  | .quo => if b = 0 then none else some (.int k (k.wrap (a.tdiv b)))
  | .rem => if b = 0 then none else some (.int k (a.tmod b))
  | .and => some (.int k (k.wrap (BitVec.ofInt k.bits a &&& BitVec.ofInt k.bits b).toNat))
  | .or => some (.int k (k.wrap (BitVec.ofInt k.bits a ||| BitVec.ofInt k.bits b).toNat))
  | .xor => some (.int k (k.wrap (BitVec.ofInt k.bits a ^^^ BitVec.ofInt k.bits b).toNat))
  | .andNot => some (.int k (k.wrap (BitVec.ofInt k.bits a &&& ~~~ BitVec.ofInt k.bits b).toNat))
  | .eql => some (.bool (a == b))
  | .neq => some (.bool (a != b))
  | .lss => some (.bool (decide (a < b)))
  | .leq => some (.bool (decide (a ≤ b)))
  | .gtr => some (.bool (decide (b < a)))
  | .geq => some (.bool (decide (b ≤ a)))
  | _ => none

def shop (op : BinOp) (k : IntKind) (a b : Int) : Option Value :=
  match op with
  | .shl => if b < 0 then none else some (.int k (k.wrap (a * 2 ^ (min b.toNat k.bits))))
  | .shr => if b < 0 then none else some (.int k (a.fdiv (2 ^ (min b.toNat k.bits))))
  | _ => none

def sop (op : BinOp) (a b : ByteArray) : Option Value :=
  match op with
  | .eql => some (.bool (a.toList == b.toList))
  | .neq => some (.bool !(a.toList == b.toList))
  | .lss => some (.bool (Op.bytesLess a.toList b.toList))
  | .gtr => some (.bool !(Op.bytesLess a.toList b.toList || a.toList == b.toList))
  | .leq => some (.bool (Op.bytesLess a.toList b.toList || a.toList == b.toList))
  | .geq => some (.bool !Op.bytesLess a.toList b.toList)
  | _ => none

/-- Booleans, pointers, slices and maps against nil. -/
def eqop (T : Tab) (t : Nat) (x y : Value) : Option Bool :=
  match lookT T t, x, y with
  | some ⟨.bool, _, _, _⟩, .bool a, .bool b => some (a == b)
  | some ⟨.ptr _, _, _, _⟩, .pointer a, .pointer b => match a, b with
    | some _, none => some false
    | none, some _ => some false
    | none, none => some true
    | _, _ => none
  | some ⟨.slice _, _, _, _⟩, .slice a _ _, .slice b _ _ => match a, b with
    | some _, none => some false
    | none, some _ => some false
    | none, none => some true
    | _, _ => none
  | _, _, _ => none

def eop (T : Tab) (op : BinOp) (t : Nat) (x y : Value) : Option Value :=
  match op with
  | .eql => match eqop T t x y with
    | some b => some (.bool b)
    | none => none
  | .neq => match eqop T t x y with
    | some b => some (.bool (!b))
    | none => none
  | _ => none

def nth {α : Type} : List α → Nat → Option α
  | [], _ => none
  | x :: _, 0 => some x
  | _ :: l, n + 1 => nth l n

theorem nth_eq {α : Type} : ∀ (l : List α) (n : Nat), nth l n = l[n]?
  | [], _ => rfl
  | _ :: _, 0 => rfl
  | _ :: l, n + 1 => by simp only [nth]; simpa using nth_eq l n

def addOff (a : Addr) (n : Nat) : Option Addr :=
  match a with
  | ⟨b, o, none⟩ => match n with
    | 0 => some ⟨b, o, none⟩
    | n + 1 => some ⟨b, o + (n + 1), none⟩
  | _ => none

theorem addOff_eq {a c : Addr} {n : Nat} (h : addOff a n = some c) : a.add n = c := by
  obtain ⟨b, o, s⟩ := a
  cases s <;> cases n <;> simp_all [addOff, Addr.add]

/-- Part of a list of cells, its spine written out. -/
def cutF {β : Type} : List Value → Nat → Nat → (List Value → Option β) → Option β
  | _, _, 0, k => k []
  | [], _, _ + 1, _ => none
  | x :: l, 0, n + 1, k => cutF l 0 n fun r => k (x :: r)
  | _ :: l, o + 1, n + 1, k => cutF l o (n + 1) k

theorem cutF_eq {β : Type} : ∀ (l : List Value) (o n : Nat) (k : List Value → Option β) (v : β), cutF l o n k = some v → k ((l.drop o).take n) = some v ∧ o + n ≤ max (o + n) l.length ∧ (n ≠ 0 → o + n ≤ l.length)
  | l, o, 0, k, v, h => by
    unfold cutF at h
    refine ⟨by simpa using h, by omega, by omega⟩
  | [], o, n + 1, k, v, h => by simp [cutF] at h
  | x :: l, 0, n + 1, k, v, h => by
    simp only [cutF] at h
    obtain ⟨h1, _, h3⟩ := cutF_eq l 0 n _ v h
    refine ⟨by simpa using h1, by omega, fun _ => ?_⟩
    by_cases hn : n = 0
    · subst hn; simp
    · have := h3 hn; simp at this ⊢; omega
  | x :: l, o + 1, n + 1, k, v, h => by
    simp only [cutF] at h
    obtain ⟨h1, _, h3⟩ := cutF_eq l o (n + 1) k v h
    refine ⟨by simpa using h1, by omega, fun _ => ?_⟩
    have := h3 (by omega)
    simp; omega

/-- The operand values, written out. -/
def evs {β : Type} (e : Operand → Option Value) : List Operand → (List Value → Option β) → Option β
  | [], k => k []
  | x :: l, k => match e x with
    | some v => evs e l fun r => k (v :: r)
    | none => none

theorem evs_eq {β : Type} {e : Operand → Option Value} : ∀ (l : List Operand) (k : List Value → Option β) (v : β), evs e l k = some v →
    ∃ vs, vs.length = l.length ∧ k vs = some v ∧ ∀ ρ : Operand → Value, (∀ x ∈ l, ∀ u, e x = some u → ρ x = u) → l.map ρ = vs
  | [], k, v, h => ⟨[], rfl, h, fun _ _ => rfl⟩
  | x :: l, k, v, h => by
    unfold evs at h
    split at h
    · rename_i u hu
      obtain ⟨vs, h1, h2, h3⟩ := evs_eq l _ v h
      refine ⟨u :: vs, by simp [h1], h2, fun ρ hρ => ?_⟩
      simp only [List.map_cons]
      rw [hρ x List.mem_cons_self u hu, h3 ρ fun y hy => hρ y (List.mem_cons_of_mem _ hy)]
    · cases h

/-- Cells put over others from an offset on. -/
def putF {β : Type} : List Value → Nat → List Value → (List Value → Option β) → Option β
  | c, _, [], k => k c
  | [], _, _ :: _, _ => none
  | _ :: c, 0, v :: vs, k => putF c 0 vs fun r => k (v :: r)
  | x :: c, o + 1, v :: vs, k => putF c o (v :: vs) fun r => k (x :: r)

def vcells : Value → Option (List Value)
  | .agg cs => some cs.toList
  | .bool b => some [.bool b]
  | .int k n => some [.int k n]
  | .string s => some [.string s]
  | .pointer a => some [.pointer a]
  | .slice a m n => some [.slice a m n]
  | .map r => some [.map r]
  | .func f a b => some [.func f a b]
  | .nilFunc => some [.nilFunc]
  | .iface t v => some [.iface t v]
  | .nilIface => some [.nilIface]
  | _ => none

theorem vcells_eq {v : Value} {l : List Value} (h : vcells v = some l) : v.cells = l.toArray := by
  unfold vcells at h
  split at h <;> simp_all [Value.cells]
  · subst h; simp
  all_goals subst h; rfl

def setsAt (c : List Value) (o : Nat) (vs : List Value) : List Value := (vs.zipIdx.foldl (fun cs (x : Value × Nat) => cs.setIfInBounds (o + x.2) x.1) c.toArray).toList

theorem putF_eq {β : Type} : ∀ (vs c : List Value) (o : Nat) (k : List Value → Option β) (v : β), putF c o vs k = some v →
    (vs ≠ [] → o + vs.length ≤ c.length) ∧ k (c.take o ++ vs ++ c.drop (o + vs.length)) = some v
  | [], c, o, k, v, h => by
    have h : k c = some v := by cases c <;> simpa [putF] using h
    exact ⟨fun h => absurd rfl h, by simpa using h⟩
  | v :: vs, [], o, k, u, h => by simp [putF] at h
  | v :: vs, x :: c, 0, k, u, h => by
    simp only [putF] at h
    obtain ⟨h1, h2⟩ := putF_eq vs c 0 _ u h
    refine ⟨fun _ => ?_, by simpa using h2⟩
    by_cases hv : vs = []
    · subst hv; simp
    · have := h1 hv; simp at this ⊢; omega
  | v :: vs, x :: c, o + 1, k, u, h => by
    simp only [putF] at h
    obtain ⟨h1, h2⟩ := putF_eq (v :: vs) c o _ u h
    refine ⟨fun _ => ?_, ?_⟩
    · have := h1 (by simp); simp at this ⊢; omega
    · rw [Nat.add_right_comm]; simpa using h2
  termination_by vs c => (vs.length, c.length)

theorem foldl_sets : ∀ (vs : List Value) (c : Array Value) (o k : Nat), o + k + vs.length ≤ c.size →
    ((vs.zipIdx k).foldl (fun cs (x : Value × Nat) => cs.setIfInBounds (o + x.2) x.1) c).toList = c.toList.take (o + k) ++ vs ++ c.toList.drop (o + k + vs.length)
  | [], c, o, k, _ => by simp
  | v :: vs, c, o, k, h => by
    simp only [List.length_cons] at h
    simp only [List.zipIdx_cons, List.foldl_cons]
    rw [foldl_sets vs _ o (k + 1) (by simp; omega)]
    obtain ⟨c⟩ := c
    simp only [List.setIfInBounds_toArray]
    simp at h
    have e1 : o + (k + 1) = o + k + 1 := by omega
    have e2 : o + (k + 1) + vs.length = o + k + (v :: vs).length := by simp; omega
    rw [e2, e1]
    have e3 : (c.set (o + k) v).take (o + k + 1) = c.take (o + k) ++ [v] := by
      rw [List.take_succ_eq_append_getElem (by simp; omega)]
      simp [List.take_set_of_le]
    have e4 : (c.set (o + k) v).drop (o + k + (v :: vs).length) = c.drop (o + k + (v :: vs).length) := by
      rw [List.drop_set_of_lt (by simp)]
    rw [e3, e4]
    simp

/-- A struct out of its parts. -/
def parts (e : Operand → Option Value) (place : Nat → Option (Nat × Nat)) : List Value → List (Nat × Operand) → Option Value
  | cells, [] => some (.agg cells.toArray)
  | cells, (i, x) :: ps => match place i, e x with
    | some (off, n), some v => match vcells v with
      | some vs => bif Nat.beq vs.length n then putF cells off vs fun cells' => parts e place cells' ps else none
      | none => none
    | _, _ => none

theorem parts_eq {e : Operand → Option Value} {place : Nat → Option (Nat × Nat)} (hn : ∀ i o n, place i = some (o, n) → 0 < n) : ∀ (ps : List (Nat × Operand)) (cells : List Value) (v : Value), parts e place cells ps = some v →
    ∀ ρ : Operand → Value, (∀ x ∈ ps, ∀ u, e x.2 = some u → ρ x.2 = u) → ∃ c, Instr.fill place cells.toArray (ps.map fun x => (x.1, ρ x.2)) = some c ∧ v = .agg c
  | [], cells, v, h, ρ, _ => ⟨cells.toArray, rfl, (Option.some.inj h).symm⟩
  | (i, x) :: ps, cells, v, h, ρ, hρ => by
    unfold parts at h
    split at h
    · rename_i off n u hpl hu
      split at h
      · rename_i vs hvs
        cases hb : Nat.beq vs.length n with
        | false => simp [hb] at h
        | true =>
          simp only [hb, cond_true] at h
          have hlen := Nat.eq_of_beq_eq_true hb
          obtain ⟨h1, h2⟩ := putF_eq vs cells off _ v h
          have hpos := hn i off n hpl
          have hne : vs ≠ [] := fun e => by rw [e] at hlen; simp at hlen; omega
          have hle := h1 hne
          obtain ⟨c, hc, hv⟩ := parts_eq hn ps _ v h2 ρ fun y hy => hρ y (List.mem_cons_of_mem _ hy)
          refine ⟨c, ?_, hv⟩
          have hx := hρ (i, x) List.mem_cons_self u hu
          simp only at hx
          simp only [List.map_cons, Instr.fill, hpl, hx, vcells_eq hvs]
          rw [if_neg (by simp; omega)]
          rw [← hc]
          congr 1
          have := foldl_sets vs cells.toArray off 0 (by simp; omega)
          simp only [Nat.add_zero] at this
          rw [← Array.toList_inj, ← Array.foldl_toList]
          simpa using this
      · cases h
    · cases h

/-- Operations that only reckon. -/
def qv (T : Tab) (e : Operand → Option Value) : Op → Option Value
  | .move x => e x
  | .assign x => e x
  | .pick c a b => match e c, e a, e b with
    | some (.bool c), some (.bool x), some (.bool y) => some (.bool (cond c x y))
    | some (.bool c), some x, some y => match c with
      | true => some x
      | false => some y
    | _, _, _ => none
  | .binOp op t x y _ => match e x, e y with
    | some (.int k a), some (.int l b) => match op with
      | .shl => shop .shl k a b
      | .shr => shop .shr k a b
      | op => bif ikEq k l then iop op k a b else none
    | some (.string a), some (.string b) => sop op a b
    | some (.bool a), some (.bool b) => eop T op t (.bool a) (.bool b)
    | some (.pointer a), some (.pointer b) => eop T op t (.pointer a) (.pointer b)
    | some (.slice a m n), some (.slice b m' n') => eop T op t (.slice a m n) (.slice b m' n')
    | _, _ => none
  | .unOp op _ x => match op, e x with
    | .not, some (.bool b) => some (.bool !b)
    | .neg, some (.int k n) => some (.int k (k.wrap (0 - n)))
    | _, _ => none
  | .convert s d x => match lookT T s, lookT T d, e x with
    | some _, some ⟨.int k, _, _, _⟩, some (.int _ n) => some (.int k (k.wrap n))
    | some ⟨.str, _, _, _⟩, some ⟨.str, _, _, _⟩, some (.string s) => some (.string s)
    | _, _, _ => none
  | .nilCheck x => match e x with
    | some (.pointer (some a)) => some (.pointer (some a))
    | some (.func (.func f) a b) => some (.func (.func f) a b)
    | some (.func (.yield f) a b) => some (.func (.yield f) a b)
    | _ => none
  | .fieldAddr s x f => match lookT T s, e x with
    | some ⟨.struct fs, _, _, _⟩, some (.pointer (some a)) => match nth fs f with
      | some (o, _, _) => match addOff a o with
        | some c => some (.pointer (some c))
        | none => none
      | none => none
    | _, _ => none
  | .field s x f => match lookT T s, e x with
    | some ⟨.struct fs, _, _, _⟩, some (.agg cs) => match nth fs f with
      | some (o, t, n) => match lookT T t with
        | some ⟨.struct _, _, _, _⟩ => cutF cs.toList o n fun l => some (.agg l.toArray)
        | some ⟨.arr _ _, _, _, _⟩ => cutF cs.toList o n fun l => some (.agg l.toArray)
        | some ⟨.other, _, _, _⟩ => none
        | some _ => nth cs.toList o
        | none => none
      | none => none
    | _, _ => none
  | .build t ps => match lookT T t with
    | some ⟨.struct fs, _, _, zero⟩ => parts e (fun i => match nth fs i with | some (o, _, n) => some (o, n) | none => none) zero ps.toList
    | some ⟨.arr _ el, _, _, zero⟩ => match lookT T el with
      | some r => bif Nat.beq r.size 0 then none else parts e (fun i => some (i * r.size, r.size)) zero ps.toList
      | none => none
    | _ => none
  | .extract x i => match e x with
    | some (.tuple vs) => nth vs.toList i
    | _ => none
  | .makeFunc fn first cap => evs e first.toList fun fs => evs e cap.toList fun cs => some (.func fn fs.toArray cs.toArray)
  | .call ⟨.builtin .len, args, tys⟩ => match args.toList, tys.toList with
    | [x], [t] => match lookT T t, e x with
      | some ⟨.str, _, _, _⟩, some (.string s) => some (.int .i64 s.size)
      | some ⟨.slice _, _, _, _⟩, some (.slice _ n _) => some (.int .i64 n)
      | some ⟨.arr n _, _, _, _⟩, some _ => some (.int .i64 n)
      | _, _ => none
    | _, _ => none
  | .call ⟨.builtin .min, args, _⟩ => match args.toList with
    | [x, y] => match e x, e y with
      | some (.int k a), some (.int _ b) => some (.int k (if b < a then b else a))
      | _, _ => none
    | _ => none
  | .call ⟨.builtin .max, args, _⟩ => match args.toList with
    | [x, y] => match e x, e y with
      | some (.int k a), some (.int _ b) => some (.int k (if a < b then b else a))
      | _, _ => none
    | _ => none
  | _ => none
end Go.Proofs.YtijaglinajfplaaGreatDoor
