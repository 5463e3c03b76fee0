/-
  Contracts of the small functions of cmp and of the packages lineage, object.
  Comparisons that order: numbers, texts, lists, pairs; no program in sight.
  Names of processes: the ordinals of a text, and that the order of names is one; no program in sight.
  Contracts of the package codec: writing.
  Contracts of the package codec: reading.
  Contracts of the package codec: the reader.
  Contracts of the package lineage.
  Contracts of the package lineage: Parse, Valid, Ordinals, Compare.
  Search trees of names and values, and the sorted lists that they hold; no program in sight.
  Conditions: those that each theorem states.
-/
import Derived.Test.YtgaipgbgppdfeaaGreatDoorMB
namespace Go.Proofs.YtgaipgbgppdfeaaGreatDoor
open Go.RowKit

/-- A result, nothing else. -/
def RetV (v : Value) : Post := ⟨Unit, fun _ => v, fun _ => True, fun _ => [], fun _ => []⟩

theorem isNaN_int (x : Int) : Enters 243 ∧ Spec Tryz.prog 243 #[.int .i64 x] [] [] (RetV (.bool false)) := by
  refine ⟨enters_of Tryz.func243 (by kernel_rfl) rfl, spec_of (vs := [_]) Tryz.func243 rfl Tryz.ntmps243 rfl fun G w hp => ?_⟩
  repeat' (first | refine l_run ?_ | refine l_nil ?_ | refine l_one ?_ | refine k_reg ?_ | refine l_ld ?_ | refine l_ldF ?_ | refine l_st ?_ | refine l_al (fun b => ?_) | refine l_bs (fun b => ?_) | refine k_condT ?_ | refine k_condF ?_ | refine k_brk ?_ | refine l_split (fun hc => ?_) (fun hc => ?_) | refine k_cond (fun hc => ?_) (fun hc => ?_))
  refine k_ret () ?_ trivial
  simp [RetV, resV]
theorem isNaN_str (x : ByteArray) : Enters 246 ∧ Spec Tryz.prog 246 #[.string x] [] [] (RetV (.bool false)) := by
  refine ⟨enters_of Tryz.func246 (by kernel_rfl) rfl, spec_of (vs := [_]) Tryz.func246 rfl Tryz.ntmps246 rfl fun G w hp => ?_⟩
  repeat' (first | refine l_run ?_ | refine l_nil ?_ | refine l_one ?_ | refine k_reg ?_ | refine l_ld ?_ | refine l_ldF ?_ | refine l_st ?_ | refine l_al (fun b => ?_) | refine l_bs (fun b => ?_) | refine k_condT ?_ | refine k_condF ?_ | refine k_brk ?_ | refine l_split (fun hc => ?_) (fun hc => ?_) | refine k_cond (fun hc => ?_) (fun hc => ?_))
  refine k_ret () ?_ trivial
  simp [RetV, resV]
theorem isNaN_lin (x : ByteArray) : Enters 260 ∧ Spec Tryz.prog 260 #[.string x] [] [] (RetV (.bool false)) := by
  refine ⟨enters_of Tryz.func260 (by kernel_rfl) rfl, spec_of (vs := [_]) Tryz.func260 rfl Tryz.ntmps260 rfl fun G w hp => ?_⟩
  repeat' (first | refine l_run ?_ | refine l_nil ?_ | refine l_one ?_ | refine k_reg ?_ | refine l_ld ?_ | refine l_ldF ?_ | refine l_st ?_ | refine l_al (fun b => ?_) | refine l_bs (fun b => ?_) | refine k_condT ?_ | refine k_condF ?_ | refine k_brk ?_ | refine l_split (fun hc => ?_) (fun hc => ?_) | refine k_cond (fun hc => ?_) (fun hc => ?_))
  refine k_ret () ?_ trivial
  simp [RetV, resV]

def cmpI (x y : Int) : Int := if x < y then -1 else if y < x then 1 else 0
/-- The order of texts, byte by byte. -/
def cmpS (x y : ByteArray) : Int := if Op.bytesLess x.toList y.toList then -1 else if x.toList = y.toList then 0 else 1

theorem cmp_int (x y : Int) : Enters 206 ∧ Spec Tryz.prog 206 #[.int .i64 x, .int .i64 y] [] [] (RetV (.int .i64 (cmpI x y))) := by
  refine ⟨enters_of Tryz.func206 (by kernel_rfl) rfl, spec_of (vs := [_, _]) Tryz.func206 rfl Tryz.ntmps206 rfl fun G w hp => ?_⟩
  repeat' (first | refine l_run ?_ | refine l_nil ?_ | refine l_one ?_ | refine k_reg ?_ | refine l_ld ?_ | refine l_ldF ?_ | refine l_st ?_ | refine l_al (fun b => ?_) | refine l_bs (fun b => ?_) | refine k_condT ?_ | refine k_condF ?_ | refine k_brk ?_ | refine l_call (isNaN_int _) (fun _ _ => ?_) | refine l_call0 (isNaN_int _) (fun _ _ => ?_) | refine l_split (fun hc => ?_) (fun hc => ?_) | refine k_cond (fun hc => ?_) (fun hc => ?_))
  all_goals
    refine k_ret () ?_ trivial
    simp_all [RetV, resV, cmpI]
  all_goals (repeat' split) <;> omega
theorem cmp_str (x y : ByteArray) : Enters 209 ∧ Spec Tryz.prog 209 #[.string x, .string y] [] [] (RetV (.int .i64 (cmpS x y))) := by
  refine ⟨enters_of Tryz.func209 (by kernel_rfl) rfl, spec_of (vs := [_, _]) Tryz.func209 rfl Tryz.ntmps209 rfl fun G w hp => ?_⟩
  repeat' (first | refine l_run ?_ | refine l_nil ?_ | refine l_one ?_ | refine k_reg ?_ | refine l_ld ?_ | refine l_ldF ?_ | refine l_st ?_ | refine l_al (fun b => ?_) | refine l_bs (fun b => ?_) | refine k_condT ?_ | refine k_condF ?_ | refine k_brk ?_ | refine l_call (isNaN_str _) (fun _ _ => ?_) | refine l_call0 (isNaN_str _) (fun _ _ => ?_) | refine l_split (fun hc => ?_) (fun hc => ?_) | refine k_cond (fun hc => ?_) (fun hc => ?_))
  all_goals
    refine k_ret () ?_ trivial
    simp_all [RetV, resV, cmpS]
theorem cmp_lin (x y : ByteArray) : Enters 245 ∧ Spec Tryz.prog 245 #[.string x, .string y] [] [] (RetV (.int .i64 (cmpS x y))) := by
  refine ⟨enters_of Tryz.func245 (by kernel_rfl) rfl, spec_of (vs := [_, _]) Tryz.func245 rfl Tryz.ntmps245 rfl fun G w hp => ?_⟩
  repeat' (first | refine l_run ?_ | refine l_nil ?_ | refine l_one ?_ | refine k_reg ?_ | refine l_ld ?_ | refine l_ldF ?_ | refine l_st ?_ | refine l_al (fun b => ?_) | refine l_bs (fun b => ?_) | refine k_condT ?_ | refine k_condF ?_ | refine k_brk ?_ | refine l_call (isNaN_lin _) (fun _ _ => ?_) | refine l_call0 (isNaN_lin _) (fun _ _ => ?_) | refine l_split (fun hc => ?_) (fun hc => ?_) | refine k_cond (fun hc => ?_) (fun hc => ?_))
  all_goals
    refine k_ret () ?_ trivial
    simp_all [RetV, resV, cmpS]

theorem isDigit_ok (x : Int) : Enters 257 ∧ Spec Tryz.prog 257 #[.int .u8 x] [] [] (RetV (.bool (decide (48 ≤ x) && decide (x ≤ 57)))) := by
  refine ⟨enters_of Tryz.func257 (by kernel_rfl) rfl, spec_of (vs := [_]) Tryz.func257 rfl Tryz.ntmps257 rfl fun G w hp => ?_⟩
  repeat' (first | refine l_run ?_ | refine l_nil ?_ | refine l_one ?_ | refine k_reg ?_ | refine l_ld ?_ | refine l_ldF ?_ | refine l_st ?_ | refine l_al (fun b => ?_) | refine l_bs (fun b => ?_) | refine k_condT ?_ | refine k_condF ?_ | refine k_brk ?_ | refine l_split (fun hc => ?_) (fun hc => ?_) | refine k_cond (fun hc => ?_) (fun hc => ?_))
  all_goals (refine k_ret () ?_ trivial; simp_all [RetV, resV] <;> omega)
theorem isKind_ok (x : Int) : Enters 182 ∧ Spec Tryz.prog 182 #[.int .i64 x] [] [] (RetV (.bool (decide (1 ≤ x) && decide (x ≤ 20)))) := by
  refine ⟨enters_of Tryz.func182 (by kernel_rfl) rfl, spec_of (vs := [_]) Tryz.func182 rfl Tryz.ntmps182 rfl fun G w hp => ?_⟩
  repeat' (first | refine l_run ?_ | refine l_nil ?_ | refine l_one ?_ | refine k_reg ?_ | refine l_ld ?_ | refine l_ldF ?_ | refine l_st ?_ | refine l_al (fun b => ?_) | refine l_bs (fun b => ?_) | refine k_condT ?_ | refine k_condF ?_ | refine k_brk ?_ | refine l_split (fun hc => ?_) (fun hc => ?_) | refine k_cond (fun hc => ?_) (fun hc => ?_))
  all_goals (refine k_ret () ?_ trivial; simp_all [RetV, resV] <;> omega)
theorem within_ok (x m : Int) : Enters 183 ∧ Spec Tryz.prog 183 #[.int .i64 x, .int .i64 m] [] [] (RetV (.bool (decide (0 ≤ x) && decide (x ≤ m)))) := by
  refine ⟨enters_of Tryz.func183 (by kernel_rfl) rfl, spec_of (vs := [_, _]) Tryz.func183 rfl Tryz.ntmps183 rfl fun G w hp => ?_⟩
  repeat' (first | refine l_run ?_ | refine l_nil ?_ | refine l_one ?_ | refine k_reg ?_ | refine l_ld ?_ | refine l_ldF ?_ | refine l_st ?_ | refine l_al (fun b => ?_) | refine l_bs (fun b => ?_) | refine k_condT ?_ | refine k_condF ?_ | refine k_brk ?_ | refine l_split (fun hc => ?_) (fun hc => ?_) | refine k_cond (fun hc => ?_) (fun hc => ?_))
  all_goals (refine k_ret () ?_ trivial; simp_all [RetV, resV] <;> omega)
/-- The name of an object. -/
structure Nm where
  kind : Int
  owner : ByteArray
  number : Int
  index : Int
  text : ByteArray
def Nm.v (a : Nm) : Value := .agg #[.int .i64 a.kind, .string a.owner, .int .i64 a.number, .int .i64 a.index, .string a.text]

end Go.Proofs.YtgaipgbgppdfeaaGreatDoor

namespace Go.Proofs.YtgaipgbgppdfeaaGreatDoor
open Go.RowKit

/-- A comparison that orders. -/
structure Ord3 {α : Type} (c : α → α → Int) : Prop where
  eq : ∀ a b, c a b = 0 ↔ a = b
  anti : ∀ a b, c a b < 0 ↔ 0 < c b a
  trans : ∀ a b d, c a b < 0 → c b d < 0 → c a d < 0

theorem Ord3.self {α : Type} {c : α → α → Int} (h : Ord3 c) (a : α) : c a a = 0 := (h.eq a a).2 rfl

theorem ord_int : Ord3 cmpI := by
  constructor
  · intro a b; unfold cmpI; split <;> (try split) <;> omega
  · intro a b; unfold cmpI; split <;> (try split) <;> (try split) <;> (try split) <;> omega
  · intro a b d; unfold cmpI; split <;> split <;> (try split) <;> (try split) <;> (try split) <;> (try split) <;> omega

theorem bytesLess_eq : ∀ (x y : List UInt8), Op.bytesLess x y = decide (x < y)
  | [], [] => by simp [Op.bytesLess]
  | _ :: _, [] => by simp [Op.bytesLess]
  | [], _ :: _ => by simp [Op.bytesLess]
  | a :: x, b :: y => by
    rw [Op.bytesLess, bytesLess_eq x y]
    simp only [List.cons_lt_cons_iff]
    by_cases h1 : a < b <;> by_cases h2 : a = b <;> by_cases h3 : x < y <;> simp [h1, h2, h3]
theorem toList_data (s : ByteArray) : s.toList = s.data.toList := ByteArray.toList_eq s
theorem ba_ext {a b : ByteArray} (h : a.data.toList = b.data.toList) : a = b := by
  obtain ⟨⟨a⟩⟩ := a; obtain ⟨⟨b⟩⟩ := b; simp at h; subst h; rfl

theorem cmpS_eq (x y : ByteArray) : cmpS x y = if x.data.toList < y.data.toList then -1 else if x = y then 0 else 1 := by
  unfold cmpS
  rw [bytesLess_eq, toList_data, toList_data]
  by_cases h : x.data.toList < y.data.toList
  · simp [h]
  · simp only [h, decide_false, Bool.false_eq_true, if_false]
    by_cases h2 : x = y
    · simp [h2]
    · rw [if_neg (fun e => h2 (ba_ext e)), if_neg h2]

theorem ord_str : Ord3 cmpS := by
  have irr : ∀ a : List UInt8, ¬ a < a := List.lt_irrefl
  have tr : ∀ a b c : List UInt8, a < b → b < c → a < c := fun a b c h k => List.lt_trans h k
  have tri : ∀ a b : ByteArray, ¬ a.data.toList < b.data.toList → a ≠ b → b.data.toList < a.data.toList := fun a b h hne => by
    refine Decidable.byContradiction fun k => hne (ba_ext ?_)
    exact List.le_antisymm (List.not_lt.1 k) (List.not_lt.1 h)
  constructor
  · intro a b
    rw [cmpS_eq]
    by_cases h : a.data.toList < b.data.toList
    · simp only [h, if_true]
      constructor
      · intro e; omega
      · intro e; subst e; exact absurd h (irr _)
    · simp only [h, if_false]
      by_cases h2 : a = b <;> simp [h2]
  · intro a b
    rw [cmpS_eq, cmpS_eq]
    by_cases h : a.data.toList < b.data.toList
    · have h2 : ¬ b.data.toList < a.data.toList := fun k => irr _ (tr _ _ _ h k)
      have h3 : b ≠ a := fun e => by subst e; exact irr _ h
      simp [h, h2, h3]
    · simp only [h, if_false]
      by_cases h2 : a = b
      · subst h2; simp [irr]
      · have := tri a b h h2
        simp [h2, this]
  · intro a b d
    rw [cmpS_eq, cmpS_eq, cmpS_eq]
    intro h1 h2
    have h1' : a.data.toList < b.data.toList := by
      by_cases h : a.data.toList < b.data.toList
      · exact h
      · simp only [h, if_false] at h1; split at h1 <;> omega
    have h2' : b.data.toList < d.data.toList := by
      by_cases h : b.data.toList < d.data.toList
      · exact h
      · simp only [h, if_false] at h2; split at h2 <;> omega
    simp [tr _ _ _ h1' h2']

/-- First by one comparison, then by another. -/
def lex {α β : Type} (c : α → α → Int) (d : β → β → Int) (x y : α × β) : Int := if c x.1 y.1 ≠ 0 then c x.1 y.1 else d x.2 y.2
theorem ord_lex {α β : Type} {c : α → α → Int} {d : β → β → Int} (hc : Ord3 c) (hd : Ord3 d) : Ord3 (lex c d) := by
  constructor
  · rintro ⟨a, a'⟩ ⟨b, b'⟩
    unfold lex
    dsimp only
    have := hc.eq a b
    have := hd.eq a' b'
    simp only [Prod.mk.injEq]
    split <;> simp_all
  · rintro ⟨a, a'⟩ ⟨b, b'⟩
    unfold lex
    dsimp only
    have h1 := hc.eq a b
    have h2 := hc.eq b a
    have h3 := hc.anti a b
    have h4 := hd.anti a' b'
    by_cases h : a = b
    · subst h; simp [h1.2 rfl, h4]
    · rw [if_pos (fun e => h (h1.1 e)), if_pos (fun e => h (h2.1 e).symm)]; exact h3
  · rintro ⟨a, a'⟩ ⟨b, b'⟩ ⟨e, e'⟩
    unfold lex
    dsimp only
    have h1 := hc.eq a b
    have h2 := hc.eq b e
    have h3 := hc.eq a e
    have h4 := hc.trans a b e
    have h5 := hd.trans a' b' e'
    by_cases hab : a = b
    · subst hab
      rw [if_neg (by simp [h1.2 rfl])]
      by_cases hbe : a = e
      · subst hbe; rw [if_neg (by simp [h1.2 rfl]), if_neg (by simp [h1.2 rfl])]; exact h5
      · rw [if_pos (fun x => hbe (h2.1 x))]; exact fun _ h => by rw [if_pos (by omega)]; exact h
    · rw [if_pos (fun x => hab (h1.1 x))]
      by_cases hbe : b = e
      · subst hbe
        rw [if_neg (by simp [h2.2 rfl]), if_pos (fun x => hab (h1.1 x))]; exact fun h _ => h
      · rw [if_pos (fun x => hbe (h2.1 x))]
        intro k1 k2
        have k3 := h4 k1 k2
        rw [if_pos (by omega)]; exact k3

/-- A comparison seen through a function that keeps things apart. -/
theorem ord_map {α β : Type} {c : β → β → Int} (hc : Ord3 c) (f : α → β) (hf : ∀ a b, f a = f b → a = b) : Ord3 fun a b => c (f a) (f b) :=
  ⟨fun a b => (hc.eq _ _).trans ⟨hf a b, fun h => by rw [h]⟩, fun _ _ => hc.anti _ _, fun _ _ _ => hc.trans _ _ _⟩

/-- Lists of numbers, one after the other. -/
def cmpL : List Int → List Int → Int
  | [], [] => 0
  | [], _ :: _ => -1
  | _ :: _, [] => 1
  | a :: x, b :: y => if cmpI a b ≠ 0 then cmpI a b else cmpL x y

theorem ord_list : Ord3 cmpL := by
  have e : ∀ a b, cmpL a b = 0 ↔ a = b := by
    intro a
    induction a with
    | nil => intro b; cases b <;> simp [cmpL]
    | cons x a ih =>
      intro b
      cases b with
      | nil => simp [cmpL]
      | cons y b =>
        have := ord_int.eq x y
        have := ih b
        unfold cmpL
        split <;> simp_all
  refine ⟨e, ?_, ?_⟩
  · intro a
    induction a with
    | nil => intro b; cases b <;> simp [cmpL]
    | cons x a ih =>
      intro b
      cases b with
      | nil => simp [cmpL]
      | cons y b =>
        have h1 := ord_int.eq x y
        have h2 := ord_int.eq y x
        have h3 := ord_int.anti x y
        have h4 := ih b
        unfold cmpL
        by_cases h : x = y
        · subst h; simp [h1.2 rfl, h4]
        · rw [if_pos (fun e => h (h1.1 e)), if_pos (fun e => h (h2.1 e).symm)]; exact h3
  · intro a
    induction a with
    | nil =>
      intro b d h1 h2
      cases d with
      | nil => cases b <;> simp [cmpL] at h1 h2
      | cons => simp [cmpL]
    | cons x a ih =>
      intro b d
      cases b with
      | nil => simp [cmpL]
      | cons y b =>
        cases d with
        | nil => simp [cmpL]
        | cons z d =>
          have h1 := ord_int.eq x y
          have h2 := ord_int.eq y z
          have h3 := ord_int.eq x z
          have h4 := ord_int.trans x y z
          have h5 := ih b d
          unfold cmpL
          by_cases hab : x = y
          · subst hab
            rw [if_neg (by simp [h1.2 rfl])]
            by_cases hbe : x = z
            · subst hbe; rw [if_neg (by simp [h1.2 rfl]), if_neg (by simp [h1.2 rfl])]; exact h5
            · rw [if_pos (fun x => hbe (h2.1 x))]; exact fun _ h => by rw [if_pos (by omega)]; exact h
          · rw [if_pos (fun x => hab (h1.1 x))]
            by_cases hbe : y = z
            · subst hbe
              rw [if_neg (by simp [h2.2 rfl]), if_pos (fun x => hab (h1.1 x))]; exact fun h _ => h
            · rw [if_pos (fun x => hbe (h2.1 x))]
              intro k1 k2
              have k3 := h4 k1 k2
              rw [if_pos (by omega)]; exact k3
end Go.Proofs.YtgaipgbgppdfeaaGreatDoor

namespace Go.Proofs.YtgaipgbgppdfeaaGreatDoor
open Go.RowKit

def isDig (c : UInt8) : Bool := decide (48 ≤ c.toNat) && decide (c.toNat ≤ 57)
/-- The digits that are looked at, seven at most. -/
def digs (l : List UInt8) : List UInt8 := (l.take 7).takeWhile isDig
def dnum (l : List UInt8) : Nat := l.foldl (fun n c => n * 10 + (c.toNat - 48)) 0

/-- An ordinal of a text, or an error. -/
structure Prt where
  ord : Nat
  pos : Nat
  e : Int

def ferr (l : List UInt8) (count : Nat) : Int :=
  if count = 8 then 9 else if l = [] then 4 else if digs l = [] then 6 else if l.head? = some 48 then 3 else if 6 < (digs l).length then 2 else 0

theorem digs_len (l : List UInt8) : (digs l).length ≤ 7 ∧ (digs l).length ≤ l.length := by
  have h1 : (digs l).length ≤ (l.take 7).length := (List.takeWhile_prefix isDig).length_le
  simp at h1
  omega
theorem digs_pre (l : List UInt8) : digs l = l.take (digs l).length := by
  have h1 : digs l <+: l.take 7 := List.takeWhile_prefix isDig
  have h2 := List.prefix_iff_eq_take.1 h1
  rw [List.take_take, Nat.min_eq_left (digs_len l).1] at h2
  exact h2
theorem digs_all (l : List UInt8) : ∀ c ∈ digs l, isDig c = true := fun c hc => by
  have := List.all_takeWhile (p := isDig) (l := l.take 7)
  exact List.all_eq_true.1 this c hc

def prts (l : List UInt8) (pos count : Nat) : List Prt :=
  if ferr l count ≠ 0 then [⟨0, pos, ferr l count⟩]
  else match h : l.drop (digs l).length with
    | [] => [⟨dnum (digs l), pos, 0⟩]
    | c :: rest => if c ≠ 46 then [⟨dnum (digs l), pos, 0⟩, ⟨0, pos + (digs l).length, 6⟩] else ⟨dnum (digs l), pos, 0⟩ :: prts rest (pos + (digs l).length + 1) (count + 1)
termination_by l.length
decreasing_by
  have := congrArg List.length h
  simp at this; omega

def lparts (s : List UInt8) : List Prt := if s = [] then [] else prts s 0 0
def lvalid (s : List UInt8) : Bool := (lparts s).all fun p => p.e == 0
def lords (s : List UInt8) : List Int := if lvalid s then (lparts s).map fun p => (p.ord : Int) else []

theorem dnum_snoc (l : List UInt8) (c : UInt8) : dnum (l ++ [c]) = dnum l * 10 + (c.toNat - 48) := by simp [dnum]
theorem dig_inj {a b : UInt8} (ha : isDig a = true) (hb : isDig b = true) (h : a.toNat - 48 = b.toNat - 48) : a = b := by
  simp [isDig] at ha hb
  exact UInt8.toNat_inj.1 (by omega)
theorem dig_lt {a : UInt8} (ha : isDig a = true) : a.toNat - 48 < 10 := by simp [isDig] at ha; omega
theorem foldl_pos (l : List UInt8) : ∀ n, 0 < n → 0 < l.foldl (fun n c => n * 10 + (c.toNat - 48)) n := by
  induction l with
  | nil => intro n h; exact h
  | cons c l ih => intro n h; exact ih _ (show 0 < n * 10 + (c.toNat - 48) by omega)
theorem dnum_pos {c : UInt8} {l : List UInt8} (hc : isDig c = true) (h0 : c ≠ 48) : 0 < dnum (c :: l) := by
  unfold dnum
  simp only [List.foldl_cons]
  refine foldl_pos l _ ?_
  have : c.toNat ≠ 48 := fun e => h0 (UInt8.toNat_inj.1 e)
  simp [isDig] at hc
  omega

theorem dnum_inj : ∀ (n : Nat) (a b : List UInt8), a.length = n → (∀ c ∈ a, isDig c = true) → (∀ c ∈ b, isDig c = true) → a.head? ≠ some 48 → b.head? ≠ some 48 → dnum a = dnum b → a = b := by
  intro n
  induction n with
  | zero =>
    intro a b hn ha hb h0 h1 h
    cases a with
    | cons => simp at hn
    | nil =>
      cases b with
      | nil => rfl
      | cons c b =>
        have := dnum_pos (l := b) (hb c (by simp)) (fun e => h1 (by simp [e]))
        rw [← h] at this
        simp [dnum] at this
  | succ n ih =>
    intro a b hn ha hb h0 h1 h
    have hane : a ≠ [] := fun e => by subst e; simp at hn
    have hbne : b ≠ [] := fun e => by
      subst e
      cases a with
      | nil => exact hane rfl
      | cons c a =>
        have := dnum_pos (l := a) (ha c (by simp)) (fun e => h0 (by simp [e]))
        rw [h] at this
        simp [dnum] at this
    have ea := List.dropLast_concat_getLast hane
    have eb := List.dropLast_concat_getLast hbne
    rw [← ea, ← eb] at h ⊢
    rw [dnum_snoc, dnum_snoc] at h
    have ka := ha _ (List.getLast_mem hane)
    have kb := hb _ (List.getLast_mem hbne)
    have la := dig_lt ka
    have lb := dig_lt kb
    have hh : ∀ l : List UInt8, l.head? ≠ some 48 → l.dropLast.head? ≠ some 48 := fun l hl => by
      cases l with
      | nil => simp
      | cons c l =>
        cases l with
        | nil => simp
        | cons d l => simpa using hl
    have e1 : a.dropLast = b.dropLast := ih _ _ (by simp [hn]) (fun c hc => ha c (List.dropLast_subset _ hc)) (fun c hc => hb c (List.dropLast_subset _ hc)) (hh _ h0) (hh _ h1) (by omega)
    rw [e1, dig_inj ka kb (by omega)]

theorem prts_ne (l : List UInt8) (pos count : Nat) : prts l pos count ≠ [] := by
  unfold prts
  split
  · simp
  · split
    · simp
    · split <;> simp

/-- What is known where the parts are all good. -/
theorem prts_ok {l : List UInt8} {pos count : Nat} (h : ∀ p ∈ prts l pos count, p.e = 0) :
    digs l ≠ [] ∧ l.head? ≠ some 48 ∧ ((l = digs l ∧ prts l pos count = [⟨dnum (digs l), pos, 0⟩]) ∨
      ∃ rest, l = digs l ++ 46 :: rest ∧ prts l pos count = ⟨dnum (digs l), pos, 0⟩ :: prts rest (pos + (digs l).length + 1) (count + 1)) := by
  have hp := digs_pre l
  have hl := digs_len l
  have key : ferr l count = 0 → digs l ≠ [] ∧ l.head? ≠ some 48 := fun e => by
    unfold ferr at e
    split at e
    · cases e
    · split at e
      · cases e
      · split at e
        · cases e
        · split at e
          · cases e
          · rename_i h1 h2; exact ⟨h1, h2⟩
  unfold prts at h ⊢
  split at h
  · rename_i h1
    exact absurd (h _ (List.mem_singleton.2 rfl)) h1
  · rename_i h1
    rw [if_neg h1]
    have h1 : ferr l count = 0 := Decidable.not_not.1 h1
    refine ⟨(key h1).1, (key h1).2, ?_⟩
    split at h
    · rename_i h2
      left
      have h3 : l.length ≤ (digs l).length := by simpa using h2
      refine ⟨?_, ?_⟩
      · rw [hp]
        exact (List.take_of_length_le h3).symm
      · rfl
    · rename_i c rest h2
      right
      split at h
      · have := h ⟨0, pos + (digs l).length, 6⟩ (by simp)
        cases this
      · rename_i hc
        have hc : c = 46 := Decidable.not_not.1 hc
        subst hc
        refine ⟨rest, ?_, ?_⟩
        · rw [← h2]
          conv => lhs; rw [← List.take_append_drop (digs l).length l]
          rw [← hp]
        · rw [if_neg hc]
          congr 1
          rw [prts]

theorem digs_head (l : List UInt8) : digs l ≠ [] → (digs l).head? = l.head? := by
  intro h
  cases l with
  | nil => simp [digs] at h
  | cons c l =>
    have h2 : digs (c :: l) = (c :: l.take 6).takeWhile isDig := rfl
    rw [h2] at h ⊢
    rw [List.takeWhile_cons] at h ⊢
    split at h
    · rename_i hc; simp [hc]
    · exact absurd rfl h

theorem prts_inj : ∀ (n : Nat) (a b : List UInt8) (p q c d : Nat), a.length ≤ n → (∀ x ∈ prts a p c, x.e = 0) → (∀ x ∈ prts b q d, x.e = 0) → (prts a p c).map (fun x => (x.ord : Int)) = (prts b q d).map (fun x => (x.ord : Int)) → a = b := by
  intro n
  induction n with
  | zero =>
    intro a b p q c d hn ha
    obtain ⟨h1, _, _⟩ := prts_ok ha
    have : a = [] := List.length_eq_zero_iff.1 (by omega)
    subst this
    simp [digs] at h1
  | succ n ih =>
    intro a b p q c d hn ha hb h
    obtain ⟨a1, a2, a3⟩ := prts_ok ha
    obtain ⟨b1, b2, b3⟩ := prts_ok hb
    have key : dnum (digs a) = dnum (digs b) → digs a = digs b := fun e =>
      dnum_inj _ _ _ rfl (digs_all a) (digs_all b) (by rw [digs_head a a1]; exact a2) (by rw [digs_head b b1]; exact b2) e
    rcases a3 with ⟨e1, e2⟩ | ⟨ra, e1, e2⟩ <;> rcases b3 with ⟨f1, f2⟩ | ⟨rb, f1, f2⟩
    · rw [e2, f2] at h
      simp at h
      rw [e1, f1]; exact key (by omega)
    · rw [e2, f2] at h
      simp only [List.map_cons, List.map_nil, List.cons.injEq] at h
      have := h.2.symm
      rw [List.map_eq_nil_iff] at this
      exact absurd this (prts_ne _ _ _)
    · rw [e2, f2] at h
      simp only [List.map_cons, List.map_nil, List.cons.injEq] at h
      have := h.2
      rw [List.map_eq_nil_iff] at this
      exact absurd this (prts_ne _ _ _)
    · rw [e2] at ha h
      rw [f2] at hb h
      simp only [List.map_cons, List.cons.injEq] at h
      have hlen := congrArg List.length e1
      simp at hlen
      have e3 := ih ra rb _ _ _ _ (by omega) (fun x hx => ha x (by simp [hx])) (fun x hx => hb x (by simp [hx])) h.2
      rw [e1, f1, key (by omega), e3]

theorem lords_inj {a b : List UInt8} (ha : lvalid a = true) (hb : lvalid b = true) (h : lords a = lords b) : a = b := by
  unfold lords at h
  rw [if_pos ha, if_pos hb] at h
  unfold lvalid at ha hb
  rw [List.all_eq_true] at ha hb
  simp only [beq_iff_eq] at ha hb
  unfold lparts at *
  by_cases h1 : a = [] <;> by_cases h2 : b = []
  · rw [h1, h2]
  · rw [if_pos h1, if_neg h2] at h
    have := h.symm
    simp only [List.map_nil, List.map_eq_nil_iff] at this
    exact absurd this (prts_ne _ _ _)
  · rw [if_neg h1, if_pos h2] at h
    simp only [List.map_nil, List.map_eq_nil_iff] at h
    exact absurd h (prts_ne _ _ _)
  · rw [if_neg h1, if_neg h2] at h
    rw [if_neg h1] at ha
    rw [if_neg h2] at hb
    exact prts_inj _ a b _ _ _ _ (Nat.le_refl _) ha hb h

/-- The order of names of processes. -/
def cmpN (a b : ByteArray) : Int :=
  if a = b then 0 else match lvalid a.data.toList, lvalid b.data.toList with
    | true, true => cmpL (lords a.data.toList) (lords b.data.toList)
    | true, false => -1
    | false, true => 1
    | false, false => cmpS a b

def keyN (a : ByteArray) : Int × List Int × ByteArray := if lvalid a.data.toList then (0, lords a.data.toList, ⟨#[]⟩) else (1, [], a)
theorem keyN_inj (a b : ByteArray) (h : keyN a = keyN b) : a = b := by
  unfold keyN at h
  split at h <;> split at h
  · rename_i h1 h2
    simp only [Prod.mk.injEq, and_true, true_and] at h
    exact ba_ext (lords_inj h1 h2 h)
  · simp at h
  · simp at h
  · simp only [Prod.mk.injEq, true_and] at h
    exact h

theorem cmpN_key (a b : ByteArray) : cmpN a b = lex cmpI (lex cmpL cmpS) (keyN a) (keyN b) := by
  have ho := ord_lex ord_int (ord_lex ord_list ord_str)
  unfold cmpN
  by_cases h : a = b
  · subst h; rw [if_pos rfl]; exact (ho.self _).symm
  · rw [if_neg h]
    unfold keyN
    cases h1 : lvalid a.data.toList <;> cases h2 : lvalid b.data.toList
    · simp [lex, cmpI, cmpL]
    · simp [lex, cmpI]
    · simp [lex, cmpI]
    · have h3 : cmpS ⟨#[]⟩ ⟨#[]⟩ = 0 := ord_str.self _
      simp only [lex, cmpI, if_true, h3]
      by_cases h4 : cmpL (lords a.data.toList) (lords b.data.toList) = 0 <;> simp [h4]

theorem ord_lin : Ord3 cmpN := by
  have h := ord_map (ord_lex ord_int (ord_lex ord_list ord_str)) keyN keyN_inj
  have e : cmpN = fun a b => lex cmpI (lex cmpL cmpS) (keyN a) (keyN b) := by funext a b; exact cmpN_key a b
  rw [e]; exact h

/-- The order of names of objects. -/
def cmpO (a b : Nm) : Int :=
  if cmpI a.kind b.kind ≠ 0 then cmpI a.kind b.kind
  else if cmpN a.owner b.owner ≠ 0 then cmpN a.owner b.owner
  else if cmpI a.number b.number ≠ 0 then cmpI a.number b.number
  else if cmpI a.index b.index ≠ 0 then cmpI a.index b.index
  else cmpS a.text b.text

theorem ord_obj : Ord3 cmpO := by
  have h := ord_map (ord_lex ord_int (ord_lex ord_lin (ord_lex ord_int (ord_lex ord_int ord_str)))) (fun a : Nm => (a.kind, a.owner, a.number, a.index, a.text)) (by
    rintro ⟨a, b, c, d, e⟩ ⟨a', b', c', d', e'⟩ h
    simp only [Prod.mk.injEq] at h
    obtain ⟨rfl, rfl, rfl, rfl, rfl⟩ := h
    rfl)
  exact h
end Go.Proofs.YtgaipgbgppdfeaaGreatDoor

set_option maxRecDepth 10000
namespace Go.Proofs.YtgaipgbgppdfeaaGreatDoor
open Go.RowKit

/-- The encoding of a natural number: groups of seven bits. -/
def venc (u : Nat) : List UInt8 := if u < 128 then [UInt8.ofNat u] else UInt8.ofNat (u % 128 + 128) :: venc (u / 128)
termination_by u
decreasing_by omega

theorem venc_len (k : Nat) : ∀ u, u < 128 ^ (k + 1) → (venc u).length ≤ k + 1 := by
  induction k with
  | zero => intro u hu; unfold venc; rw [if_pos (by simpa using hu)]; simp
  | succ k ih =>
    intro u hu
    unfold venc
    split
    · simp
    · have := ih (u / 128) (by rw [Nat.div_lt_iff_lt_mul (by omega)]; rw [Nat.pow_succ] at hu; exact hu)
      simp; omega
theorem venc_len10 (u : Nat) (hu : u < 18446744073709551616) : (venc u).length ≤ 10 := venc_len 9 u (by simp only [Nat.reducePow, Nat.reduceAdd]; omega)

theorem wrap_u8 (u : Nat) : IntKind.u8.wrap (u : Int) = ((u % 256 : Nat) : Int) := by
  simp [IntKind.wrap, IntKind.bits, IntKind.signed]
theorem or_128 : ∀ x : Fin 256, x.val ||| 128 = x.val % 128 + 128 := by decide +kernel
theorem or128 (u : Nat) : IntKind.u8.wrap ((BitVec.ofInt IntKind.u8.bits (IntKind.u8.wrap (u : Int)) ||| BitVec.ofInt IntKind.u8.bits 128).toNat : Int) = ((u % 128 + 128 : Nat) : Int) := by
  have h := or_128 ⟨u % 256, by omega⟩
  simp only at h
  have hx : u % 256 % 2 ^ 8 = u % 256 := by omega
  have e : (BitVec.ofInt IntKind.u8.bits (IntKind.u8.wrap (u : Int)) ||| BitVec.ofInt IntKind.u8.bits 128).toNat = u % 256 ||| 128 := by
    rw [wrap_u8]
    show (BitVec.ofInt 8 ((u % 256 : Nat) : Int) ||| BitVec.ofInt 8 128).toNat = _
    rw [BitVec.toNat_or, BitVec.ofInt_natCast, BitVec.toNat_ofNat, hx]
    rfl
  rw [e, h, wrap_u8]
  congr 1; omega
theorem shr7 (u : Nat) : Int.fdiv (u : Int) (2 ^ (min (7 : Int).toNat IntKind.u64.bits)) = ((u / 128 : Nat) : Int) := by
  show Int.fdiv (u : Int) (2 ^ 7) = _
  rw [Int.fdiv_eq_ediv_of_nonneg _ (by decide)]
  omega

structure VX (m : Nat) (xs : List Value) (u0 : Nat) where
  o : Option Addr
  m1 : Nat
  cap : Nat
  ys : List Value
  u : Nat
  hk : ∃ pre, ys = xs ++ byt pre ∧ pre ++ venc u = venc u0 ∧ m1 = m + pre.length
  hu : u < 18446744073709551616

theorem appendNatural_ok (o : Option Addr) (m cap : Nat) (xs : List Value) (u : Nat) (hu : u < 18446744073709551616) (hm : m ≤ 1099511627776) :
    Enters 133 ∧ Spec Tryz.prog 133 #[.slice o m cap, .int .u64 (u : Int)] [] [Row 5 1 o m cap xs]
      ⟨Option Addr × Nat, fun q => .slice q.1 (m + (venc u).length) q.2, fun _ => True, fun _ => [], fun q => [Row 5 1 q.1 (m + (venc u).length) q.2 (xs ++ byt (venc u))]⟩ := by
  have hl0 := venc_len10 u hu
  refine ⟨enters_of Tryz.func133 (by kernel_rfl) rfl, spec_of (vs := [_, _]) Tryz.func133 rfl Tryz.ntmps133 rfl fun G w hp => ?_⟩
  repeat' (first | refine l_run ?_ | refine l_nil ?_ | refine l_one ?_ | refine k_reg ?_ | refine l_ld ?_ | refine l_ldF ?_ | refine l_st ?_ | refine l_al (fun b => ?_) | refine l_bs (fun b => ?_) | refine k_condT ?_ | refine k_condF ?_ | refine k_brk ?_ | refine l_split (fun hc => ?_) (fun hc => ?_) | refine k_cond (fun hc => ?_) (fun hc => ?_))
  refine k_lp (X := VX m xs u) (fun q => [(0, .slice q.o q.m1 q.cap), (1, .int .u64 (q.u : Int))]) (fun _ => []) (fun q => [Row 5 1 q.o q.m1 q.cap q.ys]) (fun q => q.u) ⟨o, m, cap, xs, u, ⟨[], by simp [byt], rfl, rfl⟩, hu⟩ ⟨rfl, rfl, trivial⟩ ?_
  rintro ⟨o, m1, cap, ys, v, ⟨pre, rfl, hv, rfl⟩, hvu⟩
  dsimp only
  have hl : pre.length + (venc v).length ≤ 10 := by rw [← List.length_append, hv]; exact hl0
  repeat' (first | refine l_run ?_ | refine l_nil ?_ | refine l_one ?_ | refine k_reg ?_ | refine l_ld ?_ | refine l_ldF ?_ | refine l_st ?_ | refine l_al (fun b => ?_) | refine l_bs (fun b => ?_) | refine k_condT ?_ | refine k_condF ?_ | refine k_brk ?_ | refine l_app1 (fun o' cap' => ?_) | rw [or128] | rw [shr7] | refine l_split (fun hc => ?_) (fun hc => ?_) | refine k_cond (fun hc => ?_) (fun hc => ?_))
  · have hv1 : 128 ≤ v := by simp at hc; omega
    have hv2 : venc v = UInt8.ofNat (v % 128 + 128) :: venc (v / 128) := by rw [venc, if_neg (by omega)]
    refine k_next ⟨o', m + pre.length + 1, cap', _, v / 128, ⟨pre ++ [UInt8.ofNat (v % 128 + 128)], ?_, by simp [← hv, hv2], by simp; omega⟩, by omega⟩ (by show v / 128 < v; omega) ⟨rfl, rfl, trivial⟩
    simp [byt]
    omega
  · have hv1 : v < 128 := by simp at hc; omega
    have hv2 : venc v = [UInt8.ofNat v] := by rw [venc, if_pos hv1]
    rw [hv2] at hv
    have e1 : xs ++ byt pre ++ #[Value.int .u8 (IntKind.u8.wrap (v : Int))].toList = xs ++ byt (venc u) := by
      rw [← hv, wrap_u8]; simp [byt]
    have e2 : m + pre.length + 1 = m + (venc u).length := by simp [← hv, Nat.add_assoc]
    rw [e1, e2]
    exact k_ret (o', cap') rfl trivial

/-- A writer of bytes that works. -/
def Wtr (b : Nat) (bs : List UInt8) : HP := fun h => ∃ q : Option Addr × Nat, Sep [Pt b (.cells #[.slice q.1 bs.length q.2, .int .i64 0] 322), Row 5 1 q.1 bs.length q.2 (byt bs)] h

variable {n : Nat} {C : Cx} {Q : Exit → Act → World → Prop} {E : List (Nat × Value)} {F : List Pf} {R R0 : List HP} {k : List Fr}
theorem k_wtr {b : Nat} {bs : List UInt8} (t : ∀ o cap, Wk n C k Q E F (Pt b (.cells #[.slice o bs.length cap, .int .i64 0] 322) :: Row 5 1 o bs.length cap (byt bs) :: R0)) (hs : Sel (Wtr b bs) R R0 := by (repeat (first | exact Sel.here | apply Sel.there)); first | done | fail) : Wk n C k Q E F R :=
  k_open (X := Option Addr × Nat) (p := fun _ => True) hs (fun _ ⟨q, h⟩ => ⟨q, trivial, h⟩) fun q _ => t q.1 q.2
theorem l_wtr {b : Nat} {bs : List UInt8} {ops l : List Oper} (t : ∀ o cap, Wl n C ops.toArray k Q l E F (Pt b (.cells #[.slice o bs.length cap, .int .i64 0] 322) :: Row 5 1 o bs.length cap (byt bs) :: R0)) (hs : Sel (Wtr b bs) R R0 := by (repeat (first | exact Sel.here | apply Sel.there)); first | done | fail) : Wl n C ops.toArray k Q l E F R :=
  l_open (X := Option Addr × Nat) (p := fun _ => True) hs (fun _ ⟨q, h⟩ => ⟨q, trivial, h⟩) fun q _ => t q.1 q.2
theorem k_wtr' {b : Nat} {bs : List UInt8} {o : Option Addr} {cap : Nat} (t : Wk n C k Q E F (Wtr b bs :: R0)) (hs : Sels [Pt b (.cells #[.slice o bs.length cap, .int .i64 0] 322), Row 5 1 o bs.length cap (byt bs)] R R0 := by (repeat (first | exact Sels.nil | exact Sel.here | apply Sel.there | apply Sels.cons)); first | done | fail) : Wk n C k Q E F R :=
  k_shut (fun _ h => ⟨(o, cap), h⟩) t hs

theorem newWriter_ok : Enters 192 ∧ Spec Tryz.prog 192 #[] [] [] ⟨Nat, fun b => .pointer (some ⟨b, 0, none⟩), fun _ => True, fun _ => [], fun b => [Wtr b []]⟩ := by
  refine ⟨enters_of Tryz.func192 (by kernel_rfl) rfl, spec_of (vs := []) Tryz.func192 rfl Tryz.ntmps192 rfl fun G w hp => ?_⟩
  repeat' (first | refine l_run ?_ | refine l_nil ?_ | refine l_one ?_ | refine k_reg ?_ | refine l_ld ?_ | refine l_ldF ?_ | refine l_st ?_ | refine l_al (fun b => ?_) | refine l_bs (fun b => ?_) | refine k_condT ?_ | refine k_condF ?_ | refine k_brk ?_ | refine l_split (fun hc => ?_) (fun hc => ?_) | refine k_cond (fun hc => ?_) (fun hc => ?_))
  refine k_shut (Lx := []) (r := Row 5 1 none 0 0 []) (fun h _ => row_nil _ _ h) ?_
  refine k_wtr' (bs := []) (o := none) (cap := 0) (b := b) ?_
  exact k_ret b rfl trivial

theorem wtrWorks_ok (b : Nat) (bs : List UInt8) : Enters 237 ∧ Spec Tryz.prog 237 #[.pointer (some ⟨b, 0, none⟩)] [] [Wtr b bs] ⟨Unit, fun _ => .bool true, fun _ => True, fun _ => [], fun _ => [Wtr b bs]⟩ := by
  refine ⟨enters_of Tryz.func237 (by kernel_rfl) rfl, spec_of (vs := [_]) Tryz.func237 rfl Tryz.ntmps237 rfl fun G w hp => ?_⟩
  refine k_wtr fun o cap => ?_
  repeat' (first | refine l_run ?_ | refine l_nil ?_ | refine l_one ?_ | refine k_reg ?_ | refine l_ld ?_ | refine l_ldF ?_ | refine l_st ?_ | refine l_al (fun b => ?_) | refine l_bs (fun b => ?_) | refine k_condT ?_ | refine k_condF ?_ | refine k_brk ?_ | refine l_split (fun hc => ?_) (fun hc => ?_) | refine k_cond (fun hc => ?_) (fun hc => ?_))
  refine k_wtr' ?_
  exact k_ret () rfl trivial

theorem wrap64 {u : Nat} (hu : u < 18446744073709551616) : IntKind.u64.wrap (u : Int) = (u : Int) := by
  simp [IntKind.wrap, IntKind.bits, IntKind.signed]; omega

theorem wtrNumber_ok (b : Nat) (bs : List UInt8) (u : Nat) (hu : u < 9223372036854775808) (hl : bs.length ≤ 1099511627776) : Enters 193 ∧ Spec Tryz.prog 193 #[.pointer (some ⟨b, 0, none⟩), .int .i64 (u : Int)] [] [Wtr b bs] ⟨Unit, fun _ => .tuple #[], fun _ => True, fun _ => [], fun _ => [Wtr b (bs ++ venc u)]⟩ := by
  have hu' : u < 18446744073709551616 := by omega
  refine ⟨enters_of Tryz.func193 (by kernel_rfl) rfl, spec_of (vs := [_, _]) Tryz.func193 rfl Tryz.ntmps193 rfl fun G w hp => ?_⟩
  repeat' (first | refine l_run ?_ | refine l_nil ?_ | refine l_one ?_ | refine k_reg ?_ | refine l_ld ?_ | refine l_ldF ?_ | refine l_st ?_ | refine l_al (fun b => ?_) | refine l_bs (fun b => ?_) | refine k_condT ?_ | refine k_condF ?_ | refine k_brk ?_ | refine l_call (wtrWorks_ok _ _) (fun _ _ => ?_) | refine l_call0 (wtrWorks_ok _ _) (fun _ _ => ?_) | refine l_call (appendNatural_ok _ _ _ _ _ (by omega) (by omega)) (fun _ _ => ?_) | refine l_call0 (appendNatural_ok _ _ _ _ _ (by omega) (by omega)) (fun _ _ => ?_) | refine l_wtr (fun o cap => ?_) | rw [wrap64 hu'] | refine l_split (fun hc => ?_) (fun hc => ?_) | refine k_cond (fun hc => ?_) (fun hc => ?_))
  rename_i q _
  rw [← List.length_append, ← byt_append]
  refine k_wtr' (o := q.1) (cap := q.2) ?_
  exact k_end () rfl trivial

theorem wtrText_ok (b : Nat) (bs : List UInt8) (s : ByteArray) (hs : s.size ≤ 16777216) (hl : bs.length ≤ 1000000000000) : Enters 194 ∧ Spec Tryz.prog 194 #[.pointer (some ⟨b, 0, none⟩), .string s] [] [Wtr b bs] ⟨Unit, fun _ => .tuple #[], fun _ => True, fun _ => [], fun _ => [Wtr b (bs ++ venc s.size ++ s.data.toList)]⟩ := by
  have hu' : s.size < 18446744073709551616 := by omega
  have hl0 := venc_len10 s.size hu'
  have hc : decide ((16777216 : Int) < (s.size : Int)) = false := by simp; omega
  refine ⟨enters_of Tryz.func194 (by kernel_rfl) rfl, spec_of (vs := [_, _]) Tryz.func194 rfl Tryz.ntmps194 rfl fun G w hp => ?_⟩
  repeat' (first | refine l_run ?_ | refine l_nil ?_ | refine l_one ?_ | refine k_reg ?_ | refine l_ld ?_ | refine l_ldF ?_ | refine l_st ?_ | refine l_al (fun b => ?_) | refine l_bs (fun b => ?_) | refine k_condT ?_ | refine k_condF ?_ | refine k_brk ?_ | refine l_call (wtrWorks_ok _ _) (fun _ _ => ?_) | refine l_call0 (wtrWorks_ok _ _) (fun _ _ => ?_) | refine l_call (appendNatural_ok _ bs.length _ _ s.size hu' (by omega)) (fun _ _ => ?_) | refine l_call0 (appendNatural_ok _ bs.length _ _ s.size hu' (by omega)) (fun _ _ => ?_) | refine l_wtr (fun o cap => ?_) | rw [wrap64 hu'] | rw [hc] | refine l_appS (fun o' cap' => ?_) | refine l_split (fun hc => ?_) (fun hc => ?_) | refine k_cond (fun hc => ?_) (fun hc => ?_))
  have e1 : bs.length + (venc s.size).length + s.size = (bs ++ venc s.size ++ s.data.toList).length := by simp; omega
  have e2 : (byt bs ++ byt (venc s.size) ++ s.data.toList.map fun b => .int .u8 b.toNat) = byt (bs ++ venc s.size ++ s.data.toList) := by simp [byt]
  rw [e1, e2]
  refine k_wtr' (o := o') (cap := cap') ?_
  exact k_end () rfl trivial

theorem clone_ok (o : Option Addr) (bs : List UInt8) (cap : Nat) (hl : bs.length ≤ 1099511627776) : Enters 134 ∧ Spec Tryz.prog 134 #[.slice o bs.length cap] [] [Row 5 1 o bs.length cap (byt bs)]
    ⟨Option Addr × Nat, fun q => .slice q.1 bs.length q.2, fun _ => True, fun _ => [], fun q => [Row 5 1 q.1 bs.length q.2 (byt bs), Row 5 1 o bs.length cap (byt bs)]⟩ := by
  refine ⟨enters_of Tryz.func134 (by kernel_rfl) rfl, spec_of (vs := [_]) Tryz.func134 rfl Tryz.ntmps134 rfl fun G w hp => ?_⟩
  cases o with
  | none =>
    refine k_open (X := Unit) (p := fun _ => bs = [] ∧ cap = 0) (Lx := fun _ => []) Sel.here (fun h hr => ⟨(), ?_, trivial⟩) (fun _ hb => ?_)
    · rcases hr with ⟨_, _, h3, h4⟩ | ⟨_, _, _, h1, _⟩
      · exact ⟨by simpa [byt] using h4, h3⟩
      · cases h1
    obtain ⟨rfl, rfl⟩ := hb
    repeat' (first | refine l_run ?_ | refine l_nil ?_ | refine l_one ?_ | refine k_reg ?_ | refine l_ld ?_ | refine l_ldF ?_ | refine l_st ?_ | refine l_al (fun b => ?_) | refine l_bs (fun b => ?_) | refine k_condT ?_ | refine k_condF ?_ | refine k_brk ?_ | refine l_split (fun hc => ?_) (fun hc => ?_) | refine k_cond (fun hc => ?_) (fun hc => ?_))
    refine k_shut (Lx := []) (r := Row 5 1 none 0 0 []) (fun h _ => row_nil _ _ h) ?_
    refine k_shut (Lx := []) (r := Row 5 1 none 0 0 []) (fun h _ => row_nil _ _ h) ?_
    exact k_ret (none, 0) rfl trivial
  | some a =>
    repeat' (first | refine l_run ?_ | refine l_nil ?_ | refine l_one ?_ | refine k_reg ?_ | refine l_ld ?_ | refine l_ldF ?_ | refine l_st ?_ | refine l_al (fun b => ?_) | refine l_bs (fun b => ?_) | refine k_condT ?_ | refine k_condF ?_ | refine k_brk ?_ | refine l_shut (row_zero (sz := 1)) ?_ | refine l_appR (fun o' cap' => ?_) | refine l_split (fun hc => ?_) (fun hc => ?_) | refine k_cond (fun hc => ?_) (fun hc => ?_))
    rw [Nat.zero_add]
    exact k_ret (o', cap') rfl trivial

theorem wtrBytes_ok (b : Nat) (bs : List UInt8) (hl : bs.length ≤ 1099511627776) : Enters 195 ∧ Spec Tryz.prog 195 #[.pointer (some ⟨b, 0, none⟩)] [] [Wtr b bs]
    ⟨Option Addr × Nat, fun q => .tuple #[.slice q.1 bs.length q.2, .int .i64 0], fun _ => True, fun _ => [], fun q => [Row 5 1 q.1 bs.length q.2 (byt bs), Wtr b bs]⟩ := by
  refine ⟨enters_of Tryz.func195 (by kernel_rfl) rfl, spec_of (vs := [_]) Tryz.func195 rfl Tryz.ntmps195 rfl fun G w hp => ?_⟩
  refine k_wtr fun o cap => ?_
  repeat' (first | refine l_run ?_ | refine l_nil ?_ | refine l_one ?_ | refine k_reg ?_ | refine l_ld ?_ | refine l_ldF ?_ | refine l_st ?_ | refine l_al (fun b => ?_) | refine l_bs (fun b => ?_) | refine k_condT ?_ | refine k_condF ?_ | refine k_brk ?_ | refine r_run ?_ | refine r_one ?_ | refine r_ld ?_ | refine r_ldF ?_ | refine r_ldN ?_ | refine r_al (fun b => ?_) | refine r_bs (fun b => ?_) | refine r_st ?_ | refine r_end ?_ | refine l_call (clone_ok _ _ _ (by omega)) (fun _ _ => ?_) | refine l_call0 (clone_ok _ _ _ (by omega)) (fun _ _ => ?_) | refine r_call (clone_ok _ _ _ (by omega)) (fun _ _ => ?_) | refine l_split (fun hc => ?_) (fun hc => ?_) | refine r_split (fun hc => ?_) (fun hc => ?_) | refine k_draw 4 [] [(0, 0), (1, 0), (2, 0), (3, 0), (4, 0), (5, 0)] [] ?_ | refine k_cond (fun hc => ?_) (fun hc => ?_))
  rename_i q _
  refine k_wtr' (bs := bs) (o := o) (cap := cap) (b := b) ?_
  exact k_ret q rfl trivial

end Go.Proofs.YtgaipgbgppdfeaaGreatDoor
set_option maxRecDepth 10000
namespace Go.Proofs.YtgaipgbgppdfeaaGreatDoor
open Go.RowKit

/-- How many bytes ahead announce another one. -/
def lastN (bs : List UInt8) (most : Nat) : Nat := ((bs.take most).takeWhile fun b => decide (128 ≤ b.toNat)).length
/-- The number that bytes stand for. -/
def dval : List UInt8 → Nat
  | [] => 0
  | b :: l => b.toNat % 128 + 128 * dval l
def pnat (bs : List UInt8) (most : Nat) : Nat × Nat × Int :=
  let m := lastN bs most
  if m = most then (0, 0, 3) else match bs[m]? with
    | none => (0, 0, 28)
    | some b => if 0 < m ∧ b.toNat = 0 then (0, 0, 3) else if m = 9 ∧ 1 < b.toNat then (0, 0, 3) else (dval (bs.take (m + 1)) % 18446744073709551616, m + 1, 0)

theorem lastN_le (bs : List UInt8) (most : Nat) : lastN bs most ≤ bs.length ∧ lastN bs most ≤ most := by
  have h := (List.takeWhile_sublist (p := fun b : UInt8 => decide (128 ≤ b.toNat)) (l := bs.take most)).length_le
  rw [List.length_take] at h
  unfold lastN
  omega
theorem lastN_eq : ∀ {bs : List UInt8} {most j : Nat}, j ≤ bs.length → j ≤ most → (∀ i < j, ∃ b, bs[i]? = some b ∧ 128 ≤ b.toNat) → (j = bs.length ∨ j = most ∨ ∃ b, bs[j]? = some b ∧ b.toNat < 128) → lastN bs most = j
  | [], most, j, h1, _, _, _ => by
    have : j = 0 := by simpa using h1
    subst this; simp [lastN]
  | b :: bs, 0, j, _, h2, _, _ => by
    have : j = 0 := by omega
    subst this; simp [lastN]
  | b :: bs, most + 1, 0, _, _, _, h4 => by
    rcases h4 with h | h | ⟨c, hc, hl⟩
    · simp at h
    · omega
    · simp at hc; subst hc
      have : ¬ (128 ≤ b.toNat) := by omega
      simp [lastN, this]
  | b :: bs, most + 1, j + 1, h1, h2, h3, h4 => by
    obtain ⟨c, hc, hb⟩ := h3 0 (by omega)
    simp at hc; subst hc
    have ih := lastN_eq (bs := bs) (most := most) (j := j) (by simpa using h1) (by omega) (fun i hi => by simpa using h3 (i + 1) (by omega)) (by
      rcases h4 with h | h | h
      · left; simpa using h
      · right; left; omega
      · right; right; simpa using h)
    unfold lastN at ih ⊢
    simp [hb, ih]

theorem wrapi {z : Int} (h1 : -9223372036854775808 ≤ z) (h2 : z < 9223372036854775808) : IntKind.i64.wrap z = z := by
  simp [IntKind.wrap, IntKind.bits, IntKind.signed]; omega
theorem and_127 : ∀ x : Fin 256, x.val &&& 127 = x.val % 128 := by decide +kernel
theorem step7 (u x : Nat) (hx : x < 256) : IntKind.u64.wrap ((BitVec.ofInt IntKind.u64.bits (IntKind.u64.wrap ((u : Int) * 2 ^ min (Int.toNat 7) IntKind.u64.bits)) ||| BitVec.ofInt IntKind.u64.bits (IntKind.u64.wrap (IntKind.u8.wrap ((BitVec.ofInt IntKind.u8.bits (x : Int) &&& BitVec.ofInt IntKind.u8.bits 127).toNat : Int)))).toNat : Int)
    = (((x % 128 + 128 * u) % 18446744073709551616 : Nat) : Int) := by
  have h1 : (BitVec.ofInt IntKind.u8.bits (x : Int) &&& BitVec.ofInt IntKind.u8.bits 127).toNat = x % 128 := by
    show (BitVec.ofInt 8 (x : Int) &&& BitVec.ofInt 8 127).toNat = _
    rw [BitVec.toNat_and, BitVec.ofInt_natCast, BitVec.toNat_ofNat, Nat.mod_eq_of_lt (show x < 2 ^ 8 by omega)]
    exact and_127 ⟨x, hx⟩
  have h2 : IntKind.u64.wrap (IntKind.u8.wrap ((x % 128 : Nat) : Int)) = ((x % 128 : Nat) : Int) := by
    simp [IntKind.wrap, IntKind.bits, IntKind.signed]; omega
  have h3 : IntKind.u64.wrap ((u : Int) * 2 ^ min (Int.toNat 7) IntKind.u64.bits) = ((128 * (u % 144115188075855872) : Nat) : Int) := by
    have : (2 : Int) ^ min (Int.toNat 7) IntKind.u64.bits = 128 := by decide
    rw [this]
    simp [IntKind.wrap, IntKind.bits, IntKind.signed]; omega
  rw [h1, h2, h3]
  have h4 : (BitVec.ofInt IntKind.u64.bits ((128 * (u % 144115188075855872) : Nat) : Int) ||| BitVec.ofInt IntKind.u64.bits ((x % 128 : Nat) : Int)).toNat = 128 * (u % 144115188075855872) + x % 128 := by
    show (BitVec.ofInt 64 ((128 * (u % 144115188075855872) : Nat) : Int) ||| BitVec.ofInt 64 ((x % 128 : Nat) : Int)).toNat = _
    rw [BitVec.toNat_or, BitVec.ofInt_natCast, BitVec.ofInt_natCast, BitVec.toNat_ofNat, BitVec.toNat_ofNat, Nat.mod_eq_of_lt (show 128 * (u % 144115188075855872) < 2 ^ 64 by omega), Nat.mod_eq_of_lt (show x % 128 < 2 ^ 64 by omega)]
    exact (Nat.two_pow_add_eq_or_of_lt (i := 7) (show x % 128 < 2 ^ 7 by omega) _).symm
  rw [h4]
  simp [IntKind.wrap, IntKind.bits, IntKind.signed]; omega

structure DX (bs : List UInt8) (m : Nat) where
  c : Nat
  u : Nat
  z : Int
  hc : c ≤ m + 1
  hz : z = (c : Int) - 1
  hu : u = dval ((bs.take (m + 1)).drop c) % 18446744073709551616

theorem parseNatural_ok (o : Option Addr) (cap : Nat) (bs : List UInt8) (most : Nat) (hlen : bs.length ≤ 1099511627776) :
    Enters 216 ∧ Spec Tryz.prog 216 #[.slice o bs.length cap, .int .i64 (most : Int)] [Sl 5 bf o cap bs] []
      (RetV (.tuple #[.int .u64 ((pnat bs most).1 : Int), .int .i64 ((pnat bs most).2.1 : Int), .int .i64 (pnat bs most).2.2])) := by
  refine ⟨enters_of Tryz.func216 (by kernel_rfl) rfl, spec_of (vs := [_, _]) Tryz.func216 rfl Tryz.ntmps216 rfl fun G w hp => ?_⟩
  repeat' (first | refine l_run ?_ | refine l_nil ?_ | refine l_one ?_ | refine k_reg ?_ | refine l_ld ?_ | refine l_ldF ?_ | refine l_st ?_ | refine l_al (fun b => ?_) | refine l_bs (fun b => ?_) | refine k_condT ?_ | refine k_condF ?_ | refine k_brk ?_ | (refine l_split (fun hc => ?_) (fun hc => ?_) <;> (try simp at hc)) | (refine k_cond (fun hc => ?_) (fun hc => ?_) <;> (try simp at hc)))
  refine k_lpx (X := { j : Nat // j ≤ bs.length ∧ j ≤ most ∧ ∀ i < j, ∃ b, bs[i]? = some b ∧ 128 ≤ b.toNat }) (Y := { j : Nat // lastN bs most = j }) (fun j => [(0, .slice o bs.length cap), (1, .int .i64 (most : Int)), (7, .int .i64 (j.1 : Int))]) (fun _ => [Sl 5 bf o cap bs]) (fun q => []) (fun j => bs.length - j.1)
    (fun j => [(0, .slice o bs.length cap), (1, .int .i64 (most : Int)), (7, .int .i64 (j.1 : Int))]) (fun _ => [Sl 5 bf o cap bs]) (fun q => []) ⟨0, by omega, by omega, by omega⟩ ⟨rfl, rfl, rfl, trivial⟩ ?_ ?_
  · rintro ⟨m, hm⟩
    obtain ⟨hm1, hm2⟩ := lastN_le bs most
    generalize hpn : pnat bs most = p
    unfold pnat at hpn
    rw [hm] at hm1 hm2 hpn
    dsimp only at hpn ⊢
    repeat' (first | refine l_run ?_ | refine l_nil ?_ | refine l_one ?_ | refine k_reg ?_ | refine l_ld ?_ | refine l_ldF ?_ | refine l_st ?_ | refine l_al (fun b => ?_) | refine l_bs (fun b => ?_) | refine k_condT ?_ | refine k_condF ?_ | refine k_brk ?_ | refine l_ix bs m (by omega) (fun b off => ?_) | refine l_ldC ?_ | (refine l_split (fun hc => ?_) (fun hc => ?_) <;> (try simp at hc)) | (refine k_cond (fun hc => ?_) (fun hc => ?_) <;> (try simp at hc)))
    all_goals try (refine k_ret () ?_ trivial; have e1 : m = most := (by omega); rw [if_pos e1] at hpn; rw [← hpn]; rfl)
    all_goals have e1 : m ≠ most := (by omega)
    all_goals rw [if_neg e1] at hpn
    all_goals try (refine k_ret () ?_ trivial; have e2 : bs[m]? = none := List.getElem?_eq_none (by omega); rw [e2] at hpn; rw [← hpn]; rfl)
    all_goals have e2 : bs[m]? = some bs[m] := List.getElem?_eq_getElem (by omega)
    all_goals rw [e2] at hpn
    all_goals dsimp only at hpn
    all_goals try (refine k_ret () ?_ trivial; rw [if_pos (by omega)] at hpn; rw [← hpn]; rfl)
    all_goals rw [if_neg (by omega)] at hpn
    all_goals try (refine k_ret () ?_ trivial; rw [if_pos (by omega)] at hpn; rw [← hpn]; rfl)
    all_goals rw [if_neg (by omega)] at hpn
    all_goals
      refine k_lp (X := DX bs m) (fun q => [(0, .slice o bs.length cap), (7, .int .i64 (m : Int)), (8, .int .u64 (q.u : Int)), (9, .int .i64 q.z)]) (fun _ => [Sl 5 bf o cap bs]) (fun q => []) (fun q => q.c) ⟨m + 1, 0, m, by omega, by omega, by simp [dval]⟩ ⟨rfl, rfl, rfl, rfl, trivial⟩ ?_
      rintro ⟨c, u, z, hc1, hc2, hc3⟩
      dsimp only
      repeat' (first | refine l_run ?_ | refine l_nil ?_ | refine l_one ?_ | refine k_reg ?_ | refine l_ld ?_ | refine l_ldF ?_ | refine l_st ?_ | refine l_al (fun b => ?_) | refine l_bs (fun b => ?_) | refine k_condT ?_ | refine k_condF ?_ | refine k_brk ?_ | refine l_ix bs (c - 1) (by omega) (fun b off => ?_) | refine l_ldC ?_ | (refine l_split (fun hc => ?_) (fun hc => ?_) <;> (try simp at hc)) | (refine k_cond (fun hc => ?_) (fun hc => ?_) <;> (try simp at hc)))
      · have hlt : c - 1 < bs.length := by omega
        rw [step7 u _ (UInt8.toNat_lt _), wrapi (z := z - 1) (by omega) (by omega)]
        refine k_next ⟨c - 1, _, _, by omega, ?_, ?_⟩ (by show c - 1 < c; omega) ⟨rfl, rfl, rfl, rfl, trivial⟩
        · omega
        · have hd : (bs.take (m + 1)).drop (c - 1) = bs[c - 1] :: (bs.take (m + 1)).drop c := by
            rw [List.drop_eq_getElem_cons (by simp; omega)]
            simp; congr 1; omega
          rw [hd, dval, hc3]
          omega
      · refine k_ret () ?_ trivial
        have hc0 : c = 0 := by omega
        subst hc0
        rw [← hpn, hc3]
        have e : IntKind.i64.wrap ((m : Int) + 1) = ((m + 1 : Nat) : Int) := by simp [IntKind.wrap, IntKind.bits, IntKind.signed]; omega
        rw [e]
        rfl
  rintro hx ⟨j, hj1, hj2, hj3⟩
  dsimp only
  repeat' (first | refine l_run ?_ | refine l_nil ?_ | refine l_one ?_ | refine k_reg ?_ | refine l_ld ?_ | refine l_ldF ?_ | refine l_st ?_ | refine l_al (fun b => ?_) | refine l_bs (fun b => ?_) | refine k_condT ?_ | refine k_condF ?_ | refine l_ix bs j (by omega) (fun b off => ?_) | refine l_ldC ?_ | (refine l_split (fun hc => ?_) (fun hc => ?_) <;> (try simp at hc)) | (refine k_cond (fun hc => ?_) (fun hc => ?_) <;> (try simp at hc)))
  · have hlt : j < bs.length := by omega
    have e : IntKind.i64.wrap ((j : Int) + 1) = ((j + 1 : Nat) : Int) := by simp [IntKind.wrap, IntKind.bits, IntKind.signed]; omega
    rw [e]
    refine k_next ⟨j + 1, by omega, by omega, fun i hi => ?_⟩ (by show bs.length - (j + 1) < bs.length - j; omega) ⟨rfl, rfl, rfl, trivial⟩
    by_cases hij : i = j
    · subst hij; exact ⟨bs[i], List.getElem?_eq_getElem hlt, by omega⟩
    · exact hj3 i (by omega)
  · have e : lastN bs most = j := lastN_eq hj1 hj2 hj3 (by right; right; exact ⟨bs[j], List.getElem?_eq_getElem (by omega), by omega⟩)
    exact k_out hx ⟨j, e⟩ ⟨rfl, rfl, rfl, trivial⟩
  · have e : lastN bs most = j := lastN_eq hj1 hj2 hj3 (by omega)
    exact k_out hx ⟨j, e⟩ ⟨rfl, rfl, rfl, trivial⟩
  · have e : lastN bs most = j := lastN_eq hj1 hj2 hj3 (by omega)
    exact k_out hx ⟨j, e⟩ ⟨rfl, rfl, rfl, trivial⟩
end Go.Proofs.YtgaipgbgppdfeaaGreatDoor

set_option maxRecDepth 10000
namespace Go.Proofs.YtgaipgbgppdfeaaGreatDoor
open Go.RowKit

section
variable {n : Nat} {C : Cx} {Q : Exit → Act → World → Prop} {E E' : List (Nat × Value)} {F F' F1 Fs F0 : List Pf} {R R' R0 Rs N N' A : List HP} {k k' : List Fr} {ops l : List Oper} {L L' : List (Nat × Nat)} {Tl : List Nat}
  {i d : Nat} {t ty0 : TypeId} {x y : Operand} {pos : String} {aft : Array Edge} {gd : Option (Nat × Bool)}

theorem run_callF {f : FuncId} {fs cs : Array Value} (hf : Enters f) {args : Array Operand} {tys : Array TypeId} {vs : List Value} (hx : ev E x = some (.func (.func f) fs cs)) (hargs : evs (ev E) args.toList some = some vs) {a : Act} {ds : List Deferred} (ha : Agree n ds (look E) a) (w : World) (dst : Option Tmp) :
    (execOp a.eval ⟨dst, .call ⟨.value x, args, tys⟩, ty0, pos, aft, gd⟩).run Tryz.prog w = .ok (.enter f (fs ++ vs.toArray ++ cs)) w := by
  obtain ⟨us, _, h2, h3⟩ := evs_eq _ _ _ hargs
  obtain rfl := Option.some.inj h2
  have e1 := h3 a.eval fun x _ u hu => ha.ev (by rw [evf_look]; exact hu)
  have e3 : args.map a.eval = us.toArray := by rw [← Array.toList_inj]; simpa using e1
  have e0 := ha.ev (x := x) (by rw [evf_look]; exact hx)
  simp only [execOp, resolve, e0, Deferred.ofValue, Sem.run_bind, Sem.run_pure, Result.andThen, invoke]
  have e4 : (args.map fun x => a.eval x) = us.toArray := e3
  rw [e4]
  exact hf _ w

/-- A call of a function value. -/
theorem l_callF {f : FuncId} {fs cs : Array Value} {args : Array Operand} {tys : Array TypeId} {vs us : List Value} {post : Post} (spec : Enters f ∧ Spec Tryz.prog f us.toArray F1 A post)
    (nx : ∀ x, post.pure x → Wl n C ops.toArray k Q l ((d, post.val x) :: E) (post.F x ++ F) (post.R x ++ R')) (hw : wantL ops E ⟨some d, .call ⟨.value x, args, tys⟩, ty0, pos, aft, gd⟩ = some true := by rfl) (hn : Nat.blt d n = true := by rfl)
    (hx : ev E x = some (.func (.func f) fs cs) := by rfl) (hargs : evs (ev E) args.toList some = some vs := by rfl) (has : fs.toList ++ vs ++ cs.toList = us := by rfl) (sel : Sels A R R' := by (repeat (first | exact Sels.nil | exact Sel.here | apply Sel.there | apply Sels.cons)); first | done | fail)
    (hF : EntF F F1 := by (repeat (first | exact trivial | exact Sel.here | apply Sel.there | apply EntF.cons)); first | done | fail) :
    Wl n C ops.toArray k Q (⟨some d, .call ⟨.value x, args, tys⟩, ty0, pos, aft, gd⟩ :: l) E F R :=
  wl_op (fun t ht => by cases ht; exact Nat.le_of_ble_eq_true hn) (fun c hc => by cases hc) hw fun a w ha hsat => by
    unfold OpRes
    rw [run_callF spec.1 hx hargs ha w]
    have e : fs ++ vs.toArray ++ cs = us.toArray := by rw [← has, ← Array.toList_inj]; simp
    rw [e]
    refine sat_call spec.2 hsat sel hF.all fun x w' hx hs' => ?_
    exact fun a' ha' => nx x hx a' w' ha' hs'
end

theorem dval_lt : ∀ l : List UInt8, dval l < 128 ^ l.length
  | [] => by simp [dval]
  | b :: l => by
    have := dval_lt l
    rw [dval, List.length_cons, Nat.pow_succ]
    omega

theorem pnat_le (bs : List UInt8) : (pnat bs 9).1 < 9223372036854775808 ∧ (pnat bs 9).2.1 ≤ bs.length := by
  have hl := lastN_le bs 9
  have hd := dval_lt (bs.take (lastN bs 9 + 1))
  unfold pnat
  dsimp only
  split
  · simp
  · rename_i hne
    split
    · simp
    · rename_i b hb
      have hlt := (List.getElem?_eq_some_iff.1 hb).1
      split
      · simp
      · split
        · simp
        · refine ⟨?_, by dsimp only; omega⟩
          have h1 : (bs.take (lastN bs 9 + 1)).length ≤ 9 := by simp; omega
          have h2 : 128 ^ (bs.take (lastN bs 9 + 1)).length ≤ 128 ^ 9 := Nat.pow_le_pow_right (by omega) h1
          have h3 : (128 : Nat) ^ 9 = 9223372036854775808 := by decide
          have := Nat.mod_le (dval (bs.take (lastN bs 9 + 1))) 18446744073709551616
          dsimp only; omega

theorem parse_ok (o : Option Addr) (cap : Nat) (bs : List UInt8) (hlen : bs.length ≤ 1099511627776) :
    Enters 151 ∧ Spec Tryz.prog 151 #[.slice o bs.length cap] [Sl 5 bf o cap bs] []
      (RetV (.tuple #[.int .i64 ((pnat bs 9).1 : Int), .int .i64 ((pnat bs 9).2.1 : Int), .int .i64 (pnat bs 9).2.2])) := by
  have h1 := pnat_le bs
  refine ⟨enters_of Tryz.func151 (by kernel_rfl) rfl, spec_of (vs := [_]) Tryz.func151 rfl Tryz.ntmps151 rfl fun G w hp => ?_⟩
  repeat' (first | refine l_run ?_ | refine l_nil ?_ | refine l_one ?_ | refine k_reg ?_ | refine l_ld ?_ | refine l_ldF ?_ | refine l_st ?_ | refine l_al (fun b => ?_) | refine l_bs (fun b => ?_) | refine k_condT ?_ | refine k_condF ?_ | refine k_brk ?_ | refine l_call (parseNatural_ok _ _ _ 9 hlen) (fun _ _ => ?_) | refine l_call0 (parseNatural_ok _ _ _ 9 hlen) (fun _ _ => ?_) | (refine l_split (fun hc => ?_) (fun hc => ?_) <;> (try simp at hc)) | (refine k_cond (fun hc => ?_) (fun hc => ?_) <;> (try simp at hc)))
  rw [wrapi (z := ((pnat bs 9).1 : Int)) (by omega) (by omega)]
  exact k_ret () rfl trivial

/-- What the reader's number makes of bytes. -/
def pnum (bs : List UInt8) (most : Int) : Int × Nat × Int :=
  ((pnat bs 9).1, (pnat bs 9).2.1, if (pnat bs 9).2.2 = 0 ∧ most < (pnat bs 9).1 then 2 else (pnat bs 9).2.2)

theorem numberF_ok (o : Option Addr) (cap : Nat) (bs : List UInt8) (b : Nat) (most : Int) (hlen : bs.length ≤ 1099511627776) :
    Enters 150 ∧ Spec Tryz.prog 150 #[.slice o bs.length cap, .pointer (some ⟨b, 0, none⟩)] [Sl 5 bf o cap bs] [Pt b (.cells #[.int .i64 most] 3)]
      ⟨Unit, fun _ => .tuple #[.int .i64 (pnum bs most).1, .int .i64 ((pnum bs most).2.1 : Int), .int .i64 (pnum bs most).2.2], fun _ => True, fun _ => [], fun _ => [Pt b (.cells #[.int .i64 most] 3)]⟩ := by
  refine ⟨enters_of Tryz.func150 (by kernel_rfl) rfl, spec_of (vs := [_, _]) Tryz.func150 rfl Tryz.ntmps150 rfl fun G w hp => ?_⟩
  repeat' (first | refine l_run ?_ | refine l_nil ?_ | refine l_one ?_ | refine k_reg ?_ | refine l_ld ?_ | refine l_ldF ?_ | refine l_st ?_ | refine l_al (fun b => ?_) | refine l_bs (fun b => ?_) | refine k_condT ?_ | refine k_condF ?_ | refine k_brk ?_ | refine l_call (parse_ok _ _ _ hlen) (fun _ _ => ?_) | refine l_call0 (parse_ok _ _ _ hlen) (fun _ _ => ?_) | (refine l_split (fun hc => ?_) (fun hc => ?_) <;> (try simp at hc)) | (refine k_cond (fun hc => ?_) (fun hc => ?_) <;> (try simp at hc)))
  all_goals (refine k_ret () ?_ trivial; simp_all [pnum, resV] <;> omega)

/-- What the reader's text makes of bytes. -/
def ptext (bs : List UInt8) (most : Int) : ByteArray × Nat × Int :=
  if (pnat bs 9).2.2 ≠ 0 then (⟨#[]⟩, 0, (pnat bs 9).2.2)
  else if most < (pnat bs 9).1 ∨ 16777216 < (pnat bs 9).1 then (⟨#[]⟩, 0, 5)
  else if bs.length < (pnat bs 9).2.1 + (pnat bs 9).1 then (⟨#[]⟩, 0, 28)
  else (⟨((bs.take ((pnat bs 9).2.1 + (pnat bs 9).1)).drop (pnat bs 9).2.1).toArray⟩, (pnat bs 9).2.1 + (pnat bs 9).1, 0)

theorem textF_ok (o : Option Addr) (cap : Nat) (bs : List UInt8) (b : Nat) (most : Int) (hlen : bs.length ≤ 1099511627776) :
    Enters 248 ∧ Spec Tryz.prog 248 #[.slice o bs.length cap, .pointer (some ⟨b, 0, none⟩)] [Sl 5 bf o cap bs] [Pt b (.cells #[.int .i64 most] 3)]
      ⟨Unit, fun _ => .tuple #[.string (ptext bs most).1, .int .i64 ((ptext bs most).2.1 : Int), .int .i64 (ptext bs most).2.2], fun _ => True, fun _ => [], fun _ => [Pt b (.cells #[.int .i64 most] 3)]⟩ := by
  obtain ⟨h1, h2⟩ := pnat_le bs
  refine ⟨enters_of Tryz.func248 (by kernel_rfl) rfl, spec_of (vs := [_, _]) Tryz.func248 rfl Tryz.ntmps248 rfl fun G w hp => ?_⟩
  generalize hp : ptext bs most = p
  unfold ptext at hp
  generalize hq : pnat bs 9 = q at *
  have hpar := parse_ok o cap bs hlen
  rw [hq] at hpar
  obtain ⟨u, sz, e⟩ := q
  dsimp only at *
  repeat' (first | refine l_run ?_ | refine l_nil ?_ | refine l_one ?_ | refine k_reg ?_ | refine l_ld ?_ | refine l_ldF ?_ | refine l_st ?_ | refine l_al (fun b => ?_) | refine l_bs (fun b => ?_) | refine k_condT ?_ | refine k_condF ?_ | refine k_brk ?_ | refine l_call (hpar) (fun _ _ => ?_) | refine l_call0 (hpar) (fun _ _ => ?_) | rw [wrapi (z := (bs.length : Int) - (sz : Int)) (by omega) (by omega)] | rw [wrapi (z := (sz : Int) + (u : Int)) (by omega) (by omega)] | refine l_slLH (es := bs) sz (sz + u) (by omega) (by omega) (fun o' => ?_) | refine l_b2s ?_ | (refine l_split (fun hc => ?_) (fun hc => ?_) <;> (try simp at hc)) | (refine k_cond (fun hc => ?_) (fun hc => ?_) <;> (try simp at hc)))
  all_goals refine k_ret () ?_ trivial
  all_goals rw [← hp]
  all_goals repeat (first | rw [if_pos (by omega)] | rw [if_neg (by omega)])
  all_goals simp [resV]

/-- A reader: the bytes that are left, where they begin, the error. -/
structure RS where
  rest : List UInt8
  pos : Nat
  err : Int

def Rdr (b : Nat) (o : Option Addr) (cap : Nat) (s : RS) : HP := Pt b (.cells #[.slice o s.rest.length cap, .int .i64 (s.pos : Int), .int .i64 s.err] 247)

def rstep {α : Type} (zero : α) (s : RS) (p : α × Nat × Int) : α × RS :=
  if s.err ≠ 0 then (zero, s) else if p.2.2 ≠ 0 then (zero, ⟨s.rest, s.pos, p.2.2⟩) else (p.1, ⟨s.rest.drop p.2.1, s.pos + p.2.1, 0⟩)

theorem readInt_ok (b g : Nat) (o : Option Addr) (cap : Nat) (s : RS) (c : Value) (bx : Nat) (obj : Obj) (p : Int × Nat × Int) (hb : s.pos + s.rest.length ≤ 1099511627776) (hpl : p.2.1 ≤ s.rest.length)
    (hg : Enters g ∧ Spec Tryz.prog g #[.slice o s.rest.length cap, c] [Sl 5 bf o cap s.rest] [Pt bx obj] ⟨Unit, fun _ => .tuple #[.int .i64 p.1, .int .i64 (p.2.1 : Int), .int .i64 p.2.2], fun _ => True, fun _ => [], fun _ => [Pt bx obj]⟩) :
    Enters 149 ∧ Spec Tryz.prog 149 #[.pointer (some ⟨b, 0, none⟩), .func (.func g) #[] #[c]] [Sl 5 bf o cap s.rest] [Rdr b o cap s, Pt bx obj]
      ⟨Option Addr × Nat, fun _ => .int .i64 (rstep 0 s p).1, fun _ => True, fun q => [Sl 5 bf q.1 q.2 (rstep 0 s p).2.rest], fun q => [Rdr b q.1 q.2 (rstep 0 s p).2]⟩ := by
  obtain ⟨bs, at0, er⟩ := s
  obtain ⟨v, sz, e⟩ := p
  generalize hr : rstep 0 (RS.mk bs at0 er) (v, sz, e) = r
  unfold rstep at hr
  unfold Rdr
  dsimp only at *
  refine ⟨enters_of Tryz.func149 (by kernel_rfl) rfl, spec_of (vs := [_, _]) Tryz.func149 rfl Tryz.ntmps149 rfl fun G w hp => ?_⟩
  repeat' (first | refine l_run ?_ | refine l_nil ?_ | refine l_one ?_ | refine k_reg ?_ | refine l_ld ?_ | refine l_ldF ?_ | refine l_st ?_ | refine l_al (fun b => ?_) | refine l_bs (fun b => ?_) | refine k_condT ?_ | refine k_condF ?_ | refine k_brk ?_ | refine l_callF hg (fun _ _ => ?_) | refine l_slL (es := bs) sz hpl (fun o' => ?_) | rw [wrapi (z := (at0 : Int) + (sz : Int)) (by omega) (by omega), ← Int.natCast_add] | (refine l_split (fun hc => ?_) (fun hc => ?_) <;> (try simp at hc)) | (refine k_cond (fun hc => ?_) (fun hc => ?_) <;> (try simp at hc)))
  · rw [if_pos hc] at hr
    subst hr
    exact k_ret (o, cap) rfl trivial
  · rw [if_neg (by omega), if_pos hc] at hr
    subst hr
    exact k_ret (o, cap) rfl trivial
  · rename_i h0 _ _
    subst h0
    rw [if_neg (by omega), if_neg (by omega)] at hr
    subst hr
    exact k_ret (o', cap - sz) rfl trivial

theorem readStr_ok (b g : Nat) (o : Option Addr) (cap : Nat) (s : RS) (c : Value) (bx : Nat) (obj : Obj) (p : ByteArray × Nat × Int) (hb : s.pos + s.rest.length ≤ 1099511627776) (hpl : p.2.1 ≤ s.rest.length)
    (hg : Enters g ∧ Spec Tryz.prog g #[.slice o s.rest.length cap, c] [Sl 5 bf o cap s.rest] [Pt bx obj] ⟨Unit, fun _ => .tuple #[.string p.1, .int .i64 (p.2.1 : Int), .int .i64 p.2.2], fun _ => True, fun _ => [], fun _ => [Pt bx obj]⟩) :
    Enters 247 ∧ Spec Tryz.prog 247 #[.pointer (some ⟨b, 0, none⟩), .func (.func g) #[] #[c]] [Sl 5 bf o cap s.rest] [Rdr b o cap s, Pt bx obj]
      ⟨Option Addr × Nat, fun _ => .string (rstep ⟨#[]⟩ s p).1, fun _ => True, fun q => [Sl 5 bf q.1 q.2 (rstep ⟨#[]⟩ s p).2.rest], fun q => [Rdr b q.1 q.2 (rstep ⟨#[]⟩ s p).2]⟩ := by
  obtain ⟨bs, at0, er⟩ := s
  obtain ⟨v, sz, e⟩ := p
  generalize hr : rstep ⟨#[]⟩ (RS.mk bs at0 er) (v, sz, e) = r
  unfold rstep at hr
  unfold Rdr
  dsimp only at *
  refine ⟨enters_of Tryz.func247 (by kernel_rfl) rfl, spec_of (vs := [_, _]) Tryz.func247 rfl Tryz.ntmps247 rfl fun G w hp => ?_⟩
  repeat' (first | refine l_run ?_ | refine l_nil ?_ | refine l_one ?_ | refine k_reg ?_ | refine l_ld ?_ | refine l_ldF ?_ | refine l_st ?_ | refine l_al (fun b => ?_) | refine l_bs (fun b => ?_) | refine k_condT ?_ | refine k_condF ?_ | refine k_brk ?_ | refine l_callF hg (fun _ _ => ?_) | refine l_slL (es := bs) sz hpl (fun o' => ?_) | rw [wrapi (z := (at0 : Int) + (sz : Int)) (by omega) (by omega), ← Int.natCast_add] | (refine l_split (fun hc => ?_) (fun hc => ?_) <;> (try simp at hc)) | (refine k_cond (fun hc => ?_) (fun hc => ?_) <;> (try simp at hc)))
  · rw [if_pos hc] at hr
    subst hr
    exact k_ret (o, cap) rfl trivial
  · rw [if_neg (by omega), if_pos hc] at hr
    subst hr
    exact k_ret (o, cap) rfl trivial
  · rename_i h0 _ _
    subst h0
    rw [if_neg (by omega), if_neg (by omega)] at hr
    subst hr
    exact k_ret (o', cap - sz) rfl trivial

def rnum (s : RS) (most : Int) : Int × RS := rstep 0 s (pnum s.rest most)
def rtext (s : RS) (most : Int) : ByteArray × RS := rstep ⟨#[]⟩ s (ptext s.rest most)

theorem pnum_le (bs : List UInt8) (most : Int) : (pnum bs most).2.1 ≤ bs.length := (pnat_le bs).2
theorem ptext_le (bs : List UInt8) (most : Int) : (ptext bs most).2.1 ≤ bs.length := by
  have := (pnat_le bs).2
  unfold ptext
  split
  · simp
  · split
    · simp
    · split
      · simp
      · dsimp only; omega
theorem rstep_le {α : Type} (z : α) (s : RS) (p : α × Nat × Int) (hp : p.2.1 ≤ s.rest.length) : (rstep z s p).2.pos + (rstep z s p).2.rest.length ≤ s.pos + s.rest.length := by
  unfold rstep
  split
  · simp
  · split
    · simp
    · simp; omega

theorem rdrNumber_ok (b : Nat) (o : Option Addr) (cap : Nat) (s : RS) (most : Int) (hb : s.pos + s.rest.length ≤ 1099511627776) :
    Enters 93 ∧ Spec Tryz.prog 93 #[.pointer (some ⟨b, 0, none⟩), .int .i64 most] [Sl 5 bf o cap s.rest] [Rdr b o cap s]
      ⟨Option Addr × Nat, fun _ => .int .i64 (rnum s most).1, fun _ => True, fun q => [Sl 5 bf q.1 q.2 (rnum s most).2.rest], fun q => [Rdr b q.1 q.2 (rnum s most).2]⟩ := by
  refine ⟨enters_of Tryz.func93 (by kernel_rfl) rfl, spec_of (vs := [_, _]) Tryz.func93 rfl Tryz.ntmps93 rfl fun G w hp => ?_⟩
  repeat' (first | refine l_run ?_ | refine l_nil ?_ | refine l_one ?_ | refine k_reg ?_ | refine l_ld ?_ | refine l_ldF ?_ | refine l_st ?_ | refine l_al (fun b => ?_) | refine l_bs (fun b => ?_) | refine k_condT ?_ | refine k_condF ?_ | refine k_brk ?_ | refine l_call (readInt_ok _ _ _ _ s _ _ _ (pnum s.rest most) hb (pnum_le _ _) (numberF_ok _ _ _ _ most (by omega))) (fun _ _ => ?_) | refine l_call0 (readInt_ok _ _ _ _ s _ _ _ (pnum s.rest most) hb (pnum_le _ _) (numberF_ok _ _ _ _ most (by omega))) (fun _ _ => ?_) | (refine l_split (fun hc => ?_) (fun hc => ?_) <;> (try simp at hc)) | (refine k_cond (fun hc => ?_) (fun hc => ?_) <;> (try simp at hc)))
  rename_i q _
  exact k_ret q rfl trivial
theorem rdrText_ok (b : Nat) (o : Option Addr) (cap : Nat) (s : RS) (most : Int) (hb : s.pos + s.rest.length ≤ 1099511627776) :
    Enters 210 ∧ Spec Tryz.prog 210 #[.pointer (some ⟨b, 0, none⟩), .int .i64 most] [Sl 5 bf o cap s.rest] [Rdr b o cap s]
      ⟨Option Addr × Nat, fun _ => .string (rtext s most).1, fun _ => True, fun q => [Sl 5 bf q.1 q.2 (rtext s most).2.rest], fun q => [Rdr b q.1 q.2 (rtext s most).2]⟩ := by
  refine ⟨enters_of Tryz.func210 (by kernel_rfl) rfl, spec_of (vs := [_, _]) Tryz.func210 rfl Tryz.ntmps210 rfl fun G w hp => ?_⟩
  repeat' (first | refine l_run ?_ | refine l_nil ?_ | refine l_one ?_ | refine k_reg ?_ | refine l_ld ?_ | refine l_ldF ?_ | refine l_st ?_ | refine l_al (fun b => ?_) | refine l_bs (fun b => ?_) | refine k_condT ?_ | refine k_condF ?_ | refine k_brk ?_ | refine l_call (readStr_ok _ _ _ _ s _ _ _ (ptext s.rest most) hb (ptext_le _ _) (textF_ok _ _ _ _ most (by omega))) (fun _ _ => ?_) | refine l_call0 (readStr_ok _ _ _ _ s _ _ _ (ptext s.rest most) hb (ptext_le _ _) (textF_ok _ _ _ _ most (by omega))) (fun _ _ => ?_) | (refine l_split (fun hc => ?_) (fun hc => ?_) <;> (try simp at hc)) | (refine k_cond (fun hc => ?_) (fun hc => ?_) <;> (try simp at hc)))
  rename_i q _
  exact k_ret q rfl trivial

theorem newReader_ok (o : Option Addr) (cap : Nat) (bs : List UInt8) (hlen : bs.length ≤ 1099511627776) :
    Enters 92 ∧ Spec Tryz.prog 92 #[.slice o bs.length cap] [] [Row 5 1 o bs.length cap (byt bs)]
      ⟨Nat × Option Addr × Nat, fun q => .pointer (some ⟨q.1, 0, none⟩), fun _ => True, fun q => [Sl 5 bf q.2.1 q.2.2 bs], fun q => [Rdr q.1 q.2.1 q.2.2 ⟨bs, 0, 0⟩, Row 5 1 o bs.length cap (byt bs)]⟩ := by
  refine ⟨enters_of Tryz.func92 (by kernel_rfl) rfl, spec_of (vs := [_]) Tryz.func92 rfl Tryz.ntmps92 rfl fun G w hp => ?_⟩
  repeat' (first | refine l_run ?_ | refine l_nil ?_ | refine l_one ?_ | refine k_reg ?_ | refine l_ld ?_ | refine l_ldF ?_ | refine l_st ?_ | refine l_al (fun b => ?_) | refine l_bs (fun b => ?_) | refine k_condT ?_ | refine k_condF ?_ | refine k_brk ?_ | refine l_call (clone_ok _ _ _ hlen) (fun _ _ => ?_) | refine l_call0 (clone_ok _ _ _ hlen) (fun _ _ => ?_) | (refine l_split (fun hc => ?_) (fun hc => ?_) <;> (try simp at hc)) | (refine k_cond (fun hc => ?_) (fun hc => ?_) <;> (try simp at hc)))
  rename_i q _
  refine k_frz (sz := 1) (f := bf) (o := q.1) (cap := q.2) bs ?_ (byt_flat bs) rfl
  exact k_ret (b, q.1, q.2) rfl trivial

theorem rdrClose_ok (b : Nat) (o : Option Addr) (cap : Nat) (s : RS) :
    Enters 94 ∧ Spec Tryz.prog 94 #[.pointer (some ⟨b, 0, none⟩)] [] [Rdr b o cap s]
      ⟨Unit, fun _ => .int .i64 (if s.err ≠ 0 then s.err else if s.rest = [] then 0 else 5), fun _ => True, fun _ => [], fun _ => [Rdr b o cap s]⟩ := by
  refine ⟨enters_of Tryz.func94 (by kernel_rfl) rfl, spec_of (vs := [_]) Tryz.func94 rfl Tryz.ntmps94 rfl fun G w hp => ?_⟩
  unfold Rdr
  repeat' (first | refine l_run ?_ | refine l_nil ?_ | refine l_one ?_ | refine k_reg ?_ | refine l_ld ?_ | refine l_ldF ?_ | refine l_st ?_ | refine l_al (fun b => ?_) | refine l_bs (fun b => ?_) | refine k_condT ?_ | refine k_condF ?_ | refine k_brk ?_ | (refine l_split (fun hc => ?_) (fun hc => ?_) <;> (try simp at hc)) | (refine k_cond (fun hc => ?_) (fun hc => ?_) <;> (try simp at hc)))
  all_goals (refine k_ret () ?_ trivial; simp_all [resV, List.length_pos_iff])
end Go.Proofs.YtgaipgbgppdfeaaGreatDoor

set_option maxRecDepth 10000
namespace Go.Proofs.YtgaipgbgppdfeaaGreatDoor
open Go.RowKit

section
variable {n : Nat} {C : Cx} {Q : Exit → Act → World → Prop} {E E' : List (Nat × Value)} {F : List Pf} {R : List HP} {k : List Fr} {ops l : List Oper}
  {d : Nat} {t ty0 : TypeId} {x y : Operand} {pos : String} {aft : Array Edge} {gd : Option (Nat × Bool)}
theorem l_sx {s : ByteArray} {z : Int} {rs : TRow} (i : Nat) (hlt : i < s.data.toList.length)
    (nx : Wl n C ops.toArray k Q l ((d, .int .u8 (s.data.toList[i]).toNat) :: E) F R)
    (hw : wantL ops E ⟨some d, .index t x y, ty0, pos, aft, gd⟩ = some true := by rfl) (hn : Nat.blt d n = true := by rfl) (hx : ev E x = some (.string s) := by rfl) (hy : ev E y = some (.int .i64 z) := by rfl)
    (hts : lookT tab t = some rs := by rfl) (hrs : rs.k = .str := by rfl) (hz : z = (i : Int) := by first | rfl | omega) : Wl n C ops.toArray k Q (⟨some d, .index t x y, ty0, pos, aft, gd⟩ :: l) E F R :=
  l_six i _ (List.getElem?_eq_getElem hlt) nx hw hn hx hy hts hrs hz
end

theorem takeWhile_lt {p : UInt8 → Bool} : ∀ (l : List UInt8) (i : Nat), i ≤ (l.takeWhile p).length → (i < (l.takeWhile p).length ↔ ∃ c, l[i]? = some c ∧ p c = true)
  | [], i, h => by simp
  | a :: l, 0, _ => by
    rw [List.takeWhile_cons]
    split
    · rename_i h; simp [h]
    · rename_i h; simp [h]
  | a :: l, i + 1, h => by
    rw [List.takeWhile_cons] at h ⊢
    split at h
    · rename_i hp
      simp only [hp, if_true, List.length_cons, List.getElem?_cons_succ] at h ⊢
      have := takeWhile_lt (p := p) l i (by omega)
      rw [← this]; omega
    · simp at h
theorem digs_lt {l : List UInt8} {i : Nat} (h : i ≤ (digs l).length) : i < (digs l).length ↔ i < 7 ∧ ∃ c, l[i]? = some c ∧ isDig c = true := by
  have h1 := takeWhile_lt (p := isDig) (l.take 7) i h
  unfold digs
  rw [h1, List.getElem?_take]
  by_cases h7 : i < 7 <;> simp [h7]
theorem digs_get {l : List UInt8} {i : Nat} (h : i < (digs l).length) : (digs l)[i]? = l[i]? := by
  rw [digs_pre l, List.getElem?_take, if_pos h]
theorem dnum_lt : ∀ (l : List UInt8) (n : Nat), (∀ c ∈ l, isDig c = true) → l.foldl (fun n c => n * 10 + (c.toNat - 48)) n < (n + 1) * 10 ^ l.length
  | [], n, _ => by simp
  | c :: l, n, h => by
    have h1 := dnum_lt l (n * 10 + (c.toNat - 48)) fun d hd => h d (List.mem_cons_of_mem _ hd)
    have h2 := dig_lt (h c (by simp))
    refine Nat.lt_of_lt_of_le h1 ?_
    rw [List.length_cons, Nat.pow_succ]
    have : (n * 10 + (c.toNat - 48) + 1) ≤ (n + 1) * 10 := by omega
    calc (n * 10 + (c.toNat - 48) + 1) * 10 ^ l.length ≤ ((n + 1) * 10) * 10 ^ l.length := Nat.mul_le_mul_right _ this
      _ = (n + 1) * (10 ^ l.length * 10) := by rw [Nat.mul_assoc, Nat.mul_comm 10]
theorem dnum_take_lt (l : List UInt8) (i : Nat) : dnum ((digs l).take i) < 10000000 := by
  have h1 := dnum_lt ((digs l).take i) 0 fun c hc => digs_all l c (List.mem_of_mem_take hc)
  have h2 := (digs_len l).1
  have h3 : ((digs l).take i).length ≤ 7 := by simp; omega
  have h4 : 10 ^ ((digs l).take i).length ≤ 10 ^ 7 := Nat.pow_le_pow_right (by omega) h3
  unfold dnum
  omega
theorem dnum_succ {l : List UInt8} {i : Nat} {c : UInt8} (h : (digs l)[i]? = some c) : dnum ((digs l).take (i + 1)) = dnum ((digs l).take i) * 10 + (c.toNat - 48) := by
  rw [List.take_add_one, h]
  exact dnum_snoc _ _

def Prt.v (p : Prt) : Value := .agg #[.int .i64 (p.ord : Int), .int .i64 (p.pos : Int), .int .i64 p.e]

/-- The ordinal that begins at a place, and where it ends. -/
def ffirst (l : List UInt8) (pos count : Nat) : Prt × Nat := if ferr l count ≠ 0 then (⟨0, pos, ferr l count⟩, pos) else (⟨dnum (digs l), pos, 0⟩, pos + (digs l).length)

theorem wu8 {z : Int} (h : 0 ≤ z) (h2 : z < 256) : IntKind.u8.wrap z = z := by
  simp [IntKind.wrap, IntKind.bits, IntKind.signed]; omega
theorem u8eq (c : UInt8) : ((c.toNat : Int) = 48) ↔ c = 48 := by
  constructor
  · intro h; exact UInt8.toNat_inj.1 (by show c.toNat = 48; omega)
  · intro h; subst h; rfl

theorem first_ok (s : ByteArray) (p count : Nat) (hp : p ≤ s.size) (hs : s.size ≤ 1099511627776) :
    Enters 230 ∧ Spec Tryz.prog 230 #[.string s, .int .i64 (p : Int), .int .i64 (count : Int)] [] []
      (RetV (.tuple #[(ffirst (s.data.toList.drop p) p count).1.v, .int .i64 ((ffirst (s.data.toList.drop p) p count).2 : Int)])) := by
  have hsz : s.data.toList.length = s.size := by simp
  generalize hl : s.data.toList.drop p = l
  have hll : l.length = s.size - p := by rw [← hl]; simp
  have hget : ∀ i, l[i]? = s.data.toList[p + i]? := fun i => by rw [← hl, List.getElem?_drop]
  have hd := digs_len l
  refine ⟨enters_of Tryz.func230 (by kernel_rfl) rfl, spec_of (vs := [_, _, _]) Tryz.func230 rfl Tryz.ntmps230 rfl fun G w hp => ?_⟩
  repeat' (first | refine l_run ?_ | refine l_nil ?_ | refine l_one ?_ | refine k_reg ?_ | refine l_ld ?_ | refine l_ldF ?_ | refine l_st ?_ | refine l_al (fun b => ?_) | refine l_bs (fun b => ?_) | refine k_condT ?_ | refine k_condF ?_ | refine k_brk ?_ | (refine l_split (fun hc => ?_) (fun hc => ?_) <;> (try simp at hc)) | (refine k_cond (fun hc => ?_) (fun hc => ?_) <;> (try simp at hc)))
  refine k_lpx (X := { i : Nat // i ≤ (digs l).length }) (Y := Unit) (fun i => [(0, .string s), (1, .int .i64 (p : Int)), (2, .int .i64 (count : Int)), (6, .pointer (some ⟨b, 0, none⟩)), (8, .int .i64 ((p + i.1 : Nat) : Int)), (9, .int .i64 (dnum ((digs l).take i.1) : Int))]) (fun _ => []) (fun _ => [Pt b (.cells #[.int .i64 0, .int .i64 0, .int .i64 0] 264)]) (fun i => (digs l).length - i.1)
    (fun _ => [(0, .string s), (1, .int .i64 (p : Int)), (2, .int .i64 (count : Int)), (6, .pointer (some ⟨b, 0, none⟩)), (8, .int .i64 ((p + (digs l).length : Nat) : Int)), (9, .int .i64 (dnum (digs l) : Int))]) (fun _ => []) (fun _ => [Pt b (.cells #[.int .i64 0, .int .i64 0, .int .i64 0] 264)])
    ⟨0, by omega⟩ ⟨rfl, rfl, rfl, rfl, rfl, rfl, trivial⟩ ?_ ?_
  · intro _
    generalize hf : ffirst l p count = r
    unfold ffirst at hf
    have h0 : ∀ h : p < s.data.size, l.head? = some s.data[p] := fun h => by
      rw [List.head?_eq_getElem?, hget 0, Nat.add_zero]; simp
    have hn : l = [] ↔ p = s.size := by rw [← List.length_eq_zero_iff]; omega
    have hdn : digs l = [] ↔ (digs l).length = 0 := List.length_eq_zero_iff.symm
    have hss : s.data.size = s.size := rfl
    repeat' (first | refine l_run ?_ | refine l_nil ?_ | refine l_one ?_ | refine k_reg ?_ | refine l_ld ?_ | refine l_ldF ?_ | refine l_st ?_ | refine l_al (fun b => ?_) | refine l_bs (fun b => ?_) | refine k_condT ?_ | refine k_condF ?_ | refine k_brk ?_ | refine l_sx (s := s) p (by omega) ?_ | rw [wrapi (z := ((p + (digs l).length : Nat) : Int) - (p : Int)) (by omega) (by omega)] | (refine l_split (fun hc => ?_) (fun hc => ?_) <;> (try simp at hc)) | (refine k_cond (fun hc => ?_) (fun hc => ?_) <;> (try simp at hc)))
    · have e : ferr l count = 9 := by rw [ferr, if_pos (by omega)]
      rw [e] at hf; subst hf; exact k_ret () rfl trivial
    · have e : ferr l count = 4 := by rw [ferr, if_neg (by omega), if_pos (hn.2 (by omega))]
      rw [e] at hf; subst hf; exact k_ret () rfl trivial
    · have e : ferr l count = 6 := by rw [ferr, if_neg (by omega), if_neg (fun e => by have := hn.1 e; omega), if_pos (hdn.2 (by omega))]
      rw [e] at hf; subst hf; exact k_ret () rfl trivial
    · have e : ferr l count = 3 := by
        rw [ferr, if_neg (by omega), if_neg (fun e => by have := hn.1 e; omega), if_neg (fun e => by have := hdn.1 e; omega), if_pos]
        rw [h0 (by omega)]
        exact congrArg some ((u8eq _).1 hc)
      rw [e] at hf; subst hf; exact k_ret () rfl trivial
    · have e : ferr l count = 2 := by
        rw [ferr, if_neg (by omega), if_neg (fun e => by have := hn.1 e; omega), if_neg (fun e => by have := hdn.1 e; omega), if_neg, if_pos (by omega)]
        rw [h0 (by omega)]
        intro e
        have := (u8eq _).2 (Option.some.inj e)
        omega
      rw [e] at hf; subst hf; exact k_ret () rfl trivial
    · have e : ferr l count = 0 := by
        rw [ferr, if_neg (by omega), if_neg (fun e => by have := hn.1 e; omega), if_neg (fun e => by have := hdn.1 e; omega), if_neg, if_neg (by omega)]
        rw [h0 (by omega)]
        intro e
        have := (u8eq _).2 (Option.some.inj e)
        omega
      rw [e] at hf; subst hf; exact k_ret () rfl trivial
  rintro hx ⟨i, hi⟩
  dsimp only
  have hlt := digs_lt hi
  have hdl := dnum_take_lt l i
  repeat' (first | refine l_run ?_ | refine l_nil ?_ | refine l_one ?_ | refine k_reg ?_ | refine l_ld ?_ | refine l_ldF ?_ | refine l_st ?_ | refine l_al (fun b => ?_) | refine l_bs (fun b => ?_) | refine k_condT ?_ | refine k_condF ?_ | refine l_call (isDigit_ok _) (fun _ _ => ?_) | refine l_call0 (isDigit_ok _) (fun _ _ => ?_) | refine l_sx (s := s) (p + i) (by omega) ?_ | rw [wrapi (z := ((p + i : Nat) : Int) - (p : Int)) (by omega) (by omega)] | (refine l_split (fun hc => ?_) (fun hc => ?_) <;> (try simp at hc)) | (refine k_cond (fun hc => ?_) (fun hc => ?_) <;> (try simp at hc)))
  · have hpi : p + i < s.data.size := by have : s.data.size = s.size := rfl; omega
    have hcc : l[i]? = some s.data[p + i] := by rw [hget i]; simp
    have hic : isDig s.data[p + i] = true := by simp [isDig]; omega
    have hi2 := hlt.2 ⟨by omega, _, hcc, hic⟩
    have hds := dnum_succ (i := i) ((digs_get hi2).trans hcc)
    have e1 : s.data.toList[p + i]'(by omega) = s.data[p + i] := by simp
    have e2 : IntKind.i64.wrap (IntKind.i64.wrap ((dnum ((digs l).take i) : Int) * 10) + IntKind.i64.wrap (IntKind.u8.wrap ((s.data[p + i].toNat : Int) - 48))) = (dnum ((digs l).take (i + 1)) : Int) := by
      rw [wu8 (by omega) (by omega), wrapi (z := (dnum ((digs l).take i) : Int) * 10) (by omega) (by omega), wrapi (z := (s.data[p + i].toNat : Int) - 48) (by omega) (by omega), wrapi (by omega) (by omega), hds]
      omega
    rw [e1, e2, wrapi (z := ((p + i : Nat) : Int) + 1) (by omega) (by omega)]
    refine k_next ⟨i + 1, hi2⟩ (by show (digs l).length - (i + 1) < (digs l).length - i; omega) ⟨rfl, rfl, rfl, rfl, rfl, rfl, trivial⟩
  all_goals
    have e : i = (digs l).length := by
      refine Nat.le_antisymm hi (Nat.le_of_not_lt fun h => ?_)
      obtain ⟨h7, c, hc1, hc2⟩ := hlt.1 h
      rw [hget i] at hc1
      have h8 := (List.getElem?_eq_some_iff.1 hc1).1
      simp [isDig] at hc2
      try (
        have h9 : s.data[p + i]? = some c := by simpa using hc1
        rw [Array.getElem?_eq_getElem (by omega)] at h9
        obtain rfl := Option.some.inj h9)
      omega
    have e2 : dnum ((digs l).take i) = dnum (digs l) := by rw [e, List.take_length]
    exact k_out hx () ⟨rfl, rfl, rfl, rfl, by rw [← e]; rfl, by rw [← e2]; rfl, trivial⟩

theorem prts_step (s : List UInt8) (p c : Nat) (hp : p ≤ s.length) : p ≤ (ffirst (s.drop p) p c).2 ∧ (ffirst (s.drop p) p c).2 ≤ s.length ∧ ((ffirst (s.drop p) p c).1.e = 0 → c ≠ 8) ∧
    prts (s.drop p) p c = if (ffirst (s.drop p) p c).1.e ≠ 0 then [(ffirst (s.drop p) p c).1] else match s[(ffirst (s.drop p) p c).2]? with
      | none => [(ffirst (s.drop p) p c).1]
      | some ch => if ch ≠ 46 then [(ffirst (s.drop p) p c).1, ⟨0, (ffirst (s.drop p) p c).2, 6⟩] else (ffirst (s.drop p) p c).1 :: prts (s.drop ((ffirst (s.drop p) p c).2 + 1)) ((ffirst (s.drop p) p c).2 + 1) (c + 1) := by
  have hd := digs_len (s.drop p)
  have hl : (s.drop p).length = s.length - p := by simp
  generalize hl' : s.drop p = l at *
  unfold ffirst
  by_cases hf : ferr l c = 0
  · rw [if_neg (by simp [hf])]
    refine ⟨by dsimp only; omega, by dsimp only; omega, fun _ h8 => ?_, ?_⟩
    · unfold ferr at hf; rw [if_pos h8] at hf; cases hf
    · conv => lhs; unfold prts
      rw [if_neg (by simp [hf])]
      dsimp only
      rw [if_neg (by simp)]
      have e1 : l.drop (digs l).length = s.drop (p + (digs l).length) := by rw [← hl', List.drop_drop]
      by_cases hlt : p + (digs l).length < s.length
      · have e2 := List.getElem?_eq_getElem hlt
        have e3 := List.drop_eq_getElem_cons hlt
        rw [e2]
        dsimp only
        split
        · rename_i h4; rw [e1, e3] at h4; cases h4
        · rename_i ch rest h4
          rw [e1, e3] at h4
          injection h4 with h5 h6
          rw [h5, h6]
      · have e2 : s[p + (digs l).length]? = none := List.getElem?_eq_none (by omega)
        rw [e2]
        dsimp only
        split
        · rfl
        · rename_i h4
          rw [e1, List.drop_eq_nil_of_le (by omega)] at h4
          cases h4
  · rw [if_pos hf]
    refine ⟨by dsimp only; omega, by dsimp only; omega, fun h => absurd h hf, ?_⟩
    unfold prts
    rw [if_pos hf]
    simp [hf]

structure PX (s : List UInt8) where
  pre : List Prt
  p : Nat
  c : Nat
  h1 : p ≤ s.length
  h2 : c ≤ 8
  h3 : lparts s = pre ++ (if s = [] then [] else prts (s.drop p) p c)

theorem parts1_iter (s : ByteArray) (b : Nat) (hs : s.size ≤ 1099511627776) : Iter 229 [.pointer (some ⟨b, 0, none⟩)] Prt.v (lparts s.data.toList) [Blk b (.cells #[.string s] 9)] [] := by
  intro v Y I Ix hy
  have hsz : s.data.toList.length = s.size := by simp
  refine ⟨enters_of Tryz.func229 (by kernel_rfl) rfl, spec_of (vs := [_, _]) Tryz.func229 rfl Tryz.ntmps229 rfl fun G w hp => ?_⟩
  repeat' (first | refine l_run ?_ | refine l_nil ?_ | refine l_one ?_ | refine k_reg ?_ | refine l_ld ?_ | refine l_ldF ?_ | refine l_st ?_ | refine l_al (fun b => ?_) | refine l_bs (fun b => ?_) | refine k_condT ?_ | refine k_condF ?_ | refine k_brk ?_ | (refine l_split (fun hc => ?_) (fun hc => ?_) <;> (try simp at hc)) | (refine k_cond (fun hc => ?_) (fun hc => ?_) <;> (try simp at hc)))
  refine k_lp (X := PX s.data.toList) (fun q => [(0, v), (1, .pointer (some ⟨b, 0, none⟩)), (3, .int .i64 (q.p : Int)), (4, .int .i64 (q.c : Int))]) (fun _ => [Y, Blk b (.cells #[.string s] 9)]) (fun q => [I q.pre]) (fun q => s.size - q.p) ⟨[], 0, 0, by omega, by omega, by simp [lparts]⟩ ⟨rfl, rfl, rfl, rfl, trivial⟩ ?_
  rintro ⟨pre, p, c, h1, h2, h3⟩
  dsimp only
  obtain ⟨g1, g2, g3, g4⟩ := prts_step s.data.toList p c h1
  have hf := first_ok s p c (by omega) hs
  generalize hr : ffirst (s.data.toList.drop p) p c = r at *
  obtain ⟨pt, fe⟩ := r
  dsimp only at *
  have hemp : ∀ h : (!s.toList == ByteArray.toList ⟨#[]⟩) = false, s.data.toList = [] := fun h => by
    simpa [toList_data] using h
  have hne : ∀ h : (!s.toList == ByteArray.toList ⟨#[]⟩) = true, s.data.toList ≠ [] := fun h => by
    simpa [toList_data] using h
  repeat' (first | refine l_run ?_ | refine l_nil ?_ | refine l_one ?_ | refine k_reg ?_ | refine l_ld ?_ | refine l_ldF ?_ | refine l_st ?_ | refine l_al (fun b => ?_) | refine l_bs (fun b => ?_) | refine k_condT ?_ | refine k_condF ?_ | refine l_call (hf) (fun _ _ => ?_) | refine l_call0 (hf) (fun _ _ => ?_) | refine l_split (fun hc => ?_) (fun hc => ?_) | refine k_cond (fun hc => ?_) (fun hc => ?_))
  · have hne := hne hc
    rw [if_neg hne, g4] at h3
    have hpre : pre ++ [pt] <+: lparts s.data.toList := by
      rw [h3]
      refine (List.prefix_append_right_inj pre).2 ?_
      split
      · exact List.prefix_refl _
      · split
        · exact List.prefix_refl _
        · split
          · exact ⟨_, rfl⟩
          · exact ⟨_, rfl⟩
    refine l_callV (hy pre pt hpre) (fun bb _ => ?_)
    cases bb with
    | false =>
      repeat' (first | refine l_run ?_ | refine l_nil ?_ | refine l_one ?_ | refine k_reg ?_ | refine l_ld ?_ | refine l_ldF ?_ | refine l_st ?_ | refine l_al (fun b => ?_) | refine l_bs (fun b => ?_) | refine k_condT ?_ | refine k_condF ?_ | refine l_split (fun hc => ?_) (fun hc => ?_) | refine k_cond (fun hc => ?_) (fun hc => ?_))
      exact k_rt (w_lq (w_ret (some (pre ++ [pt])) rfl (fun q hq => by cases hq; exact hpre)))
    | true =>
      repeat' (first | refine l_run ?_ | refine l_nil ?_ | refine l_one ?_ | refine k_reg ?_ | refine l_ld ?_ | refine l_ldF ?_ | refine l_st ?_ | refine l_al (fun b => ?_) | refine l_bs (fun b => ?_) | refine k_condT ?_ | refine k_condF ?_ | refine l_split (fun hc => ?_) (fun hc => ?_))
      · have he : pt.e ≠ 0 := by simpa using hc
        rw [if_pos he] at h3
        rw [h3]
        exact k_rt (w_lq (w_ret none rfl (fun q hq => by cases hq)))
      · have he : pt.e = 0 := by simpa using hc
        rw [if_neg (by simp [he])] at h3
        have g3 := g3 he
        refine k_cond (fun hc => ?_) (fun hc => ?_)
        · have hfe : fe = s.size := by simp at hc; omega
          have e2 : s.data.toList[fe]? = none := List.getElem?_eq_none (by omega)
          rw [e2] at h3
          dsimp only at h3
          rw [h3]
          exact k_rt (w_lq (w_ret none rfl (fun q hq => by cases hq)))
        · have hfe : fe < s.data.toList.length := by simp at hc; omega
          have e2 := List.getElem?_eq_getElem hfe
          rw [e2] at h3
          dsimp only at h3
          repeat' (first | refine l_run ?_ | refine l_nil ?_ | refine l_one ?_ | refine k_reg ?_ | refine l_ld ?_ | refine l_ldF ?_ | refine l_st ?_ | refine l_al (fun b => ?_) | refine l_bs (fun b => ?_) | refine k_condT ?_ | refine k_condF ?_ | refine l_sx (s := s) fe hfe ?_ | refine l_split (fun hc => ?_) (fun hc => ?_) | refine k_cond (fun hc => ?_) (fun hc => ?_))
          · have h46 : s.data.toList[fe] ≠ 46 := fun e => by rw [e] at hc; simp at hc
            rw [if_pos h46] at h3
            refine l_callV (hy (pre ++ [pt]) ⟨0, fe, 6⟩ (by rw [h3]; simp)) (fun bb _ => ?_)
            cases bb with
            | false =>
              repeat' (first | refine l_run ?_ | refine l_nil ?_ | refine l_one ?_ | refine k_reg ?_ | refine l_ld ?_ | refine l_ldF ?_ | refine l_st ?_ | refine l_al (fun b => ?_) | refine l_bs (fun b => ?_) | refine k_condT ?_ | refine k_condF ?_ | refine l_split (fun hc => ?_) (fun hc => ?_) | refine k_cond (fun hc => ?_) (fun hc => ?_))
              exact k_rt (w_lq (w_ret (some (pre ++ [pt] ++ [⟨0, fe, 6⟩])) rfl (fun q hq => by cases hq; rw [h3]; simp)))
            | true =>
              repeat' (first | refine l_run ?_ | refine l_nil ?_ | refine l_one ?_ | refine k_reg ?_ | refine l_ld ?_ | refine l_ldF ?_ | refine l_st ?_ | refine l_al (fun b => ?_) | refine l_bs (fun b => ?_) | refine k_condT ?_ | refine k_condF ?_ | refine l_split (fun hc => ?_) (fun hc => ?_) | refine k_cond (fun hc => ?_) (fun hc => ?_))
              have h3 : lparts s.data.toList = pre ++ [pt] ++ [⟨0, fe, 6⟩] := by rw [h3]; simp
              rw [h3]
              exact k_rt (w_lq (w_ret none rfl (fun q hq => by cases hq)))
          · have h46 : s.data.toList[fe] = 46 := UInt8.toNat_inj.1 (by simp at hc; simp; omega)
            rw [if_neg (by simp [h46])] at h3
            rw [wrapi (z := (fe : Int) + 1) (by omega) (by omega), wrapi (z := (c : Int) + 1) (by omega) (by omega)]
            exact k_next ⟨pre ++ [pt], fe + 1, c + 1, by omega, by omega, by rw [h3, if_neg hne]; simp⟩ (by show s.size - (fe + 1) < s.size - p; omega) ⟨rfl, rfl, rfl, rfl, trivial⟩
  · have hemp := hemp hc
    rw [if_pos hemp, List.append_nil] at h3
    refine k_brk ?_
    rw [h3]
    exact k_end none rfl (fun q hq => by cases hq)
end Go.Proofs.YtgaipgbgppdfeaaGreatDoor

set_option maxRecDepth 10000
namespace Go.Proofs.YtgaipgbgppdfeaaGreatDoor
open Go.RowKit

section
variable {n : Nat} {C : Cx} {Q : Exit → Act → World → Prop} {E E' : List (Nat × Value)} {F : List Pf} {R R0 : List HP} {k : List Fr} {ops l : List Oper}
/-- An owned block that is no more written. -/
theorem k_fz {b : Nat} {o : Obj} (t : Wk n C k Q E (Blk b o :: F) R0) (hs : Sel (Pt b o) R R0 := by (repeat (first | exact Sel.here | apply Sel.there)); first | done | fail) : Wk n C k Q E F R :=
  fun a w ha hsat => t a w ha (hsat.sel hs).freeze
theorem k_add {f : Pf} (h : ∀ hp, f.p hp) (t : Wk n C k Q E (f :: F) R) : Wk n C k Q E F R := fun a w ha ⟨_, _, st⟩ => t a w ha (add_fact st (h _))
theorem w_add {f : Pf} (h : ∀ hp, f.p hp) (t : Wret n C Q E (f :: F) R) : Wret n C Q E F R := fun a w ha ⟨_, _, st⟩ => t a w ha (add_fact st (h _))
theorem sl_nil {α : Type} (T : Nat) (f : α → List Value) (h : H) : (Sl T f none 0 []).p h := ⟨by simp, .inl rfl⟩
/-- A result, seen as another term. -/
theorem w_rv {fn : Func} {v v' : Value} {G : H} {w0 : World} {hp0 : H} (h : v = v') (t : Wret n C (bodyPost Tryz.prog fn ((RetV v').holds G w0 hp0)) E F R) : Wret n C (bodyPost Tryz.prog fn ((RetV v).holds G w0 hp0)) E F R := by subst h; exact t
theorem w_open {X : Type} {r : HP} {Lx : X → List HP} {p : X → Prop} (hs : Sel r R R0) (h : ∀ hh, r hh → ∃ x, p x ∧ Sep (Lx x) hh) (t : ∀ x, p x → Wret n C Q E F (Lx x ++ R0)) : Wret n C Q E F R := fun a w ha hsat => by
  obtain ⟨⟨x, hx⟩, h1⟩ := (hsat.sel hs).open' (X := { x // p x }) (L := fun x => Lx x.1) fun hh hr => let ⟨x, h1, h2⟩ := h hh hr; ⟨⟨x, h1⟩, h2⟩
  exact t x hx a w ha h1
end

theorem parts_ok (s : ByteArray) : Enters 181 ∧ Spec Tryz.prog 181 #[.string s] [] []
    ⟨Nat, fun b => .func (.func 229) #[] #[.pointer (some ⟨b, 0, none⟩)], fun _ => True, fun b => [Blk b (.cells #[.string s] 9)], fun _ => []⟩ := by
  refine ⟨enters_of Tryz.func181 (by kernel_rfl) rfl, spec_of (vs := [_]) Tryz.func181 rfl Tryz.ntmps181 rfl fun G w hp => ?_⟩
  repeat' (first | refine l_run ?_ | refine l_nil ?_ | refine l_one ?_ | refine k_reg ?_ | refine l_ld ?_ | refine l_ldF ?_ | refine l_st ?_ | refine l_al (fun b => ?_) | refine l_bs (fun b => ?_) | refine k_condT ?_ | refine k_condF ?_ | refine k_brk ?_ | refine l_split (fun hc => ?_) (fun hc => ?_) | refine k_cond (fun hc => ?_) (fun hc => ?_))
  refine k_fz ?_
  exact k_ret b rfl trivial

/-- What Parse answers. -/
def lparse (s : ByteArray) : ByteArray × Nat × Int :=
  match (lparts s.data.toList).find? fun p => p.e != 0 with
  | none => (s, 0, 0)
  | some p => (⟨#[]⟩, p.pos, p.e)

theorem parse_find {pre : List Prt} {e : Prt} {xs : List Prt} (h : pre ++ [e] <+: xs) (h0 : ∀ x ∈ pre, x.e = 0) (he : e.e ≠ 0) : xs.find? (fun p => p.e != 0) = some e := by
  obtain ⟨t, rfl⟩ := h
  rw [List.append_assoc, List.find?_append]
  have : pre.find? (fun p => p.e != 0) = none := List.find?_eq_none.2 fun x hx => by simp [h0 x hx]
  simp [this, he]

abbrev JL (b2 b3 b4 : Nat) (p e : Int) : List HP := [Pt b2 (.cells #[.string ⟨#[]⟩] 33), Pt b3 (.cells #[.int .i64 p] 3), Pt b4 (.cells #[.int .i64 e] 31)]
def JP (b2 b3 b4 : Nat) (pre : List Prt) : HP := fun h => (∀ x ∈ pre, x.e = 0) ∧ Sep (JL b2 b3 b4 0 0) h
def JPx (b2 b3 b4 : Nat) (pre : List Prt) : HP := fun h => ∃ q : List Prt × Prt, (pre = q.1 ++ [q.2] ∧ (∀ x ∈ q.1, x.e = 0) ∧ q.2.e ≠ 0) ∧ Sep (JL b2 b3 b4 q.2.pos q.2.e) h

theorem parseL_ok (s : ByteArray) (hs : s.size ≤ 1099511627776) : Enters 111 ∧ Spec Tryz.prog 111 #[.string s] [] []
    (RetV (.tuple #[.string (lparse s).1, .int .i64 ((lparse s).2.1 : Int), .int .i64 (lparse s).2.2])) := by
  refine ⟨enters_of Tryz.func111 (by kernel_rfl) rfl, spec_ofM (vs := [_]) Tryz.func111 rfl Tryz.ntmps111 rfl fun G w hp => ?_⟩
  repeat' (first | refine l_run ?_ | refine l_nil ?_ | refine l_one ?_ | refine k_reg ?_ | refine l_ld ?_ | refine l_ldF ?_ | refine l_st ?_ | refine l_al (fun b => ?_) | refine l_bs (fun b => ?_) | refine k_condT ?_ | refine k_condF ?_ | refine k_brk ?_ | refine r_run ?_ | refine r_one ?_ | refine r_ld ?_ | refine r_ldF ?_ | refine r_ldN ?_ | refine r_al (fun b => ?_) | refine r_bs (fun b => ?_) | refine r_st ?_ | refine r_end ?_ | refine l_call (parts_ok _) (fun _ _ => ?_) | refine l_call0 (parts_ok _) (fun _ _ => ?_) | refine r_call (parts_ok _) (fun _ _ => ?_) | refine l_split (fun hc => ?_) (fun hc => ?_) | refine r_split (fun hc => ?_) (fun hc => ?_) | refine k_draw 4 [] [(0, 0), (1, 0), (2, 0), (3, 0), (4, 4), (5, 4)] [6] ?_ | refine k_cond (fun hc => ?_) (fun hc => ?_))
  rename_i b2 b3 q _
  generalize b = b4
  refine k_shut (r := JP b2 b3 b4 []) (Lx := JL b2 b3 b4 0 0) (fun h hh => ⟨fun x hx => (by cases hx), hh⟩) ?_
  refine k_range (α := Prt) (enc := Prt.v) (xs := lparts s.data.toList) (JP b2 b3 b4) (JPx b2 b3 b4) (parts1_iter s q hs) ?_ ?_ ?_
  · intro lr l pre e hpre G w0 hp0
    refine k_open (X := Unit) (Lx := fun _ => JL b2 b3 b4 0 0) (p := fun _ => ∀ x ∈ pre, x.e = 0) (r := JP b2 b3 b4 pre) (.there .here) (fun h hh => ⟨(), hh.1, hh.2⟩) (fun _ hall => ?_)
    repeat' (first | refine l_run ?_ | refine l_nil ?_ | refine l_one ?_ | refine k_reg ?_ | refine l_ld ?_ | refine l_ldF ?_ | refine l_st ?_ | refine l_al (fun b => ?_) | refine l_bs (fun b => ?_) | refine k_condT ?_ | refine k_condF ?_ | refine k_brk ?_ | refine r_run ?_ | refine r_one ?_ | refine r_ld ?_ | refine r_ldF ?_ | refine r_ldN ?_ | refine r_al (fun b => ?_) | refine r_bs (fun b => ?_) | refine r_st ?_ | refine r_end ?_ | refine k_beg ?_ | refine l_split (fun hc => ?_) (fun hc => ?_) | refine r_split (fun hc => ?_) (fun hc => ?_) | refine k_draw 4 [Pt b2 (.cells _ _ _), Pt b3 (.cells _ _ _), Pt b4 (.cells _ _ _)] [(0, 0), (1, 0), (2, 0), (3, 0), (4, 4), (5, 4), (6, 4)] [] ?_ | refine k_cond (fun hc => ?_) (fun hc => ?_))
    · have he : e.e ≠ 0 := by simpa using hc
      refine k_shut (Lx := JL b2 b3 b4 e.pos e.e) (r := JPx b2 b3 b4 (pre ++ [e])) (fun h hh => ⟨(pre, e), ⟨rfl, hall, he⟩, hh⟩) ?_
      exact k_rr
    · have he : e.e = 0 := by simpa using hc
      refine k_shut (Lx := JL b2 b3 b4 0 0) (r := JP b2 b3 b4 (pre ++ [e])) (fun h hh => ⟨fun x hx => ?_, hh⟩) ?_
      · rcases List.mem_append.1 hx with hx | hx
        · exact hall x hx
        · simp at hx; subst hx; exact he
      exact k_rn
  · intro D
    refine k_open (X := Unit) (Lx := fun _ => JL b2 b3 b4 0 0) (p := fun _ => ∀ x ∈ lparts s.data.toList, x.e = 0) (r := JP b2 b3 b4 (lparts s.data.toList)) .here (fun h hh => ⟨(), hh.1, hh.2⟩) (fun _ hall => ?_)
    have hp : lparse s = (s, 0, 0) := by
      have : (lparts s.data.toList).find? (fun p => p.e != 0) = none := List.find?_eq_none.2 fun x hx => by simp [hall x hx]
      rw [lparse, this]
    rw [hp]
    repeat' (first | refine l_run ?_ | refine l_nil ?_ | refine l_one ?_ | refine k_reg ?_ | refine l_ld ?_ | refine l_ldF ?_ | refine l_st ?_ | refine l_al (fun b => ?_) | refine l_bs (fun b => ?_) | refine k_condT ?_ | refine k_condF ?_ | refine k_brk ?_ | refine r_run ?_ | refine r_one ?_ | refine r_ld ?_ | refine r_ldF ?_ | refine r_ldN ?_ | refine r_al (fun b => ?_) | refine r_bs (fun b => ?_) | refine r_st ?_ | refine r_end ?_ | refine l_split (fun hc => ?_) (fun hc => ?_) | refine r_split (fun hc => ?_) (fun hc => ?_) | refine k_draw 4 [] [(0, 0), (1, 0), (2, 0), (3, 0), (4, 4), (5, 4)] [6] ?_ | refine k_cond (fun hc => ?_) (fun hc => ?_))
    exact k_retM () rfl trivial
  · intro D pre hpre
    refine w_open (X := List Prt × Prt) (Lx := fun q => JL b2 b3 b4 q.2.pos q.2.e) (r := JPx b2 b3 b4 pre) .here (fun h hh => hh) (fun q hq => ?_)
    obtain ⟨rfl, h1, h2⟩ := hq
    rw [lparse, parse_find hpre h1 h2]
    exact w_retM () rfl trivial

theorem lparse_valid (s : ByteArray) : ((lparse s).2.2 == 0) = lvalid s.data.toList := by
  unfold lparse lvalid
  cases h : (lparts s.data.toList).find? fun p => p.e != 0 with
  | none =>
    have h1 := List.find?_eq_none.1 h
    simp at h1
    symm
    simpa using h1
  | some p =>
    have h1 := List.find?_some h
    have h2 := List.mem_of_find?_eq_some h
    simp at h1
    have e1 : (p.e == 0) = false := by simpa using h1
    dsimp only
    rw [e1]
    symm
    rw [List.all_eq_false]
    exact ⟨p, h2, by simpa using h1⟩

theorem valid_ok (s : ByteArray) (hs : s.size ≤ 1099511627776) : Enters 54 ∧ Spec Tryz.prog 54 #[.string s] [] [] (RetV (.bool (lvalid s.data.toList))) := by
  refine ⟨enters_of Tryz.func54 (by kernel_rfl) rfl, spec_of (vs := [_]) Tryz.func54 rfl Tryz.ntmps54 rfl fun G w hp => ?_⟩
  repeat' (first | refine l_run ?_ | refine l_nil ?_ | refine l_one ?_ | refine k_reg ?_ | refine l_ld ?_ | refine l_ldF ?_ | refine l_st ?_ | refine l_al (fun b => ?_) | refine l_bs (fun b => ?_) | refine k_condT ?_ | refine k_condF ?_ | refine k_brk ?_ | refine l_call (parseL_ok s hs) (fun _ _ => ?_) | refine l_call0 (parseL_ok s hs) (fun _ _ => ?_) | refine l_split (fun hc => ?_) (fun hc => ?_) | refine k_cond (fun hc => ?_) (fun hc => ?_))
  refine k_ret () ?_ trivial
  rw [← lparse_valid]; rfl

theorem prts_len : ∀ (m : Nat) (l : List UInt8) (p c : Nat), l.length ≤ m → (prts l p c).length ≤ l.length + 1 := by
  intro m
  induction m with
  | zero =>
    intro l p c hl
    obtain rfl := List.length_eq_zero_iff.1 (show l.length = 0 by omega)
    unfold prts
    split
    · simp
    · rename_i h; simp [ferr] at h; split at h <;> simp_all
  | succ m ih =>
    intro l p c hl
    unfold prts
    split
    · simp
    · split
      · simp
      · rename_i c' rest h
        have h1 := congrArg List.length h
        simp at h1
        split
        · simp; omega
        · have := ih rest (p + (digs l).length + 1) (c + 1) (by omega)
          simp; omega
theorem lparts_len (s : List UInt8) : (lparts s).length ≤ s.length + 1 := by
  unfold lparts
  split
  · simp
  · exact prts_len _ s 0 0 (Nat.le_refl _)

/-- The cell of a number. -/
def zf (z : Int) : List Value := [.int .i64 z]
def ords (l : List Prt) : List Int := l.map fun p => (p.ord : Int)
theorem lords_ok {s : List UInt8} (h : ∀ x ∈ lparts s, x.e = 0) : lords s = ords (lparts s) := by
  have : lvalid s = true := by simpa [lvalid] using h
  rw [lords, if_pos this]; rfl
theorem lords_bad {s : List UInt8} (h : ∃ x ∈ lparts s, x.e ≠ 0) : lords s = [] := by
  have : lvalid s = false := by simpa [lvalid] using h
  rw [lords, this]; rfl

abbrev JOL (b2 b3 : Nat) (pre : List Prt) (q : Option Addr × Nat) : List HP := [Pt b2 (.cells #[.slice none 0 0] 74), Pt b3 (.cells #[.slice q.1 pre.length q.2] 74), Row 3 1 q.1 pre.length q.2 ((ords pre).flatMap zf)]
def JO (b2 b3 : Nat) (pre : List Prt) : HP := fun h => ∃ q, (∀ x ∈ pre, x.e = 0) ∧ Sep (JOL b2 b3 pre q) h
def JOx (b2 : Nat) (pre : List Prt) : HP := fun h => (∃ x ∈ pre, x.e ≠ 0) ∧ Sep [Pt b2 (.cells #[.slice none 0 0] 74)] h

theorem ordinals_ok (s : ByteArray) (hs : s.size ≤ 1099511627776) : Enters 227 ∧ Spec Tryz.prog 227 #[.string s] [] []
    ⟨Option Addr × Nat, fun q => .slice q.1 (lords s.data.toList).length q.2, fun _ => True, fun q => [Sl 3 zf q.1 q.2 (lords s.data.toList)], fun _ => []⟩ := by
  have hlen := lparts_len s.data.toList
  have hsz : s.data.toList.length = s.size := by simp
  refine ⟨enters_of Tryz.func227 (by kernel_rfl) rfl, spec_ofM (vs := [_]) Tryz.func227 rfl Tryz.ntmps227 rfl fun G w hp => ?_⟩
  repeat' (first | refine l_run ?_ | refine l_nil ?_ | refine l_one ?_ | refine k_reg ?_ | refine l_ld ?_ | refine l_ldF ?_ | refine l_st ?_ | refine l_al (fun b => ?_) | refine l_bs (fun b => ?_) | refine k_condT ?_ | refine k_condF ?_ | refine k_brk ?_ | refine l_call (parts_ok _) (fun _ _ => ?_) | refine l_call0 (parts_ok _) (fun _ _ => ?_) | refine l_split (fun hc => ?_) (fun hc => ?_) | refine k_cond (fun hc => ?_) (fun hc => ?_))
  rename_i b2 q _
  generalize b = b3
  refine k_shut (Lx := []) (r := Row 3 1 none 0 0 []) (fun h _ => row_nil _ _ h) ?_
  refine k_shut (Lx := JOL b2 b3 [] (none, 0)) (r := JO b2 b3 []) (fun h hh => ⟨(none, 0), fun x hx => (by cases hx), hh⟩) ?_
  refine k_range (α := Prt) (enc := Prt.v) (xs := lparts s.data.toList) (JO b2 b3) (JOx b2) (parts1_iter s q hs) ?_ ?_ ?_
  · intro lr l pre e hpre G w0 hp0
    have hple := hpre.length_le
    simp only [List.length_append, List.length_singleton] at hple
    refine k_open (X := Option Addr × Nat) (Lx := fun q => JOL b2 b3 pre q) (p := fun _ => ∀ x ∈ pre, x.e = 0) (r := JO b2 b3 pre) (.there .here) (fun h hh => hh) (fun q hall => ?_)
    repeat' (first | refine l_run ?_ | refine l_nil ?_ | refine l_one ?_ | refine k_reg ?_ | refine l_ld ?_ | refine l_ldF ?_ | refine l_st ?_ | refine l_al (fun b => ?_) | refine l_bs (fun b => ?_) | refine k_condT ?_ | refine k_condF ?_ | refine k_brk ?_ | refine k_beg ?_ | refine l_app1 (fun o' cap' => ?_) | refine l_split (fun hc => ?_) (fun hc => ?_) | refine k_cond (fun hc => ?_) (fun hc => ?_))
    · have he : e.e ≠ 0 := by simpa using hc
      refine k_shut (Lx := [Pt b2 (.cells #[.slice none 0 0] 74)]) (r := JOx b2 (pre ++ [e])) (fun h hh => ⟨⟨e, by simp, he⟩, hh⟩) ?_
      exact k_rr
    · have he : e.e = 0 := by simpa using hc
      have e1 : pre.length + 1 = (pre ++ [e]).length := by simp
      have e2 : (ords pre).flatMap zf ++ #[Value.int .i64 (e.ord : Int)].toList = (ords (pre ++ [e])).flatMap zf := by simp [ords, zf]
      rw [e1, e2]
      refine k_shut (Lx := JOL b2 b3 (pre ++ [e]) (o', cap')) (r := JO b2 b3 (pre ++ [e])) (fun h hh => ⟨(o', cap'), fun x hx => ?_, hh⟩) ?_
      · rcases List.mem_append.1 hx with hx | hx
        · exact hall x hx
        · simp at hx; subst hx; exact he
      exact k_rn
  · intro D
    refine k_open (X := Option Addr × Nat) (Lx := fun q => JOL b2 b3 (lparts s.data.toList) q) (p := fun _ => ∀ x ∈ lparts s.data.toList, x.e = 0) (r := JO b2 b3 (lparts s.data.toList)) .here (fun h hh => hh) (fun q hall => ?_)
    dsimp only [JOL]
    rw [lords_ok hall, show (lparts s.data.toList).length = (ords (lparts s.data.toList)).length by simp [ords]]
    repeat' (first | refine l_run ?_ | refine l_nil ?_ | refine l_one ?_ | refine k_reg ?_ | refine l_ld ?_ | refine l_ldF ?_ | refine l_st ?_ | refine l_al (fun b => ?_) | refine l_bs (fun b => ?_) | refine k_condT ?_ | refine k_condF ?_ | refine k_brk ?_ | refine l_split (fun hc => ?_) (fun hc => ?_) | refine k_cond (fun hc => ?_) (fun hc => ?_))
    refine k_frz (sz := 1) (f := zf) (o := q.1) (cap := q.2) (ords (lparts s.data.toList)) ?_ rfl rfl
    exact k_retM q rfl trivial
  · intro D pre hpre
    refine w_open (X := Unit) (Lx := fun _ => [Pt b2 (.cells #[.slice none 0 0] 74)]) (p := fun _ => ∃ x ∈ pre, x.e ≠ 0) (r := JOx b2 pre) .here (fun h hh => ⟨(), hh⟩) (fun q hq => ?_)
    obtain ⟨x, hx, he⟩ := hq
    rw [lords_bad ⟨x, hpre.subset hx, he⟩]
    refine w_add (sl_nil 3 zf) ?_
    exact w_retM (none, 0) rfl trivial

theorem cmpSl_ok (o1 o2 : Option Addr) (c1 c2 : Nat) (e1 e2 : List Int) (h1 : e1.length ≤ 1099511627776) (h2 : e2.length ≤ 1099511627776) : Enters 244 ∧ Spec Tryz.prog 244 #[.slice o1 e1.length c1, .slice o2 e2.length c2]
    [Sl 3 zf o1 c1 e1, Sl 3 zf o2 c2 e2] [] (RetV (.int .i64 (cmpL e1 e2))) := by
  refine ⟨enters_of Tryz.func244 (by kernel_rfl) rfl, spec_of (vs := [_, _]) Tryz.func244 rfl Tryz.ntmps244 rfl fun G w hp => ?_⟩
  repeat' (first | refine l_run ?_ | refine l_nil ?_ | refine l_one ?_ | refine k_reg ?_ | refine l_ld ?_ | refine l_ldF ?_ | refine l_st ?_ | refine l_al (fun b => ?_) | refine l_bs (fun b => ?_) | refine k_condT ?_ | refine k_condF ?_ | refine k_brk ?_ | refine l_split (fun hc => ?_) (fun hc => ?_) | refine k_cond (fun hc => ?_) (fun hc => ?_))
  refine k_lp (X := { i : Nat // i ≤ e1.length ∧ i ≤ e2.length ∧ cmpL e1 e2 = cmpL (e1.drop i) (e2.drop i) }) (fun i => [(0, .slice o1 e1.length c1), (1, .slice o2 e2.length c2), (9, .slice o1 e1.length c1), (10, .int .i64 (e1.length : Int)), (11, .int .i64 (i.1 : Int))]) (fun _ => [Sl 3 zf o1 c1 e1, Sl 3 zf o2 c2 e2]) (fun _ => []) (fun i => e1.length - i.1) ⟨0, by omega, by omega, rfl⟩ ⟨rfl, rfl, rfl, rfl, rfl, trivial⟩ ?_
  rintro ⟨i, hi1, hi2, hi3⟩
  dsimp only
  repeat' (first | refine l_run ?_ | refine l_nil ?_ | refine l_one ?_ | refine k_reg ?_ | refine l_ld ?_ | refine l_ldF ?_ | refine l_st ?_ | refine l_al (fun b => ?_) | refine l_bs (fun b => ?_) | refine k_condT ?_ | refine k_condF ?_ | refine k_brk ?_ | refine l_call (cmp_int _ _) (fun _ _ => ?_) | refine l_call0 (cmp_int _ _) (fun _ _ => ?_) | refine l_ix e1 i (by omega) (fun b off => ?_) | refine l_ix e2 i (by omega) (fun b off => ?_) | refine l_ldC ?_ | (refine l_split (fun hc => ?_) (fun hc => ?_) <;> (try simp at hc)) | (refine k_cond (fun hc => ?_) (fun hc => ?_) <;> (try simp at hc)))
  · have d1 := List.drop_eq_getElem_cons (l := e1) (i := i) (by omega)
    have d2 : e2.drop i = [] := List.drop_eq_nil_of_le (by omega)
    have e : cmpL e1 e2 = 1 := by rw [hi3, d1, d2]; rfl
    exact k_rt (w_lq (w_rv (congrArg (Value.int .i64) e) (w_ret () rfl trivial)))
  · have d1 := List.drop_eq_getElem_cons (l := e1) (i := i) (by omega)
    have d2 := List.drop_eq_getElem_cons (l := e2) (i := i) (by omega)
    have e : cmpL e1 e2 = cmpI e1[i] e2[i] := by rw [hi3, d1, d2, cmpL, if_pos hc]
    exact k_rt (w_lq (w_rv (congrArg (Value.int .i64) e) (w_ret () rfl trivial)))
  · have d1 := List.drop_eq_getElem_cons (l := e1) (i := i) (by omega)
    have d2 := List.drop_eq_getElem_cons (l := e2) (i := i) (by omega)
    rw [wrapi (z := (i : Int) + 1) (by omega) (by omega)]
    exact k_next ⟨i + 1, by omega, by omega, by rw [hi3, d1, d2, cmpL, if_neg (by simp [hc])]⟩ (by show e1.length - (i + 1) < e1.length - i; omega) ⟨rfl, rfl, rfl, rfl, rfl, trivial⟩
  · have d1 : e1.drop i = [] := List.drop_eq_nil_of_le (by omega)
    have d2 := List.drop_eq_getElem_cons (l := e2) (i := i) (by omega)
    rw [hi3, d1, d2]
    exact k_ret () rfl trivial
  · have d1 : e1.drop i = [] := List.drop_eq_nil_of_le (by omega)
    have d2 : e2.drop i = [] := List.drop_eq_nil_of_le (by omega)
    rw [hi3, d1, d2]
    exact k_ret () rfl trivial

theorem lords_len (s : List UInt8) : (lords s).length ≤ s.length + 1 := by
  unfold lords
  split
  · simp; exact lparts_len s
  · simp

theorem compareN_ok (a b : ByteArray) (ha : a.size ≤ 1099511627770) (hb : b.size ≤ 1099511627770) : Enters 207 ∧ Spec Tryz.prog 207 #[.string a, .string b] [] [] (RetV (.int .i64 (cmpN a b))) := by
  have la := lords_len a.data.toList
  have lb := lords_len b.data.toList
  have sa : a.data.toList.length = a.size := by simp
  have sb : b.data.toList.length = b.size := by simp
  have va := valid_ok a (by omega)
  have vb := valid_ok b (by omega)
  have key : (a.toList == b.toList) = decide (a = b) := by
    rw [toList_data, toList_data, Bool.eq_iff_iff]
    simp only [beq_iff_eq, decide_eq_true_eq]
    exact ⟨ba_ext, fun h => by rw [h]⟩
  generalize hr : cmpN a b = r
  unfold cmpN at hr
  cases hva : lvalid a.data.toList <;> cases hvb : lvalid b.data.toList
  all_goals rw [hva] at va hr
  all_goals rw [hvb] at vb hr
  all_goals dsimp only at hr
  all_goals refine ⟨enters_of Tryz.func207 (by kernel_rfl) rfl, spec_of (vs := [_, _]) Tryz.func207 rfl Tryz.ntmps207 rfl fun G w hp => ?_⟩
  all_goals repeat' (first | refine l_run ?_ | refine l_nil ?_ | refine l_one ?_ | refine k_reg ?_ | refine l_ld ?_ | refine l_ldF ?_ | refine l_st ?_ | refine l_al (fun b => ?_) | refine l_bs (fun b => ?_) | refine k_condT ?_ | refine k_condF ?_ | refine k_brk ?_ | refine l_call (va) (fun _ _ => ?_) | refine l_call0 (va) (fun _ _ => ?_) | refine l_call (vb) (fun _ _ => ?_) | refine l_call0 (vb) (fun _ _ => ?_) | refine l_call (ordinals_ok a (by omega)) (fun _ _ => ?_) | refine l_call0 (ordinals_ok a (by omega)) (fun _ _ => ?_) | refine l_call (ordinals_ok b (by omega)) (fun _ _ => ?_) | refine l_call0 (ordinals_ok b (by omega)) (fun _ _ => ?_) | refine l_call (cmpSl_ok _ _ _ _ (lords a.data.toList) (lords b.data.toList) (by omega) (by omega)) (fun _ _ => ?_) | refine l_call0 (cmpSl_ok _ _ _ _ (lords a.data.toList) (lords b.data.toList) (by omega) (by omega)) (fun _ _ => ?_) | refine l_call (cmp_lin _ _) (fun _ _ => ?_) | refine l_call0 (cmp_lin _ _) (fun _ _ => ?_) | refine l_split (fun hc => ?_) (fun hc => ?_) | refine k_cond (fun hc => ?_) (fun hc => ?_))
  all_goals first | rw [key, decide_eq_true_eq] at hc | rw [key, decide_eq_false_iff_not] at hc
  all_goals first
    | (rw [if_pos hc] at hr; subst hr; exact k_ret () rfl trivial)
    | (rw [if_neg hc] at hr; subst hr; exact k_ret () rfl trivial)
end Go.Proofs.YtgaipgbgppdfeaaGreatDoor

namespace Go.Proofs.YtgaipgbgppdfeaaGreatDoor
open Go.RowKit

abbrev Al := List (Nm × ByteArray)

/-- A tree of names and values. -/
inductive Tr where
  | nil
  | node (l : Tr) (a : Nm) (v : ByteArray) (r : Tr)

namespace Tr
def ht : Tr → Nat
  | nil => 0
  | node l _ _ r => 1 + max l.ht r.ht
def sz : Tr → Nat
  | nil => 0
  | node l _ _ r => 1 + l.sz + r.sz
def by_ : Tr → Nat
  | nil => 0
  | node l _ v r => v.size + l.by_ + r.by_
def els : Tr → Al
  | nil => []
  | node l a v r => l.els ++ (a, v) :: r.els

def bal (l : Tr) (a : Nm) (v : ByteArray) (r : Tr) : Tr :=
  if r.ht + 1 < l.ht then
    match l with
    | nil => node l a v r
    | node ll la lv lr =>
      if lr.ht ≤ ll.ht then node ll la lv (node lr a v r)
      else match lr with
        | nil => node l a v r
        | node il ia iv ir => node (node ll la lv il) ia iv (node ir a v r)
  else if l.ht + 1 < r.ht then
    match r with
    | nil => node l a v r
    | node rl ra rv rr =>
      if rl.ht ≤ rr.ht then node (node l a v rl) ra rv rr
      else match rl with
        | nil => node l a v r
        | node il ia iv ir => node (node l a v il) ia iv (node ir ra rv rr)
  else node l a v r

def put (a : Nm) (v : ByteArray) : Tr → Tr
  | nil => node nil a v nil
  | node l b u r => if cmpO a b < 0 then bal (put a v l) b u r else if 0 < cmpO a b then bal l b u (put a v r) else node l a v r

def find (a : Nm) : Tr → Option ByteArray
  | nil => none
  | node l b u r => if cmpO a b = 0 then some u else if cmpO a b < 0 then find a l else find a r

theorem els_bal (l : Tr) (a : Nm) (v : ByteArray) (r : Tr) : (bal l a v r).els = l.els ++ (a, v) :: r.els := by
  unfold bal
  split
  · split
    · rfl
    · split
      · simp [els]
      · split
        · simp [els]
        · simp [els]
  · split
    · split
      · rfl
      · split
        · simp [els]
        · split
          · simp [els]
          · simp [els]
    · rfl

theorem sz_els (t : Tr) : t.sz = t.els.length := by
  induction t with
  | nil => rfl
  | node l a v r hl hr => simp [sz, els, hl, hr]; omega
def ab (l : Al) : Nat := (l.map fun x => x.2.size).sum
theorem by_els (t : Tr) : t.by_ = ab t.els := by
  induction t with
  | nil => rfl
  | node l a v r hl hr => simp [by_, els, hl, hr, ab]; omega
end Tr

/-- Sorted by names. -/
def Srt (l : Al) : Prop := l.Pairwise fun x y => cmpO x.1 y.1 < 0

/-- Put into a sorted list. -/
def insO (a : Nm) (v : ByteArray) : Al → Al
  | [] => [(a, v)]
  | (b, u) :: l => if cmpO a b < 0 then (a, v) :: (b, u) :: l else if 0 < cmpO a b then (b, u) :: insO a v l else (a, v) :: l
def getO (a : Nm) : Al → Option ByteArray
  | [] => none
  | (b, u) :: l => if cmpO a b = 0 then some u else getO a l

theorem cmpO_anti (a b : Nm) : cmpO a b < 0 ↔ 0 < cmpO b a := ord_obj.anti a b
theorem cmpO_eq (a b : Nm) : cmpO a b = 0 ↔ a = b := ord_obj.eq a b
theorem cmpO_trans {a b c : Nm} (h : cmpO a b < 0) (k : cmpO b c < 0) : cmpO a c < 0 := ord_obj.trans a b c h k

theorem insO_lt (a : Nm) (v : ByteArray) (b : Nm) (u : ByteArray) (ys : Al) : ∀ xs : Al, (∀ x ∈ xs, cmpO x.1 b < 0) → cmpO a b < 0 → insO a v (xs ++ (b, u) :: ys) = insO a v xs ++ (b, u) :: ys
  | [], _, h => by simp [insO, h]
  | (c, w) :: xs, hx, h => by
    have ih := insO_lt a v b u ys xs (fun x hx' => hx x (List.mem_cons_of_mem _ hx')) h
    simp only [List.cons_append, insO, ih]
    split
    · simp
    · split <;> simp
theorem insO_gt (a : Nm) (v : ByteArray) (b : Nm) (u : ByteArray) (ys : Al) : ∀ xs : Al, (∀ x ∈ xs, cmpO x.1 b < 0) → 0 < cmpO a b → insO a v (xs ++ (b, u) :: ys) = xs ++ (b, u) :: insO a v ys
  | [], _, h => by
    have h1 : ¬ cmpO a b < 0 := by omega
    simp [insO, h, h1]
  | (c, w) :: xs, hx, h => by
    have ih := insO_gt a v b u ys xs (fun x hx' => hx x (List.mem_cons_of_mem _ hx')) h
    have h0 : cmpO c b < 0 := hx (c, w) (by simp)
    have h1 : cmpO c a < 0 := cmpO_trans h0 ((cmpO_anti b a).2 h)
    have h2 : 0 < cmpO a c := (cmpO_anti c a).1 h1
    have h3 : ¬ cmpO a c < 0 := by omega
    simp only [List.cons_append, insO, ih, h2, h3, if_true, if_false]
theorem insO_eq (a : Nm) (v : ByteArray) (b : Nm) (u : ByteArray) (ys : Al) : ∀ xs : Al, (∀ x ∈ xs, cmpO x.1 b < 0) → cmpO a b = 0 → insO a v (xs ++ (b, u) :: ys) = xs ++ (a, v) :: ys
  | [], _, h => by simp [insO, h]
  | (c, w) :: xs, hx, h => by
    have ih := insO_eq a v b u ys xs (fun x hx' => hx x (List.mem_cons_of_mem _ hx')) h
    obtain rfl := (cmpO_eq a b).1 h
    have h0 : cmpO c a < 0 := hx (c, w) (by simp)
    have h2 : 0 < cmpO a c := (cmpO_anti c a).1 h0
    have h3 : ¬ cmpO a c < 0 := by omega
    simp only [List.cons_append, insO, ih, h2, h3, if_true, if_false]

theorem srt_split {xs ys : Al} {b : Nm} {u : ByteArray} (h : Srt (xs ++ (b, u) :: ys)) : Srt xs ∧ Srt ys ∧ (∀ x ∈ xs, cmpO x.1 b < 0) ∧ ∀ y ∈ ys, cmpO b y.1 < 0 := by
  unfold Srt at *
  rw [List.pairwise_append, List.pairwise_cons] at h
  exact ⟨h.1, h.2.1.2, fun x hx => h.2.2 x hx (b, u) (by simp), fun y hy => h.2.1.1 y hy⟩

theorem els_put (a : Nm) (v : ByteArray) : ∀ t : Tr, Srt t.els → (Tr.put a v t).els = insO a v t.els
  | .nil, _ => rfl
  | .node l b u r, h => by
    obtain ⟨h1, h2, h3, h4⟩ := srt_split h
    have il := els_put a v l h1
    have ir := els_put a v r h2
    unfold Tr.put
    split
    · rename_i hc
      rw [Tr.els_bal, il]
      exact (insO_lt a v b u _ _ h3 hc).symm
    · split
      · rename_i hc
        rw [Tr.els_bal, ir]
        exact (insO_gt a v b u _ _ h3 hc).symm
      · exact (insO_eq a v b u _ _ h3 (by omega)).symm

theorem getO_append (a : Nm) : ∀ xs ys : Al, getO a (xs ++ ys) = (getO a xs).or (getO a ys)
  | [], _ => by simp [getO]
  | (b, u) :: xs, ys => by
    simp only [List.cons_append, getO, getO_append a xs ys]
    split <;> simp
theorem getO_none {a : Nm} : ∀ {xs : Al}, (∀ x ∈ xs, cmpO a x.1 ≠ 0) → getO a xs = none
  | [], _ => rfl
  | (b, u) :: xs, h => by
    rw [getO, if_neg (h (b, u) (by simp))]
    exact getO_none fun x hx => h x (by simp [hx])

theorem find_els (a : Nm) : ∀ t : Tr, Srt t.els → Tr.find a t = getO a t.els
  | .nil, _ => rfl
  | .node l b u r, h => by
    obtain ⟨h1, h2, h3, h4⟩ := srt_split h
    have il := find_els a l h1
    have ir := find_els a r h2
    unfold Tr.find Tr.els
    rw [getO_append, getO]
    by_cases h0 : cmpO a b = 0
    · rw [if_pos h0, if_pos h0]
      obtain rfl := (cmpO_eq a b).1 h0
      rw [getO_none fun x hx => by
        have := (cmpO_anti _ _).1 (h3 x hx)
        omega]
      rfl
    · rw [if_neg h0, if_neg h0]
      by_cases hl : cmpO a b < 0
      · rw [if_pos hl, il]
        rw [getO_none (xs := r.els) fun y hy => by
          have := cmpO_trans hl (h4 y hy)
          omega]
        simp
      · rw [if_neg hl, ir]
        rw [getO_none (xs := l.els) fun x hx => by
          have h5 : cmpO b a < 0 := (cmpO_anti b a).2 (by omega)
          have h6 := cmpO_trans (h3 x hx) h5
          have := (cmpO_anti _ _).1 h6
          omega]
        simp




end Go.Proofs.YtgaipgbgppdfeaaGreatDoor
