/-
  Names of processes: the ordinals of a text, and that the order of names is one; no program in sight.
  Conditions: none beyond those that each theorem states.
-/
import Derived.Test.YtijaglinajfplaaGreatDoorOrd
namespace Go.Proofs.YtijaglinajfplaaGreatDoor
open Go.RowKit

def isDig (c : UInt8) : Bool := decide (48 ≤ c.toNat) && decide (c.toNat ≤ 57)
/-- The digits that are looked at, seven at most. -/
def digs (l : List UInt8) : List UInt8 := (l.take 7).takeWhile isDig
def dnum (l : List UInt8) : Nat := l.foldl (fun n c => n * 10 + (c.toNat - 48)) 0

/-- An ordinal of a text, or an error. -/
structure Prt where
  ord : Nat
  pos : Nat
  e : Int

def ferr (l : List UInt8) (count : Nat) : Int :=
  if count = 8 then 9 else if l = [] then 4 else if digs l = [] then 6 else if l.head? = some 48 then 3 else if 6 < (digs l).length then 2 else 0

theorem digs_len (l : List UInt8) : (digs l).length ≤ 7 ∧ (digs l).length ≤ l.length := by
  have h1 : (digs l).length ≤ (l.take 7).length := (List.takeWhile_prefix isDig).length_le
  simp at h1
  omega
theorem digs_pre (l : List UInt8) : digs l = l.take (digs l).length := by
  have h1 : digs l <+: l.take 7 := List.takeWhile_prefix isDig
  have h2 := List.prefix_iff_eq_take.1 h1
  rw [List.take_take, Nat.min_eq_left (digs_len l).1] at h2
  exact h2
theorem digs_all (l : List UInt8) : ∀ c ∈ digs l, isDig c = true := fun c hc => by
  have := List.all_takeWhile (p := isDig) (l := l.take 7)
  exact List.all_eq_true.1 this c hc

def prts (l : List UInt8) (pos count : Nat) : List Prt :=
  if ferr l count ≠ 0 then [⟨0, pos, ferr l count⟩]
  else match h : l.drop (digs l).length with
    | [] => [⟨dnum (digs l), pos, 0⟩]
    | c :: rest => if c ≠ 46 then [⟨dnum (digs l), pos, 0⟩, ⟨0, pos + (digs l).length, 6⟩] else ⟨dnum (digs l), pos, 0⟩ :: prts rest (pos + (digs l).length + 1) (count + 1)
termination_by l.length
decreasing_by
  have := congrArg List.length h
  simp at this; omega

def lparts (s : List UInt8) : List Prt := if s = [] then [] else prts s 0 0
def lvalid (s : List UInt8) : Bool := (lparts s).all fun p => p.e == 0
def lords (s : List UInt8) : List Int := if lvalid s then (lparts s).map fun p => (p.ord : Int) else []

theorem dnum_snoc (l : List UInt8) (c : UInt8) : dnum (l ++ [c]) = dnum l * 10 + (c.toNat - 48) := by simp [dnum]
theorem dig_inj {a b : UInt8} (ha : isDig a = true) (hb : isDig b = true) (h : a.toNat - 48 = b.toNat - 48) : a = b := by
  simp [isDig] at ha hb
  exact UInt8.toNat_inj.1 (by omega)
theorem dig_lt {a : UInt8} (ha : isDig a = true) : a.toNat - 48 < 10 := by simp [isDig] at ha; omega
theorem foldl_pos (l : List UInt8) : ∀ n, 0 < n → 0 < l.foldl (fun n c => n * 10 + (c.toNat - 48)) n := by
  induction l with
  | nil => intro n h; exact h
  | cons c l ih => intro n h; exact ih _ (show 0 < n * 10 + (c.toNat - 48) by omega)
theorem dnum_pos {c : UInt8} {l : List UInt8} (hc : isDig c = true) (h0 : c ≠ 48) : 0 < dnum (c :: l) := by
  unfold dnum
  simp only [List.foldl_cons]
  refine foldl_pos l _ ?_
  have : c.toNat ≠ 48 := fun e => h0 (UInt8.toNat_inj.1 e)
  simp [isDig] at hc
  omega

theorem dnum_inj : ∀ (n : Nat) (a b : List UInt8), a.length = n → (∀ c ∈ a, isDig c = true) → (∀ c ∈ b, isDig c = true) → a.head? ≠ some 48 → b.head? ≠ some 48 → dnum a = dnum b → a = b := by
  intro n
  induction n with
  | zero =>
    intro a b hn ha hb h0 h1 h
    cases a with
    | cons => simp at hn
    | nil =>
      cases b with
      | nil => rfl
      | cons c b =>
        have := dnum_pos (l := b) (hb c (by simp)) (fun e => h1 (by simp [e]))
        rw [← h] at this
        simp [dnum] at this
  | succ n ih =>
    intro a b hn ha hb h0 h1 h
    have hane : a ≠ [] := fun e => by subst e; simp at hn
    have hbne : b ≠ [] := fun e => by
      subst e
      cases a with
      | nil => exact hane rfl
      | cons c a =>
        have := dnum_pos (l := a) (ha c (by simp)) (fun e => h0 (by simp [e]))
        rw [h] at this
        simp [dnum] at this
    have ea := List.dropLast_concat_getLast hane
    have eb := List.dropLast_concat_getLast hbne
    rw [← ea, ← eb] at h ⊢
    rw [dnum_snoc, dnum_snoc] at h
    have ka := ha _ (List.getLast_mem hane)
    have kb := hb _ (List.getLast_mem hbne)
    have la := dig_lt ka
    have lb := dig_lt kb
    have hh : ∀ l : List UInt8, l.head? ≠ some 48 → l.dropLast.head? ≠ some 48 := fun l hl => by
      cases l with
      | nil => simp
      | cons c l =>
        cases l with
        | nil => simp
        | cons d l => simpa using hl
    have e1 : a.dropLast = b.dropLast := ih _ _ (by simp [hn]) (fun c hc => ha c (List.dropLast_subset _ hc)) (fun c hc => hb c (List.dropLast_subset _ hc)) (hh _ h0) (hh _ h1) (by omega)
    rw [e1, dig_inj ka kb (by omega)]

theorem prts_ne (l : List UInt8) (pos count : Nat) : prts l pos count ≠ [] := by
  unfold prts
  split
  · simp
  · split
    · simp
    · split <;> simp

/-- What is known where the parts are all good. -/
theorem prts_ok {l : List UInt8} {pos count : Nat} (h : ∀ p ∈ prts l pos count, p.e = 0) :
    digs l ≠ [] ∧ l.head? ≠ some 48 ∧ ((l = digs l ∧ prts l pos count = [⟨dnum (digs l), pos, 0⟩]) ∨
      ∃ rest, l = digs l ++ 46 :: rest ∧ prts l pos count = ⟨dnum (digs l), pos, 0⟩ :: prts rest (pos + (digs l).length + 1) (count + 1)) := by
  have hp := digs_pre l
  have hl := digs_len l
  have key : ferr l count = 0 → digs l ≠ [] ∧ l.head? ≠ some 48 := fun e => by
    unfold ferr at e
    split at e
    · cases e
    · split at e
      · cases e
      · split at e
        · cases e
        · split at e
          · cases e
          · rename_i h1 h2; exact ⟨h1, h2⟩
  unfold prts at h ⊢
  split at h
  · rename_i h1
    exact absurd (h _ (List.mem_singleton.2 rfl)) h1
  · rename_i h1
    rw [if_neg h1]
    have h1 : ferr l count = 0 := Decidable.not_not.1 h1
    refine ⟨(key h1).1, (key h1).2, ?_⟩
    split at h
    · rename_i h2
      left
      have h3 : l.length ≤ (digs l).length := by simpa using h2
      refine ⟨?_, ?_⟩
      · rw [hp]
        exact (List.take_of_length_le h3).symm
      · rfl
    · rename_i c rest h2
      right
      split at h
      · have := h ⟨0, pos + (digs l).length, 6⟩ (by simp)
        cases this
      · rename_i hc
        have hc : c = 46 := Decidable.not_not.1 hc
        subst hc
        refine ⟨rest, ?_, ?_⟩
        · rw [← h2]
          conv => lhs; rw [← List.take_append_drop (digs l).length l]
          rw [← hp]
        · rw [if_neg hc]
          congr 1
          rw [prts]

theorem digs_head (l : List UInt8) : digs l ≠ [] → (digs l).head? = l.head? := by
  intro h
  cases l with
  | nil => simp [digs] at h
  | cons c l =>
    have h2 : digs (c :: l) = (c :: l.take 6).takeWhile isDig := rfl
    rw [h2] at h ⊢
    rw [List.takeWhile_cons] at h ⊢
    split at h
    · rename_i hc; simp [hc]
    · exact absurd rfl h

theorem prts_inj : ∀ (n : Nat) (a b : List UInt8) (p q c d : Nat), a.length ≤ n → (∀ x ∈ prts a p c, x.e = 0) → (∀ x ∈ prts b q d, x.e = 0) → (prts a p c).map (fun x => (x.ord : Int)) = (prts b q d).map (fun x => (x.ord : Int)) → a = b := by
  intro n
  induction n with
  | zero =>
    intro a b p q c d hn ha
    obtain ⟨h1, _, _⟩ := prts_ok ha
    have : a = [] := List.length_eq_zero_iff.1 (by omega)
    subst this
    simp [digs] at h1
  | succ n ih =>
    intro a b p q c d hn ha hb h
    obtain ⟨a1, a2, a3⟩ := prts_ok ha
    obtain ⟨b1, b2, b3⟩ := prts_ok hb
    have key : dnum (digs a) = dnum (digs b) → digs a = digs b := fun e =>
      dnum_inj _ _ _ rfl (digs_all a) (digs_all b) (by rw [digs_head a a1]; exact a2) (by rw [digs_head b b1]; exact b2) e
    rcases a3 with ⟨e1, e2⟩ | ⟨ra, e1, e2⟩ <;> rcases b3 with ⟨f1, f2⟩ | ⟨rb, f1, f2⟩
    · rw [e2, f2] at h
      simp at h
      rw [e1, f1]; exact key (by omega)
    · rw [e2, f2] at h
      simp only [List.map_cons, List.map_nil, List.cons.injEq] at h
      have := h.2.symm
      rw [List.map_eq_nil_iff] at this
      exact absurd this (prts_ne _ _ _)
    · rw [e2, f2] at h
      simp only [List.map_cons, List.map_nil, List.cons.injEq] at h
      have := h.2
      rw [List.map_eq_nil_iff] at this
      exact absurd this (prts_ne _ _ _)
    · rw [e2] at ha h
      rw [f2] at hb h
      simp only [List.map_cons, List.cons.injEq] at h
      have hlen := congrArg List.length e1
      simp at hlen
      have e3 := ih ra rb _ _ _ _ (by omega) (fun x hx => ha x (by simp [hx])) (fun x hx => hb x (by simp [hx])) h.2
      rw [e1, f1, key (by omega), e3]

theorem lords_inj {a b : List UInt8} (ha : lvalid a = true) (hb : lvalid b = true) (h : lords a = lords b) : a = b := by
  unfold lords at h
  rw [if_pos ha, if_pos hb] at h
  unfold lvalid at ha hb
  rw [List.all_eq_true] at ha hb
  simp only [beq_iff_eq] at ha hb
  unfold lparts at *
  by_cases h1 : a = [] <;> by_cases h2 : b = []
  · rw [h1, h2]
  · rw [if_pos h1, if_neg h2] at h
    have := h.symm
    simp only [List.map_nil, List.map_eq_nil_iff] at this
    exact absurd this (prts_ne _ _ _)
  · rw [if_neg h1, if_pos h2] at h
    simp only [List.map_nil, List.map_eq_nil_iff] at h
    exact absurd h (prts_ne _ _ _)
  · rw [if_neg h1, if_neg h2] at h
    rw [if_neg h1] at ha
    rw [if_neg h2] at hb
    exact prts_inj _ a b _ _ _ _ (Nat.le_refl _) ha hb h

/-- The order of names of processes. -/
def cmpN (a b : ByteArray) : Int :=
  if a = b then 0 else match lvalid a.data.toList, lvalid b.data.toList with
    | true, true => cmpL (lords a.data.toList) (lords b.data.toList)
    | true, false => -1
    | false, true => 1
    | false, false => cmpS a b

def keyN (a : ByteArray) : Int × List Int × ByteArray := if lvalid a.data.toList then (0, lords a.data.toList, ⟨#[]⟩) else (1, [], a)
theorem keyN_inj (a b : ByteArray) (h : keyN a = keyN b) : a = b := by
  unfold keyN at h
  split at h <;> split at h
  · rename_i h1 h2
    simp only [Prod.mk.injEq, and_true, true_and] at h
    exact ba_ext (lords_inj h1 h2 h)
  · simp at h
  · simp at h
  · simp only [Prod.mk.injEq, and_true, true_and] at h
    exact h

theorem cmpN_key (a b : ByteArray) : cmpN a b = lex cmpI (lex cmpL cmpS) (keyN a) (keyN b) := by
  have ho := ord_lex ord_int (ord_lex ord_list ord_str)
  unfold cmpN
  by_cases h : a = b
  · subst h; rw [if_pos rfl]; exact (ho.self _).symm
  · rw [if_neg h]
    unfold keyN
    cases h1 : lvalid a.data.toList <;> cases h2 : lvalid b.data.toList
    · simp [lex, cmpI, cmpL]
    · simp [lex, cmpI]
    · simp [lex, cmpI]
    · have h3 : cmpS ⟨#[]⟩ ⟨#[]⟩ = 0 := ord_str.self _
      simp only [lex, cmpI, if_true, h3]
      by_cases h4 : cmpL (lords a.data.toList) (lords b.data.toList) = 0 <;> simp [h4]

theorem ord_lin : Ord3 cmpN := by
  have h := ord_map (ord_lex ord_int (ord_lex ord_list ord_str)) keyN keyN_inj
  have e : cmpN = fun a b => lex cmpI (lex cmpL cmpS) (keyN a) (keyN b) := by funext a b; exact cmpN_key a b
  rw [e]; exact h

/-- The order of names of objects. -/
def cmpO (a b : Nm) : Int :=
  if cmpI a.kind b.kind ≠ 0 then cmpI a.kind b.kind
  else if cmpN a.owner b.owner ≠ 0 then cmpN a.owner b.owner
  else if cmpI a.number b.number ≠ 0 then cmpI a.number b.number
  else if cmpI a.index b.index ≠ 0 then cmpI a.index b.index
  else cmpS a.text b.text

theorem ord_obj : Ord3 cmpO := by
  have h := ord_map (ord_lex ord_int (ord_lex ord_lin (ord_lex ord_int (ord_lex ord_int ord_str)))) (fun a : Nm => (a.kind, a.owner, a.number, a.index, a.text)) (by
    rintro ⟨a, b, c, d, e⟩ ⟨a', b', c', d', e'⟩ h
    simp only [Prod.mk.injEq] at h
    obtain ⟨rfl, rfl, rfl, rfl, rfl⟩ := h
    rfl)
  exact h
end Go.Proofs.YtijaglinajfplaaGreatDoor
