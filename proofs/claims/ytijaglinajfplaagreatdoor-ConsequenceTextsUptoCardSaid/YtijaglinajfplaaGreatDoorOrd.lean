/-
  Comparisons that order: numbers, texts, lists, pairs; no program in sight.
  Conditions: none beyond those that each theorem states.
-/
import Derived.Test.YtijaglinajfplaaGreatDoorLeaf
namespace Go.Proofs.YtijaglinajfplaaGreatDoor
open Go.RowKit

/-- A comparison that orders. -/
structure Ord3 {α : Type} (c : α → α → Int) : Prop where
  eq : ∀ a b, c a b = 0 ↔ a = b
  anti : ∀ a b, c a b < 0 ↔ 0 < c b a
  trans : ∀ a b d, c a b < 0 → c b d < 0 → c a d < 0

theorem Ord3.self {α : Type} {c : α → α → Int} (h : Ord3 c) (a : α) : c a a = 0 := (h.eq a a).2 rfl

theorem ord_int : Ord3 cmpI := by
  constructor
  · intro a b; unfold cmpI; split <;> (try split) <;> omega
  · intro a b; unfold cmpI; split <;> (try split) <;> (try split) <;> (try split) <;> omega
  · intro a b d; unfold cmpI; split <;> split <;> (try split) <;> (try split) <;> (try split) <;> (try split) <;> omega

theorem bytesLess_eq : ∀ (x y : List UInt8), Op.bytesLess x y = decide (x < y)
  | [], [] => by simp [Op.bytesLess]
  | _ :: _, [] => by simp [Op.bytesLess]
  | [], _ :: _ => by simp [Op.bytesLess]
  | a :: x, b :: y => by
    rw [Op.bytesLess, bytesLess_eq x y]
    simp only [List.cons_lt_cons_iff]
    by_cases h1 : a < b <;> by_cases h2 : a = b <;> by_cases h3 : x < y <;> simp [h1, h2, h3]
theorem toList_data (s : ByteArray) : s.toList = s.data.toList := ByteArray.toList_eq s
theorem ba_ext {a b : ByteArray} (h : a.data.toList = b.data.toList) : a = b := by
  obtain ⟨⟨a⟩⟩ := a; obtain ⟨⟨b⟩⟩ := b; simp at h; subst h; rfl

theorem cmpS_eq (x y : ByteArray) : cmpS x y = if x.data.toList < y.data.toList then -1 else if x = y then 0 else 1 := by
  unfold cmpS
  rw [bytesLess_eq, toList_data, toList_data]
  by_cases h : x.data.toList < y.data.toList
  · simp [h]
  · simp only [h, decide_false, Bool.false_eq_true, if_false]
    by_cases h2 : x = y
    · simp [h2]
    · rw [if_neg (fun e => h2 (ba_ext e)), if_neg h2]

theorem ord_str : Ord3 cmpS := by
  have irr : ∀ a : List UInt8, ¬ a < a := List.lt_irrefl
  have tr : ∀ a b c : List UInt8, a < b → b < c → a < c := fun a b c h k => List.lt_trans h k
  have tri : ∀ a b : ByteArray, ¬ a.data.toList < b.data.toList → a ≠ b → b.data.toList < a.data.toList := fun a b h hne => by
    refine Decidable.byContradiction fun k => hne (ba_ext ?_)
    exact List.le_antisymm (List.not_lt.1 k) (List.not_lt.1 h)
  constructor
  · intro a b
    rw [cmpS_eq]
    by_cases h : a.data.toList < b.data.toList
    · simp only [h, if_true]
      constructor
      · intro e; omega
      · intro e; subst e; exact absurd h (irr _)
    · simp only [h, if_false]
      by_cases h2 : a = b <;> simp [h2]
  · intro a b
    rw [cmpS_eq, cmpS_eq]
    by_cases h : a.data.toList < b.data.toList
    · have h2 : ¬ b.data.toList < a.data.toList := fun k => irr _ (tr _ _ _ h k)
      have h3 : b ≠ a := fun e => by subst e; exact irr _ h
      simp [h, h2, h3]
    · simp only [h, if_false]
      by_cases h2 : a = b
      · subst h2; simp [irr]
      · have := tri a b h h2
        simp [h2, this]
  · intro a b d
    rw [cmpS_eq, cmpS_eq, cmpS_eq]
    intro h1 h2
    have h1' : a.data.toList < b.data.toList := by
      by_cases h : a.data.toList < b.data.toList
      · exact h
      · simp only [h, if_false] at h1; split at h1 <;> omega
    have h2' : b.data.toList < d.data.toList := by
      by_cases h : b.data.toList < d.data.toList
      · exact h
      · simp only [h, if_false] at h2; split at h2 <;> omega
    simp [tr _ _ _ h1' h2']

/-- First by one comparison, then by another. -/
def lex {α β : Type} (c : α → α → Int) (d : β → β → Int) (x y : α × β) : Int := if c x.1 y.1 ≠ 0 then c x.1 y.1 else d x.2 y.2
theorem ord_lex {α β : Type} {c : α → α → Int} {d : β → β → Int} (hc : Ord3 c) (hd : Ord3 d) : Ord3 (lex c d) := by
  constructor
  · rintro ⟨a, a'⟩ ⟨b, b'⟩
    unfold lex
    dsimp only
    have := hc.eq a b
    have := hd.eq a' b'
    simp only [Prod.mk.injEq]
    split <;> simp_all
  · rintro ⟨a, a'⟩ ⟨b, b'⟩
    unfold lex
    dsimp only
    have h1 := hc.eq a b
    have h2 := hc.eq b a
    have h3 := hc.anti a b
    have h4 := hd.anti a' b'
    by_cases h : a = b
    · subst h; simp [h1.2 rfl, h4]
    · rw [if_pos (fun e => h (h1.1 e)), if_pos (fun e => h (h2.1 e).symm)]; exact h3
  · rintro ⟨a, a'⟩ ⟨b, b'⟩ ⟨e, e'⟩
    unfold lex
    dsimp only
    have h1 := hc.eq a b
    have h2 := hc.eq b e
    have h3 := hc.eq a e
    have h4 := hc.trans a b e
    have h5 := hd.trans a' b' e'
    by_cases hab : a = b
    · subst hab
      rw [if_neg (by simp [h1.2 rfl])]
      by_cases hbe : a = e
      · subst hbe; rw [if_neg (by simp [h1.2 rfl]), if_neg (by simp [h1.2 rfl])]; exact h5
      · rw [if_pos (fun x => hbe (h2.1 x))]; exact fun _ h => by rw [if_pos (by omega)]; exact h
    · rw [if_pos (fun x => hab (h1.1 x))]
      by_cases hbe : b = e
      · subst hbe
        rw [if_neg (by simp [h2.2 rfl]), if_pos (fun x => hab (h1.1 x))]; exact fun h _ => h
      · rw [if_pos (fun x => hbe (h2.1 x))]
        intro k1 k2
        have k3 := h4 k1 k2
        rw [if_pos (by omega)]; exact k3

/-- A comparison seen through a function that keeps things apart. -/
theorem ord_map {α β : Type} {c : β → β → Int} (hc : Ord3 c) (f : α → β) (hf : ∀ a b, f a = f b → a = b) : Ord3 fun a b => c (f a) (f b) :=
  ⟨fun a b => (hc.eq _ _).trans ⟨hf a b, fun h => by rw [h]⟩, fun _ _ => hc.anti _ _, fun _ _ _ => hc.trans _ _ _⟩

/-- Lists of numbers, one after the other. -/
def cmpL : List Int → List Int → Int
  | [], [] => 0
  | [], _ :: _ => -1
  | _ :: _, [] => 1
  | a :: x, b :: y => if cmpI a b ≠ 0 then cmpI a b else cmpL x y

theorem ord_list : Ord3 cmpL := by
  have e : ∀ a b, cmpL a b = 0 ↔ a = b := by
    intro a
    induction a with
    | nil => intro b; cases b <;> simp [cmpL]
    | cons x a ih =>
      intro b
      cases b with
      | nil => simp [cmpL]
      | cons y b =>
        have := ord_int.eq x y
        have := ih b
        unfold cmpL
        split <;> simp_all
  refine ⟨e, ?_, ?_⟩
  · intro a
    induction a with
    | nil => intro b; cases b <;> simp [cmpL]
    | cons x a ih =>
      intro b
      cases b with
      | nil => simp [cmpL]
      | cons y b =>
        have h1 := ord_int.eq x y
        have h2 := ord_int.eq y x
        have h3 := ord_int.anti x y
        have h4 := ih b
        unfold cmpL
        by_cases h : x = y
        · subst h; simp [h1.2 rfl, h4]
        · rw [if_pos (fun e => h (h1.1 e)), if_pos (fun e => h (h2.1 e).symm)]; exact h3
  · intro a
    induction a with
    | nil =>
      intro b d h1 h2
      cases d with
      | nil => cases b <;> simp [cmpL] at h1 h2
      | cons => simp [cmpL]
    | cons x a ih =>
      intro b d
      cases b with
      | nil => simp [cmpL]
      | cons y b =>
        cases d with
        | nil => simp [cmpL]
        | cons z d =>
          have h1 := ord_int.eq x y
          have h2 := ord_int.eq y z
          have h3 := ord_int.eq x z
          have h4 := ord_int.trans x y z
          have h5 := ih b d
          unfold cmpL
          by_cases hab : x = y
          · subst hab
            rw [if_neg (by simp [h1.2 rfl])]
            by_cases hbe : x = z
            · subst hbe; rw [if_neg (by simp [h1.2 rfl]), if_neg (by simp [h1.2 rfl])]; exact h5
            · rw [if_pos (fun x => hbe (h2.1 x))]; exact fun _ h => by rw [if_pos (by omega)]; exact h
          · rw [if_pos (fun x => hab (h1.1 x))]
            by_cases hbe : y = z
            · subst hbe
              rw [if_neg (by simp [h2.2 rfl]), if_pos (fun x => hab (h1.1 x))]; exact fun h _ => h
            · rw [if_pos (fun x => hbe (h2.1 x))]
              intro k1 k2
              have k3 := h4 k1 k2
              rw [if_pos (by omega)]; exact k3
end Go.Proofs.YtijaglinajfplaaGreatDoor
