/-
  Search trees of names and values, and the sorted lists that they hold; no program in sight.
  Conditions: none beyond those that each theorem states.
-/
import Derived.Test.YtijaglinajfplaaGreatDoorLinP
namespace Go.Proofs.YtijaglinajfplaaGreatDoor
open Go.RowKit

abbrev Al := List (Nm × ByteArray)

/-- A tree of names and values. -/
inductive Tr where
  | nil
  | node (l : Tr) (a : Nm) (v : ByteArray) (r : Tr)

namespace Tr
def ht : Tr → Nat
  | nil => 0
  | node l _ _ r => 1 + max l.ht r.ht
def sz : Tr → Nat
  | nil => 0
  | node l _ _ r => 1 + l.sz + r.sz
def by_ : Tr → Nat
  | nil => 0
  | node l _ v r => v.size + l.by_ + r.by_
def els : Tr → Al
  | nil => []
  | node l a v r => l.els ++ (a, v) :: r.els

def bal (l : Tr) (a : Nm) (v : ByteArray) (r : Tr) : Tr :=
  if r.ht + 1 < l.ht then
    match l with
    | nil => node l a v r
    | node ll la lv lr =>
      if lr.ht ≤ ll.ht then node ll la lv (node lr a v r)
      else match lr with
        | nil => node l a v r
        | node il ia iv ir => node (node ll la lv il) ia iv (node ir a v r)
  else if l.ht + 1 < r.ht then
    match r with
    | nil => node l a v r
    | node rl ra rv rr =>
      if rl.ht ≤ rr.ht then node (node l a v rl) ra rv rr
      else match rl with
        | nil => node l a v r
        | node il ia iv ir => node (node l a v il) ia iv (node ir ra rv rr)
  else node l a v r

def put (a : Nm) (v : ByteArray) : Tr → Tr
  | nil => node nil a v nil
  | node l b u r => if cmpO a b < 0 then bal (put a v l) b u r else if 0 < cmpO a b then bal l b u (put a v r) else node l a v r

def find (a : Nm) : Tr → Option ByteArray
  | nil => none
  | node l b u r => if cmpO a b = 0 then some u else if cmpO a b < 0 then find a l else find a r

theorem els_bal (l : Tr) (a : Nm) (v : ByteArray) (r : Tr) : (bal l a v r).els = l.els ++ (a, v) :: r.els := by
  unfold bal
  split
  · split
    · rfl
    · split
      · simp [els]
      · split
        · simp [els]
        · simp [els]
  · split
    · split
      · rfl
      · split
        · simp [els]
        · split
          · simp [els]
          · simp [els]
    · rfl

theorem sz_els (t : Tr) : t.sz = t.els.length := by
  induction t with
  | nil => rfl
  | node l a v r hl hr => simp [sz, els, hl, hr]; omega
def ab (l : Al) : Nat := (l.map fun x => x.2.size).sum
theorem by_els (t : Tr) : t.by_ = ab t.els := by
  induction t with
  | nil => rfl
  | node l a v r hl hr => simp [by_, els, hl, hr, ab]; omega
theorem ht_sz (t : Tr) : t.ht ≤ t.sz := by
  induction t with
  | nil => simp [ht]
  | node l a v r hl hr => simp only [ht, sz]; omega
end Tr

/-- Sorted by names. -/
def Srt (l : Al) : Prop := l.Pairwise fun x y => cmpO x.1 y.1 < 0

/-- Put into a sorted list. -/
def insO (a : Nm) (v : ByteArray) : Al → Al
  | [] => [(a, v)]
  | (b, u) :: l => if cmpO a b < 0 then (a, v) :: (b, u) :: l else if 0 < cmpO a b then (b, u) :: insO a v l else (a, v) :: l
def getO (a : Nm) : Al → Option ByteArray
  | [] => none
  | (b, u) :: l => if cmpO a b = 0 then some u else getO a l

theorem cmpO_anti (a b : Nm) : cmpO a b < 0 ↔ 0 < cmpO b a := ord_obj.anti a b
theorem cmpO_eq (a b : Nm) : cmpO a b = 0 ↔ a = b := ord_obj.eq a b
theorem cmpO_trans {a b c : Nm} (h : cmpO a b < 0) (k : cmpO b c < 0) : cmpO a c < 0 := ord_obj.trans a b c h k

theorem insO_lt (a : Nm) (v : ByteArray) (b : Nm) (u : ByteArray) (ys : Al) : ∀ xs : Al, (∀ x ∈ xs, cmpO x.1 b < 0) → cmpO a b < 0 → insO a v (xs ++ (b, u) :: ys) = insO a v xs ++ (b, u) :: ys
  | [], _, h => by simp [insO, h]
  | (c, w) :: xs, hx, h => by
    have ih := insO_lt a v b u ys xs (fun x hx' => hx x (List.mem_cons_of_mem _ hx')) h
    simp only [List.cons_append, insO, ih]
    split
    · simp
    · split <;> simp
theorem insO_gt (a : Nm) (v : ByteArray) (b : Nm) (u : ByteArray) (ys : Al) : ∀ xs : Al, (∀ x ∈ xs, cmpO x.1 b < 0) → 0 < cmpO a b → insO a v (xs ++ (b, u) :: ys) = xs ++ (b, u) :: insO a v ys
  | [], _, h => by
    have h1 : ¬ cmpO a b < 0 := by omega
    simp [insO, h, h1]
  | (c, w) :: xs, hx, h => by
    have ih := insO_gt a v b u ys xs (fun x hx' => hx x (List.mem_cons_of_mem _ hx')) h
    have h0 : cmpO c b < 0 := hx (c, w) (by simp)
    have h1 : cmpO c a < 0 := cmpO_trans h0 ((cmpO_anti b a).2 h)
    have h2 : 0 < cmpO a c := (cmpO_anti c a).1 h1
    have h3 : ¬ cmpO a c < 0 := by omega
    simp only [List.cons_append, insO, ih, h2, h3, if_true, if_false]
theorem insO_eq (a : Nm) (v : ByteArray) (b : Nm) (u : ByteArray) (ys : Al) : ∀ xs : Al, (∀ x ∈ xs, cmpO x.1 b < 0) → cmpO a b = 0 → insO a v (xs ++ (b, u) :: ys) = xs ++ (a, v) :: ys
  | [], _, h => by simp [insO, h]
  | (c, w) :: xs, hx, h => by
    have ih := insO_eq a v b u ys xs (fun x hx' => hx x (List.mem_cons_of_mem _ hx')) h
    obtain rfl := (cmpO_eq a b).1 h
    have h0 : cmpO c a < 0 := hx (c, w) (by simp)
    have h2 : 0 < cmpO a c := (cmpO_anti c a).1 h0
    have h3 : ¬ cmpO a c < 0 := by omega
    simp only [List.cons_append, insO, ih, h2, h3, if_true, if_false]

theorem srt_split {xs ys : Al} {b : Nm} {u : ByteArray} (h : Srt (xs ++ (b, u) :: ys)) : Srt xs ∧ Srt ys ∧ (∀ x ∈ xs, cmpO x.1 b < 0) ∧ ∀ y ∈ ys, cmpO b y.1 < 0 := by
  unfold Srt at *
  rw [List.pairwise_append, List.pairwise_cons] at h
  exact ⟨h.1, h.2.1.2, fun x hx => h.2.2 x hx (b, u) (by simp), fun y hy => h.2.1.1 y hy⟩

theorem els_put (a : Nm) (v : ByteArray) : ∀ t : Tr, Srt t.els → (Tr.put a v t).els = insO a v t.els
  | .nil, _ => rfl
  | .node l b u r, h => by
    obtain ⟨h1, h2, h3, h4⟩ := srt_split h
    have il := els_put a v l h1
    have ir := els_put a v r h2
    unfold Tr.put
    split
    · rename_i hc
      rw [Tr.els_bal, il]
      exact (insO_lt a v b u _ _ h3 hc).symm
    · split
      · rename_i hc
        rw [Tr.els_bal, ir]
        exact (insO_gt a v b u _ _ h3 hc).symm
      · exact (insO_eq a v b u _ _ h3 (by omega)).symm

theorem getO_append (a : Nm) : ∀ xs ys : Al, getO a (xs ++ ys) = (getO a xs).or (getO a ys)
  | [], _ => by simp [getO]
  | (b, u) :: xs, ys => by
    simp only [List.cons_append, getO, getO_append a xs ys]
    split <;> simp
theorem getO_none {a : Nm} : ∀ {xs : Al}, (∀ x ∈ xs, cmpO a x.1 ≠ 0) → getO a xs = none
  | [], _ => rfl
  | (b, u) :: xs, h => by
    rw [getO, if_neg (h (b, u) (by simp))]
    exact getO_none fun x hx => h x (by simp [hx])

theorem find_els (a : Nm) : ∀ t : Tr, Srt t.els → Tr.find a t = getO a t.els
  | .nil, _ => rfl
  | .node l b u r, h => by
    obtain ⟨h1, h2, h3, h4⟩ := srt_split h
    have il := find_els a l h1
    have ir := find_els a r h2
    unfold Tr.find Tr.els
    rw [getO_append, getO]
    by_cases h0 : cmpO a b = 0
    · rw [if_pos h0, if_pos h0]
      obtain rfl := (cmpO_eq a b).1 h0
      rw [getO_none fun x hx => by
        have := (cmpO_anti _ _).1 (h3 x hx)
        omega]
      rfl
    · rw [if_neg h0, if_neg h0]
      by_cases hl : cmpO a b < 0
      · rw [if_pos hl, il]
        rw [getO_none (xs := r.els) fun y hy => by
          have := cmpO_trans hl (h4 y hy)
          omega]
        simp
      · rw [if_neg hl, ir]
        rw [getO_none (xs := l.els) fun x hx => by
          have h5 : cmpO b a < 0 := (cmpO_anti b a).2 (by omega)
          have h6 := cmpO_trans (h3 x hx) h5
          have := (cmpO_anti _ _).1 h6
          omega]
        simp

theorem mem_insO (a : Nm) (v : ByteArray) : ∀ (l : Al) (x : Nm × ByteArray), x ∈ insO a v l → x = (a, v) ∨ x ∈ l
  | [], x, h => by simpa [insO] using h
  | (b, u) :: l, x, h => by
    unfold insO at h
    split at h
    · simpa using h
    · split at h
      · rcases List.mem_cons.1 h with h | h
        · right; simp [h]
        · rcases mem_insO a v l x h with h | h
          · exact .inl h
          · right; simp [h]
      · rcases List.mem_cons.1 h with h | h
        · exact .inl h
        · right; simp [h]

theorem srt_ins (a : Nm) (v : ByteArray) : ∀ l : Al, Srt l → Srt (insO a v l)
  | [], _ => by simp [insO, Srt]
  | (b, u) :: l, h => by
    have hp := List.pairwise_cons.1 h
    unfold insO
    split
    · rename_i hc
      refine List.pairwise_cons.2 ⟨fun y hy => ?_, h⟩
      rcases List.mem_cons.1 hy with rfl | hy
      · exact hc
      · exact cmpO_trans hc (hp.1 y hy)
    · split
      · rename_i hc
        refine List.pairwise_cons.2 ⟨fun y hy => ?_, srt_ins a v l hp.2⟩
        rcases mem_insO a v l y hy with rfl | hy
        · exact (cmpO_anti b a).2 hc
        · exact hp.1 y hy
      · rename_i h1 h2
        obtain rfl := (cmpO_eq a b).1 (by omega)
        exact List.pairwise_cons.2 ⟨hp.1, hp.2⟩

theorem insO_len (a : Nm) (v : ByteArray) : ∀ l : Al, (insO a v l).length ≤ l.length + 1
  | [] => by simp [insO]
  | (b, u) :: l => by
    have := insO_len a v l
    unfold insO
    split
    · simp
    · split <;> simp <;> omega

theorem getO_mem {l : Al} (h : Srt l) : ∀ {x : Nm × ByteArray}, x ∈ l → getO x.1 l = some x.2 := by
  induction l with
  | nil => intro x hx; cases hx
  | cons y l ih =>
    intro x hx
    have hp := List.pairwise_cons.1 h
    obtain ⟨b, u⟩ := y
    rcases List.mem_cons.1 hx with rfl | hx
    · simp [getO, ord_obj.self]
    · have h1 := hp.1 x hx
      have h2 := (cmpO_anti _ _).1 h1
      rw [getO, if_neg (by simp only at h2; omega)]
      exact ih hp.2 hx
end Go.Proofs.YtijaglinajfplaaGreatDoor
