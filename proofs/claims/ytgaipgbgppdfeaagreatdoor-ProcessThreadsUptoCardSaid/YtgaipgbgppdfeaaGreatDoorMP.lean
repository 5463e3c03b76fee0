/-
  Lists that are changed in a window by exchanges: what sorting algorithms do, without a program.
  What a partition keeps while it goes on, without a program.
  Numbers that pdqsort reckons with: the length in bits, the next power of two, xorshift.
  The contracts of pdqsort at replevin/state.Change, for windows of less than 50 elements.
  Pivots: median of three, choosePivot. (replevin/state.Change)
  Reversal, sifting down. (replevin/state.Change)
  Sorting by a heap. (replevin/state.Change)
  Conditions: those that each theorem states.
-/
import Derived.Test.YtgaipgbgppdfeaaGreatDoorME
import Derived.Test.YtgaipgbgppdfeaaGreatDoorMB
set_option maxRecDepth 10000
namespace Go.Proofs.YtgaipgbgppdfeaaGreatDoor

section
variable {α : Type} [Inhabited α]
/-- The element at a place. -/
def gt (l : List α) (i : Nat) : α := l.getD i default
theorem gt_some {l : List α} {i : Nat} (h : i < l.length) : l[i]? = some (gt l i) := by
  unfold gt; rw [List.getD_eq_getElem?_getD, List.getElem?_eq_getElem h]; rfl
theorem gt_of {l : List α} {i : Nat} {x : α} (h : l[i]? = some x) : gt l i = x := by
  unfold gt; rw [List.getD_eq_getElem?_getD, h]; rfl
theorem gt_set {l : List α} {i k : Nat} {x : α} (h : i < l.length) : gt (l.set i x) k = if k = i then x else gt l k := by
  unfold gt
  rw [List.getD_eq_getElem?_getD, List.getD_eq_getElem?_getD, List.getElem?_set]
  by_cases hk : k = i
  · subst hk; simp [h]
  · rw [if_neg (fun h => hk h.symm), if_neg hk]
/-- Two elements are exchanged. -/
def sw (l : List α) (i j : Nat) : List α := (l.set i (gt l j)).set j (gt l i)
theorem sw_len (l : List α) (i j : Nat) : (sw l i j).length = l.length := by simp [sw]
theorem gt_sw {l : List α} {i j k : Nat} (hi : i < l.length) (hj : j < l.length) : gt (sw l i j) k = if k = j then gt l i else if k = i then gt l j else gt l k := by
  unfold sw
  rw [gt_set (by simpa using hj), gt_set hi]
theorem sw_perm {l : List α} {i j : Nat} (hi : i < l.length) (hj : j < l.length) : (sw l i j).Perm l := by
  have h1 : gt l j = l[j] := gt_of (List.getElem?_eq_getElem hj)
  have h2 : gt l i = l[i] := gt_of (List.getElem?_eq_getElem hi)
  unfold sw
  rw [h1, h2]
  exact List.set_set_perm hi hj

/-- Only the window from a to b may have changed, and has the same elements. -/
structure Win (a b : Nat) (l l' : List α) : Prop where
  perm : l'.Perm l
  out : ∀ k, k < a ∨ b ≤ k → gt l' k = gt l k
variable {a b a' b' : Nat} {l l' l'' : List α}
theorem Win.len (h : Win a b l l') : l'.length = l.length := h.perm.length_eq
theorem Win.refl : Win a b l l := ⟨List.Perm.refl _, fun _ _ => rfl⟩
theorem Win.trans (h : Win a b l l') (k : Win a b l' l'') : Win a b l l'' := ⟨k.perm.trans h.perm, fun i hi => (k.out i hi).trans (h.out i hi)⟩
theorem Win.mono (h : Win a' b' l l') (h1 : a ≤ a') (h2 : b' ≤ b) : Win a b l l' := ⟨h.perm, fun k hk => h.out k (by omega)⟩
theorem Win.sw {i j : Nat} (h1 : a ≤ i) (h2 : i < b) (h3 : a ≤ j) (h4 : j < b) (hb : b ≤ l.length) : Win a b l (sw l i j) := ⟨sw_perm (by omega) (by omega), fun k hk => by
  rw [gt_sw (by omega) (by omega), if_neg (by omega), if_neg (by omega)]⟩
theorem Win.sub (h : Win a b l l') {U : α → Prop} (hU : ∀ x ∈ l, U x) : ∀ x ∈ l', U x := fun x hx => hU x (h.perm.mem_iff.1 hx)

def wn (l : List α) (a b : Nat) : List α := (l.drop a).take (b - a)
theorem mem_wn {x : α} (hb : b ≤ l.length) : x ∈ wn l a b ↔ ∃ k, a ≤ k ∧ k < b ∧ gt l k = x := by
  unfold wn
  rw [List.mem_iff_getElem?]
  constructor
  · rintro ⟨i, hi⟩
    rw [List.getElem?_take] at hi
    split at hi
    · rw [List.getElem?_drop] at hi
      exact ⟨a + i, by omega, by omega, gt_of hi⟩
    · cases hi
  · rintro ⟨k, h1, h2, rfl⟩
    refine ⟨k - a, ?_⟩
    rw [List.getElem?_take, if_pos (by omega), List.getElem?_drop, show a + (k - a) = k by omega, gt_some (by omega)]
omit [Inhabited α] in
theorem wn_split (hab : a ≤ b) : l = l.take a ++ (wn l a b ++ l.drop b) := by
  unfold wn
  rw [show l.drop b = (l.drop a).drop (b - a) by rw [List.drop_drop]; congr 1; omega, List.take_append_drop, List.take_append_drop]
theorem Win.wn (h : Win a b l l') (hab : a ≤ b) : (wn l' a b).Perm (wn l a b) := by
  have h1 := h.perm
  have e1 : l'.take a = l.take a := by
    apply List.ext_getElem?
    intro i
    rw [List.getElem?_take, List.getElem?_take]
    split
    · rename_i hi
      by_cases hl : i < l.length
      · rw [gt_some (by rw [h.len]; exact hl), gt_some hl, h.out i (by omega)]
      · rw [List.getElem?_eq_none (by rw [h.len]; omega), List.getElem?_eq_none (by omega)]
    · rfl
  have e2 : l'.drop b = l.drop b := by
    apply List.ext_getElem?
    intro i
    rw [List.getElem?_drop, List.getElem?_drop]
    by_cases hl : b + i < l.length
    · rw [gt_some (by rw [h.len]; exact hl), gt_some hl, h.out (b + i) (by omega)]
    · rw [List.getElem?_eq_none (by rw [h.len]; omega), List.getElem?_eq_none (by omega)]
  rw [wn_split (l := l') hab, wn_split (l := l) hab, e1, e2] at h1
  exact (List.perm_append_right_iff _).1 ((List.perm_append_left_iff _).1 h1)
theorem Win.all (h : Win a b l l') (hb : b ≤ l.length) {P : α → Prop} (hP : ∀ k, a ≤ k → k < b → P (gt l k)) (k : Nat) (h1 : a ≤ k) (h2 : k < b) : P (gt l' k) := by
  have hm : gt l' k ∈ Go.Proofs.YtgaipgbgppdfeaaGreatDoor.wn l' a b := (mem_wn (by rw [h.len]; exact hb)).2 ⟨k, h1, h2, rfl⟩
  obtain ⟨j, h3, h4, h5⟩ := (mem_wn hb).1 ((h.wn (by omega)).mem_iff.1 hm)
  rw [← h5]
  exact hP j h3 h4

/-- A comparison: less is asymmetric, not less is transitive. -/
structure Wk0 (c : α → α → Int) : Prop where
  a : ∀ x y, c x y < 0 → ¬ c y x < 0
  t : ∀ x y z, ¬ c y x < 0 → ¬ c z y < 0 → ¬ c z x < 0
variable {c : α → α → Int} (W : Wk0 c)
include W
omit [Inhabited α] in
theorem Wk0.i (x : α) : ¬ c x x < 0 := fun h => W.a x x h h
omit [Inhabited α] in
theorem Wk0.lt_of {x y z : α} (h1 : c x y < 0) (h2 : ¬ c z y < 0) : c x z < 0 := Classical.byContradiction fun h => W.t y z x h2 h h1
omit W

/-- The window is sorted. -/
def Sw (c : α → α → Int) (a b : Nat) (l : List α) : Prop := ∀ i j, a ≤ i → i < j → j < b → ¬ c (gt l j) (gt l i) < 0
theorem Sw.nil (h : b ≤ a + 1) : Sw c a b l := fun i j h1 h2 h3 => by omega

/-- What a round of the sorting keeps: the window from a' to b' is what is not yet sorted. -/
structure Jw (c : α → α → Int) (a b a' b' : Nat) (l0 l : List α) : Prop where
  w : Win a b l0 l
  h1 : a ≤ a'
  h2 : b' ≤ b
  p : ∀ i j, a ≤ i → i < j → j < b → ¬ (a' ≤ i ∧ j < b') → ¬ c (gt l j) (gt l i) < 0
/-- What is left of the window is not greater. -/
def Lw (c : α → α → Int) (a b : Nat) (l : List α) : Prop := 0 < a → ∀ k, a ≤ k → k < b → ¬ c (gt l k) (gt l (a - 1)) < 0
variable {l0 l1 l2 : List α} {m : Nat}
theorem Jw.done (h : Jw c a b a' b' l0 l) (hs : Sw c a' b' l) : Win a b l0 l ∧ Sw c a b l := ⟨h.w, fun i j hi hij hj => by
  by_cases hn : a' ≤ i ∧ j < b'
  · exact hs i j hn.1 hij hn.2
  · exact h.p i j hi hij hj hn⟩
theorem Jw.init : Jw c a b a b l l := ⟨Win.refl, Nat.le_refl _, Nat.le_refl _, fun _ _ h1 _ h3 h4 => absurd ⟨h1, h3⟩ h4⟩

/-- What a partition leaves. -/
structure Pt0 (c : α → α → Int) (a b m : Nat) (l : List α) : Prop where
  h1 : a ≤ m
  h2 : m < b
  lo : ∀ k, a ≤ k → k < m → c (gt l k) (gt l m) < 0
  hi : ∀ k, m < k → k < b → ¬ c (gt l k) (gt l m) < 0
include W in
theorem Pt0.left (hp : Pt0 c a' b' m l) (hb : b' ≤ l.length) (hw : Win a' m l l1) (hs : Sw c a' m l1) : ∀ i j, a' ≤ i → i < j → j < b' → ¬ (m + 1 ≤ i ∧ j < b') → ¬ c (gt l1 j) (gt l1 i) < 0 := fun i j hi hij hj hn => by
  have h1 := hp.h1
  have h2 := hp.h2
  by_cases hjm : j < m
  · exact hs i j hi hij hjm
  · rw [hw.out j (by omega)]
    by_cases him : i < m
    · have h3 : c (gt l1 i) (gt l m) < 0 := hw.all (by omega) (P := fun x => c x (gt l m) < 0) (fun k h1 h2 => hp.lo k h1 h2) i hi him
      by_cases hjm' : j = m
      · rw [hjm']; exact W.a _ _ h3
      · exact W.a _ _ (W.lt_of h3 (hp.hi j (by omega) hj))
    · obtain rfl : i = m := by omega
      rw [hw.out i (by omega)]
      exact hp.hi j (by omega) hj
include W in
theorem Pt0.right (hp : Pt0 c a' b' m l) (hb : b' ≤ l.length) (hw : Win (m + 1) b' l l1) (hs : Sw c (m + 1) b' l1) : ∀ i j, a' ≤ i → i < j → j < b' → ¬ (a' ≤ i ∧ j < m) → ¬ c (gt l1 j) (gt l1 i) < 0 := fun i j hi hij hj hn => by
  have h1 := hp.h1
  have h2 := hp.h2
  by_cases him : m < i
  · exact hs i j (by omega) hij hj
  · rw [hw.out i (by omega)]
    by_cases hjm : m < j
    · have h3 : ¬ c (gt l1 j) (gt l m) < 0 := hw.all (by omega) (P := fun x => ¬ c x (gt l m) < 0) (fun k h1 h2 => hp.hi k (by omega) h2) j (by omega) hj
      by_cases him' : i = m
      · rw [him']; exact h3
      · exact W.a _ _ (W.lt_of (hp.lo i hi (by omega)) h3)
    · obtain rfl : j = m := by omega
      rw [hw.out j (by omega)]
      exact W.a _ _ (hp.lo i hi (by omega))
theorem Lw.sub (h : Lw c a b l) (hm : m ≤ b) : Lw c a m l := fun h0 k h1 h2 => h h0 k h1 (by omega)

/-! ### A heap -/

/-- No child from lo on is greater than its parent, but for the children of x. -/
def Hp (c : α → α → Int) (f lo n x : Nat) (l : List α) : Prop := ∀ i j, lo ≤ i → (j = 2 * i + 1 ∨ j = 2 * i + 2) → j < n → i ≠ x → ¬ c (gt l (f + i)) (gt l (f + j)) < 0
/-- The children of x are not greater than x's parent. -/
def Hq (c : α → α → Int) (f lo n x : Nat) (l : List α) : Prop := ∀ i j, lo ≤ i → (x = 2 * i + 1 ∨ x = 2 * i + 2) → (j = 2 * x + 1 ∨ j = 2 * x + 2) → j < n → ¬ c (gt l (f + i)) (gt l (f + j)) < 0
variable {f lo n x y : Nat}
include W in
theorem Hp.step (h : Hp c f lo n x l) (hq : Hq c f lo n x l) (hx : lo ≤ x) (hy : y = 2 * x + 1 ∨ y = 2 * x + 2) (hyn : y < n) (hn : f + n ≤ l.length) (hlt : c (gt l (f + x)) (gt l (f + y)) < 0)
    (hmax : ∀ z, (z = 2 * x + 1 ∨ z = 2 * x + 2) → z < n → ¬ c (gt l (f + y)) (gt l (f + z)) < 0) : Hp c f lo n y (sw l (f + x) (f + y)) ∧ Hq c f lo n y (sw l (f + x) (f + y)) := by
  have g := fun k => gt_sw (l := l) (i := f + x) (j := f + y) (k := f + k) (by omega) (by omega)
  constructor
  · intro i j hi hij hj hiy
    rw [g i, g j, if_neg (by omega : ¬ f + i = f + y)]
    by_cases hix : i = x
    · subst hix
      rw [if_pos rfl]
      by_cases hjy : j = y
      · subst hjy; rw [if_pos rfl]; exact W.a _ _ hlt
      · rw [if_neg (by omega), if_neg (by omega)]
        exact hmax j hij hj
    · rw [if_neg (by omega)]
      have h3 := h i j hi hij hj hix
      by_cases hjy : j = y
      · omega
      · rw [if_neg (by omega)]
        by_cases hjx : j = x
        · subst hjx
          rw [if_pos rfl]
          exact hq i y hi hij hy hyn
        · rw [if_neg (by omega)]; exact h3
  · intro i j hi hyi hj hjn
    have hix : i = x := by omega
    subst hix
    rw [g i, g j, if_neg (by omega), if_pos rfl, if_neg (by omega), if_neg (by omega)]
    exact h y j (by omega) hj hjn (by omega)
/-- A heap from lo on. -/
def He (c : α → α → Int) (f lo n : Nat) (l : List α) : Prop := ∀ i j, lo ≤ i → (j = 2 * i + 1 ∨ j = 2 * i + 2) → j < n → ¬ c (gt l (f + i)) (gt l (f + j)) < 0
include W in
theorem He.top (h : He c f 0 n l) : ∀ j, j < n → ¬ c (gt l f) (gt l (f + j)) < 0 := by
  intro j
  induction j using Nat.strongRecOn with
  | ind j ih =>
    intro hj
    by_cases h0 : j = 0
    · subst h0; exact W.i _
    · have h1 := ih ((j - 1) / 2) (by omega) (by omega)
      have h2 := h ((j - 1) / 2) j (by omega) (by omega) hj
      exact W.t _ _ _ h2 h1

/-- The heap, and behind it what is sorted already and not less. -/
structure Hs (c : α → α → Int) (f n N : Nat) (l : List α) : Prop where
  he : He c f 0 n l
  so : ∀ p q, p < q → q < N → n ≤ q → ¬ c (gt l (f + q)) (gt l (f + p)) < 0
include W in
theorem Hs.pop {i N : Nat} (h : Hs c f (i + 1) N l) (hi : i < N) (hN : f + N ≤ l.length) (hw : Win f (f + i) (sw l f (f + i)) l2) (he : He c f 0 i l2) : Hs c f i N l2 := by
  refine ⟨he, fun p q hpq hq hiq => ?_⟩
  have g := fun k => gt_sw (l := l) (i := f) (j := f + i) (k := k) (by omega) (by omega)
  have hs := sw_len l f (f + i)
  have hall : ∀ P : α → Prop, (∀ k, k ≤ i → P (gt l (f + k))) → ∀ p, p < i → P (gt l2 (f + p)) := fun P hP p hp =>
    hw.all (by omega) (P := P) (fun k h1 h2 => by
      rw [g k, if_neg (by omega)]
      by_cases hk : k = f
      · rw [if_pos hk]; exact hP i (Nat.le_refl _)
      · rw [if_neg hk, show k = f + (k - f) by omega]; exact hP (k - f) (by omega)) (f + p) (by omega) (by omega)
  rw [hw.out (f + q) (by omega), g (f + q)]
  by_cases hqi : q = i
  · subst hqi
    rw [if_pos rfl]
    exact hall (fun x => ¬ c (gt l f) x < 0) (fun k hk => h.he.top W k (by omega)) p hpq
  · rw [if_neg (by omega), if_neg (by omega)]
    by_cases hpi : p < i
    · exact hall (fun x => ¬ c (gt l (f + q)) x < 0) (fun k hk => h.so k q (by omega) hq (by omega)) p hpi
    · rw [hw.out (f + p) (by omega), g (f + p)]
      by_cases hp' : p = i
      · rw [if_pos (by omega)]
        exact h.so 0 q (by omega) hq (by omega)
      · rw [if_neg (by omega), if_neg (by omega)]
        exact h.so p q hpq hq (by omega)
theorem Hs.done {N : Nat} (h : Hs c f 0 N l) : Sw c f (f + N) l := fun i j h1 h2 h3 => by
  have := h.so (i - f) (j - f) (by omega) (by omega) (by omega)
  rwa [show f + (j - f) = j by omega, show f + (i - f) = i by omega] at this
theorem Hs.init {n N : Nat} (h : He c f 0 n l) (hn : N ≤ n) : Hs c f n N l := ⟨h, fun p q h1 h2 h3 => by omega⟩

/-! ### Insertion from the right -/
def inR (c : α → α → Int) (P : List α) (x : α) : List α := (P.reverse.dropWhile fun s => decide (c x s < 0)).reverse ++ x :: (P.reverse.takeWhile fun s => decide (c x s < 0)).reverse
def isR (c : α → α → Int) (l : List α) : List α := l.foldl (inR c) []
end
end Go.Proofs.YtgaipgbgppdfeaaGreatDoor

set_option maxRecDepth 10000
namespace Go.Proofs.YtgaipgbgppdfeaaGreatDoor

section
variable {α : Type} [Inhabited α] {a b i j : Nat} {P : α} {A : α → Prop} {l m : List α}
/-- What lies behind a and before i is of A, what lies behind j is not. -/
structure Pin (A : α → Prop) (a b i j : Nat) (P : α) (l m : List α) : Prop where
  w : Win a b l m
  h1 : a < i
  h2 : i ≤ j + 1
  h3 : j < b
  pa : gt m a = P
  lo : ∀ k, a < k → k < i → A (gt m k)
  hi : ∀ k, j < k → k < b → ¬ A (gt m k)
theorem Pin.init {p : Nat} (hp1 : a ≤ p) (hp2 : p < b) (hb : b ≤ l.length) (h : a + 1 < b) : Pin A a b (a + 1) (b - 1) (gt l p) l (sw l a p) where
  w := Win.sw (Nat.le_refl _) (by omega) hp1 hp2 hb
  h1 := by omega
  h2 := by omega
  h3 := by omega
  pa := by
    rw [gt_sw (by omega) (by omega)]
    split
    · rename_i h; rw [h]
    · rw [if_pos rfl]
  lo := fun k h1 h2 => by omega
  hi := fun k h1 h2 => by omega
theorem Pin.sw (h : Pin A a b i j P l m) (hb : b ≤ l.length) (hij : i < j) (hi : ¬ A (gt m i)) (hj : A (gt m j)) : Pin A a b (i + 1) (j - 1) P l (sw m i j) := by
  have h1 := h.h1
  have h3 := h.h3
  have hl := h.w.len
  have g := fun k => gt_sw (l := m) (i := i) (j := j) (k := k) (by omega) (by omega)
  refine ⟨h.w.trans (Win.sw (by omega) (by omega) (by omega) h3 (by omega)), by omega, by omega, by omega, ?_, fun k k1 k2 => ?_, fun k k1 k2 => ?_⟩
  · rw [g, if_neg (by omega), if_neg (by omega)]; exact h.pa
  · rw [g, if_neg (by omega)]
    by_cases hk : k = i
    · rw [if_pos hk]; exact hj
    · rw [if_neg hk]; exact h.lo k k1 (by omega)
  · rw [g]
    by_cases hk : k = j
    · rw [if_pos hk]; exact hi
    · rw [if_neg hk, if_neg (by omega)]; exact h.hi k (by omega) k2
theorem Pin.part {c : α → α → Int} (h : Pin (fun x => c x P < 0) a b i j P l m) (hb : b ≤ l.length) (hij : j < i) : Win a b l (Go.Proofs.YtgaipgbgppdfeaaGreatDoor.sw m j a) ∧ Pt0 c a b j (Go.Proofs.YtgaipgbgppdfeaaGreatDoor.sw m j a) := by
  have h1 := h.h1
  have h2 := h.h2
  have h3 := h.h3
  have hl := h.w.len
  have g := fun k => gt_sw (l := m) (i := j) (j := a) (k := k) (by omega) (by omega)
  have gj : gt (Go.Proofs.YtgaipgbgppdfeaaGreatDoor.sw m j a) j = P := by
    rw [g]
    by_cases hja : j = a
    · rw [if_pos hja, hja]; exact h.pa
    · rw [if_neg hja, if_pos rfl]; exact h.pa
  refine ⟨h.w.trans (Win.sw (by omega) h3 (Nat.le_refl _) (by omega) (by omega)), by omega, h3, fun k k1 k2 => ?_, fun k k1 k2 => ?_⟩
  · rw [gj, g]
    by_cases hka : k = a
    · rw [if_pos hka]; exact h.lo j (by omega) (by omega)
    · rw [if_neg hka, if_neg (by omega)]; exact h.lo k (by omega) (by omega)
  · rw [gj, g, if_neg (by omega), if_neg (by omega)]; exact h.hi k k1 k2
/-! ### Insertion that gives up -/
variable {c : α → α → Int} {l' m1 m2 : List α}
/-- All but the element at j is in order. -/
def Lsh (c : α → α → Int) (a i j : Nat) (m : List α) : Prop := ∀ p q, a ≤ p → p < q → q < i → q ≠ j → ¬ c (gt m q) (gt m p) < 0
theorem Lsh.init (h : Sw c a i m) (hi : i < m.length) (_ha : a < i) : Lsh c a i (i - 1) (Go.Proofs.YtgaipgbgppdfeaaGreatDoor.sw m i (i - 1)) := fun p q h1 h2 h3 h4 => by
  rw [gt_sw hi (by omega), gt_sw hi (by omega), if_neg (by omega), if_neg (by omega), if_neg (by omega), if_neg (by omega)]
  exact h p q h1 h2 (by omega)
theorem Lsh.step (W : Wk0 c) (h : Lsh c a i j m) (ha : a < j) (hj : j < i) (hi : i ≤ m.length) (hc : c (gt m j) (gt m (j - 1)) < 0) : Lsh c a i (j - 1) (Go.Proofs.YtgaipgbgppdfeaaGreatDoor.sw m j (j - 1)) := fun p q h1 h2 h3 h4 => by
  have g := fun k => gt_sw (l := m) (i := j) (j := j - 1) (k := k) (by omega) (by omega)
  rw [g p, g q, if_neg h4]
  by_cases hq : q = j
  · subst hq
    rw [if_pos rfl]
    by_cases hp : p = q - 1
    · rw [if_pos hp]; exact W.a _ _ hc
    · rw [if_neg hp, if_neg (by omega)]
      exact h p (q - 1) h1 (by omega) (by omega) (by omega)
  · rw [if_neg hq]
    by_cases hp : p = j - 1
    · rw [if_pos hp]
      exact h j q (by omega) (by omega) h3 (by omega)
    · rw [if_neg hp]
      by_cases hp2 : p = j
      · rw [if_pos hp2]
        exact h (j - 1) q (by omega) (by omega) h3 (by omega)
      · rw [if_neg hp2]
        exact h p q h1 h2 h3 (by omega)
theorem Sw.out (h : Sw c a i m1) (hw : Win i b m1 m2) : Sw c a i m2 := fun p q h1 h2 h3 => by
  rw [hw.out p (by omega), hw.out q (by omega)]
  exact h p q h1 h2 h3
end
end Go.Proofs.YtgaipgbgppdfeaaGreatDoor

set_option maxRecDepth 10000
namespace Go.Proofs.YtgaipgbgppdfeaaGreatDoor
open Go.RowKit

section
variable {n : Nat} {C : Cx} {Q : Exit → Act → World → Prop} {E E' : List (Nat × Value)} {F F' F1 Fs F0 : List Pf} {R R' R0 : List HP} {k k' : List Fr} {ops l : List Oper}
  {d : Nat} {t ty0 : TypeId} {x y : Operand} {pos : String} {aft : Array Edge} {gd : Option (Nat × Bool)}
end
/-- The length of a number in bits. -/
def LenP (u c : Nat) : Bool := Nat.ble c 8 && (Nat.blt u (2 ^ c) && (Nat.ble (2 ^ c) (2 * u) || Nat.beq u 0))
section
variable {n : Nat} {C : Cx} {Q : Exit → Act → World → Prop} {E E' : List (Nat × Value)} {F F' F1 Fs F0 : List Pf} {R R' R0 Rs N N' A : List HP} {k k' : List Fr} {ops l : List Oper} {L L' : List (Nat × Nat)} {Tl : List Nat}
  {i d b : Nat} {t ty0 : TypeId} {x y : Operand} {pos : String} {aft : Array Edge} {gd : Option (Nat × Bool)}
end
end Go.Proofs.YtgaipgbgppdfeaaGreatDoor

set_option maxRecDepth 10000
namespace Go.Proofs.YtgaipgbgppdfeaaGreatDoor
open Go.RowKit

section
variable (b cap : Nat) (q : List Value × (Nat × Nat)) (fv : FuncId) (Fc : Pf) (c : Ch → Ch → Int) (W : Wk0 c) (U : Ch → Prop) (hcmp : ∀ x y, U x → U y → Enters fv ∧ Spec Tryz.prog fv #[x.v, y.v] [Fc] [] (RetV (.int .i64 (c x y))))

end
end Go.Proofs.YtgaipgbgppdfeaaGreatDoor

set_option maxRecDepth 10000
namespace Go.Proofs.YtgaipgbgppdfeaaGreatDoor
open Go.RowKit

section
variable (bk cap : Nat) (q : List Value × (Nat × Nat)) (fv : FuncId) (Fc : Pf) (c : Ch → Ch → Int) (W : Wk0 c) (U : Ch → Prop) (hcmp : ∀ x y, U x → U y → Enters fv ∧ Spec Tryz.prog fv #[x.v, y.v] [Fc] [] (RetV (.int .i64 (c x y))))

instance inhC : Inhabited Ch := ⟨⟨⟨0, ⟨#[]⟩, 0, 0, ⟨#[]⟩⟩, ⟨#[]⟩, false⟩⟩
end
end Go.Proofs.YtgaipgbgppdfeaaGreatDoor

set_option maxRecDepth 10000
namespace Go.Proofs.YtgaipgbgppdfeaaGreatDoor
open Go.RowKit

section
variable (bk cap : Nat) (q : List Value × (Nat × Nat)) (fv : FuncId) (Fc : Pf) (c : Ch → Ch → Int) (W : Wk0 c) (U : Ch → Prop) (hcmp : ∀ x y, U x → U y → Enters fv ∧ Spec Tryz.prog fv #[x.v, y.v] [Fc] [] (RetV (.int .i64 (c x y))))



end
end Go.Proofs.YtgaipgbgppdfeaaGreatDoor

set_option maxRecDepth 10000
namespace Go.Proofs.YtgaipgbgppdfeaaGreatDoor
open Go.RowKit

section
variable (bk cap : Nat) (q : List Value × (Nat × Nat)) (fv : FuncId) (Fc : Pf) (c : Ch → Ch → Int) (W : Wk0 c) (U : Ch → Prop) (hcmp : ∀ x y, U x → U y → Enters fv ∧ Spec Tryz.prog fv #[x.v, y.v] [Fc] [] (RetV (.int .i64 (c x y))))

end
end Go.Proofs.YtgaipgbgppdfeaaGreatDoor
