/-
  Lists that are changed in a window by exchanges: what sorting algorithms do, without a program.
  What a partition keeps while it goes on, without a program.
  Numbers that pdqsort reckons with: the length in bits, the next power of two, xorshift.
  The contracts of pdqsort at replevin/state.Change, for windows of less than 50 elements.
  Pivots: median of three, choosePivot. (replevin/state.Change)
  Reversal, sifting down. (replevin/state.Change)
  Sorting by a heap. (replevin/state.Change)
  Conditions: those that each theorem states.
-/
import Derived.Test.YtiggkcknmjgicaaGreatDoorME
import Derived.Test.YtiggkcknmjgicaaGreatDoorMB
set_option maxRecDepth 10000
namespace Go.Proofs.YtiggkcknmjgicaaGreatDoor

section
variable {α : Type} [Inhabited α]
/-- The element at a place. -/
def gt (l : List α) (i : Nat) : α := l.getD i default
theorem gt_some {l : List α} {i : Nat} (h : i < l.length) : l[i]? = some (gt l i) := by
  unfold gt; rw [List.getD_eq_getElem?_getD, List.getElem?_eq_getElem h]; rfl
theorem gt_of {l : List α} {i : Nat} {x : α} (h : l[i]? = some x) : gt l i = x := by
  unfold gt; rw [List.getD_eq_getElem?_getD, h]; rfl
theorem gt_mem {l : List α} {i : Nat} (h : i < l.length) : gt l i ∈ l := List.mem_of_getElem? (gt_some h)
theorem gt_ext {l l' : List α} (hl : l.length = l'.length) (h : ∀ k, k < l.length → gt l k = gt l' k) : l = l' := by
  apply List.ext_getElem? 
  intro i
  by_cases hi : i < l.length
  · rw [gt_some hi, gt_some (by omega), h i hi]
  · rw [List.getElem?_eq_none (by omega), List.getElem?_eq_none (by omega)]
theorem gt_set {l : List α} {i k : Nat} {x : α} (h : i < l.length) : gt (l.set i x) k = if k = i then x else gt l k := by
  unfold gt
  rw [List.getD_eq_getElem?_getD, List.getD_eq_getElem?_getD, List.getElem?_set]
  by_cases hk : k = i
  · subst hk; simp [h]
  · rw [if_neg (fun h => hk h.symm), if_neg hk]
/-- Two elements are exchanged. -/
def sw (l : List α) (i j : Nat) : List α := (l.set i (gt l j)).set j (gt l i)
theorem sw_len (l : List α) (i j : Nat) : (sw l i j).length = l.length := by simp [sw]
theorem gt_sw {l : List α} {i j k : Nat} (hi : i < l.length) (hj : j < l.length) : gt (sw l i j) k = if k = j then gt l i else if k = i then gt l j else gt l k := by
  unfold sw
  rw [gt_set (by simpa using hj), gt_set hi]
theorem sw_perm {l : List α} {i j : Nat} (hi : i < l.length) (hj : j < l.length) : (sw l i j).Perm l := by
  have h1 : gt l j = l[j] := gt_of (List.getElem?_eq_getElem hj)
  have h2 : gt l i = l[i] := gt_of (List.getElem?_eq_getElem hi)
  unfold sw
  rw [h1, h2]
  exact List.set_set_perm hi hj

/-- Only the window from a to b may have changed, and has the same elements. -/
structure Win (a b : Nat) (l l' : List α) : Prop where
  perm : l'.Perm l
  out : ∀ k, k < a ∨ b ≤ k → gt l' k = gt l k
variable {a b a' b' : Nat} {l l' l'' : List α}
theorem Win.len (h : Win a b l l') : l'.length = l.length := h.perm.length_eq
theorem Win.refl : Win a b l l := ⟨List.Perm.refl _, fun _ _ => rfl⟩
theorem Win.trans (h : Win a b l l') (k : Win a b l' l'') : Win a b l l'' := ⟨k.perm.trans h.perm, fun i hi => (k.out i hi).trans (h.out i hi)⟩
theorem Win.mono (h : Win a' b' l l') (h1 : a ≤ a') (h2 : b' ≤ b) : Win a b l l' := ⟨h.perm, fun k hk => h.out k (by omega)⟩
theorem Win.sw {i j : Nat} (h1 : a ≤ i) (h2 : i < b) (h3 : a ≤ j) (h4 : j < b) (hb : b ≤ l.length) : Win a b l (sw l i j) := ⟨sw_perm (by omega) (by omega), fun k hk => by
  rw [gt_sw (by omega) (by omega), if_neg (by omega), if_neg (by omega)]⟩
theorem Win.sub (h : Win a b l l') {U : α → Prop} (hU : ∀ x ∈ l, U x) : ∀ x ∈ l', U x := fun x hx => hU x (h.perm.mem_iff.1 hx)

def wn (l : List α) (a b : Nat) : List α := (l.drop a).take (b - a)
theorem mem_wn {x : α} (hb : b ≤ l.length) : x ∈ wn l a b ↔ ∃ k, a ≤ k ∧ k < b ∧ gt l k = x := by
  unfold wn
  rw [List.mem_iff_getElem?]
  constructor
  · rintro ⟨i, hi⟩
    rw [List.getElem?_take] at hi
    split at hi
    · rw [List.getElem?_drop] at hi
      exact ⟨a + i, by omega, by omega, gt_of hi⟩
    · cases hi
  · rintro ⟨k, h1, h2, rfl⟩
    refine ⟨k - a, ?_⟩
    rw [List.getElem?_take, if_pos (by omega), List.getElem?_drop, show a + (k - a) = k by omega, gt_some (by omega)]
omit [Inhabited α] in
theorem wn_split (hab : a ≤ b) : l = l.take a ++ (wn l a b ++ l.drop b) := by
  unfold wn
  rw [show l.drop b = (l.drop a).drop (b - a) by rw [List.drop_drop]; congr 1; omega, List.take_append_drop, List.take_append_drop]
theorem Win.wn (h : Win a b l l') (hab : a ≤ b) : (wn l' a b).Perm (wn l a b) := by
  have h1 := h.perm
  have e1 : l'.take a = l.take a := by
    apply List.ext_getElem?
    intro i
    rw [List.getElem?_take, List.getElem?_take]
    split
    · rename_i hi
      by_cases hl : i < l.length
      · rw [gt_some (by rw [h.len]; exact hl), gt_some hl, h.out i (by omega)]
      · rw [List.getElem?_eq_none (by rw [h.len]; omega), List.getElem?_eq_none (by omega)]
    · rfl
  have e2 : l'.drop b = l.drop b := by
    apply List.ext_getElem?
    intro i
    rw [List.getElem?_drop, List.getElem?_drop]
    by_cases hl : b + i < l.length
    · rw [gt_some (by rw [h.len]; exact hl), gt_some hl, h.out (b + i) (by omega)]
    · rw [List.getElem?_eq_none (by rw [h.len]; omega), List.getElem?_eq_none (by omega)]
  rw [wn_split (l := l') hab, wn_split (l := l) hab, e1, e2] at h1
  exact (List.perm_append_right_iff _).1 ((List.perm_append_left_iff _).1 h1)
theorem Win.all (h : Win a b l l') (hb : b ≤ l.length) {P : α → Prop} (hP : ∀ k, a ≤ k → k < b → P (gt l k)) (k : Nat) (h1 : a ≤ k) (h2 : k < b) : P (gt l' k) := by
  have hm : gt l' k ∈ Go.Proofs.YtiggkcknmjgicaaGreatDoor.wn l' a b := (mem_wn (by rw [h.len]; exact hb)).2 ⟨k, h1, h2, rfl⟩
  obtain ⟨j, h3, h4, h5⟩ := (mem_wn hb).1 ((h.wn (by omega)).mem_iff.1 hm)
  rw [← h5]
  exact hP j h3 h4

/-- A comparison: less is asymmetric, not less is transitive. -/
structure Wk0 (c : α → α → Int) : Prop where
  a : ∀ x y, c x y < 0 → ¬ c y x < 0
  t : ∀ x y z, ¬ c y x < 0 → ¬ c z y < 0 → ¬ c z x < 0
variable {c : α → α → Int} (W : Wk0 c)
include W
omit [Inhabited α] in
theorem Wk0.i (x : α) : ¬ c x x < 0 := fun h => W.a x x h h
omit [Inhabited α] in
theorem Wk0.lt_of {x y z : α} (h1 : c x y < 0) (h2 : ¬ c z y < 0) : c x z < 0 := Classical.byContradiction fun h => W.t y z x h2 h h1
omit [Inhabited α] in
theorem Wk0.le_lt {x y z : α} (h1 : ¬ c y x < 0) (h2 : c y z < 0) : c x z < 0 := Classical.byContradiction fun h => W.t z x y h h1 h2
omit W

/-- The window is sorted. -/
def Sw (c : α → α → Int) (a b : Nat) (l : List α) : Prop := ∀ i j, a ≤ i → i < j → j < b → ¬ c (gt l j) (gt l i) < 0
theorem Sw.srd (h : Sw c 0 l.length l) : Srd c l := by
  unfold Srd
  rw [List.pairwise_iff_getElem]
  intro i j hi hj hij
  have h1 := h i j (by omega) hij hj
  rw [gt_of (List.getElem?_eq_getElem hi), gt_of (List.getElem?_eq_getElem hj)] at h1
  exact h1
theorem Sw.nil (h : b ≤ a + 1) : Sw c a b l := fun i j h1 h2 h3 => by omega

/-- What a round of the sorting keeps: the window from a' to b' is what is not yet sorted. -/
structure Jw (c : α → α → Int) (a b a' b' : Nat) (l0 l : List α) : Prop where
  w : Win a b l0 l
  h1 : a ≤ a'
  h2 : b' ≤ b
  p : ∀ i j, a ≤ i → i < j → j < b → ¬ (a' ≤ i ∧ j < b') → ¬ c (gt l j) (gt l i) < 0
/-- What is left of the window is not greater. -/
def Lw (c : α → α → Int) (a b : Nat) (l : List α) : Prop := 0 < a → ∀ k, a ≤ k → k < b → ¬ c (gt l k) (gt l (a - 1)) < 0
variable {l0 l1 l2 : List α} {m : Nat}
theorem Jw.win (h : Jw c a b a' b' l0 l) (hb : b ≤ l0.length) (hw : Win a' b' l l1) : Jw c a b a' b' l0 l1 := by
  refine ⟨h.w.trans (hw.mono h.h1 h.h2), h.h1, h.h2, fun i j hi hij hj hn => ?_⟩
  have hl := h.w.len
  have h2 := h.h2
  by_cases hi' : a' ≤ i ∧ i < b'
  · rw [hw.out j (by omega)]
    exact hw.all (by omega) (P := fun x => ¬ c (gt l j) x < 0) (fun k h1 h2 => h.p k j (by have := h.h1; omega) (by omega) hj (by omega)) i hi'.1 hi'.2
  · rw [hw.out i (by omega)]
    by_cases hj' : a' ≤ j ∧ j < b'
    · exact hw.all (by omega) (P := fun x => ¬ c x (gt l i) < 0) (fun k h1 h2 => h.p i k hi (by omega) (by omega) (by omega)) j hj'.1 hj'.2
    · rw [hw.out j (by omega)]
      exact h.p i j hi hij hj hn
theorem Jw.low (h : Jw c a b a' b' l0 l) (hb : b ≤ l0.length) (hl : Lw c a b l0) : Lw c a' b' l := fun h0 k h1 h2 => by
  have ha := h.h1
  have hb' := h.h2
  by_cases he : a' = a
  · subst he
    rw [h.w.out (a' - 1) (by omega)]
    exact h.w.all hb (P := fun x => ¬ c x (gt l0 (a' - 1)) < 0) (fun k h3 h4 => hl h0 k h3 h4) k (by omega) (by omega)
  · exact h.p (a' - 1) k (by omega) (by omega) (by omega) (by omega)
theorem Jw.done (h : Jw c a b a' b' l0 l) (hs : Sw c a' b' l) : Win a b l0 l ∧ Sw c a b l := ⟨h.w, fun i j hi hij hj => by
  by_cases hn : a' ≤ i ∧ j < b'
  · exact hs i j hn.1 hij hn.2
  · exact h.p i j hi hij hj hn⟩
theorem Jw.init : Jw c a b a b l l := ⟨Win.refl, Nat.le_refl _, Nat.le_refl _, fun _ _ h1 _ h3 h4 => absurd ⟨h1, h3⟩ h4⟩
theorem Jw.shrink {a2 b2 : Nat} (h : Jw c a b a' b' l0 l) (h1 : a' ≤ a2) (h2 : b2 ≤ b') (hp : ∀ i j, a' ≤ i → i < j → j < b' → ¬ (a2 ≤ i ∧ j < b2) → ¬ c (gt l j) (gt l i) < 0) : Jw c a b a2 b2 l0 l := ⟨h.w, by have := h.h1; omega, by have := h.h2; omega, fun i j hi hij hj hn => by
  by_cases hn' : a' ≤ i ∧ j < b'
  · exact hp i j hn'.1 hij hn'.2 hn
  · exact h.p i j hi hij hj hn'⟩

/-- What a partition leaves. -/
structure Pt0 (c : α → α → Int) (a b m : Nat) (l : List α) : Prop where
  h1 : a ≤ m
  h2 : m < b
  lo : ∀ k, a ≤ k → k < m → c (gt l k) (gt l m) < 0
  hi : ∀ k, m < k → k < b → ¬ c (gt l k) (gt l m) < 0
include W in
theorem Pt0.left (hp : Pt0 c a' b' m l) (hb : b' ≤ l.length) (hw : Win a' m l l1) (hs : Sw c a' m l1) : ∀ i j, a' ≤ i → i < j → j < b' → ¬ (m + 1 ≤ i ∧ j < b') → ¬ c (gt l1 j) (gt l1 i) < 0 := fun i j hi hij hj hn => by
  have h1 := hp.h1
  have h2 := hp.h2
  by_cases hjm : j < m
  · exact hs i j hi hij hjm
  · rw [hw.out j (by omega)]
    by_cases him : i < m
    · have h3 : c (gt l1 i) (gt l m) < 0 := hw.all (by omega) (P := fun x => c x (gt l m) < 0) (fun k h1 h2 => hp.lo k h1 h2) i hi him
      by_cases hjm' : j = m
      · rw [hjm']; exact W.a _ _ h3
      · exact W.a _ _ (W.lt_of h3 (hp.hi j (by omega) hj))
    · obtain rfl : i = m := by omega
      rw [hw.out i (by omega)]
      exact hp.hi j (by omega) hj
include W in
theorem Pt0.right (hp : Pt0 c a' b' m l) (hb : b' ≤ l.length) (hw : Win (m + 1) b' l l1) (hs : Sw c (m + 1) b' l1) : ∀ i j, a' ≤ i → i < j → j < b' → ¬ (a' ≤ i ∧ j < m) → ¬ c (gt l1 j) (gt l1 i) < 0 := fun i j hi hij hj hn => by
  have h1 := hp.h1
  have h2 := hp.h2
  by_cases him : m < i
  · exact hs i j (by omega) hij hj
  · rw [hw.out i (by omega)]
    by_cases hjm : m < j
    · have h3 : ¬ c (gt l1 j) (gt l m) < 0 := hw.all (by omega) (P := fun x => ¬ c x (gt l m) < 0) (fun k h1 h2 => hp.hi k (by omega) h2) j (by omega) hj
      by_cases him' : i = m
      · rw [him']; exact h3
      · exact W.a _ _ (W.lt_of (hp.lo i hi (by omega)) h3)
    · obtain rfl : j = m := by omega
      rw [hw.out j (by omega)]
      exact W.a _ _ (hp.lo i hi (by omega))
theorem Pt0.lw (hp : Pt0 c a b m l) : Lw c (m + 1) b l := fun _ k h1 h2 => hp.hi k (by omega) h2
theorem Lw.sub (h : Lw c a b l) (hm : m ≤ b) : Lw c a m l := fun h0 k h1 h2 => h h0 k h1 (by omega)
include W in
/-- What a partition by equality leaves, where nothing of the window is less than q. -/
theorem eq_shrink {q : α} (hlow : ∀ k, a' ≤ k → k < b' → ¬ c (gt l k) q < 0) (h1 : ∀ k, a' ≤ k → k < m → ¬ c q (gt l k) < 0) : ∀ i j, a' ≤ i → i < j → j < b' → ¬ (m ≤ i ∧ j < b') → ¬ c (gt l j) (gt l i) < 0 := fun i j hi hij hj hn =>
  W.t _ _ _ (h1 i hi (by omega)) (hlow j (by omega) hj)

/-! ### A heap -/

/-- No child from lo on is greater than its parent, but for the children of x. -/
def Hp (c : α → α → Int) (f lo n x : Nat) (l : List α) : Prop := ∀ i j, lo ≤ i → (j = 2 * i + 1 ∨ j = 2 * i + 2) → j < n → i ≠ x → ¬ c (gt l (f + i)) (gt l (f + j)) < 0
/-- The children of x are not greater than x's parent. -/
def Hq (c : α → α → Int) (f lo n x : Nat) (l : List α) : Prop := ∀ i j, lo ≤ i → (x = 2 * i + 1 ∨ x = 2 * i + 2) → (j = 2 * x + 1 ∨ j = 2 * x + 2) → j < n → ¬ c (gt l (f + i)) (gt l (f + j)) < 0
variable {f lo n x y : Nat}
include W in
theorem Hp.step (h : Hp c f lo n x l) (hq : Hq c f lo n x l) (hx : lo ≤ x) (hy : y = 2 * x + 1 ∨ y = 2 * x + 2) (hyn : y < n) (hn : f + n ≤ l.length) (hlt : c (gt l (f + x)) (gt l (f + y)) < 0)
    (hmax : ∀ z, (z = 2 * x + 1 ∨ z = 2 * x + 2) → z < n → ¬ c (gt l (f + y)) (gt l (f + z)) < 0) : Hp c f lo n y (sw l (f + x) (f + y)) ∧ Hq c f lo n y (sw l (f + x) (f + y)) := by
  have g := fun k => gt_sw (l := l) (i := f + x) (j := f + y) (k := f + k) (by omega) (by omega)
  constructor
  · intro i j hi hij hj hiy
    rw [g i, g j, if_neg (by omega : ¬ f + i = f + y)]
    by_cases hix : i = x
    · subst hix
      rw [if_pos rfl]
      by_cases hjy : j = y
      · subst hjy; rw [if_pos rfl]; exact W.a _ _ hlt
      · rw [if_neg (by omega), if_neg (by omega)]
        exact hmax j hij hj
    · rw [if_neg (by omega)]
      have h3 := h i j hi hij hj hix
      by_cases hjy : j = y
      · omega
      · rw [if_neg (by omega)]
        by_cases hjx : j = x
        · subst hjx
          rw [if_pos rfl]
          exact hq i y hi hij hy hyn
        · rw [if_neg (by omega)]; exact h3
  · intro i j hi hyi hj hjn
    have hix : i = x := by omega
    subst hix
    rw [g i, g j, if_neg (by omega), if_pos rfl, if_neg (by omega), if_neg (by omega)]
    exact h y j (by omega) hj hjn (by omega)
theorem Hp.stop (h : Hp c f lo n x l) (hs : ∀ j, (j = 2 * x + 1 ∨ j = 2 * x + 2) → j < n → ¬ c (gt l (f + x)) (gt l (f + j)) < 0) : ∀ i j, lo ≤ i → (j = 2 * i + 1 ∨ j = 2 * i + 2) → j < n → ¬ c (gt l (f + i)) (gt l (f + j)) < 0 := fun i j hi hij hj => by
  by_cases hx : i = x
  · subst hx; exact hs j hij hj
  · exact h i j hi hij hj hx
/-- A heap from lo on. -/
def He (c : α → α → Int) (f lo n : Nat) (l : List α) : Prop := ∀ i j, lo ≤ i → (j = 2 * i + 1 ∨ j = 2 * i + 2) → j < n → ¬ c (gt l (f + i)) (gt l (f + j)) < 0
include W in
theorem He.top (h : He c f 0 n l) : ∀ j, j < n → ¬ c (gt l f) (gt l (f + j)) < 0 := by
  intro j
  induction j using Nat.strongRecOn with
  | ind j ih =>
    intro hj
    by_cases h0 : j = 0
    · subst h0; exact W.i _
    · have h1 := ih ((j - 1) / 2) (by omega) (by omega)
      have h2 := h ((j - 1) / 2) j (by omega) (by omega) hj
      exact W.t _ _ _ h2 h1

/-- The heap, and behind it what is sorted already and not less. -/
structure Hs (c : α → α → Int) (f n N : Nat) (l : List α) : Prop where
  he : He c f 0 n l
  so : ∀ p q, p < q → q < N → n ≤ q → ¬ c (gt l (f + q)) (gt l (f + p)) < 0
include W in
theorem Hs.pop {i N : Nat} (h : Hs c f (i + 1) N l) (hi : i < N) (hN : f + N ≤ l.length) (hw : Win f (f + i) (sw l f (f + i)) l2) (he : He c f 0 i l2) : Hs c f i N l2 := by
  refine ⟨he, fun p q hpq hq hiq => ?_⟩
  have g := fun k => gt_sw (l := l) (i := f) (j := f + i) (k := k) (by omega) (by omega)
  have hs := sw_len l f (f + i)
  have hall : ∀ P : α → Prop, (∀ k, k ≤ i → P (gt l (f + k))) → ∀ p, p < i → P (gt l2 (f + p)) := fun P hP p hp =>
    hw.all (by omega) (P := P) (fun k h1 h2 => by
      rw [g k, if_neg (by omega)]
      by_cases hk : k = f
      · rw [if_pos hk]; exact hP i (Nat.le_refl _)
      · rw [if_neg hk, show k = f + (k - f) by omega]; exact hP (k - f) (by omega)) (f + p) (by omega) (by omega)
  rw [hw.out (f + q) (by omega), g (f + q)]
  by_cases hqi : q = i
  · subst hqi
    rw [if_pos rfl]
    exact hall (fun x => ¬ c (gt l f) x < 0) (fun k hk => h.he.top W k (by omega)) p hpq
  · rw [if_neg (by omega), if_neg (by omega)]
    by_cases hpi : p < i
    · exact hall (fun x => ¬ c (gt l (f + q)) x < 0) (fun k hk => h.so k q (by omega) hq (by omega)) p hpi
    · rw [hw.out (f + p) (by omega), g (f + p)]
      by_cases hp' : p = i
      · rw [if_pos (by omega)]
        exact h.so 0 q (by omega) hq (by omega)
      · rw [if_neg (by omega), if_neg (by omega)]
        exact h.so p q hpq hq (by omega)
theorem Hs.done {N : Nat} (h : Hs c f 0 N l) : Sw c f (f + N) l := fun i j h1 h2 h3 => by
  have := h.so (i - f) (j - f) (by omega) (by omega) (by omega)
  rwa [show f + (j - f) = j by omega, show f + (i - f) = i by omega] at this
theorem Hs.init {n N : Nat} (h : He c f 0 n l) (hn : N ≤ n) : Hs c f n N l := ⟨h, fun p q h1 h2 h3 => by omega⟩

/-! ### Insertion from the right -/
omit [Inhabited α] in
theorem snocRec {motive : List α → Prop} (l : List α) (nil : motive []) (snoc : ∀ (l : List α) (x : α), motive l → motive (l ++ [x])) : motive l := by
  have h : ∀ n (l : List α), l.length = n → motive l := by
    intro n
    induction n with
    | zero => intro l hl; rw [List.length_eq_zero_iff.1 hl]; exact nil
    | succ n ih =>
      intro l hl
      rcases List.eq_nil_or_concat l with h | ⟨l', x, h⟩
      · subst h; exact nil
      · rw [List.concat_eq_append] at h
        subst h
        exact snoc l' x (ih l' (by simpa using hl))
  exact h _ l rfl
def inR (c : α → α → Int) (P : List α) (x : α) : List α := (P.reverse.dropWhile fun s => decide (c x s < 0)).reverse ++ x :: (P.reverse.takeWhile fun s => decide (c x s < 0)).reverse
omit [Inhabited α] in
theorem inR_eq {P S P0 : List α} {x : α} (h : P ++ S = P0) (h1 : ∀ s ∈ S, c x s < 0) (h2 : ∀ p, P.getLast? = some p → ¬ c x p < 0) : inR c P0 x = P ++ x :: S := by
  subst h
  have h3 : ∀ s ∈ S.reverse, decide (c x s < 0) = true := fun s hs => by simpa using h1 s (List.mem_reverse.1 hs)
  have h4 : P.reverse.takeWhile (fun s => decide (c x s < 0)) = [] ∧ P.reverse.dropWhile (fun s => decide (c x s < 0)) = P.reverse := by
    rcases List.eq_nil_or_concat P with hP | ⟨P', q, hP⟩
    · subst hP; simp
    · rw [List.concat_eq_append] at hP
      subst hP
      have := h2 q (by simp)
      simp [this]
  unfold inR
  rw [List.reverse_append, List.takeWhile_append_of_pos h3, List.dropWhile_append_of_pos h3, h4.1, h4.2]
  simp
def isR (c : α → α → Int) (l : List α) : List α := l.foldl (inR c) []
omit [Inhabited α] in
theorem inR_split (P : List α) (x : α) : ∃ Q S, Q ++ S = P ∧ (∀ s ∈ S, c x s < 0) ∧ (∀ p, Q.getLast? = some p → ¬ c x p < 0) ∧ inR c P x = Q ++ x :: S := by
  induction P using snocRec with
  | nil => exact ⟨[], [], rfl, by simp, by simp, by simp [inR]⟩
  | snoc P q ih =>
    by_cases hq : c x q < 0
    · obtain ⟨Q, S, h1, h2, h3, h4⟩ := ih
      have h5 : ∀ s ∈ S ++ [q], c x s < 0 := by
        intro s hs
        rcases List.mem_append.1 hs with hs | hs
        · exact h2 s hs
        · obtain rfl := List.mem_singleton.1 hs; exact hq
      exact ⟨Q, S ++ [q], by rw [← h1]; simp, h5, h3, inR_eq (by rw [← h1]; simp) h5 h3⟩
    · have h3 : ∀ p, (P ++ [q]).getLast? = some p → ¬ c x p < 0 := fun p hp => by
        simp at hp; subst hp; exact hq
      exact ⟨P ++ [q], [], by simp, by simp, h3, inR_eq (by simp) (by simp) h3⟩
omit [Inhabited α] in
theorem inR_perm (P : List α) (x : α) : (inR c P x).Perm (P ++ [x]) := by
  obtain ⟨Q, S, h1, _, _, h4⟩ := inR_split (c := c) P x
  rw [h4, ← h1, List.append_assoc]
  refine List.Perm.append_left Q ?_
  exact (List.perm_append_comm (l₁ := [x]) (l₂ := S))
omit [Inhabited α] in
theorem isR_snoc (l : List α) (x : α) : isR c (l ++ [x]) = inR c (isR c l) x := by simp [isR]
omit [Inhabited α] in
theorem isR_perm (l : List α) : (isR c l).Perm l := by
  induction l using snocRec with
  | nil => exact List.Perm.refl _
  | snoc l x ih => rw [isR_snoc]; exact (inR_perm _ _).trans (ih.append_right [x])
omit [Inhabited α] in
include W in
theorem isR_srd (l : List α) : Srd c (isR c l) := by
  induction l using snocRec with
  | nil => exact List.Pairwise.nil
  | snoc l x ih =>
    rw [isR_snoc]
    obtain ⟨Q, S, h1, h2, h3, h4⟩ := inR_split (c := c) (isR c l) x
    rw [h4]
    exact srt_insr W.a (fun a b d => W.t a b d) (by rw [h1]; exact ih) h2 h3
omit [Inhabited α] in
theorem isR_congr {d : α → α → Int} (h : ∀ x y, c x y < 0 ↔ d x y < 0) (l : List α) : isR c l = isR d l := by
  have : inR c = inR d := by
    funext P x
    unfold inR
    simp only [h]
  unfold isR
  rw [this]
omit [Inhabited α] in
theorem isR_len (l : List α) : (isR c l).length = l.length := (isR_perm l).length_eq
/-- The window A..B of the list, sorted so. -/
theorem sw_of {A M B : List α} (h : Srd c M) : Sw c A.length (A.length + M.length) (A ++ (M ++ B)) := fun i j h1 h2 h3 => by
  have e : ∀ k, A.length ≤ k → k < A.length + M.length → gt (A ++ (M ++ B)) k = M[k - A.length]! ∧ k - A.length < M.length := fun k h1 h2 => by
    refine ⟨gt_of ?_, by omega⟩
    rw [List.getElem?_append_right h1, List.getElem?_append_left (by omega), List.getElem!_eq_getElem?_getD, List.getElem?_eq_getElem (by omega)]
    rfl
  obtain ⟨e1, l1⟩ := e i h1 (by omega)
  obtain ⟨e2, l2⟩ := e j (by omega) h3
  rw [e1, e2]
  unfold Srd at h
  rw [List.pairwise_iff_getElem] at h
  have := h (i - A.length) (j - A.length) l1 l2 (by omega)
  rw [List.getElem!_eq_getElem?_getD, List.getElem!_eq_getElem?_getD, List.getElem?_eq_getElem l1, List.getElem?_eq_getElem l2]
  exact this
theorem win_of {A M M' B : List α} (h : M'.Perm M) : Win A.length (A.length + M.length) (A ++ (M ++ B)) (A ++ (M' ++ B)) := ⟨(h.append_right B).append_left A, fun k hk => by
  unfold gt
  rw [List.getD_eq_getElem?_getD, List.getD_eq_getElem?_getD]
  have hl := h.length_eq
  rcases hk with hk | hk
  · rw [List.getElem?_append_left hk, List.getElem?_append_left hk]
  · rw [List.getElem?_append_right (by omega), List.getElem?_append_right (by omega), List.getElem?_append_right (by omega), List.getElem?_append_right (by omega), hl]⟩
end
end Go.Proofs.YtiggkcknmjgicaaGreatDoor

set_option maxRecDepth 10000
namespace Go.Proofs.YtiggkcknmjgicaaGreatDoor

section
variable {α : Type} [Inhabited α] {a b i j : Nat} {P : α} {A : α → Prop} {l m : List α}
/-- What lies behind a and before i is of A, what lies behind j is not. -/
structure Pin (A : α → Prop) (a b i j : Nat) (P : α) (l m : List α) : Prop where
  w : Win a b l m
  h1 : a < i
  h2 : i ≤ j + 1
  h3 : j < b
  pa : gt m a = P
  lo : ∀ k, a < k → k < i → A (gt m k)
  hi : ∀ k, j < k → k < b → ¬ A (gt m k)
theorem Pin.init {p : Nat} (hp1 : a ≤ p) (hp2 : p < b) (hb : b ≤ l.length) (h : a + 1 < b) : Pin A a b (a + 1) (b - 1) (gt l p) l (sw l a p) where
  w := Win.sw (Nat.le_refl _) (by omega) hp1 hp2 hb
  h1 := by omega
  h2 := by omega
  h3 := by omega
  pa := by
    rw [gt_sw (by omega) (by omega)]
    split
    · rename_i h; rw [h]
    · rw [if_pos rfl]
  lo := fun k h1 h2 => by omega
  hi := fun k h1 h2 => by omega
theorem Pin.ii (h : Pin A a b i j P l m) (hij : i ≤ j) (hA : A (gt m i)) : Pin A a b (i + 1) j P l m :=
  ⟨h.w, by have := h.h1; omega, by omega, h.h3, h.pa, fun k h1 h2 => by
    by_cases hk : k = i
    · rw [hk]; exact hA
    · exact h.lo k h1 (by omega), h.hi⟩
theorem Pin.jj (h : Pin A a b i j P l m) (hij : i ≤ j) (hA : ¬ A (gt m j)) : Pin A a b i (j - 1) P l m :=
  ⟨h.w, h.h1, by have := h.h1; omega, by have := h.h3; omega, h.pa, h.lo, fun k h1 h2 => by
    by_cases hk : k = j
    · rw [hk]; exact hA
    · exact h.hi k (by have := h.h1; omega) h2⟩
theorem Pin.sw (h : Pin A a b i j P l m) (hb : b ≤ l.length) (hij : i < j) (hi : ¬ A (gt m i)) (hj : A (gt m j)) : Pin A a b (i + 1) (j - 1) P l (sw m i j) := by
  have h1 := h.h1
  have h3 := h.h3
  have hl := h.w.len
  have g := fun k => gt_sw (l := m) (i := i) (j := j) (k := k) (by omega) (by omega)
  refine ⟨h.w.trans (Win.sw (by omega) (by omega) (by omega) h3 (by omega)), by omega, by omega, by omega, ?_, fun k k1 k2 => ?_, fun k k1 k2 => ?_⟩
  · rw [g, if_neg (by omega), if_neg (by omega)]; exact h.pa
  · rw [g, if_neg (by omega)]
    by_cases hk : k = i
    · rw [if_pos hk]; exact hj
    · rw [if_neg hk]; exact h.lo k k1 (by omega)
  · rw [g]
    by_cases hk : k = j
    · rw [if_pos hk]; exact hi
    · rw [if_neg hk, if_neg (by omega)]; exact h.hi k (by omega) k2
theorem Pin.ne (_h : Pin A a b i j P l m) (hij : i ≤ j) (hi : ¬ A (gt m i)) (hj : A (gt m j)) : i < j := by
  by_cases he : i = j
  · rw [he] at hi; exact absurd hj hi
  · omega
theorem Pin.part {c : α → α → Int} (h : Pin (fun x => c x P < 0) a b i j P l m) (hb : b ≤ l.length) (hij : j < i) : Win a b l (Go.Proofs.YtiggkcknmjgicaaGreatDoor.sw m j a) ∧ Pt0 c a b j (Go.Proofs.YtiggkcknmjgicaaGreatDoor.sw m j a) := by
  have h1 := h.h1
  have h2 := h.h2
  have h3 := h.h3
  have hl := h.w.len
  have g := fun k => gt_sw (l := m) (i := j) (j := a) (k := k) (by omega) (by omega)
  have gj : gt (Go.Proofs.YtiggkcknmjgicaaGreatDoor.sw m j a) j = P := by
    rw [g]
    by_cases hja : j = a
    · rw [if_pos hja, hja]; exact h.pa
    · rw [if_neg hja, if_pos rfl]; exact h.pa
  refine ⟨h.w.trans (Win.sw (by omega) h3 (Nat.le_refl _) (by omega) (by omega)), by omega, h3, fun k k1 k2 => ?_, fun k k1 k2 => ?_⟩
  · rw [gj, g]
    by_cases hka : k = a
    · rw [if_pos hka]; exact h.lo j (by omega) (by omega)
    · rw [if_neg hka, if_neg (by omega)]; exact h.lo k (by omega) (by omega)
  · rw [gj, g, if_neg (by omega), if_neg (by omega)]; exact h.hi k k1 k2
/-! ### Insertion that gives up -/
variable {c : α → α → Int} {l' m1 m2 : List α}
theorem Lw.win (h : Lw c a b l) (hw : Win a b l l') (hb : b ≤ l.length) : Lw c a b l' := fun h0 k h1 h2 => by
  rw [hw.out (a - 1) (by omega)]
  exact hw.all hb (P := fun x => ¬ c x (gt l (a - 1)) < 0) (fun k h3 h4 => h h0 k h3 h4) k h1 h2
theorem Sw.snoc (W : Wk0 c) (h : Sw c a i m) (hai : a < i) (hc : ¬ c (gt m i) (gt m (i - 1)) < 0) : Sw c a (i + 1) m := fun p q h1 h2 h3 => by
  by_cases hq : q = i
  · subst hq
    by_cases hp : p = q - 1
    · rw [hp]; exact hc
    · exact W.t _ _ _ (h p (q - 1) h1 (by omega) (by omega)) hc
  · exact h p q h1 h2 (by omega)
/-- All but the element at j is in order. -/
def Lsh (c : α → α → Int) (a i j : Nat) (m : List α) : Prop := ∀ p q, a ≤ p → p < q → q < i → q ≠ j → ¬ c (gt m q) (gt m p) < 0
theorem Lsh.init (h : Sw c a i m) (hi : i < m.length) (_ha : a < i) : Lsh c a i (i - 1) (Go.Proofs.YtiggkcknmjgicaaGreatDoor.sw m i (i - 1)) := fun p q h1 h2 h3 h4 => by
  rw [gt_sw hi (by omega), gt_sw hi (by omega), if_neg (by omega), if_neg (by omega), if_neg (by omega), if_neg (by omega)]
  exact h p q h1 h2 (by omega)
theorem Lsh.step (W : Wk0 c) (h : Lsh c a i j m) (ha : a < j) (hj : j < i) (hi : i ≤ m.length) (hc : c (gt m j) (gt m (j - 1)) < 0) : Lsh c a i (j - 1) (Go.Proofs.YtiggkcknmjgicaaGreatDoor.sw m j (j - 1)) := fun p q h1 h2 h3 h4 => by
  have g := fun k => gt_sw (l := m) (i := j) (j := j - 1) (k := k) (by omega) (by omega)
  rw [g p, g q, if_neg h4]
  by_cases hq : q = j
  · subst hq
    rw [if_pos rfl]
    by_cases hp : p = q - 1
    · rw [if_pos hp]; exact W.a _ _ hc
    · rw [if_neg hp, if_neg (by omega)]
      exact h p (q - 1) h1 (by omega) (by omega) (by omega)
  · rw [if_neg hq]
    by_cases hp : p = j - 1
    · rw [if_pos hp]
      exact h j q (by omega) (by omega) h3 (by omega)
    · rw [if_neg hp]
      by_cases hp2 : p = j
      · rw [if_pos hp2]
        exact h (j - 1) q (by omega) (by omega) h3 (by omega)
      · rw [if_neg hp2]
        exact h p q h1 h2 h3 (by omega)
theorem Lsh.stop (W : Wk0 c) (h : Lsh c a i j m) (hc : a < j → ¬ c (gt m j) (gt m (j - 1)) < 0) : Sw c a i m := fun p q h1 h2 h3 => by
  by_cases hq : q = j
  · subst hq
    have h5 := hc (by omega)
    by_cases hp : p = q - 1
    · rw [hp]; exact h5
    · exact W.t _ _ _ (h p (q - 1) h1 (by omega) (by omega) (by omega)) h5
  · exact h p q h1 h2 h3 hq
theorem Sw.out (h : Sw c a i m1) (hw : Win i b m1 m2) : Sw c a i m2 := fun p q h1 h2 h3 => by
  rw [hw.out p (by omega), hw.out q (by omega)]
  exact h p q h1 h2 h3
theorem Sw.srdn {n : Nat} (hn : l.length = n) (h : Sw c 0 n l) : Srd c l := by
  subst hn; exact h.srd
end
end Go.Proofs.YtiggkcknmjgicaaGreatDoor

set_option maxRecDepth 10000
namespace Go.Proofs.YtiggkcknmjgicaaGreatDoor
open Go.RowKit

section
variable {n : Nat} {C : Cx} {Q : Exit → Act → World → Prop} {E E' : List (Nat × Value)} {F F' F1 Fs F0 : List Pf} {R R' R0 : List HP} {k k' : List Fr} {ops l : List Oper}
  {d : Nat} {t ty0 : TypeId} {x y : Operand} {pos : String} {aft : Array Edge} {gd : Option (Nat × Bool)}
/-- A byte of a constant text, with what holds of all of them. -/
theorem l_six8P {s : ByteArray} {z : Int} {kd : IntKind} {rs : TRow} (Pr : Nat → Nat → Bool) (j m : Nat) (hjm : j < m) (nx : ∀ c : UInt8, Pr j c.toNat = true → Wl n C ops.toArray k Q l ((d, .int .u8 c.toNat) :: E) F R)
    (hw : wantL ops E ⟨some d, .index t x y, ty0, pos, aft, gd⟩ = some true := by rfl) (hn : Nat.blt d n = true := by rfl) (hx : ev E x = some (.string s) := by rfl) (hy : ev E y = some (.int kd z) := by rfl)
    (hts : lookT tab t = some rs := by rfl) (hrs : rs.k = .str := by rfl) (hz : z = (j : Int) := by first | rfl | omega) (hm : (Nat.ble m s.data.toList.length && (List.range m).all (fun j => Pr j (s.data.toList.getD j 0).toNat)) = true := by decide +kernel) : Wl n C ops.toArray k Q (⟨some d, .index t x y, ty0, pos, aft, gd⟩ :: l) E F R := by
  rw [Bool.and_eq_true] at hm
  have hlt : j < s.data.toList.length := Nat.lt_of_lt_of_le hjm (Nat.le_of_ble_eq_true hm.1)
  have hp : Pr j (s.data.toList[j]).toNat = true := by
    have := List.all_eq_true.1 hm.2 j (List.mem_range.2 hjm)
    rwa [List.getD_eq_getElem?_getD, List.getElem?_eq_getElem hlt] at this
  exact l_q (fun a w ha => by
    subst hz
    have h0 : (0 : Int) ≤ (j : Int) := by omega
    have h1 : s[j]? = some s.data.toList[j] := by
      have hlt' : j < s.size := by simpa using hlt
      rw [getElem?_pos s j hlt']
      rfl
    simp only [execOp, ha.ev (x := x) (by rw [evf_look]; exact hx), ha.ev (x := y) (by rw [evf_look]; exact hy), Instr.index, asIntOf, run_undS hts hrs, Sem.run_bind, Result.andThen, Sem.run_pure, if_pos h0, Int.toNat_natCast, h1]) (nx s.data.toList[j] hp) (by intro c h; cases h) hw hn
end
/-- The length of a number in bits. -/
def LenP (u c : Nat) : Bool := Nat.ble c 8 && (Nat.blt u (2 ^ c) && (Nat.ble (2 ^ c) (2 * u) || Nat.beq u 0))
theorem len64P_ok (u : Nat) (hu : u < 256) : Enters 155 ∧ Spec Tryz.prog 155 #[.int .u64 (u : Int)] [] [] ⟨{ c : Nat // LenP u c = true }, fun c => .int .i64 (c.1 : Int), fun _ => True, fun _ => [], fun _ => []⟩ := by
  have wu : IntKind.u8.wrap (u : Int) = (u : Int) := by simp [IntKind.wrap, IntKind.bits, IntKind.signed]; omega
  refine ⟨enters_of Tryz.func155 (by kernel_rfl) rfl, spec_of (vs := [_]) Tryz.func155 rfl Tryz.ntmps155 rfl fun G w hp => ?_⟩
  repeat' (first | refine l_run ?_ | refine l_nil ?_ | refine l_one ?_ | refine k_reg ?_ | refine l_ld ?_ | refine l_ldF ?_ | refine l_st ?_ | refine l_al (fun b => ?_) | refine l_bs (fun b => ?_) | refine k_condT ?_ | refine k_condF ?_ | refine k_brk ?_ | rw [wu] | refine l_six8P LenP u 256 hu (fun c hc => ?_) | (refine l_split (fun hc => ?_) (fun hc => ?_) <;> (try simp at hc) <;> (try omega)) | (refine k_cond (fun hc => ?_) (fun hc => ?_) <;> (try simp at hc) <;> (try omega)))
  rename_i c hc
  have hc8 : c.toNat ≤ 8 := by
    unfold LenP at hc
    rw [Bool.and_eq_true] at hc
    exact Nat.le_of_ble_eq_true hc.1
  refine k_ret ⟨c.toNat, hc⟩ ?_ trivial
  show Value.int .i64 _ = Value.int .i64 _
  congr 1
  simp (disch := omega) only [wrapi]
  omega
theorem bitsLenP_ok (u : Nat) (hu : u < 256) : Enters 110 ∧ Spec Tryz.prog 110 #[.int .u64 (u : Int)] [] [] ⟨{ c : Nat // LenP u c = true }, fun c => .int .i64 (c.1 : Int), fun _ => True, fun _ => [], fun _ => []⟩ := by
  have s1 := len64P_ok u hu
  refine ⟨enters_of Tryz.func110 (by kernel_rfl) rfl, spec_of (vs := [_]) Tryz.func110 rfl Tryz.ntmps110 rfl fun G w hp => ?_⟩
  repeat' (first | refine l_run ?_ | refine l_nil ?_ | refine l_one ?_ | refine k_reg ?_ | refine l_ld ?_ | refine l_ldF ?_ | refine l_st ?_ | refine l_al (fun b => ?_) | refine l_bs (fun b => ?_) | refine k_condT ?_ | refine k_condF ?_ | refine k_brk ?_ | refine l_call (s1) (fun _ _ => ?_) | refine l_call0 (s1) (fun _ _ => ?_) | (refine l_split (fun hc => ?_) (fun hc => ?_) <;> (try simp at hc) <;> (try omega)) | (refine k_cond (fun hc => ?_) (fun hc => ?_) <;> (try simp at hc) <;> (try omega)))
  rename_i z _
  exact k_ret z rfl trivial
theorem shl8 : ∀ c : Fin 9, IntKind.u64.wrap (1 * 2 ^ min ((c.val : Int).toNat) IntKind.u64.bits) = ((2 ^ c.val : Nat) : Int) := by decide +kernel
theorem pow2_ok (u : Nat) (hu : u < 256) : Enters 188 ∧ Spec Tryz.prog 188 #[.int .i64 (u : Int)] [] [] ⟨{ c : Nat // LenP u c = true }, fun c => .int .u64 ((2 ^ c.1 : Nat) : Int), fun _ => True, fun _ => [], fun _ => []⟩ := by
  have s1 := bitsLenP_ok u hu
  have w1 : IntKind.u64.wrap (u : Int) = (u : Int) := wrap64 (by omega)
  refine ⟨enters_of Tryz.func188 (by kernel_rfl) rfl, spec_of (vs := [_]) Tryz.func188 rfl Tryz.ntmps188 rfl fun G w hp => ?_⟩
  repeat' (first | refine l_run ?_ | refine l_nil ?_ | refine l_one ?_ | refine k_reg ?_ | refine l_ld ?_ | refine l_ldF ?_ | refine l_st ?_ | refine l_al (fun b => ?_) | refine l_bs (fun b => ?_) | refine k_condT ?_ | refine k_condF ?_ | refine k_brk ?_ | refine l_call (s1) (fun _ _ => ?_) | refine l_call0 (s1) (fun _ _ => ?_) | rw [w1] | (refine l_split (fun hc => ?_) (fun hc => ?_) <;> (try simp at hc)) | (refine k_cond (fun hc => ?_) (fun hc => ?_) <;> (try simp at hc)))
  rename_i z _
  obtain ⟨z, hz⟩ := z
  have hz8 : z ≤ 8 := by
    unfold LenP at hz
    rw [Bool.and_eq_true] at hz
    exact Nat.le_of_ble_eq_true hz.1
  have e : IntKind.u64.wrap (1 * 2 ^ min ((z : Int).toNat) IntKind.u64.bits) = ((2 ^ z : Nat) : Int) := shl8 ⟨z, by omega⟩
  refine k_ret ⟨z, hz⟩ ?_ trivial
  exact congrArg (Value.int .u64) e
theorem xnext_ok (rb : Nat) (z : Int) : Enters 189 ∧ Spec Tryz.prog 189 #[.pointer (some ⟨rb, 0, none⟩)] [] [Pt rb (.cells #[.int .u64 z] 276)] ⟨Int, fun z => .int .u64 z, fun _ => True, fun _ => [], fun z => [Pt rb (.cells #[.int .u64 z] 276)]⟩ := by
  refine ⟨enters_of Tryz.func189 (by kernel_rfl) rfl, spec_of (vs := [_]) Tryz.func189 rfl Tryz.ntmps189 rfl fun G w hp => ?_⟩
  repeat' (first | refine l_run ?_ | refine l_nil ?_ | refine l_one ?_ | refine k_reg ?_ | refine l_ld ?_ | refine l_ldF ?_ | refine l_st ?_ | refine l_al (fun b => ?_) | refine l_bs (fun b => ?_) | refine k_condT ?_ | refine k_condF ?_ | refine k_brk ?_ | refine r_run ?_ | refine r_one ?_ | refine r_ld ?_ | refine r_ldF ?_ | refine r_ldN ?_ | refine r_al (fun b => ?_) | refine r_bs (fun b => ?_) | refine r_st ?_ | refine r_end ?_ | refine r_up ?_ | (refine l_split (fun hc => ?_) (fun hc => ?_) <;> (try simp at hc)) | (refine r_split (fun hc => ?_) (fun hc => ?_) <;> (try simp at hc)) | refine k_draw 1 [Pt _ _] [(0, 0), (1, 0), (3, 0), (4, 0), (2, 3), (5, 3), (6, 0), (7, 0), (8, 0)] [9] ?_ | refine k_draw 2 [Pt _ _] [(0, 0), (1, 0), (3, 0), (4, 0), (2, 3), (5, 3), (6, 0), (7, 0), (8, 0)] [9] ?_ | refine k_draw 3 [Pt _ _] [(0, 0), (1, 0), (3, 0), (4, 0), (2, 3), (5, 3), (6, 0), (7, 0), (8, 0)] [9] ?_ | (refine k_cond (fun hc => ?_) (fun hc => ?_) <;> (try simp at hc)))
  exact k_ret _ rfl trivial
/-- A number that is cut to the lowest bits. -/
theorem and_low (z y : Int) (c : Nat) (hc : c ≤ 8) (hy : y = ((2 ^ c : Nat) : Int)) : ∃ o : Nat, o < 2 ^ c ∧ IntKind.i64.wrap (IntKind.u64.wrap (((BitVec.ofInt IntKind.u64.bits z &&& BitVec.ofInt IntKind.u64.bits (IntKind.u64.wrap (y - 1))).toNat : Nat) : Int)) = (o : Int) := by
  have hp : (2 : Nat) ^ c ≤ 2 ^ 8 := Nat.pow_le_pow_right (by omega) hc
  have h1 : 0 < (2 : Nat) ^ c := Nat.pow_pos (by omega)
  have w1 : IntKind.u64.wrap (y - 1) = ((2 ^ c - 1 : Nat) : Int) := by
    rw [hy, show ((2 ^ c : Nat) : Int) - 1 = ((2 ^ c - 1 : Nat) : Int) by omega]
    exact wrap64 (by omega)
  rw [w1]
  have h2 : (BitVec.ofInt IntKind.u64.bits z &&& BitVec.ofInt IntKind.u64.bits ((2 ^ c - 1 : Nat) : Int)).toNat ≤ 2 ^ c - 1 := by
    rw [BitVec.toNat_and]
    refine Nat.le_trans Nat.and_le_right ?_
    rw [BitVec.ofInt_natCast, BitVec.toNat_ofNat]
    exact Nat.mod_le _ _
  generalize (BitVec.ofInt IntKind.u64.bits z &&& BitVec.ofInt IntKind.u64.bits ((2 ^ c - 1 : Nat) : Int)).toNat = o at h2
  exact ⟨o, by omega, by rw [wrap64 (by omega), wrapi (by omega) (by omega)]⟩
section
variable {n : Nat} {C : Cx} {Q : Exit → Act → World → Prop} {E E' : List (Nat × Value)} {F F' F1 Fs F0 : List Pf} {R R' R0 Rs N N' A : List HP} {k k' : List Fr} {ops l : List Oper} {L L' : List (Nat × Nat)} {Tl : List Nat}
  {i d b : Nat} {t ty0 : TypeId} {x y : Operand} {pos : String} {aft : Array Edge} {gd : Option (Nat × Bool)}
/-- The address of an element, where the index is a sum. -/
theorem l_ixW {T sz m cap : Nat} {z : Int} {rs tr : TRow} (j : Nat) (hlt : j < m) (nx : Wl n C ops.toArray k Q l ((d, .pointer (some ⟨b, j * sz, none⟩)) :: E) F R)
    (hw : wantL ops E ⟨some d, .indexAddr t x y, ty0, pos, aft, gd⟩ = some true := by rfl) (hn : Nat.blt d n = true := by rfl) (hx : ev E x = some (.slice (some ⟨b, 0, none⟩) m cap) := by rfl) (hy : ev E y = some (.int .i64 z) := by rfl)
    (hts : lookT tab t = some rs := by rfl) (hrs : rs.k = .slice T := by rfl) (hT : lookT tab T = some tr := by rfl) (hsz : tr.size = sz := by rfl) (hz : z = (j : Int) := by first | rfl | omega | (simp (disch := omega) only [wrapi]; first | done | omega | fail)) : Wl n C ops.toArray k Q (⟨some d, .indexAddr t x y, ty0, pos, aft, gd⟩ :: l) E F R :=
  l_ixS j hlt nx hw hn hx hy hts hrs hT hsz hz
theorem r_ixW {T sz m cap : Nat} {z : Int} {rs tr : TRow} (j : Nat) (hlt : j < m) (nx : Wr n C ops k Q Tl Fs R L ((d, .pointer (some ⟨b, j * sz, none⟩)) :: E) F N)
    (ho : nth ops i = some ⟨some d, .indexAddr t x y, ty0, pos, aft, gd⟩ := by rfl) (hw : wantL ops E ⟨some d, .indexAddr t x y, ty0, pos, aft, gd⟩ = some true := by rfl) (hx : ev E x = some (.slice (some ⟨b, 0, none⟩) m cap) := by rfl) (hy : ev E y = some (.int .i64 z) := by rfl)
    (hts : lookT tab t = some rs := by rfl) (hrs : rs.k = .slice T := by rfl) (hT : lookT tab T = some tr := by rfl) (hsz : tr.size = sz := by rfl) (hz : z = (j : Int) := by first | rfl | omega | (simp (disch := omega) only [wrapi]; first | done | omega | fail)) : Wr n C ops k Q Tl Fs R ((i, 0) :: L) E F N :=
  r_ixP j hlt nx ho hw hx hy hts hrs hT hsz hz
/-- An owned slice's elements, said otherwise. -/
theorem k_ax {α : Type} {T b : Nat} {f : α → List Value} {es : List α} {q : List Value × (Nat × Nat)} (es' : List α) (h : es = es') (t : Wk n C k Q E F (Ax T f b es' q :: R0)) (hs : Sel (Ax T f b es q) R R0 := by (repeat (first | exact Sel.here | apply Sel.there)); first | done | fail) : Wk n C k Q E F R := by
  subst h
  exact fun a w ha hsat => t a w ha (hsat.sel hs)
end
end Go.Proofs.YtiggkcknmjgicaaGreatDoor

set_option maxRecDepth 10000
namespace Go.Proofs.YtiggkcknmjgicaaGreatDoor
open Go.RowKit

section
variable (b cap : Nat) (q : List Value × (Nat × Nat)) (fv : FuncId) (Fc : Pf) (c : Ch → Ch → Int) (W : Wk0 c) (U : Ch → Prop) (hcmp : ∀ x y, U x → U y → Enters fv ∧ Spec Tryz.prog fv #[x.v, y.v] [Fc] [] (RetV (.int .i64 (c x y))))

include hcmp in
set_option maxHeartbeats 4000000 in
/-- Insertion in a window, exactly. -/
theorem insWC_ok (A M B : List Ch) (n : Nat) (hn : n = A.length + (M.length + B.length)) (hn2 : n ≤ 1000000) (hq : AxOK (n * 7) q) (hU : ∀ x ∈ A ++ (M ++ B), U x) :
    Enters 146 ∧ Spec Tryz.prog 146 #[.slice (some ⟨b, 0, none⟩) n cap, .int .i64 (A.length : Int), .int .i64 ((A.length + M.length : Nat) : Int), .func (.func fv) #[] #[]] [Fc] [Ax 119 chf b (A ++ (M ++ B)) q]
      ⟨Unit, fun _ => .tuple #[], fun _ => True, fun _ => [], fun _ => [Ax 119 chf b (A ++ (isR c M ++ B)) q]⟩ := by
  have w0 : IntKind.i64.wrap ((A.length : Int) + 1) = ((A.length + 1 : Nat) : Int) := by rw [wrapi (by omega) (by omega)]; omega
  have h1 : M.take 1 ++ (M.drop 1 ++ B) = M ++ B := by rw [← List.append_assoc, List.take_append_drop]
  have h2 : isR c (M.take 1) = M.take 1 := by
    cases M with
    | nil => rfl
    | cons x M => simp [isR, inR]
  refine ⟨enters_of Tryz.func146 (by kernel_rfl) rfl, spec_of (vs := [_, _, _, _]) Tryz.func146 rfl Tryz.ntmps146 rfl fun G w hp => ?_⟩
  repeat' (first | refine l_run ?_ | refine l_nil ?_ | refine l_one ?_ | refine k_reg ?_ | refine l_ld ?_ | refine l_ldF ?_ | refine l_st ?_ | refine l_al (fun b => ?_) | refine l_bs (fun b => ?_) | refine k_condT ?_ | refine k_condF ?_ | refine k_brk ?_ | refine r_run ?_ | refine r_one ?_ | refine r_ld ?_ | refine r_ldF ?_ | refine r_ldN ?_ | refine r_al (fun b => ?_) | refine r_bs (fun b => ?_) | refine r_st ?_ | refine r_end ?_ | refine l_split (fun hc => ?_) (fun hc => ?_) | refine r_split (fun hc => ?_) (fun hc => ?_) | refine k_draw 4 [] [(0, 0), (1, 0), (2, 0), (3, 0), (4, 0), (5, 0), (6, 0), (7, 0), (8, 0), (9, 0), (10, 0), (11, 0), (12, 0), (13, 0), (14, 4), (15, 0), (16, 0)] [] ?_ | refine k_draw 6 [] [(0, 0), (1, 0), (2, 0), (3, 0), (4, 0), (5, 0), (6, 0), (7, 0), (8, 0), (9, 0), (10, 0), (11, 0), (12, 0), (13, 0), (14, 0), (15, 4), (16, 0)] [17] ?_ | refine k_cond (fun hc => ?_) (fun hc => ?_))
  rw [w0]
  refine k_lp (X := { i : Nat // 1 ≤ i ∧ i ≤ max 1 M.length }) (fun i => [(0, .slice (some ⟨b, 0, none⟩) n cap), (1, .int .i64 (A.length : Int)), (2, .int .i64 ((A.length + M.length : Nat) : Int)), (3, .func (.func fv) #[] #[]), (8, .int .i64 ((A.length + i.1 : Nat) : Int))]) (fun _ => [Fc]) (fun i => [Ax 119 chf b (A ++ (isR c (M.take i.1) ++ (M.drop i.1 ++ B))) q]) (fun i => M.length - i.1)
    ⟨1, by omega, by omega⟩ ⟨rfl, rfl, rfl, rfl, rfl, trivial⟩ ?_ (hr := by dsimp only; rw [h2, h1]; exact Sels.cons Sel.here Sels.nil)
  rintro ⟨i, hi1, hi2⟩
  dsimp only at hi1 hi2 ⊢
  by_cases hin : i < M.length
  · obtain ⟨x, hx⟩ : ∃ x, M[i]? = some x := ⟨_, List.getElem?_eq_getElem hin⟩
    have hd : M.drop i = x :: M.drop (i + 1) := by
      rw [List.getElem?_eq_getElem hin] at hx
      rw [← Option.some.inj hx, List.getElem_cons_drop]
    have ht : M.take (i + 1) = M.take i ++ [x] := by rw [List.take_add_one, hx]; rfl
    have hl0 : (isR c (M.take i)).length = i := by rw [isR_len, List.length_take]; omega
    have hUx : U x := hU x (by simp [List.mem_of_getElem? hx])
    have hUP : ∀ p ∈ isR c (M.take i), U p := fun p hp => hU p (by
      have := List.mem_of_mem_take ((isR_perm _).mem_iff.1 hp)
      simp [this])
    have hdl : (M.drop (i + 1)).length = M.length - (i + 1) := List.length_drop
    rw [hd]
    have hR : isR c (M.take (i + 1)) = inR c (isR c (M.take i)) x := by rw [ht, isR_snoc]
    generalize isR c (M.take i) = P0 at *
    generalize hDe : M.drop (i + 1) = D0 at *
    obtain ⟨D, hD⟩ : ∃ D, D = D0 ++ B := ⟨_, rfl⟩
    have hDl : D.length = D0.length + B.length := by rw [hD, List.length_append]
    rw [show (x :: D0 ++ B) = x :: ([] ++ D) by rw [hD]; rfl]
    repeat' (first | refine l_run ?_ | refine l_nil ?_ | refine l_one ?_ | refine k_reg ?_ | refine l_ld ?_ | refine l_ldF ?_ | refine l_st ?_ | refine l_al (fun b => ?_) | refine l_bs (fun b => ?_) | refine k_condT ?_ | refine k_condF ?_ | refine r_run ?_ | refine r_one ?_ | refine r_ld ?_ | refine r_ldF ?_ | refine r_ldN ?_ | refine r_al (fun b => ?_) | refine r_bs (fun b => ?_) | refine r_st ?_ | refine r_end ?_ | (refine l_split (fun hc => ?_) (fun hc => ?_) <;> (try simp at hc) <;> (try omega)) | (refine r_split (fun hc => ?_) (fun hc => ?_) <;> (try simp at hc) <;> (try omega)) | refine k_draw 4 [] [(0, 0), (1, 0), (2, 0), (3, 0), (4, 0), (5, 0), (6, 0), (7, 0), (8, 0), (9, 0), (10, 0), (11, 0), (12, 0), (13, 0), (14, 4), (15, 0), (16, 0)] [] ?_ | refine k_draw 6 [] [(0, 0), (1, 0), (2, 0), (3, 0), (4, 0), (5, 0), (6, 0), (7, 0), (8, 0), (9, 0), (10, 0), (11, 0), (12, 0), (13, 0), (14, 0), (15, 4), (16, 0)] [17] ?_ | (refine k_cond (fun hc => ?_) (fun hc => ?_) <;> (try simp at hc) <;> (try omega)))
    refine k_lp (X := { t : List Ch × List Ch // t.1 ++ t.2 = P0 ∧ ∀ s ∈ t.2, c x s < 0 }) (fun t => [(0, .slice (some ⟨b, 0, none⟩) n cap), (1, .int .i64 (A.length : Int)), (2, .int .i64 ((A.length + M.length : Nat) : Int)), (3, .func (.func fv) #[] #[]), (8, .int .i64 ((A.length + i : Nat) : Int)), (9, .int .i64 ((A.length + t.1.1.length : Nat) : Int))]) (fun _ => [Fc]) (fun t => [Ax 119 chf b (A ++ (t.1.1 ++ x :: (t.1.2 ++ D))) q]) (fun t => t.1.1.length)
      ⟨(P0, []), by simp, by simp⟩ ⟨rfl, rfl, rfl, rfl, rfl, (by show look _ _ = some (Value.int .i64 ((A.length + P0.length : Nat) : Int)); rw [hl0]; rfl), trivial⟩ ?_
    rintro ⟨⟨P, S⟩, hPS, hS⟩
    dsimp only at hPS hS ⊢
    have hout : (∀ p, P.getLast? = some p → ¬ c x p < 0) → A ++ (P ++ x :: (S ++ D)) = A ++ (isR c (M.take (i + 1)) ++ (M.drop (i + 1) ++ B)) := fun h2 => by
      rw [hR, hDe, inR_eq hPS hS h2, ← hD]; simp
    have wn : IntKind.i64.wrap (((A.length + i : Nat) : Int) + 1) = ((A.length + (i + 1) : Nat) : Int) := by rw [wrapi (by omega) (by omega)]; omega
    rcases List.eq_nil_or_concat P with hP | ⟨P', p, hP⟩
    · subst hP
      have h1 := hout (by simp)
      rw [h1]
      simp only [List.length_nil, Nat.add_zero]
      repeat' (first | refine l_run ?_ | refine l_nil ?_ | refine l_one ?_ | refine k_reg ?_ | refine l_ld ?_ | refine l_ldF ?_ | refine l_st ?_ | refine l_al (fun b => ?_) | refine l_bs (fun b => ?_) | refine k_condT ?_ | refine k_condF ?_ | refine k_brk ?_ | refine r_run ?_ | refine r_one ?_ | refine r_ld ?_ | refine r_ldF ?_ | refine r_ldN ?_ | refine r_al (fun b => ?_) | refine r_bs (fun b => ?_) | refine r_st ?_ | refine r_end ?_ | (refine l_split (fun hc => ?_) (fun hc => ?_) <;> (try simp at hc) <;> (try omega)) | (refine r_split (fun hc => ?_) (fun hc => ?_) <;> (try simp at hc) <;> (try omega)) | refine k_draw 4 [] [(0, 0), (1, 0), (2, 0), (3, 0), (4, 0), (5, 0), (6, 0), (7, 0), (8, 0), (9, 0), (10, 0), (11, 0), (12, 0), (13, 0), (14, 4), (15, 0), (16, 0)] [] ?_ | refine k_draw 6 [] [(0, 0), (1, 0), (2, 0), (3, 0), (4, 0), (5, 0), (6, 0), (7, 0), (8, 0), (9, 0), (10, 0), (11, 0), (12, 0), (13, 0), (14, 0), (15, 4), (16, 0)] [17] ?_ | (refine k_cond (fun hc => ?_) (fun hc => ?_) <;> (try simp at hc) <;> (try omega)))
      rw [wn]
      exact k_next ⟨i + 1, by omega, by omega⟩ (by show M.length - (i + 1) < M.length - i; omega) ⟨rfl, rfl, rfl, rfl, rfl, trivial⟩
    · rw [List.concat_eq_append] at hP
      subst hP
      have hPl := congrArg List.length hPS
      simp only [List.length_append, List.length_cons, List.length_nil] at hPl
      have hj : ((A.length + (P' ++ [p]).length : Nat) : Int) = (((A ++ P').length : Nat) : Int) + 1 := by simp; omega
      have hAP : (A ++ P').length = A.length + P'.length := List.length_append
      have w1 : IntKind.i64.wrap (((A ++ P').length : Int) + 1 - 1) = ((A ++ P').length : Int) := by
        rw [wrapi (by omega) (by omega)]; omega
      have e1 : A ++ (P' ++ [p] ++ x :: (S ++ D)) = (A ++ P') ++ p :: x :: (S ++ D) := by simp
      have hUp : U p := hUP p (by rw [← hPS]; simp)
      have e2 : A.length + P'.length = (A ++ P').length := hAP.symm
      have e3 : A ++ (P' ++ x :: (p :: S ++ D)) = (A ++ P') ++ x :: p :: (S ++ D) := by simp
      have hSD : (S ++ D).length = S.length + D.length := List.length_append
      rw [hj, e1]
      rw [e1] at hout
      have b0 : decide ((A.length : Int) < ((A ++ P').length : Int) + 1) = true := by simp <;> omega
      have hlen : n = (A ++ P').length + 1 + 1 + (S ++ D).length := by omega
      have hnx : ∀ t : { t : List Ch × List Ch // t.1 ++ t.2 = P0 ∧ ∀ s ∈ t.2, c x s < 0 }, True := fun _ => trivial
      clear hnx
      generalize hAPe : A ++ P' = AP at *
      generalize hSDe : S ++ D = SD at *
      have g1 : (AP ++ p :: x :: SD)[AP.length + 1]? = some x := by
        rw [List.getElem?_append_right (by omega)]; simp
      have g0 : (AP ++ p :: x :: SD)[AP.length]? = some p := by
        rw [List.getElem?_append_right (by omega)]; simp
      have g2 : ((AP ++ p :: x :: SD).set (AP.length + 1) p)[AP.length]? = some p := by
        rw [List.getElem?_set_ne (by omega)]; exact g0
      have hl2 : (AP ++ p :: x :: SD).length = n := by simp; omega
      have hq1 : AxOK ((AP ++ p :: x :: SD).length * 7) q := by rw [hl2]; exact hq
      have hq2 : AxOK (((AP ++ p :: x :: SD).set (AP.length + 1) p).length * 7) q := by rw [List.length_set, hl2]; exact hq
      have hj1 : AP.length + 1 < n := by omega
      have hj0 : AP.length < n := by omega
      have sp := hcmp x p hUx hUp
      repeat' (first | refine l_run ?_ | refine l_nil ?_ | refine l_one ?_ | refine k_reg ?_ | refine l_ld ?_ | refine l_ldF ?_ | refine l_st ?_ | refine l_al (fun b => ?_) | refine l_bs (fun b => ?_) | refine k_condT ?_ | refine k_condF ?_ | refine k_brk ?_ | refine r_run ?_ | refine r_one ?_ | refine r_ld ?_ | refine r_ldF ?_ | refine r_ldN ?_ | refine r_al (fun b => ?_) | refine r_bs (fun b => ?_) | refine r_st ?_ | refine r_end ?_ | rw [b0] | rw [w1] | refine r_ixP (m := n) (AP.length + 1) hj1 ?_ | refine r_ixP (m := n) AP.length hj0 ?_ | refine r_ldE 7 (AP.length + 1) 0 g1 ?_ | refine r_ldE 7 AP.length 0 g0 ?_ | refine r_ldEN 7 (AP.length + 1) 0 g1 ?_ | refine r_ldEN 7 AP.length 0 g0 ?_ | refine r_stE 7 (AP.length + 1) 0 p g1 hq1 ?_ | refine r_callF sp (fun _ _ => ?_) | refine l_ixS (m := n) (AP.length + 1) hj1 ?_ | refine l_ixS (m := n) AP.length hj0 ?_ | refine l_stE 7 (AP.length + 1) 0 p g1 hq1 ?_ | refine l_stE 7 AP.length 0 x g2 hq2 ?_ | refine r_up ?_ | (refine l_split (fun hc => ?_) (fun hc => ?_) <;> (try simp at hc) <;> (try omega)) | (refine r_split (fun hc => ?_) (fun hc => ?_) <;> (try simp at hc) <;> (try omega)) | refine k_draw 4 [] [(0, 0), (1, 0), (2, 0), (3, 0), (4, 0), (5, 0), (6, 0), (7, 0), (8, 0), (9, 0), (10, 0), (11, 0), (12, 0), (13, 0), (14, 4), (15, 0), (16, 0)] [] ?_ | refine k_draw 6 [Ax _ _ _ _ _] [(0, 0), (1, 0), (2, 0), (3, 0), (4, 0), (5, 0), (6, 0), (7, 0), (8, 0), (10, 0), (11, 0), (12, 0), (9, 3), (13, 3), (14, 0), (15, 4), (16, 0)] [17] ?_ | (refine k_cond (fun hc => ?_) (fun hc => ?_) <;> (try simp at hc) <;> (try omega)))
      · rw [swap_set, ← e3]
        refine k_next ⟨(P', p :: S), by simpa using hPS, by
          intro s hs
          rcases List.mem_cons.1 hs with rfl | hs
          · exact hc
          · exact hS s hs⟩ (by simp) ⟨rfl, rfl, rfl, rfl, rfl, (by show look _ _ = some (Value.int .i64 ((A.length + P'.length : Nat) : Int)); rw [e2]; rfl), trivial⟩
      · rw [hout (by simpa using hc), wn]
        exact k_next ⟨i + 1, by omega, by omega⟩ (by show M.length - (i + 1) < M.length - i; omega) ⟨rfl, rfl, rfl, rfl, rfl, trivial⟩
  · have e1 : isR c (M.take i) ++ (M.drop i ++ B) = isR c M ++ B := by
      rw [List.take_of_length_le (by omega), List.drop_eq_nil_of_le (by omega)]; rfl
    rw [e1]
    repeat' (first | refine l_run ?_ | refine l_nil ?_ | refine l_one ?_ | refine k_reg ?_ | refine l_ld ?_ | refine l_ldF ?_ | refine l_st ?_ | refine l_al (fun b => ?_) | refine l_bs (fun b => ?_) | refine k_condT ?_ | refine k_condF ?_ | refine k_brk ?_ | refine r_run ?_ | refine r_one ?_ | refine r_ld ?_ | refine r_ldF ?_ | refine r_ldN ?_ | refine r_al (fun b => ?_) | refine r_bs (fun b => ?_) | refine r_st ?_ | refine r_end ?_ | (refine l_split (fun hc => ?_) (fun hc => ?_) <;> (try simp at hc) <;> (try omega)) | (refine r_split (fun hc => ?_) (fun hc => ?_) <;> (try simp at hc) <;> (try omega)) | refine k_draw 4 [] [(0, 0), (1, 0), (2, 0), (3, 0), (4, 0), (5, 0), (6, 0), (7, 0), (8, 0), (9, 0), (10, 0), (11, 0), (12, 0), (13, 0), (14, 4), (15, 0), (16, 0)] [] ?_ | refine k_draw 6 [] [(0, 0), (1, 0), (2, 0), (3, 0), (4, 0), (5, 0), (6, 0), (7, 0), (8, 0), (9, 0), (10, 0), (11, 0), (12, 0), (13, 0), (14, 0), (15, 4), (16, 0)] [17] ?_ | (refine k_cond (fun hc => ?_) (fun hc => ?_) <;> (try simp at hc) <;> (try omega)))
    exact k_end () rfl trivial
end
end Go.Proofs.YtiggkcknmjgicaaGreatDoor

set_option maxRecDepth 10000
namespace Go.Proofs.YtiggkcknmjgicaaGreatDoor
open Go.RowKit

section
variable (bk cap : Nat) (q : List Value × (Nat × Nat)) (fv : FuncId) (Fc : Pf) (c : Ch → Ch → Int) (W : Wk0 c) (U : Ch → Prop) (hcmp : ∀ x y, U x → U y → Enters fv ∧ Spec Tryz.prog fv #[x.v, y.v] [Fc] [] (RetV (.int .i64 (c x y))))

instance inhC : Inhabited Ch := ⟨⟨⟨0, ⟨#[]⟩, 0, 0, ⟨#[]⟩⟩, ⟨#[]⟩, false⟩⟩
include hcmp in
theorem ord2C_ok (l : List Ch) (n : Nat) (hn : n = l.length) (hU : ∀ x ∈ l, U x) (i j : Nat) (hi : i < n) (hj : j < n) (sb : Nat) (z : Int) :
    Enters 204 ∧ Spec Tryz.prog 204 #[.slice (some ⟨bk, 0, none⟩) n cap, .int .i64 (i : Int), .int .i64 (j : Int), .pointer (some ⟨sb, 0, none⟩), .func (.func fv) #[] #[]] [Fc] [Ax 119 chf bk l q, Pt sb (.cells #[.int .i64 z] 3)]
      ⟨{ t : Nat × Nat × Int // (t.1 = i ∧ t.2.1 = j) ∨ (t.1 = j ∧ t.2.1 = i) }, fun t => .tuple #[.int .i64 (t.1.1 : Int), .int .i64 (t.1.2.1 : Int)], fun _ => True, fun _ => [], fun t => [Ax 119 chf bk l q, Pt sb (.cells #[.int .i64 t.1.2.2] 3)]⟩ := by
  have ki : i < l.length := by omega
  have kj : j < l.length := by omega
  have sp := hcmp (gt l j) (gt l i) (hU _ (gt_mem kj)) (hU _ (gt_mem ki))
  refine ⟨enters_of Tryz.func204 (by kernel_rfl) rfl, spec_of (vs := [_, _, _, _, _]) Tryz.func204 rfl Tryz.ntmps204 rfl fun G w hp => ?_⟩
  repeat' (first | refine l_run ?_ | refine l_nil ?_ | refine l_one ?_ | refine k_reg ?_ | refine l_ld ?_ | refine l_ldF ?_ | refine l_st ?_ | refine l_al (fun b => ?_) | refine l_bs (fun b => ?_) | refine k_condT ?_ | refine k_condF ?_ | refine k_brk ?_ | refine r_run ?_ | refine r_one ?_ | refine r_ld ?_ | refine r_ldF ?_ | refine r_ldN ?_ | refine r_al (fun b => ?_) | refine r_bs (fun b => ?_) | refine r_st ?_ | refine r_end ?_ | refine r_ixW (m := n) (i) hi ?_ | refine l_ixW (m := n) (i) hi ?_ | refine r_ixW (m := n) (j) hj ?_ | refine l_ixW (m := n) (j) hj ?_ | refine r_ldE 7 (i) 0 (gt_some ki) ?_ | refine l_ldE 7 (i) 0 (gt_some ki) ?_ | refine r_ldE 7 (j) 0 (gt_some kj) ?_ | refine l_ldE 7 (j) 0 (gt_some kj) ?_ | refine r_callF sp (fun _ _ => ?_) | (refine l_split (fun hc => ?_) (fun hc => ?_) <;> (try simp at hc)) | (refine r_split (fun hc => ?_) (fun hc => ?_) <;> (try simp at hc)) | refine k_draw 1 [] [(0, 0), (1, 0), (2, 0), (3, 0), (4, 0), (5, 0), (6, 0), (7, 0), (8, 0), (9, 4), (10, 0)] [] ?_ | (refine k_cond (fun hc => ?_) (fun hc => ?_) <;> (try simp at hc)))
  · exact k_ret ⟨(j, i, _), .inr ⟨rfl, rfl⟩⟩ rfl trivial
  · exact k_ret ⟨(i, j, _), .inl ⟨rfl, rfl⟩⟩ rfl trivial
include hcmp in
theorem medC_ok (l : List Ch) (n : Nat) (hn : n = l.length) (hU : ∀ x ∈ l, U x) (i j k : Nat) (hi : i < n) (hj : j < n) (hk : k < n) (sb : Nat) (z : Int) :
    Enters 191 ∧ Spec Tryz.prog 191 #[.slice (some ⟨bk, 0, none⟩) n cap, .int .i64 (i : Int), .int .i64 (j : Int), .int .i64 (k : Int), .pointer (some ⟨sb, 0, none⟩), .func (.func fv) #[] #[]] [Fc] [Ax 119 chf bk l q, Pt sb (.cells #[.int .i64 z] 3)]
      ⟨{ t : Nat × Int // t.1 = i ∨ t.1 = j ∨ t.1 = k }, fun t => .int .i64 (t.1.1 : Int), fun _ => True, fun _ => [], fun t => [Ax 119 chf bk l q, Pt sb (.cells #[.int .i64 t.1.2] 3)]⟩ := by
  have s1 := ord2C_ok bk cap q fv Fc c U hcmp l n hn hU
  refine ⟨enters_of Tryz.func191 (by kernel_rfl) rfl, spec_of (vs := [_, _, _, _, _, _]) Tryz.func191 rfl Tryz.ntmps191 rfl fun G w hp => ?_⟩
  repeat' (first | refine l_run ?_ | refine l_nil ?_ | refine l_one ?_ | refine k_reg ?_ | refine l_ld ?_ | refine l_ldF ?_ | refine l_st ?_ | refine l_al (fun b => ?_) | refine l_bs (fun b => ?_) | refine k_condT ?_ | refine k_condF ?_ | refine k_brk ?_ | refine l_call (s1 i j hi hj _ _) (fun _ _ => ?_) | refine l_call0 (s1 i j hi hj _ _) (fun _ _ => ?_) | (refine l_split (fun hc => ?_) (fun hc => ?_) <;> (try simp at hc)) | (refine k_cond (fun hc => ?_) (fun hc => ?_) <;> (try simp at hc)))
  rename_i t1 _
  obtain ⟨⟨i1, j1, z1⟩, h1⟩ := t1
  dsimp only at h1 ⊢
  have hi1 : i1 < n := by omega
  have hj1 : j1 < n := by omega
  repeat' (first | refine l_run ?_ | refine l_nil ?_ | refine l_one ?_ | refine k_reg ?_ | refine l_ld ?_ | refine l_ldF ?_ | refine l_st ?_ | refine l_al (fun b => ?_) | refine l_bs (fun b => ?_) | refine k_condT ?_ | refine k_condF ?_ | refine k_brk ?_ | refine l_call (s1 j1 k hj1 hk _ _) (fun _ _ => ?_) | refine l_call0 (s1 j1 k hj1 hk _ _) (fun _ _ => ?_) | (refine l_split (fun hc => ?_) (fun hc => ?_) <;> (try simp at hc)) | (refine k_cond (fun hc => ?_) (fun hc => ?_) <;> (try simp at hc)))
  rename_i t2 _
  obtain ⟨⟨j2, k2, z2⟩, h2⟩ := t2
  dsimp only at h2 ⊢
  have hj2 : j2 < n := by omega
  repeat' (first | refine l_run ?_ | refine l_nil ?_ | refine l_one ?_ | refine k_reg ?_ | refine l_ld ?_ | refine l_ldF ?_ | refine l_st ?_ | refine l_al (fun b => ?_) | refine l_bs (fun b => ?_) | refine k_condT ?_ | refine k_condF ?_ | refine k_brk ?_ | refine l_call (s1 i1 j2 hi1 hj2 _ _) (fun _ _ => ?_) | refine l_call0 (s1 i1 j2 hi1 hj2 _ _) (fun _ _ => ?_) | (refine l_split (fun hc => ?_) (fun hc => ?_) <;> (try simp at hc)) | (refine k_cond (fun hc => ?_) (fun hc => ?_) <;> (try simp at hc)))
  rename_i t3 _
  obtain ⟨⟨i3, j3, z3⟩, h3⟩ := t3
  dsimp only at h3 ⊢
  repeat' (first | refine l_run ?_ | refine l_nil ?_ | refine l_one ?_ | refine k_reg ?_ | refine l_ld ?_ | refine l_ldF ?_ | refine l_st ?_ | refine l_al (fun b => ?_) | refine l_bs (fun b => ?_) | refine k_condT ?_ | refine k_condF ?_ | refine k_brk ?_ | (refine l_split (fun hc => ?_) (fun hc => ?_) <;> (try simp at hc)) | (refine k_cond (fun hc => ?_) (fun hc => ?_) <;> (try simp at hc)))
  exact k_ret ⟨(j3, z3), by show j3 = i ∨ j3 = j ∨ j3 = k; omega⟩ rfl trivial
include hcmp in
theorem medAC_ok (l : List Ch) (n : Nat) (hn : n = l.length) (hn2 : n ≤ 1000000) (hU : ∀ x ∈ l, U x) (j : Nat) (hj0 : 0 < j) (hj : j + 1 < n) (sb : Nat) (z : Int) :
    Enters 190 ∧ Spec Tryz.prog 190 #[.slice (some ⟨bk, 0, none⟩) n cap, .int .i64 (j : Int), .pointer (some ⟨sb, 0, none⟩), .func (.func fv) #[] #[]] [Fc] [Ax 119 chf bk l q, Pt sb (.cells #[.int .i64 z] 3)]
      ⟨{ t : Nat × Int // t.1 ≤ j + 1 ∧ j ≤ t.1 + 1 }, fun t => .int .i64 (t.1.1 : Int), fun _ => True, fun _ => [], fun t => [Ax 119 chf bk l q, Pt sb (.cells #[.int .i64 t.1.2] 3)]⟩ := by
  have s1 := medC_ok bk cap q fv Fc c U hcmp l n hn hU (j - 1) j (j + 1) (by omega) (by omega) hj sb z
  have w1 : IntKind.i64.wrap ((j : Int) - 1) = ((j - 1 : Nat) : Int) := by rw [wrapi (by omega) (by omega)]; omega
  have w2 : IntKind.i64.wrap ((j : Int) + 1) = ((j + 1 : Nat) : Int) := by rw [wrapi (by omega) (by omega)]; omega
  refine ⟨enters_of Tryz.func190 (by kernel_rfl) rfl, spec_of (vs := [_, _, _, _]) Tryz.func190 rfl Tryz.ntmps190 rfl fun G w hp => ?_⟩
  repeat' (first | refine l_run ?_ | refine l_nil ?_ | refine l_one ?_ | refine k_reg ?_ | refine l_ld ?_ | refine l_ldF ?_ | refine l_st ?_ | refine l_al (fun b => ?_) | refine l_bs (fun b => ?_) | refine k_condT ?_ | refine k_condF ?_ | refine k_brk ?_ | refine l_call (s1) (fun _ _ => ?_) | refine l_call0 (s1) (fun _ _ => ?_) | rw [w1] | rw [w2] | (refine l_split (fun hc => ?_) (fun hc => ?_) <;> (try simp at hc)) | (refine k_cond (fun hc => ?_) (fun hc => ?_) <;> (try simp at hc)))
  rename_i t _
  obtain ⟨⟨j1, z1⟩, h1⟩ := t
  exact k_ret ⟨(j1, z1), by omega⟩ rfl trivial
include hcmp in
theorem chpC_ok (l : List Ch) (n : Nat) (hn : n = l.length) (hn2 : n ≤ 1000000) (hU : ∀ x ∈ l, U x) (a bb : Nat) (hab : a + 12 < bb) (hb : bb ≤ n) :
    Enters 149 ∧ Spec Tryz.prog 149 #[.slice (some ⟨bk, 0, none⟩) n cap, .int .i64 (a : Int), .int .i64 (bb : Int), .func (.func fv) #[] #[]] [Fc] [Ax 119 chf bk l q]
      ⟨{ t : Nat × Int // a ≤ t.1 ∧ t.1 < bb ∧ (t.2 = 0 ∨ t.2 = 1 ∨ t.2 = 2) }, fun t => .tuple #[.int .i64 (t.1.1 : Int), .int .i64 t.1.2], fun _ => True, fun _ => [], fun _ => [Ax 119 chf bk l q]⟩ := by
  have s1 := medC_ok bk cap q fv Fc c U hcmp l n hn hU
  have s2 := medAC_ok bk cap q fv Fc c U hcmp l n hn hn2 hU
  obtain ⟨N, hN⟩ : ∃ N, N = bb - a := ⟨_, rfl⟩
  obtain ⟨p, hp⟩ : ∃ p, p = N / 4 := ⟨_, rfl⟩
  have w0 : IntKind.i64.wrap ((bb : Int) - (a : Int)) = (N : Int) := by rw [wrapi (by omega) (by omega)]; omega
  have w1 : IntKind.i64.wrap ((N : Int).tdiv 4) = (p : Int) := by
    have : (N : Int).tdiv 4 = (p : Int) := by rw [hp]; exact (Int.ofNat_tdiv _ _).symm
    rw [this, wrapi (by omega) (by omega)]
  have v1 : IntKind.i64.wrap ((a : Int) + IntKind.i64.wrap ((p : Int) * 1)) = ((a + p : Nat) : Int) := by simp (disch := omega) only [wrapi]; omega
  have v2 : IntKind.i64.wrap ((a : Int) + IntKind.i64.wrap ((p : Int) * 2)) = ((a + 2 * p : Nat) : Int) := by simp (disch := omega) only [wrapi]; omega
  have v3 : IntKind.i64.wrap ((a : Int) + IntKind.i64.wrap ((p : Int) * 3)) = ((a + 3 * p : Nat) : Int) := by simp (disch := omega) only [wrapi]; omega
  have r1 := s1 (a + p) (a + 2 * p) (a + 3 * p) (by omega) (by omega) (by omega)
  have r2 := s2 (a + p) (by omega) (by omega)
  have r3 := s2 (a + 2 * p) (by omega) (by omega)
  have r4 := s2 (a + 3 * p) (by omega) (by omega)
  refine ⟨enters_of Tryz.func149 (by kernel_rfl) rfl, spec_of (vs := [_, _, _, _]) Tryz.func149 rfl Tryz.ntmps149 rfl fun G w hp => ?_⟩
  refine k_cutd (Y := { t : Nat × Int × Nat // a ≤ t.1 ∧ t.1 < bb }) 7 (fun y => [(0, .slice (some ⟨bk, 0, none⟩) n cap), (3, .func (.func fv) #[] #[]), (13, .int .i64 (y.1.1 : Int)), (11, .pointer (some ⟨y.1.2.2, 0, none⟩))]) (fun _ => [Fc]) (fun y => [Ax 119 chf bk l q, Pt y.1.2.2 (.cells #[.int .i64 y.1.2.1] 3)]) ?_ ?_
  · rintro ⟨⟨j, z, sb⟩, h1, h2⟩
    dsimp only at h1 h2 ⊢
    repeat' (first | refine l_run ?_ | refine l_nil ?_ | refine l_one ?_ | refine k_reg ?_ | refine l_ld ?_ | refine l_ldF ?_ | refine l_st ?_ | refine l_al (fun b => ?_) | refine l_bs (fun b => ?_) | refine k_condT ?_ | refine k_condF ?_ | refine k_brk ?_ | (refine l_split (fun hc => ?_) (fun hc => ?_) <;> (try simp at hc)) | (refine k_cond (fun hc => ?_) (fun hc => ?_) <;> (try simp at hc)))
    · exact k_ret ⟨(j, 1), h1, h2, .inr (.inl rfl)⟩ rfl trivial
    · exact k_ret ⟨(j, 2), h1, h2, .inr (.inr rfl)⟩ rfl trivial
    · exact k_ret ⟨(j, 0), h1, h2, .inl rfl⟩ rfl trivial
  · intro hx
    repeat' (first | refine k_skp ?_ | refine k_to hx ⟨(_, _, _), ?_⟩ ⟨rfl, rfl, rfl, rfl, trivial⟩ | refine l_run ?_ | refine l_nil ?_ | refine l_one ?_ | refine k_reg ?_ | refine l_ld ?_ | refine l_ldF ?_ | refine l_st ?_ | refine l_al (fun b => ?_) | refine l_bs (fun b => ?_) | refine k_condT ?_ | refine k_condF ?_ | refine k_brk ?_ | refine l_call (r1 _ _) (fun _ _ => ?_) | refine l_call0 (r1 _ _) (fun _ _ => ?_) | refine l_call (r2 _ _) (fun _ _ => ?_) | refine l_call0 (r2 _ _) (fun _ _ => ?_) | refine l_call (r3 _ _) (fun _ _ => ?_) | refine l_call0 (r3 _ _) (fun _ _ => ?_) | refine l_call (r4 _ _) (fun _ _ => ?_) | refine l_call0 (r4 _ _) (fun _ _ => ?_) | rw [w0] | rw [w1] | rw [v1] | rw [v2] | rw [v3] | (refine l_split (fun hc => ?_) (fun hc => ?_) <;> (try simp at hc) <;> (try omega)) | (refine k_cond (fun hc => ?_) (fun hc => ?_) <;> (try simp at hc) <;> (try omega)))
    · rename_i t1 _ t2 _ t3 _
      obtain ⟨⟨i1, z1⟩, g1⟩ := t1
      obtain ⟨⟨i2, z2⟩, g2⟩ := t2
      obtain ⟨⟨i3, z3⟩, g3⟩ := t3
      dsimp only at g1 g2 g3 ⊢
      have r5 := s1 i1 i2 i3 (by omega) (by omega) (by omega)
      repeat' (first | refine k_skp ?_ | refine k_to hx ⟨(_, _, _), ?_⟩ ⟨rfl, rfl, rfl, rfl, trivial⟩ | refine l_run ?_ | refine l_nil ?_ | refine l_one ?_ | refine k_reg ?_ | refine l_ld ?_ | refine l_ldF ?_ | refine l_st ?_ | refine l_al (fun b => ?_) | refine l_bs (fun b => ?_) | refine k_condT ?_ | refine k_condF ?_ | refine k_brk ?_ | refine l_call (r5 _ _) (fun _ _ => ?_) | refine l_call0 (r5 _ _) (fun _ _ => ?_) | (refine l_split (fun hc => ?_) (fun hc => ?_) <;> (try simp at hc)) | (refine k_cond (fun hc => ?_) (fun hc => ?_) <;> (try simp at hc)))
      rename_i t4 _
      obtain ⟨⟨i4, z4⟩, g4⟩ := t4
      dsimp only at g4 ⊢
      omega
    · rename_i t4 _
      obtain ⟨⟨i4, z4⟩, g4⟩ := t4
      dsimp only at g4 ⊢
      omega
end
end Go.Proofs.YtiggkcknmjgicaaGreatDoor

set_option maxRecDepth 10000
namespace Go.Proofs.YtiggkcknmjgicaaGreatDoor
open Go.RowKit

section
variable (bk cap : Nat) (q : List Value × (Nat × Nat)) (fv : FuncId) (Fc : Pf) (c : Ch → Ch → Int) (W : Wk0 c) (U : Ch → Prop) (hcmp : ∀ x y, U x → U y → Enters fv ∧ Spec Tryz.prog fv #[x.v, y.v] [Fc] [] (RetV (.int .i64 (c x y))))

theorem revC_ok (l : List Ch) (n : Nat) (hn : n = l.length) (hn2 : n ≤ 1000000) (hq : AxOK (n * 7) q) (a b : Nat) (hab : a < b) (hb : b ≤ n) :
    Enters 150 ∧ Spec Tryz.prog 150 #[.slice (some ⟨bk, 0, none⟩) n cap, .int .i64 (a : Int), .int .i64 (b : Int), .func (.func fv) #[] #[]] [Fc] [Ax 119 chf bk l q]
      ⟨{ l' : List Ch // Win a b l l' }, fun _ => .tuple #[], fun _ => True, fun _ => [], fun l' => [Ax 119 chf bk l'.1 q]⟩ := by
  have w0 : IntKind.i64.wrap ((b : Int) - 1) = ((b - 1 : Nat) : Int) := by rw [wrapi (by omega) (by omega)]; omega
  refine ⟨enters_of Tryz.func150 (by kernel_rfl) rfl, spec_of (vs := [_, _, _, _]) Tryz.func150 rfl Tryz.ntmps150 rfl fun G w hp => ?_⟩
  repeat' (first | refine l_run ?_ | refine l_nil ?_ | refine l_one ?_ | refine k_reg ?_ | refine l_ld ?_ | refine l_ldF ?_ | refine l_st ?_ | refine l_al (fun b => ?_) | refine l_bs (fun b => ?_) | refine k_condT ?_ | refine k_condF ?_ | refine r_run ?_ | refine r_one ?_ | refine r_ld ?_ | refine r_ldF ?_ | refine r_ldN ?_ | refine r_al (fun b => ?_) | refine r_bs (fun b => ?_) | refine r_st ?_ | refine r_end ?_ | rw [w0] | (refine l_split (fun hc => ?_) (fun hc => ?_) <;> (try simp at hc)) | (refine r_split (fun hc => ?_) (fun hc => ?_) <;> (try simp at hc)) | refine k_draw 3 [] [(0, 0), (1, 0), (2, 0), (3, 0), (4, 0), (5, 0), (6, 0), (7, 0), (8, 0), (9, 0), (10, 0), (11, 0), (12, 0), (13, 4), (14, 0)] [15] ?_ | (refine k_cond (fun hc => ?_) (fun hc => ?_) <;> (try simp at hc)))
  refine k_lp (X := { t : Nat × Nat × List Ch // a ≤ t.1 ∧ t.2.1 < b ∧ t.1 ≤ t.2.1 + 1 ∧ Win a b l t.2.2 }) (fun t => [(0, .slice (some ⟨bk, 0, none⟩) n cap), (8, .int .i64 (t.1.1 : Int)), (9, .int .i64 (t.1.2.1 : Int))]) (fun _ => [Fc]) (fun t => [Ax 119 chf bk t.1.2.2 q]) (fun t => t.1.2.1 + 1 - t.1.1)
    ⟨(a, b - 1, l), by omega, by show b - 1 < b; omega, by show a ≤ b - 1 + 1; omega, Win.refl⟩ ⟨rfl, rfl, rfl, trivial⟩ ?_
  rintro ⟨⟨i, j, m⟩, h1, h2, h3, h4⟩
  dsimp only at h1 h2 h3 h4 ⊢
  have hl := h4.len
  by_cases hij : i < j
  · have hi : i < n := by omega
    have hj : j < n := by omega
    have ki : i < m.length := by omega
    have kj : j < m.length := by omega
    have kj2 : j < (m.set i (gt m j)).length := by rw [List.length_set]; exact kj
    have hq1 : AxOK (m.length * 7) q := by rw [hl, ← hn]; exact hq
    have hq2 : AxOK ((m.set i (gt m j)).length * 7) q := by rw [List.length_set]; exact hq1
    have w1 : IntKind.i64.wrap ((i : Int) + 1) = ((i + 1 : Nat) : Int) := by rw [wrapi (by omega) (by omega)]; omega
    have w2 : IntKind.i64.wrap ((j : Int) - 1) = ((j - 1 : Nat) : Int) := by rw [wrapi (by omega) (by omega)]; omega
    repeat' (first | refine l_run ?_ | refine l_nil ?_ | refine l_one ?_ | refine k_reg ?_ | refine l_ld ?_ | refine l_ldF ?_ | refine l_st ?_ | refine l_al (fun b => ?_) | refine l_bs (fun b => ?_) | refine k_condT ?_ | refine k_condF ?_ | refine k_brk ?_ | refine r_run ?_ | refine r_one ?_ | refine r_ld ?_ | refine r_ldF ?_ | refine r_ldN ?_ | refine r_al (fun b => ?_) | refine r_bs (fun b => ?_) | refine r_st ?_ | refine r_end ?_ | refine r_ixW (m := n) (i) hi ?_ | refine l_ixW (m := n) (i) hi ?_ | refine r_ixW (m := n) (j) hj ?_ | refine l_ixW (m := n) (j) hj ?_ | refine r_ldEN 7 (i) 0 (gt_some ki) ?_ | refine r_ldEN 7 (j) 0 (gt_some kj) ?_ | refine r_stE 7 (i) 0 (gt m (j)) (gt_some ki) hq1 ?_ | refine l_stE 7 (i) 0 (gt m (j)) (gt_some ki) hq1 ?_ | refine l_stE 7 (j) 0 (gt m (i)) (gt_some kj2) hq2 ?_ | rw [w1] | rw [w2] | refine r_up ?_ | (refine l_split (fun hc => ?_) (fun hc => ?_) <;> (try simp at hc) <;> (try omega)) | (refine r_split (fun hc => ?_) (fun hc => ?_) <;> (try simp at hc) <;> (try omega)) | refine k_draw 3 [Ax _ _ _ _ _] [(0, 0), (1, 0), (2, 0), (3, 0), (4, 0), (5, 0), (6, 0), (8, 0), (9, 0), (10, 0), (7, 3), (11, 3), (12, 0), (13, 4), (14, 0)] [15] ?_ | (refine k_cond (fun hc => ?_) (fun hc => ?_) <;> (try simp at hc) <;> (try omega)))
    exact k_next ⟨(i + 1, j - 1, sw m i j), by show a ≤ i + 1; omega, by show j - 1 < b; omega, by show i + 1 ≤ j - 1 + 1; omega, h4.trans (Win.sw h1 (by omega) (by omega) h2 (by omega))⟩ (by show j - 1 + 1 - (i + 1) < j + 1 - i; omega) ⟨rfl, rfl, rfl, trivial⟩
  · repeat' (first | refine l_run ?_ | refine l_nil ?_ | refine l_one ?_ | refine k_reg ?_ | refine l_ld ?_ | refine l_ldF ?_ | refine l_st ?_ | refine l_al (fun b => ?_) | refine l_bs (fun b => ?_) | refine k_condT ?_ | refine k_condF ?_ | refine k_brk ?_ | (refine l_split (fun hc => ?_) (fun hc => ?_) <;> (try simp at hc) <;> (try omega)) | (refine k_cond (fun hc => ?_) (fun hc => ?_) <;> (try simp at hc) <;> (try omega)))
    exact k_end ⟨m, h4⟩ rfl trivial

set_option maxHeartbeats 4000000 in
theorem brkC_ok (l : List Ch) (n : Nat) (hn : n = l.length) (hn2 : n < 256) (hq : AxOK (n * 7) q) (a bb : Nat) (hab : a + 12 < bb) (hb : bb ≤ n) :
    Enters 148 ∧ Spec Tryz.prog 148 #[.slice (some ⟨bk, 0, none⟩) n cap, .int .i64 (a : Int), .int .i64 (bb : Int), .func (.func fv) #[] #[]] [Fc] [Ax 119 chf bk l q]
      ⟨{ l' : List Ch // Win a bb l l' }, fun _ => .tuple #[], fun _ => True, fun _ => [], fun l' => [Ax 119 chf bk l'.1 q]⟩ := by
  obtain ⟨N, hN⟩ : ∃ N, N = bb - a := ⟨_, rfl⟩
  obtain ⟨p, hp⟩ : ∃ p, p = N / 4 := ⟨_, rfl⟩
  have w0 : IntKind.i64.wrap ((bb : Int) - (a : Int)) = (N : Int) := by rw [wrapi (by omega) (by omega)]; omega
  have w1 : IntKind.i64.wrap ((N : Int).tdiv 4) = (p : Int) := by
    have : (N : Int).tdiv 4 = (p : Int) := by rw [hp]; exact (Int.ofNat_tdiv _ _).symm
    rw [this, wrapi (by omega) (by omega)]
  have w2 : IntKind.i64.wrap (IntKind.i64.wrap ((a : Int) + IntKind.i64.wrap ((p : Int) * 2)) - 1) = ((a + 2 * p - 1 : Nat) : Int) := by simp (disch := omega) only [wrapi]; omega
  have w3 : IntKind.i64.wrap (IntKind.i64.wrap ((a : Int) + IntKind.i64.wrap ((p : Int) * 2)) + 1) = ((a + 2 * p + 1 : Nat) : Int) := by simp (disch := omega) only [wrapi]; omega
  have w4 : IntKind.u64.wrap (N : Int) = (N : Int) := wrap64 (by omega)
  have s1 := pow2_ok N (by omega)
  have s2 := xnext_ok
  refine ⟨enters_of Tryz.func148 (by kernel_rfl) rfl, spec_of (vs := [_, _, _, _]) Tryz.func148 rfl Tryz.ntmps148 rfl fun G w hp => ?_⟩
  repeat' (first | refine l_run ?_ | refine l_nil ?_ | refine l_one ?_ | refine k_reg ?_ | refine l_ld ?_ | refine l_ldF ?_ | refine l_st ?_ | refine l_al (fun b => ?_) | refine l_bs (fun b => ?_) | refine k_condT ?_ | refine k_condF ?_ | refine l_call (s1) (fun _ _ => ?_) | refine l_call0 (s1) (fun _ _ => ?_) | rw [w0] | rw [w1] | rw [w2] | rw [w4] | (refine l_split (fun hc => ?_) (fun hc => ?_) <;> (try simp at hc) <;> (try omega)) | (refine k_cond (fun hc => ?_) (fun hc => ?_) <;> (try simp at hc) <;> (try omega)))
  rename_i cc _
  obtain ⟨cc, hcc⟩ := cc
  dsimp only
  unfold LenP at hcc
  rw [Bool.and_eq_true, Bool.and_eq_true, Bool.or_eq_true] at hcc
  have hc8 : cc ≤ 8 := Nat.le_of_ble_eq_true hcc.1
  have hcN : N < 2 ^ cc := by
    have := hcc.2.1
    unfold Nat.blt at this
    exact Nat.le_of_ble_eq_true this
  have hcN2 : 2 ^ cc ≤ 2 * N := by
    rcases hcc.2.2 with h | h
    · exact Nat.le_of_ble_eq_true h
    · have := Nat.eq_of_beq_eq_true h; omega
  clear hcc
  generalize hM : 2 ^ cc = M at hcN hcN2
  refine k_lp (X := { t : Nat × Int × List Ch // a + 2 * p - 1 ≤ t.1 ∧ t.1 ≤ a + 2 * p + 2 ∧ Win a bb l t.2.2 }) (fun t => [(0, .slice (some ⟨bk, 0, none⟩) n cap), (1, .int .i64 (a : Int)), (8, .int .i64 (N : Int)), (9, .pointer (some ⟨b, 0, none⟩)), (10, .int .u64 (M : Int)), (11, .int .i64 (t.1.1 : Int))]) (fun _ => [Fc]) (fun t => [Ax 119 chf bk t.1.2.2 q, Pt b (.cells #[.int .u64 t.1.2.1] 276)]) (fun t => a + 2 * p + 2 - t.1.1)
    ⟨(a + 2 * p - 1, _, l), Nat.le_refl _, by show a + 2 * p - 1 ≤ _; omega, Win.refl⟩ ⟨rfl, rfl, rfl, rfl, rfl, rfl, trivial⟩ ?_
  rintro ⟨⟨i, z, m⟩, h1, h2, h3⟩
  dsimp only at h1 h2 h3 ⊢
  have hl := h3.len
  by_cases hi0 : i ≤ a + 2 * p + 1
  · have w5 : IntKind.i64.wrap ((i : Int) + 1) = ((i + 1 : Nat) : Int) := by simp (disch := omega) only [wrapi]; omega
    have b0 : decide ((i : Int) ≤ ((a + 2 * p + 1 : Nat) : Int)) = true := decide_eq_true (by omega)
    repeat' (first | refine l_run ?_ | refine l_nil ?_ | refine l_one ?_ | refine k_reg ?_ | refine l_ld ?_ | refine l_ldF ?_ | refine l_st ?_ | refine l_al (fun b => ?_) | refine l_bs (fun b => ?_) | refine k_condT ?_ | refine k_condF ?_ | refine k_brk ?_ | refine l_call (s2 _ _) (fun _ _ => ?_) | refine l_call0 (s2 _ _) (fun _ _ => ?_) | rw [w1] | rw [w3] | rw [b0] | (refine l_split (fun hc => ?_) (fun hc => ?_) <;> (try simp at hc)))
    rename_i z2 _
    obtain ⟨o, ho, he⟩ := and_low z2 (M : Int) cc hc8 (by rw [hM])
    rw [hM] at ho
    dsimp only
    rw [he]
    have hi : i < n := by omega
    have ki : i < m.length := by omega
    have hq1 : AxOK (m.length * 7) q := by rw [hl, ← hn]; exact hq
    have hq2 : ∀ y, AxOK ((m.set i y).length * 7) q := fun y => by rw [List.length_set]; exact hq1
    by_cases hoN : N ≤ o
    · have w6 : IntKind.i64.wrap ((o : Int) - (N : Int)) = ((o - N : Nat) : Int) := by simp (disch := omega) only [wrapi]; omega
      have hj : a + (o - N) < n := by omega
      have kj : a + (o - N) < m.length := by omega
      have kj2 : a + (o - N) < (m.set i (gt m (a + (o - N)))).length := by rw [List.length_set]; exact kj
      repeat' (first | refine l_run ?_ | refine l_nil ?_ | refine l_one ?_ | refine k_reg ?_ | refine l_ld ?_ | refine l_ldF ?_ | refine l_st ?_ | refine l_al (fun b => ?_) | refine l_bs (fun b => ?_) | refine k_condT ?_ | refine k_condF ?_ | refine k_brk ?_ | refine r_run ?_ | refine r_one ?_ | refine r_ld ?_ | refine r_ldF ?_ | refine r_ldN ?_ | refine r_al (fun b => ?_) | refine r_bs (fun b => ?_) | refine r_st ?_ | refine r_end ?_ | rw [w6] | rw [w5] | refine r_ixW (m := n) (i) hi ?_ | refine l_ixW (m := n) (i) hi ?_ | refine r_ixW (m := n) (a + (o - N)) hj ?_ | refine l_ixW (m := n) (a + (o - N)) hj ?_ | refine r_ldEN 7 (i) 0 (gt_some ki) ?_ | refine r_ldEN 7 (a + (o - N)) 0 (gt_some kj) ?_ | refine r_stE 7 (i) 0 (gt m (a + (o - N))) (gt_some ki) hq1 ?_ | refine l_stE 7 (i) 0 (gt m (a + (o - N))) (gt_some ki) hq1 ?_ | refine l_stE 7 (a + (o - N)) 0 (gt m (i)) (gt_some kj2) (hq2 _) ?_ | refine r_up ?_ | (refine l_split (fun hc => ?_) (fun hc => ?_) <;> (try simp at hc) <;> (try omega)) | (refine r_split (fun hc => ?_) (fun hc => ?_) <;> (try simp at hc) <;> (try omega)) | refine k_draw 10 [Ax _ _ _ _ _] [(0, 0), (1, 0), (2, 0), (3, 0), (4, 0), (5, 0), (6, 0), (7, 0), (8, 0), (9, 0), (10, 0), (12, 0), (13, 0), (14, 0), (11, 3), (15, 3), (16, 0), (17, 4), (18, 0)] [19] ?_ | (refine k_cond (fun hc => ?_) (fun hc => ?_) <;> (try simp at hc) <;> (try omega)))
      exact k_next ⟨(i + 1, z2, sw m i (a + (o - N))), by show _ ≤ i + 1; omega, by show i + 1 ≤ _; omega, h3.trans (Win.sw (by omega) (by omega) (by omega) (by omega) (by omega))⟩ (by show a + 2 * p + 2 - (i + 1) < a + 2 * p + 2 - i; omega) ⟨rfl, rfl, rfl, rfl, rfl, rfl, trivial⟩
    · have hj : a + o < n := by omega
      have kj : a + o < m.length := by omega
      have kj2 : a + o < (m.set i (gt m (a + o))).length := by rw [List.length_set]; exact kj
      repeat' (first | refine l_run ?_ | refine l_nil ?_ | refine l_one ?_ | refine k_reg ?_ | refine l_ld ?_ | refine l_ldF ?_ | refine l_st ?_ | refine l_al (fun b => ?_) | refine l_bs (fun b => ?_) | refine k_condT ?_ | refine k_condF ?_ | refine k_brk ?_ | refine r_run ?_ | refine r_one ?_ | refine r_ld ?_ | refine r_ldF ?_ | refine r_ldN ?_ | refine r_al (fun b => ?_) | refine r_bs (fun b => ?_) | refine r_st ?_ | refine r_end ?_ | rw [w5] | refine r_ixW (m := n) (i) hi ?_ | refine l_ixW (m := n) (i) hi ?_ | refine r_ixW (m := n) (a + o) hj ?_ | refine l_ixW (m := n) (a + o) hj ?_ | refine r_ldEN 7 (i) 0 (gt_some ki) ?_ | refine r_ldEN 7 (a + o) 0 (gt_some kj) ?_ | refine r_stE 7 (i) 0 (gt m (a + o)) (gt_some ki) hq1 ?_ | refine l_stE 7 (i) 0 (gt m (a + o)) (gt_some ki) hq1 ?_ | refine l_stE 7 (a + o) 0 (gt m (i)) (gt_some kj2) (hq2 _) ?_ | refine r_up ?_ | (refine l_split (fun hc => ?_) (fun hc => ?_) <;> (try simp at hc) <;> (try omega)) | (refine r_split (fun hc => ?_) (fun hc => ?_) <;> (try simp at hc) <;> (try omega)) | refine k_draw 10 [Ax _ _ _ _ _] [(0, 0), (1, 0), (2, 0), (3, 0), (4, 0), (5, 0), (6, 0), (7, 0), (8, 0), (9, 0), (10, 0), (12, 0), (13, 0), (14, 0), (11, 3), (15, 3), (16, 0), (17, 4), (18, 0)] [19] ?_ | (refine k_cond (fun hc => ?_) (fun hc => ?_) <;> (try simp at hc) <;> (try omega)))
      exact k_next ⟨(i + 1, z2, sw m i (a + o)), by show _ ≤ i + 1; omega, by show i + 1 ≤ _; omega, h3.trans (Win.sw (by omega) (by omega) (by omega) (by omega) (by omega))⟩ (by show a + 2 * p + 2 - (i + 1) < a + 2 * p + 2 - i; omega) ⟨rfl, rfl, rfl, rfl, rfl, rfl, trivial⟩
  · repeat' (first | refine l_run ?_ | refine l_nil ?_ | refine l_one ?_ | refine k_reg ?_ | refine l_ld ?_ | refine l_ldF ?_ | refine l_st ?_ | refine l_al (fun b => ?_) | refine l_bs (fun b => ?_) | refine k_condT ?_ | refine k_condF ?_ | refine k_brk ?_ | rw [w1] | rw [w3] | (refine l_split (fun hc => ?_) (fun hc => ?_) <;> (try simp at hc) <;> (try omega)) | (refine k_cond (fun hc => ?_) (fun hc => ?_) <;> (try simp at hc) <;> (try omega)))
    exact k_end ⟨m, h3⟩ rfl trivial

include hcmp W in
set_option maxHeartbeats 4000000 in
theorem siftC_ok (l : List Ch) (n : Nat) (hn : n = l.length) (hn2 : n ≤ 1000000) (hq : AxOK (n * 7) q) (hU : ∀ x ∈ l, U x) (lo hi f : Nat) (hlo : lo ≤ 1000000) (hf : f + hi ≤ n) (hpp : Hp c f lo hi lo l) :
    Enters 187 ∧ Spec Tryz.prog 187 #[.slice (some ⟨bk, 0, none⟩) n cap, .int .i64 (lo : Int), .int .i64 (hi : Int), .int .i64 (f : Int), .func (.func fv) #[] #[]] [Fc] [Ax 119 chf bk l q]
      ⟨{ l' : List Ch // Win f (f + hi) l l' ∧ He c f lo hi l' }, fun _ => .tuple #[], fun _ => True, fun _ => [], fun l' => [Ax 119 chf bk l'.1 q]⟩ := by
  refine ⟨enters_of Tryz.func187 (by kernel_rfl) rfl, spec_of (vs := [_, _, _, _, _]) Tryz.func187 rfl Tryz.ntmps187 rfl fun G w hp => ?_⟩
  repeat' (first | refine l_run ?_ | refine l_nil ?_ | refine l_one ?_ | refine k_reg ?_ | refine l_ld ?_ | refine l_ldF ?_ | refine l_st ?_ | refine l_al (fun b => ?_) | refine l_bs (fun b => ?_) | refine k_condT ?_ | refine k_condF ?_ | refine r_run ?_ | refine r_one ?_ | refine r_ld ?_ | refine r_ldF ?_ | refine r_ldN ?_ | refine r_al (fun b => ?_) | refine r_bs (fun b => ?_) | refine r_st ?_ | refine r_end ?_ | (refine l_split (fun hc => ?_) (fun hc => ?_) <;> (try simp at hc)) | (refine r_split (fun hc => ?_) (fun hc => ?_) <;> (try simp at hc)) | refine k_draw 3 [] [(0, 0), (1, 0), (2, 0), (3, 0), (4, 0), (5, 0), (6, 0), (7, 0), (8, 0), (9, 0), (10, 0), (11, 0), (12, 0), (13, 0), (14, 0), (15, 0), (16, 0), (17, 0), (18, 0), (19, 4), (20, 0), (21, 0)] [] ?_ | refine k_draw 5 [] [(0, 0), (1, 0), (2, 0), (3, 0), (4, 0), (5, 0), (6, 0), (7, 0), (8, 0), (9, 0), (10, 0), (11, 0), (12, 0), (13, 4), (14, 0), (15, 0)] [] ?_ | refine k_draw 6 [] [(0, 0), (1, 0), (2, 0), (3, 0), (4, 0), (5, 0), (6, 0), (7, 0), (8, 0), (9, 0), (10, 0), (11, 0), (12, 0), (13, 0), (14, 0), (15, 0), (16, 0), (17, 0), (18, 0), (19, 0), (20, 0), (21, 4), (22, 0)] [23] ?_ | (refine k_cond (fun hc => ?_) (fun hc => ?_) <;> (try simp at hc)))
  refine k_lp (X := { t : Nat × List Ch // lo ≤ t.1 ∧ t.1 ≤ 1000000 ∧ Win f (f + hi) l t.2 ∧ Hp c f lo hi t.1 t.2 ∧ Hq c f lo hi t.1 t.2 }) (fun t => [(0, .slice (some ⟨bk, 0, none⟩) n cap), (2, .int .i64 (hi : Int)), (3, .int .i64 (f : Int)), (4, .func (.func fv) #[] #[]), (10, .int .i64 (t.1.1 : Int))]) (fun _ => [Fc]) (fun t => [Ax 119 chf bk t.1.2 q]) (fun t => hi - t.1.1)
    ⟨(lo, l), Nat.le_refl _, hlo, Win.refl, hpp, fun i j h1 h2 h3 h4 => by omega⟩ ⟨rfl, rfl, rfl, rfl, rfl, trivial⟩ ?_
  rintro ⟨⟨x, m⟩, h1, h2, h3, h4, h5⟩
  dsimp only at h1 h2 h3 h4 h5 ⊢
  have hl := h3.len
  have w1 : IntKind.i64.wrap (IntKind.i64.wrap (2 * (x : Int)) + 1) = ((2 * x + 1 : Nat) : Int) := by simp (disch := omega) only [wrapi]; omega
  have w2 : IntKind.i64.wrap (((2 * x + 1 : Nat) : Int) + 1) = ((2 * x + 2 : Nat) : Int) := by simp (disch := omega) only [wrapi]; omega
  by_cases h0 : 2 * x + 1 < hi
  · have hi0 : f + x < n := by omega
    have hi1 : f + (2 * x + 1) < n := by omega
    have ki0 : f + x < m.length := by omega
    have ki1 : f + (2 * x + 1) < m.length := by omega
    have hq1 : AxOK (m.length * 7) q := by rw [hl, ← hn]; exact hq
    have hUm := h3.sub hU
    have hq2 : ∀ y, AxOK ((m.set (f + x) y).length * 7) q := fun y => by rw [List.length_set]; exact hq1
    have kx1 : ∀ y, f + (2 * x + 1) < (m.set (f + x) y).length := fun y => by rw [List.length_set]; exact ki1
    have sp1 := hcmp (gt m (f + x)) (gt m (f + (2 * x + 1))) (hUm _ (gt_mem ki0)) (hUm _ (gt_mem ki1))
    have fin : ∀ y, (y = 2 * x + 1 ∨ y = 2 * x + 2) → y < hi → (∀ z, (z = 2 * x + 1 ∨ z = 2 * x + 2) → z < hi → ¬ c (gt m (f + y)) (gt m (f + z)) < 0) →
        (¬ c (gt m (f + x)) (gt m (f + y)) < 0 → He c f lo hi m) ∧ (c (gt m (f + x)) (gt m (f + y)) < 0 → Win f (f + hi) l (sw m (f + x) (f + y)) ∧ Hp c f lo hi y (sw m (f + x) (f + y)) ∧ Hq c f lo hi y (sw m (f + x) (f + y))) := fun y hy hyh hmax =>
      ⟨fun hn => h4.stop fun z hz hzh => W.t _ _ _ (hmax z hz hzh) hn, fun hlt => ⟨h3.trans (Win.sw (by omega) (by omega) (by omega) (by omega) (by omega)), Hp.step W h4 h5 h1 hy hyh (by omega) hlt hmax⟩⟩
    by_cases h6 : 2 * x + 2 < hi
    · have hi2 : f + (2 * x + 2) < n := by omega
      have ki2 : f + (2 * x + 2) < m.length := by omega
      have kx2 : ∀ y, f + (2 * x + 2) < (m.set (f + x) y).length := fun y => by rw [List.length_set]; exact ki2
      have sp2 := hcmp (gt m (f + x)) (gt m (f + (2 * x + 2))) (hUm _ (gt_mem ki0)) (hUm _ (gt_mem ki2))
      have sp3 := hcmp (gt m (f + (2 * x + 1))) (gt m (f + (2 * x + 2))) (hUm _ (gt_mem ki1)) (hUm _ (gt_mem ki2))
      by_cases h7 : c (gt m (f + (2 * x + 1))) (gt m (f + (2 * x + 2))) < 0
      · obtain ⟨f1, f2⟩ := fin (2 * x + 2) (.inr rfl) h6 (fun z hz hzh => by
          rcases hz with rfl | rfl
          · exact W.a _ _ h7
          · exact W.i _)
        repeat' (first | refine l_run ?_ | refine l_nil ?_ | refine l_one ?_ | refine k_reg ?_ | refine l_ld ?_ | refine l_ldF ?_ | refine l_st ?_ | refine l_al (fun b => ?_) | refine l_bs (fun b => ?_) | refine k_condT ?_ | refine k_condF ?_ | refine k_brk ?_ | refine r_run ?_ | refine r_one ?_ | refine r_ld ?_ | refine r_ldF ?_ | refine r_ldN ?_ | refine r_al (fun b => ?_) | refine r_bs (fun b => ?_) | refine r_st ?_ | refine r_end ?_ | rw [w1] | rw [w2] | refine r_ixW (m := n) (f + x) hi0 ?_ | refine l_ixW (m := n) (f + x) hi0 ?_ | refine r_ixW (m := n) (f + (2 * x + 1)) hi1 ?_ | refine l_ixW (m := n) (f + (2 * x + 1)) hi1 ?_ | refine r_ixW (m := n) (f + (2 * x + 2)) hi2 ?_ | refine l_ixW (m := n) (f + (2 * x + 2)) hi2 ?_ | refine r_ldE 7 (f + x) 0 (gt_some ki0) ?_ | refine l_ldE 7 (f + x) 0 (gt_some ki0) ?_ | refine r_ldE 7 (f + (2 * x + 1)) 0 (gt_some ki1) ?_ | refine l_ldE 7 (f + (2 * x + 1)) 0 (gt_some ki1) ?_ | refine r_ldE 7 (f + (2 * x + 2)) 0 (gt_some ki2) ?_ | refine l_ldE 7 (f + (2 * x + 2)) 0 (gt_some ki2) ?_ | refine r_ldEN 7 (f + x) 0 (gt_some ki0) ?_ | refine r_ldEN 7 (f + (2 * x + 1)) 0 (gt_some ki1) ?_ | refine r_ldEN 7 (f + (2 * x + 2)) 0 (gt_some ki2) ?_ | refine r_stE 7 (f + x) 0 (gt m (f + (2 * x + 2))) (gt_some ki0) hq1 ?_ | refine l_stE 7 (f + x) 0 (gt m (f + (2 * x + 2))) (gt_some ki0) hq1 ?_ | refine l_stE 7 (f + (2 * x + 2)) 0 (gt m (f + x)) (gt_some (kx2 _)) (hq2 _) ?_ | refine r_callF sp3 (fun _ _ => ?_) | refine r_callF sp2 (fun _ _ => ?_) | refine r_up ?_ | (refine l_split (fun hc => ?_) (fun hc => ?_) <;> (try simp at hc) <;> (try omega)) | (refine r_split (fun hc => ?_) (fun hc => ?_) <;> (try simp at hc) <;> (try omega)) | refine k_draw 3 [] [(0, 0), (1, 0), (2, 0), (3, 0), (4, 0), (5, 0), (6, 0), (7, 0), (8, 0), (9, 0), (10, 0), (11, 0), (12, 0), (13, 0), (14, 0), (15, 0), (16, 0), (17, 0), (18, 0), (19, 4), (20, 0), (21, 0)] [] ?_ | refine k_draw 5 [] [(0, 0), (1, 0), (2, 0), (3, 0), (4, 0), (5, 0), (6, 0), (7, 0), (8, 0), (9, 0), (10, 0), (11, 0), (12, 0), (13, 4), (14, 0), (15, 0)] [] ?_ | refine k_draw 6 [Ax _ _ _ _ _] [(0, 0), (1, 0), (2, 0), (3, 0), (4, 0), (5, 0), (6, 0), (7, 0), (8, 0), (9, 0), (10, 0), (11, 0), (12, 0), (14, 0), (15, 0), (16, 0), (17, 0), (18, 0), (13, 3), (19, 3), (20, 0), (21, 4), (22, 0)] [23] ?_ | (refine k_cond (fun hc => ?_) (fun hc => ?_) <;> (try simp at hc) <;> (try omega)))
        · exact k_rt (w_lq (w_ret ⟨m, h3, f1 (by omega)⟩ rfl trivial))
        · obtain ⟨g1, g2, g3⟩ := f2 (by omega)
          exact k_next ⟨(2 * x + 2, sw m (f + x) (f + (2 * x + 2))), by show lo ≤ 2 * x + 2; omega, by show 2 * x + 2 ≤ _; omega, g1, g2, g3⟩ (by show hi - (2 * x + 2) < hi - x; omega) ⟨rfl, rfl, rfl, rfl, rfl, trivial⟩
      · obtain ⟨f1, f2⟩ := fin (2 * x + 1) (.inl rfl) h0 (fun z hz hzh => by
          rcases hz with rfl | rfl
          · exact W.i _
          · exact h7)
        repeat' (first | refine l_run ?_ | refine l_nil ?_ | refine l_one ?_ | refine k_reg ?_ | refine l_ld ?_ | refine l_ldF ?_ | refine l_st ?_ | refine l_al (fun b => ?_) | refine l_bs (fun b => ?_) | refine k_condT ?_ | refine k_condF ?_ | refine k_brk ?_ | refine r_run ?_ | refine r_one ?_ | refine r_ld ?_ | refine r_ldF ?_ | refine r_ldN ?_ | refine r_al (fun b => ?_) | refine r_bs (fun b => ?_) | refine r_st ?_ | refine r_end ?_ | rw [w1] | rw [w2] | refine r_ixW (m := n) (f + x) hi0 ?_ | refine l_ixW (m := n) (f + x) hi0 ?_ | refine r_ixW (m := n) (f + (2 * x + 1)) hi1 ?_ | refine l_ixW (m := n) (f + (2 * x + 1)) hi1 ?_ | refine r_ixW (m := n) (f + (2 * x + 2)) hi2 ?_ | refine l_ixW (m := n) (f + (2 * x + 2)) hi2 ?_ | refine r_ldE 7 (f + x) 0 (gt_some ki0) ?_ | refine l_ldE 7 (f + x) 0 (gt_some ki0) ?_ | refine r_ldE 7 (f + (2 * x + 1)) 0 (gt_some ki1) ?_ | refine l_ldE 7 (f + (2 * x + 1)) 0 (gt_some ki1) ?_ | refine r_ldE 7 (f + (2 * x + 2)) 0 (gt_some ki2) ?_ | refine l_ldE 7 (f + (2 * x + 2)) 0 (gt_some ki2) ?_ | refine r_ldEN 7 (f + x) 0 (gt_some ki0) ?_ | refine r_ldEN 7 (f + (2 * x + 1)) 0 (gt_some ki1) ?_ | refine r_ldEN 7 (f + (2 * x + 2)) 0 (gt_some ki2) ?_ | refine r_stE 7 (f + x) 0 (gt m (f + (2 * x + 1))) (gt_some ki0) hq1 ?_ | refine l_stE 7 (f + x) 0 (gt m (f + (2 * x + 1))) (gt_some ki0) hq1 ?_ | refine l_stE 7 (f + (2 * x + 1)) 0 (gt m (f + x)) (gt_some (kx1 _)) (hq2 _) ?_ | refine r_callF sp3 (fun _ _ => ?_) | refine r_callF sp1 (fun _ _ => ?_) | refine r_up ?_ | (refine l_split (fun hc => ?_) (fun hc => ?_) <;> (try simp at hc) <;> (try omega)) | (refine r_split (fun hc => ?_) (fun hc => ?_) <;> (try simp at hc) <;> (try omega)) | refine k_draw 3 [] [(0, 0), (1, 0), (2, 0), (3, 0), (4, 0), (5, 0), (6, 0), (7, 0), (8, 0), (9, 0), (10, 0), (11, 0), (12, 0), (13, 0), (14, 0), (15, 0), (16, 0), (17, 0), (18, 0), (19, 4), (20, 0), (21, 0)] [] ?_ | refine k_draw 5 [] [(0, 0), (1, 0), (2, 0), (3, 0), (4, 0), (5, 0), (6, 0), (7, 0), (8, 0), (9, 0), (10, 0), (11, 0), (12, 0), (13, 4), (14, 0), (15, 0)] [] ?_ | refine k_draw 6 [Ax _ _ _ _ _] [(0, 0), (1, 0), (2, 0), (3, 0), (4, 0), (5, 0), (6, 0), (7, 0), (8, 0), (9, 0), (10, 0), (11, 0), (12, 0), (14, 0), (15, 0), (16, 0), (17, 0), (18, 0), (13, 3), (19, 3), (20, 0), (21, 4), (22, 0)] [23] ?_ | (refine k_cond (fun hc => ?_) (fun hc => ?_) <;> (try simp at hc) <;> (try omega)))
        · exact k_rt (w_lq (w_ret ⟨m, h3, f1 (by omega)⟩ rfl trivial))
        · obtain ⟨g1, g2, g3⟩ := f2 (by omega)
          exact k_next ⟨(2 * x + 1, sw m (f + x) (f + (2 * x + 1))), by show lo ≤ 2 * x + 1; omega, by show 2 * x + 1 ≤ _; omega, g1, g2, g3⟩ (by show hi - (2 * x + 1) < hi - x; omega) ⟨rfl, rfl, rfl, rfl, rfl, trivial⟩
    · obtain ⟨f1, f2⟩ := fin (2 * x + 1) (.inl rfl) h0 (fun z hz hzh => by
        rcases hz with rfl | rfl
        · exact W.i _
        · omega)
      repeat' (first | refine l_run ?_ | refine l_nil ?_ | refine l_one ?_ | refine k_reg ?_ | refine l_ld ?_ | refine l_ldF ?_ | refine l_st ?_ | refine l_al (fun b => ?_) | refine l_bs (fun b => ?_) | refine k_condT ?_ | refine k_condF ?_ | refine k_brk ?_ | refine r_run ?_ | refine r_one ?_ | refine r_ld ?_ | refine r_ldF ?_ | refine r_ldN ?_ | refine r_al (fun b => ?_) | refine r_bs (fun b => ?_) | refine r_st ?_ | refine r_end ?_ | rw [w1] | rw [w2] | refine r_ixW (m := n) (f + x) hi0 ?_ | refine l_ixW (m := n) (f + x) hi0 ?_ | refine r_ixW (m := n) (f + (2 * x + 1)) hi1 ?_ | refine l_ixW (m := n) (f + (2 * x + 1)) hi1 ?_ | refine r_ldE 7 (f + x) 0 (gt_some ki0) ?_ | refine l_ldE 7 (f + x) 0 (gt_some ki0) ?_ | refine r_ldE 7 (f + (2 * x + 1)) 0 (gt_some ki1) ?_ | refine l_ldE 7 (f + (2 * x + 1)) 0 (gt_some ki1) ?_ | refine r_ldEN 7 (f + x) 0 (gt_some ki0) ?_ | refine r_ldEN 7 (f + (2 * x + 1)) 0 (gt_some ki1) ?_ | refine r_stE 7 (f + x) 0 (gt m (f + (2 * x + 1))) (gt_some ki0) hq1 ?_ | refine l_stE 7 (f + x) 0 (gt m (f + (2 * x + 1))) (gt_some ki0) hq1 ?_ | refine l_stE 7 (f + (2 * x + 1)) 0 (gt m (f + x)) (gt_some (kx1 _)) (hq2 _) ?_ | refine r_callF sp1 (fun _ _ => ?_) | refine r_up ?_ | (refine l_split (fun hc => ?_) (fun hc => ?_) <;> (try simp at hc) <;> (try omega)) | (refine r_split (fun hc => ?_) (fun hc => ?_) <;> (try simp at hc) <;> (try omega)) | refine k_draw 3 [] [(0, 0), (1, 0), (2, 0), (3, 0), (4, 0), (5, 0), (6, 0), (7, 0), (8, 0), (9, 0), (10, 0), (11, 0), (12, 0), (13, 0), (14, 0), (15, 0), (16, 0), (17, 0), (18, 0), (19, 4), (20, 0), (21, 0)] [] ?_ | refine k_draw 5 [] [(0, 0), (1, 0), (2, 0), (3, 0), (4, 0), (5, 0), (6, 0), (7, 0), (8, 0), (9, 0), (10, 0), (11, 0), (12, 0), (13, 4), (14, 0), (15, 0)] [] ?_ | refine k_draw 6 [Ax _ _ _ _ _] [(0, 0), (1, 0), (2, 0), (3, 0), (4, 0), (5, 0), (6, 0), (7, 0), (8, 0), (9, 0), (10, 0), (11, 0), (12, 0), (14, 0), (15, 0), (16, 0), (17, 0), (18, 0), (13, 3), (19, 3), (20, 0), (21, 4), (22, 0)] [23] ?_ | (refine k_cond (fun hc => ?_) (fun hc => ?_) <;> (try simp at hc) <;> (try omega)))
      · exact k_rt (w_lq (w_ret ⟨m, h3, f1 (by omega)⟩ rfl trivial))
      · obtain ⟨g1, g2, g3⟩ := f2 (by omega)
        exact k_next ⟨(2 * x + 1, sw m (f + x) (f + (2 * x + 1))), by show lo ≤ 2 * x + 1; omega, by show 2 * x + 1 ≤ _; omega, g1, g2, g3⟩ (by show hi - (2 * x + 1) < hi - x; omega) ⟨rfl, rfl, rfl, rfl, rfl, trivial⟩
  · repeat' (first | refine l_run ?_ | refine l_nil ?_ | refine l_one ?_ | refine k_reg ?_ | refine l_ld ?_ | refine l_ldF ?_ | refine l_st ?_ | refine l_al (fun b => ?_) | refine l_bs (fun b => ?_) | refine k_condT ?_ | refine k_condF ?_ | refine k_brk ?_ | rw [w1] | (refine l_split (fun hc => ?_) (fun hc => ?_) <;> (try simp at hc) <;> (try omega)) | (refine k_cond (fun hc => ?_) (fun hc => ?_) <;> (try simp at hc) <;> (try omega)))
    exact k_end ⟨m, h3, h4.stop fun j h1 h2 => by omega⟩ rfl trivial
end
end Go.Proofs.YtiggkcknmjgicaaGreatDoor

set_option maxRecDepth 10000
namespace Go.Proofs.YtiggkcknmjgicaaGreatDoor
open Go.RowKit

section
variable (bk cap : Nat) (q : List Value × (Nat × Nat)) (fv : FuncId) (Fc : Pf) (c : Ch → Ch → Int) (W : Wk0 c) (U : Ch → Prop) (hcmp : ∀ x y, U x → U y → Enters fv ∧ Spec Tryz.prog fv #[x.v, y.v] [Fc] [] (RetV (.int .i64 (c x y))))

include hcmp W in
set_option maxHeartbeats 4000000 in
theorem heapC_ok (l : List Ch) (n : Nat) (hn : n = l.length) (hn2 : n ≤ 1000000) (hq : AxOK (n * 7) q) (hU : ∀ x ∈ l, U x) (a b : Nat) (hab : a < b) (hb : b ≤ n) :
    Enters 147 ∧ Spec Tryz.prog 147 #[.slice (some ⟨bk, 0, none⟩) n cap, .int .i64 (a : Int), .int .i64 (b : Int), .func (.func fv) #[] #[]] [Fc] [Ax 119 chf bk l q]
      ⟨{ l' : List Ch // Win a b l l' ∧ Sw c a b l' }, fun _ => .tuple #[], fun _ => True, fun _ => [], fun l' => [Ax 119 chf bk l'.1 q]⟩ := by
  have w0 : IntKind.i64.wrap ((b : Int) - (a : Int)) = ((b - a : Nat) : Int) := by rw [wrapi (by omega) (by omega)]; omega
  obtain ⟨N, hN⟩ : ∃ N, N = b - a := ⟨_, rfl⟩
  rw [← hN] at w0
  have hbN : b = a + N := by omega
  obtain ⟨p, hp⟩ : ∃ p, p = (N - 1) / 2 := ⟨_, rfl⟩
  have w1 : IntKind.i64.wrap ((IntKind.i64.wrap ((N : Int) - 1)).tdiv 2) = (p : Int) := by
    rw [wrapi (z := (N : Int) - 1) (by omega) (by omega)]
    have : ((N : Int) - 1).tdiv 2 = (p : Int) := by
      rw [show (N : Int) - 1 = ((N - 1 : Nat) : Int) by omega, hp]; exact (Int.ofNat_tdiv _ _).symm
    rw [this, wrapi (by omega) (by omega)]
  refine ⟨enters_of Tryz.func147 (by kernel_rfl) rfl, spec_of (vs := [_, _, _, _]) Tryz.func147 rfl Tryz.ntmps147 rfl fun G w hp => ?_⟩
  repeat' (first | refine l_run ?_ | refine l_nil ?_ | refine l_one ?_ | refine k_reg ?_ | refine l_ld ?_ | refine l_ldF ?_ | refine l_st ?_ | refine l_al (fun b => ?_) | refine l_bs (fun b => ?_) | refine k_condT ?_ | refine k_condF ?_ | rw [w0] | rw [w1] | (refine l_split (fun hc => ?_) (fun hc => ?_) <;> (try simp at hc)) | (refine k_cond (fun hc => ?_) (fun hc => ?_) <;> (try simp at hc)))
  refine k_lpx (Y := { m : List Ch // Win a b l m ∧ He c a 0 N m }) (X := { t : Nat × List Ch // t.1 ≤ p + 1 ∧ Win a b l t.2 ∧ He c a t.1 N t.2 })
    (fun t => [(0, .slice (some ⟨bk, 0, none⟩) n cap), (3, .func (.func fv) #[] #[]), (8, .int .i64 (a : Int)), (9, .int .i64 0), (10, .int .i64 (N : Int)), (11, .int .i64 ((t.1.1 : Int) - 1))]) (fun _ => [Fc]) (fun t => [Ax 119 chf bk t.1.2 q]) (fun t => t.1.1)
    (fun _ => [(0, .slice (some ⟨bk, 0, none⟩) n cap), (3, .func (.func fv) #[] #[]), (8, .int .i64 (a : Int)), (9, .int .i64 0), (10, .int .i64 (N : Int))]) (fun _ => [Fc]) (fun m => [Ax 119 chf bk m.1 q])
    ⟨(p + 1, l), Nat.le_refl _, Win.refl, fun i j h1 h2 h3 => by omega⟩ ⟨rfl, rfl, rfl, rfl, rfl, (by show look _ _ = some (Value.int .i64 (((p + 1 : Nat) : Int) - 1)); rw [show ((p + 1 : Nat) : Int) - 1 = (p : Int) by omega]; rfl), trivial⟩ ?_ ?_
  rotate_left
  · intro hx
    rintro ⟨⟨t, m⟩, h1, h2, h3⟩
    dsimp only at h1 h2 h3 ⊢
    have hl := h2.len
    by_cases ht : t = 0
    · subst ht
      repeat' (first | refine l_run ?_ | refine l_nil ?_ | refine l_one ?_ | refine k_reg ?_ | refine l_ld ?_ | refine l_ldF ?_ | refine l_st ?_ | refine l_al (fun b => ?_) | refine l_bs (fun b => ?_) | refine k_condT ?_ | refine k_condF ?_ | (refine l_split (fun hc => ?_) (fun hc => ?_) <;> (try simp at hc) <;> (try omega)) | (refine k_cond (fun hc => ?_) (fun hc => ?_) <;> (try simp at hc) <;> (try omega)))
      exact k_out hx ⟨m, h2, h3⟩ ⟨rfl, rfl, rfl, rfl, rfl, trivial⟩
    · obtain ⟨i, rfl⟩ : ∃ i, t = i + 1 := ⟨t - 1, by omega⟩
      have e1 : ((i + 1 : Nat) : Int) - 1 = (i : Int) := by omega
      have w2 : IntKind.i64.wrap ((i : Int) - 1) = (i : Int) - 1 := wrapi (by omega) (by omega)
      have s1 := siftC_ok bk cap q fv Fc c W U hcmp m n (by omega) hn2 hq (h2.sub hU) i N a (by omega) (by omega) (fun i' j' g1 g2 g3 g4 => h3 i' j' (by omega) g2 g3)
      rw [e1]
      repeat' (first | refine l_run ?_ | refine l_nil ?_ | refine l_one ?_ | refine k_reg ?_ | refine l_ld ?_ | refine l_ldF ?_ | refine l_st ?_ | refine l_al (fun b => ?_) | refine l_bs (fun b => ?_) | refine k_condT ?_ | refine k_condF ?_ | refine k_brk ?_ | refine l_call (s1) (fun _ _ => ?_) | refine l_call0 (s1) (fun _ _ => ?_) | rw [w2] | (refine l_split (fun hc => ?_) (fun hc => ?_) <;> (try simp at hc) <;> (try omega)) | (refine k_cond (fun hc => ?_) (fun hc => ?_) <;> (try simp at hc) <;> (try omega)))
      rename_i l' _
      obtain ⟨l', g1, g2⟩ := l'
      exact k_next ⟨(i, l'), by show i ≤ p + 1; omega, h2.trans (by rw [hbN]; exact g1), g2⟩ (by show i < i + 1; omega) ⟨rfl, rfl, rfl, rfl, rfl, rfl, trivial⟩
  rintro ⟨m, hm1, hm2⟩
  have w3 : IntKind.i64.wrap ((N : Int) - 1) = (N : Int) - 1 := wrapi (by omega) (by omega)
  repeat' (first | refine l_run ?_ | refine l_nil ?_ | refine l_one ?_ | refine k_reg ?_ | refine l_ld ?_ | refine l_ldF ?_ | refine l_st ?_ | refine l_al (fun b => ?_) | refine l_bs (fun b => ?_) | refine k_condT ?_ | refine k_condF ?_ | rw [w3] | (refine l_split (fun hc => ?_) (fun hc => ?_) <;> (try simp at hc)) | (refine k_cond (fun hc => ?_) (fun hc => ?_) <;> (try simp at hc)))
  refine k_lp (X := { t : Nat × List Ch // t.1 ≤ N ∧ Win a b l t.2 ∧ Hs c a t.1 N t.2 })
    (fun t => [(0, .slice (some ⟨bk, 0, none⟩) n cap), (3, .func (.func fv) #[] #[]), (8, .int .i64 (a : Int)), (9, .int .i64 0), (12, .int .i64 ((t.1.1 : Int) - 1))]) (fun _ => [Fc]) (fun t => [Ax 119 chf bk t.1.2 q]) (fun t => t.1.1)
    ⟨(N, m), Nat.le_refl _, hm1, Hs.init hm2 (Nat.le_refl _)⟩ ⟨rfl, rfl, rfl, rfl, rfl, trivial⟩ ?_
  rintro ⟨⟨t, m'⟩, h1, h2, h3⟩
  dsimp only at h1 h2 h3 ⊢
  have hl := h2.len
  by_cases ht : t = 0
  · subst ht
    repeat' (first | refine l_run ?_ | refine l_nil ?_ | refine l_one ?_ | refine k_reg ?_ | refine l_ld ?_ | refine l_ldF ?_ | refine l_st ?_ | refine l_al (fun b => ?_) | refine l_bs (fun b => ?_) | refine k_condT ?_ | refine k_condF ?_ | refine k_brk ?_ | (refine l_split (fun hc => ?_) (fun hc => ?_) <;> (try simp at hc) <;> (try omega)) | (refine k_cond (fun hc => ?_) (fun hc => ?_) <;> (try simp at hc) <;> (try omega)))
    exact k_end ⟨m', h2, by rw [hbN]; exact h3.done⟩ rfl trivial
  · obtain ⟨i, rfl⟩ : ∃ i, t = i + 1 := ⟨t - 1, by omega⟩
    have e1 : ((i + 1 : Nat) : Int) - 1 = (i : Int) := by omega
    have w2 : IntKind.i64.wrap ((i : Int) - 1) = (i : Int) - 1 := wrapi (by omega) (by omega)
    have hi : a < n := by omega
    have hj : a + i < n := by omega
    have ki : a < m'.length := by omega
    have kj : a + i < m'.length := by omega
    have kj2 : a + i < (m'.set a (gt m' (a + i))).length := by rw [List.length_set]; exact kj
    have hq1 : AxOK (m'.length * 7) q := by rw [hl, ← hn]; exact hq
    have hq2 : AxOK ((m'.set a (gt m' (a + i))).length * 7) q := by rw [List.length_set]; exact hq1
    have hsw : Win a b l (sw m' a (a + i)) := h2.trans (Win.sw (by omega) hab (by omega) (by omega) (by omega))
    have s1 := siftC_ok bk cap q fv Fc c W U hcmp (sw m' a (a + i)) n (by rw [sw_len]; omega) hn2 hq (hsw.sub hU) 0 i a (by omega) (by omega) (fun i' j' g1 g2 g3 g4 => by
      rw [gt_sw ki kj, gt_sw ki kj, if_neg (by omega), if_neg (by omega), if_neg (by omega), if_neg (by omega)]
      exact h3.he i' j' g1 g2 (by omega))
    rw [e1]
    repeat' (first | refine l_run ?_ | refine l_nil ?_ | refine l_one ?_ | refine k_reg ?_ | refine l_ld ?_ | refine l_ldF ?_ | refine l_st ?_ | refine l_al (fun b => ?_) | refine l_bs (fun b => ?_) | refine k_condT ?_ | refine k_condF ?_ | refine k_brk ?_ | refine r_run ?_ | refine r_one ?_ | refine r_ld ?_ | refine r_ldF ?_ | refine r_ldN ?_ | refine r_al (fun b => ?_) | refine r_bs (fun b => ?_) | refine r_st ?_ | refine r_end ?_ | refine l_call (s1) (fun _ _ => ?_) | refine l_call0 (s1) (fun _ _ => ?_) | refine r_call (s1) (fun _ _ => ?_) | refine r_ixW (m := n) (a) hi ?_ | refine l_ixW (m := n) (a) hi ?_ | refine r_ixW (m := n) (a + i) hj ?_ | refine l_ixW (m := n) (a + i) hj ?_ | refine r_ldEN 7 (a) 0 (gt_some ki) ?_ | refine r_ldEN 7 (a + i) 0 (gt_some kj) ?_ | refine r_stE 7 (a) 0 (gt m' (a + i)) (gt_some ki) hq1 ?_ | refine l_stE 7 (a) 0 (gt m' (a + i)) (gt_some ki) hq1 ?_ | refine l_stE 7 (a + i) 0 (gt m' (a)) (gt_some kj2) hq2 ?_ | rw [w2] | refine r_up ?_ | (refine l_split (fun hc => ?_) (fun hc => ?_) <;> (try simp at hc) <;> (try omega)) | (refine r_split (fun hc => ?_) (fun hc => ?_) <;> (try simp at hc) <;> (try omega)) | refine k_draw 10 [Ax _ _ _ _ _] [(0, 0), (1, 0), (2, 0), (3, 0), (4, 0), (5, 0), (6, 0), (7, 0), (8, 0), (9, 0), (10, 0), (12, 0), (13, 0), (14, 0), (11, 3), (15, 3), (16, 0), (17, 4), (18, 0)] [19] ?_ | (refine k_cond (fun hc => ?_) (fun hc => ?_) <;> (try simp at hc) <;> (try omega)))
    rename_i l' _
    obtain ⟨l', g1, g2⟩ := l'
    exact k_next ⟨(i, l'), by show i ≤ N; omega, hsw.trans (g1.mono (Nat.le_refl _) (by omega)), h3.pop W (by omega) (by omega) g1 g2⟩ (by show i < i + 1; omega) ⟨rfl, rfl, rfl, rfl, rfl, trivial⟩
end
end Go.Proofs.YtiggkcknmjgicaaGreatDoor
