/-
  Address spaces in memory: the block of a space, and the blocks of its pages.
  Conditions: none beyond those that each theorem states.
-/
import Derived.Test.YtgaipgbgppdfeaaGreatDoorDfr
import Derived.Test.YtgaipgbgppdfeaaGreatDoorMJ
import Derived.Test.YtgaipgbgppdfeaaGreatDoorCpy
import Derived.Test.YtgaipgbgppdfeaaGreatDoorReg
set_option maxRecDepth 10000
namespace Go.Proofs.YtgaipgbgppdfeaaGreatDoor
open Go.RowKit

/-- A page: not asked for, none, or its bytes and whether it was stored to. -/
inductive Pg where
  | u
  | n
  | h (bs : List UInt8) (c : Bool)
def Pg.kn : Pg → Bool
  | .u => false
  | _ => true
def Pg.chg : Pg → Bool
  | .h _ c => c
  | _ => false
def pgv : Pg → Nat → Value
  | .h _ _, b => .pointer (some ⟨b, 0, none⟩)
  | _, _ => .pointer none
def up {α : Type} (f : Nat → α) (i : Nat) (x : α) : Nat → α := fun j => if j = i then x else f j
theorem up_eq {α : Type} (f : Nat → α) (i : Nat) (x : α) : up f i x i = x := by simp [up]
theorem up_ne {α : Type} (f : Nat → α) {i j : Nat} (x : α) (h : j ≠ i) : up f i x j = f j := by simp [up, h]
theorem up_id {α : Type} (f : Nat → α) (i : Nat) : up f i (f i) = f := by funext j; unfold up; split <;> simp_all

/-- The cells of a space. -/
def spcAt (fv : Value) (M : Nat → Pg) (ak : Nat → Bool) (bl : Nat → Nat) (k : Nat) : Value :=
  if k = 0 then fv else if k < 65 then .bool (M (k - 1)).kn else if k < 129 then .bool (ak (k - 65)) else if k < 193 then .bool (M (k - 129)).chg else pgv (M (k - 193)) (bl (k - 193))
def spcL (fv : Value) (M : Nat → Pg) (ak : Nat → Bool) (bl : Nat → Nat) : List Value := (List.range 257).map (spcAt fv M ak bl)
abbrev cf : Value → List Value := fun v => [v]
section
variable {fv : Value} {M M' : Nat → Pg} {ak ak' : Nat → Bool} {bl bl' : Nat → Nat} {i : Nat}
theorem spc_get {k : Nat} (h : k < 257) : (spcL fv M ak bl)[k]? = some (spcAt fv M ak bl k) := by
  unfold spcL; rw [List.getElem?_map, List.getElem?_range h]; rfl
theorem spc_len : (spcL fv M ak bl).length = 257 := by simp [spcL]
theorem spc_f : (spcL fv M ak bl)[0]? = some fv := spc_get (by decide)
theorem spc_kn (h : i < 64) : (spcL fv M ak bl)[1 + i]? = some (.bool (M i).kn) := by
  rw [spc_get (by omega)]; unfold spcAt; rw [if_neg (by omega), if_pos (by omega), show 1 + i - 1 = i by omega]
theorem spc_ak (h : i < 64) : (spcL fv M ak bl)[65 + i]? = some (.bool (ak i)) := by
  rw [spc_get (by omega)]; unfold spcAt; rw [if_neg (by omega), if_neg (by omega), if_pos (by omega), show 65 + i - 65 = i by omega]
theorem spc_ch (h : i < 64) : (spcL fv M ak bl)[129 + i]? = some (.bool (M i).chg) := by
  rw [spc_get (by omega)]; unfold spcAt; rw [if_neg (by omega), if_neg (by omega), if_neg (by omega), if_pos (by omega), show 129 + i - 129 = i by omega]
theorem spc_pg (h : i < 64) : (spcL fv M ak bl)[193 + i]? = some (pgv (M i) (bl i)) := by
  rw [spc_get (by omega)]; unfold spcAt; rw [if_neg (by omega), if_neg (by omega), if_neg (by omega), if_neg (by omega), show 193 + i - 193 = i by omega]
theorem spc_ext {l : List Value} (hl : l.length = 257) (h : ∀ k, k < 257 → l[k]? = some (spcAt fv M ak bl k)) : l = spcL fv M ak bl := by
  apply List.ext_getElem?
  intro k
  by_cases hk : k < 257
  · rw [h k hk, spc_get hk]
  · rw [List.getElem?_eq_none (by omega), List.getElem?_eq_none (by rw [spc_len]; omega)]
/-- A page is needed for the first time. -/
theorem spc_new (h : i < 64) (hu : M i = .u) (p : Pg) (hk : p.kn = true) (hc : p.chg = false) (b : Nat) :
    (((spcL fv M ak bl).set (1 + i) (.bool true)).set (65 + i) (.bool true)).set (193 + i) (pgv p b) = spcL fv (up M i p) (up ak i true) (up bl i b) := by
  refine spc_ext (by simp [spc_len]) fun k hk' => ?_
  rw [List.getElem?_set, List.getElem?_set, List.getElem?_set, spc_get hk']
  simp only [List.length_set, spc_len]
  unfold spcAt up
  by_cases h1 : 193 + i = k
  · subst h1
    rw [if_pos rfl, if_pos (by omega), if_neg (by omega), if_neg (by omega), if_neg (by omega), if_neg (by omega), if_pos (by omega), if_pos (by omega)]
  · rw [if_neg h1]
    by_cases h2 : 65 + i = k
    · subst h2
      rw [if_pos rfl, if_pos (by omega), if_neg (by omega), if_neg (by omega), if_pos (by omega), if_pos (by omega)]
    · rw [if_neg h2]
      by_cases h3 : 1 + i = k
      · subst h3
        rw [if_pos rfl, if_pos (by omega), if_neg (by omega), if_pos (by omega), if_pos (by omega), hk]
      · rw [if_neg h3]
        by_cases h0 : k = 0
        · rw [if_pos h0, if_pos h0]
        rw [if_neg h0, if_neg h0]
        by_cases a1 : k < 65
        · rw [if_pos a1, if_pos a1, if_neg (by omega)]
        rw [if_neg a1, if_neg a1]
        by_cases a2 : k < 129
        · rw [if_pos a2, if_pos a2, if_neg (by omega)]
        rw [if_neg a2, if_neg a2]
        by_cases a3 : k < 193
        · rw [if_pos a3, if_pos a3]
          by_cases h4 : k - 129 = i
          · rw [if_pos h4, h4, hu, hc]; rfl
          · rw [if_neg h4]
        rw [if_neg a3, if_neg a3, if_neg (by omega), if_neg (by omega)]
/-- A page is marked as changed. -/
theorem spc_mark (h : i < 64) {bs bs' : List UInt8} {c : Bool} (hm : M i = .h bs c) : (spcL fv M ak bl).set (129 + i) (.bool true) = spcL fv (up M i (.h bs' true)) ak bl := by
  refine spc_ext (by simp [spc_len]) fun k hk' => ?_
  rw [List.getElem?_set, spc_get hk']
  simp only [spc_len]
  unfold spcAt up
  by_cases h1 : 129 + i = k
  · subst h1
    rw [if_pos rfl, if_pos (by omega), if_neg (by omega), if_neg (by omega), if_neg (by omega), if_pos (by omega), if_pos (by omega)]; rfl
  · rw [if_neg h1]
    by_cases h0 : k = 0
    · rw [if_pos h0, if_pos h0]
    rw [if_neg h0, if_neg h0]
    by_cases a1 : k < 65
    · rw [if_pos a1, if_pos a1]
      by_cases h4 : k - 1 = i
      · rw [if_pos h4, h4, hm]; rfl
      · rw [if_neg h4]
    rw [if_neg a1, if_neg a1]
    by_cases a2 : k < 129
    · rw [if_pos a2, if_pos a2]
    rw [if_neg a2, if_neg a2]
    by_cases a3 : k < 193
    · rw [if_pos a3, if_pos a3, if_neg (by omega)]
    rw [if_neg a3, if_neg a3]
    by_cases h4 : k - 193 = i
    · rw [if_pos h4, h4, hm]; rfl
    · rw [if_neg h4]
end

/-- A page's block. -/
def Hld (b : Nat) (bs : List UInt8) : HP := Ax 132 bf b bs ([.bool false], (0, 0))
def pgH : Pg → Nat → List HP
  | .h bs _, b => [Hld b bs]
  | _, _ => []
def heldL (is : List Nat) (M : Nat → Pg) (bl : Nat → Nat) : List HP := is.flatMap fun i => pgH (M i) (bl i)
/-- The blocks of all pages; of all but one. -/
def Hd (M : Nat → Pg) (bl : Nat → Nat) : HP := fun h => Sep (heldL (List.range 64) M bl) h
def HdX (i : Nat) (M : Nat → Pg) (bl : Nat → Nat) : HP := fun h => Sep (heldL ((List.range 64).filter fun j => j != i) M bl) h
theorem heldL_up {is : List Nat} {M : Nat → Pg} {bl : Nat → Nat} {i b : Nat} {p : Pg} (h : i ∉ is) : heldL is (up M i p) (up bl i b) = heldL is M bl := by
  unfold heldL
  simp only [List.flatMap_def]
  refine congrArg List.flatten (List.map_congr_left fun j hj => ?_)
  have : j ≠ i := fun e => h (e ▸ hj)
  rw [up_ne M p this, up_ne bl b this]
theorem hdX_up {M : Nat → Pg} {bl : Nat → Nat} (i b : Nat) (p : Pg) : HdX i (up M i p) (up bl i b) = HdX i M bl := by
  unfold HdX
  rw [heldL_up (by simp)]
theorem filt_perm : ∀ {l : List Nat} {i : Nat}, i ∈ l → l.Nodup → l.Perm (i :: l.filter fun j => j != i)
  | [], _, h, _ => by simp at h
  | a :: l, i, h, hn => by
    rw [List.nodup_cons] at hn
    by_cases hai : a = i
    · subst hai
      have : (a :: l).filter (fun j => j != a) = l := by
        rw [List.filter_cons_of_neg (by simp)]
        exact List.filter_eq_self.2 fun j hj => by simp; intro e; exact hn.1 (e ▸ hj)
      rw [this]
    · have hil : i ∈ l := by
        rcases List.mem_cons.1 h with h | h
        · exact absurd h.symm hai
        · exact h
      rw [List.filter_cons_of_pos (by simpa using hai)]
      exact ((filt_perm hil hn.2).cons a).trans (List.Perm.swap _ _ _)
theorem heldL_perm {l l' : List Nat} {M : Nat → Pg} {bl : Nat → Nat} (h : l.Perm l') : (heldL l M bl).Perm (heldL l' M bl) := List.Perm.flatMap_right _ h
theorem hd_split {M : Nat → Pg} {bl : Nat → Nat} {i : Nat} (hi : i < 64) {h : H} : Hd M bl h ↔ Sep (pgH (M i) (bl i) ++ [HdX i M bl]) h := by
  have hp : (heldL (List.range 64) M bl).Perm (pgH (M i) (bl i) ++ heldL ((List.range 64).filter fun j => j != i) M bl) := heldL_perm (filt_perm (List.mem_range.2 hi) List.nodup_range)
  constructor
  · intro hh
    obtain ⟨h1, h2, d, s1, s2, ha, hb⟩ := sep_append (Sep.perm hp hh)
    exact append_sep d s1 s2 ha ⟨h2, emp, (fun _ => .inr rfl), Sub.refl _, (fun _ _ e => by cases e), hb, trivial⟩
  · intro hh
    obtain ⟨h1, h2, d, s1, s2, ha, k1, k2, _, t1, _, hb, _⟩ := sep_append hh
    exact Sep.perm hp.symm (append_sep d s1 s2 ha (Sep.sub hb t1))

section
variable {n : Nat} {C : Cx} {Q : Exit → Act → World → Prop} {E E' : List (Nat × Value)} {F F' F1 Fs F0 : List Pf} {R R' R0 Rs N N' A : List HP} {k k' : List Fr} {ops l : List Oper} {L L' : List (Nat × Nat)} {Tl : List Nat}
  {i d : Nat} {t t2 ty0 : TypeId} {x y : Operand} {pos : String} {aft : Array Edge} {gd : Option (Nat × Bool)} {M : Nat → Pg} {bl : Nat → Nat}
/-- A page's block is taken out. -/
theorem k_hd {i : Nat} {bs : List UInt8} {c : Bool} (hi : i < 64) (hm : M i = .h bs c) (t : Wk n C k Q E F (Hld (bl i) bs :: HdX i M bl :: R0)) (hs : Sel (Hd M bl) R R0 := by (repeat (first | exact Sel.here | apply Sel.there)); first | done | fail) : Wk n C k Q E F R :=
  k_open (X := Unit) (Lx := fun _ => [Hld (bl i) bs, HdX i M bl]) (p := fun _ => True) hs (fun h hh => ⟨(), trivial, by have := (hd_split hi).1 hh; rw [hm] at this; exact this⟩) (fun _ _ => t)
/-- And put back, changed. -/
theorem k_hd' {i b : Nat} {bs : List UInt8} (c : Bool) (hi : i < 64) (t : Wk n C k Q E F (Hd (up M i (.h bs c)) (up bl i b) :: R0)) (hs : Sels [Hld b bs, HdX i M bl] R R0 := by (repeat (first | exact Sels.nil | exact Sel.here | apply Sel.there | apply Sels.cons)); first | done | fail) : Wk n C k Q E F R :=
  k_shut (fun h hh => (hd_split (M := up M i (.h bs c)) (bl := up bl i b) hi).2 (by rw [up_eq, up_eq, hdX_up]; exact hh)) t hs
/-- A page that was not there has come. -/
theorem k_hdN {i b : Nat} {bs : List UInt8} (c : Bool) (hi : i < 64) (hu : pgH (M i) (bl i) = []) (t : Wk n C k Q E F (Hd (up M i (.h bs c)) (up bl i b) :: R0)) (hs : Sels [Hld b bs, Hd M bl] R R0 := by (repeat (first | exact Sels.nil | exact Sel.here | apply Sel.there | apply Sels.cons)); first | done | fail) : Wk n C k Q E F R :=
  k_shut (fun h ⟨h1, h2, d, s1, s2, ha, k1, k2, _, t1, _, hb, _⟩ => (hd_split (M := up M i (.h bs c)) (bl := up bl i b) hi).2 (by
    rw [up_eq, up_eq, hdX_up]
    have h3 := (hd_split hi).1 hb
    rw [hu] at h3
    exact ⟨h1, k1, d.sub2 (Sub.refl _) t1, s1, t1.trans s2, ha, h3⟩)) t hs
/-- A page that is known to be none. -/
theorem hd_none {i : Nat} (hi : i < 64) (hu : pgH (M i) (bl i) = []) (b : Nat) : Hd (up M i .n) (up bl i b) = Hd M bl := by
  funext h
  refine propext ⟨fun hh => (hd_split hi).2 ?_, fun hh => (hd_split hi).2 ?_⟩
  · have := (hd_split (M := up M i .n) (bl := up bl i b) hi).1 hh
    rw [up_eq, hdX_up] at this
    rw [hu]; exact this
  · have := (hd_split hi).1 hh
    rw [hu] at this
    rw [up_eq, hdX_up]; exact this
end
end Go.Proofs.YtgaipgbgppdfeaaGreatDoor
