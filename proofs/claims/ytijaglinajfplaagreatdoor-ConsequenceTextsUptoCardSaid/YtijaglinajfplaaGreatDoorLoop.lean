/-
  Rules for loops.
  Conditions: none beyond those that each theorem states.
-/
import Derived.Test.YtijaglinajfplaaGreatDoorMem
namespace Go.Proofs.YtijaglinajfplaaGreatDoor
open Go.RowKit

variable {n : Nat} {C : Cx} {Q : Exit → Act → World → Prop} {E E' : List (Nat × Value)} {F F' F1 Fs F0 : List Pf} {R R' R0 : List HP} {k k' k1 k2 : List Fr} {ops l : List Oper}

theorem k_lp {X : Type} {c : Code} (iE : X → List (Nat × Value)) (iF : X → List Pf) (iR : X → List HP) (μ : X → Nat) (x0 : X) (he : EntE E (iE x0))
    (t : ∀ x, Wk n C [.c c] (LQ n C k' Q iE iF iR μ x) (iE x) (iF x) (iR x)) (h : nf 1000 k = .c (.loop c) :: k' := by rfl)
    (hf : EntF F (iF x0) := by (repeat (first | exact trivial | exact Sel.here | apply Sel.there | apply EntF.cons)); first | done | fail) (hr : Sels (iR x0) R R0 := by (repeat (first | exact Sels.nil | exact Sel.here | apply Sel.there | apply Sels.cons)); first | done | fail) : Wk n C k Q E F R :=
  k_loop iE iF iR μ x0 h he hf hr t

variable {X : Type} {iE : X → List (Nat × Value)} {iF : X → List Pf} {iR : X → List HP} {μ : X → Nat} {x : X}

/-- The round's end. -/
theorem k_next (y : X) (hμ : μ y < μ x) (he : EntE E (iE y)) (h : nf 1000 k = [] := by rfl)
    (hf : EntF F (iF y) := by (repeat (first | exact trivial | exact Sel.here | apply Sel.there | apply EntF.cons)); first | done | fail) (hr : Sels (iR y) R R0 := by (repeat (first | exact Sels.nil | exact Sel.here | apply Sel.there | apply Sels.cons)); first | done | fail) :
    Wk n C k (LQ n C k' Q iE iF iR μ x) E F R := fun a w ha hs => nf_ok 1000 k (by
    rw [h]
    exact ⟨y, hμ, ha.weaken he, ((hs.sels hr).facts (F' := iF y) hf.all).res fun _ h => sep_left h⟩)

/-- The loop is left. -/
theorem after_exit {r : Option Nat} {a : Act} {w : World} {id : Nat} : ∀ {k : List Fr}, noR k = true → pop id k = none → Q (.exit id) a w → after r k Q (.exit id) a w
  | [], _, _, h => h
  | .c _ :: k, hn, hp, h => after_exit (k := k) hn hp h
  | .b j :: k, hn, hp, h => by
    unfold pop at hp
    split at hp
    · cases hp
    · rename_i hb
      have hne : id ≠ j := Nat.ne_of_beq_eq_false hb
      simp only [after, if_neg hne]
      exact after_exit (k := k) hn hp h

theorem k_brk {id : Nat} (t : Wk n C k2 Q E F R) (h : nf 1000 k = .c (.exit id) :: k1 := by rfl) (hp : pop id k1 = none := by rfl) (hp2 : pop id k' = some k2 := by rfl) (hn : noR k1 = true := by rfl) : Wk n C k (LQ n C k' Q iE iF iR μ x) E F R := fun a w ha hs => nf_ok 1000 k (by
    rw [h]
    exact wpIn_exit (after_exit hn hp (pop_ok hp2 (t a w ha hs))))

/-- A loop, with what holds where it is left. -/
theorem k_lpx {X Y : Type} {c : Code} {id : Nat} (iE : X → List (Nat × Value)) (iF : X → List Pf) (iR : X → List HP) (μ : X → Nat) (xE : Y → List (Nat × Value)) (xF : Y → List Pf) (xR : Y → List HP) (x0 : X) (he : EntE E (iE x0))
    (t2 : ∀ y, Wk n C k2 Q (xE y) (xF y) (xR y)) (t : (∀ y, Wk n C k2 Q (xE y) (xF y) (xR y)) → ∀ x, Wk n C [.c c] (LQ n C (.b id :: k2) Q iE iF iR μ x) (iE x) (iF x) (iR x)) (h : nf 1000 k = .c (.loop c) :: .b id :: k2 := by rfl)
    (hf : EntF F (iF x0) := by (repeat (first | exact trivial | exact Sel.here | apply Sel.there | apply EntF.cons)); first | done | fail) (hr : Sels (iR x0) R R0 := by (repeat (first | exact Sels.nil | exact Sel.here | apply Sel.there | apply Sels.cons)); first | done | fail) : Wk n C k Q E F R :=
  k_loop iE iF iR μ x0 h he hf hr (t t2)
/-- The loop is left there. -/
theorem k_out {Y : Type} {id : Nat} {xE : Y → List (Nat × Value)} {xF : Y → List Pf} {xR : Y → List HP} (hx : ∀ y, Wk n C k2 Q (xE y) (xF y) (xR y)) (y : Y) (he : EntE E (xE y)) (h : nf 1000 k = .c (.exit id) :: k1 := by rfl) (hp : pop id k1 = none := by rfl) (hn : noR k1 = true := by rfl)
    (hf : EntF F (xF y) := by (repeat (first | exact trivial | exact Sel.here | apply Sel.there | apply EntF.cons)); first | done | fail) (hr : Sels (xR y) R R0 := by (repeat (first | exact Sels.nil | exact Sel.here | apply Sel.there | apply Sels.cons)); first | done | fail) :
    Wk n C k (LQ n C (.b id :: k2) Q iE iF iR μ x) E F R :=
  k_brk (k_drop he hf hr (hx y)) h hp (by simp [pop]) hn
end Go.Proofs.YtijaglinajfplaaGreatDoor
