/-
  More rules for regions that draw their order: what is owned may be set fast, facts may be drawn from facts.
  Conditions: none beyond those that each theorem states.
-/
import Derived.Test.YtijaglinajfplaaGreatDoorState2
namespace Go.Proofs.YtijaglinajfplaaGreatDoor
open Go.RowKit

/-- Whoever has F and N has F' and N'. -/
def ImpR (F : List Pf) (N : List HP) (F' : List Pf) (N' : List HP) : Prop := ∀ G w hp w', Sat G w hp F N w' → Sat G w hp F' N' w'

theorem ImpR.more {F F' : List Pf} {N N' : List HP} (h : ImpR F N F' N') (r : HP) : ImpR F (r :: N) F' (r :: N') := by
  intro G w hp w' hs
  have h0 : Sat G w hp F (N ++ [r]) w' := hs.res fun k hk => by
    have := (sels_pre N r []).sep (h := k) (by simpa using hk)
    simpa using this
  obtain ⟨G', hp', h1, h2⟩ := sat_frame (F1 := F) (A := N) (R' := [r]) (hs := h0) (sel := by
    have : ∀ (A B : List HP), Sels A (A ++ B) B := fun A B => by
      induction A with
      | nil => exact .nil
      | cons x A ih => exact .cons .here ih
    exact this N [r]) fun _ h => h
  have h3 := h2 _ _ _ (h _ _ _ _ h1)
  refine (h3.facts (F' := F') fun hp hF x hx => hF x (List.mem_append_left _ hx)).res fun k hk => ?_
  obtain ⟨k1, k2, d, s1, s2, a1, a2⟩ := sep_append hk
  obtain ⟨j1, j2, d', t1, t2, b1, _⟩ := a2
  exact ⟨j1, k1, (d.symm.sub t1), t1.trans s2, s1, b1, a1⟩

section
variable {P : Program} {T : Tab} {n : Nat} {ds : List Deferred} {ops : Array Oper} {End : Env → List Pf → List HP → Prop}
theorem WS.imp (hEnd : ∀ e F N F' N', ImpR F N F' N' → End e F' N' → End e F N) : ∀ (L : List (Nat × Nat)) (hs : H) (e : Env) (F : List Pf) (N : List HP) (F' : List Pf) (N' : List HP), ImpR F N F' N' → WS P T n ds ops hs End L e F' N' → WS P T n ds ops hs End L e F N
  | [], _, e, F, N, F', N', p, h => hEnd e F N F' N' p h
  | (i, k) :: L, hs, e, F, N, F', N', p, h => by
    intro o ho
    have h := h o ho
    cases hw : wantF ops e o with
    | none => simp only [hw] at h
    | some b =>
      cases b with
      | false =>
        simp only [hw] at h
        exact WS.imp hEnd L _ _ F N F' N' p h
      | true =>
        simp only [hw] at h
        split at h
        · obtain ⟨v, h1, h2⟩ := h
          exact ⟨v, h1, WS.imp hEnd L _ _ F N F' N' p h2⟩
        · obtain ⟨obj, mk, h1, h2⟩ := h
          exact ⟨obj, mk, h1, fun b => WS.imp hEnd L _ _ F (Pt b obj :: N) F' (Pt b obj :: N') (p.more _) (h2 b)⟩
        · obtain ⟨obj, mk, h1, h2⟩ := h
          exact ⟨obj, mk, h1, fun b hb => WS.imp hEnd L _ _ F N F' N' p (h2 b hb)⟩
        · obtain ⟨v, h1, h2⟩ := h
          exact ⟨v, fun a G w hp ha hsub hsat => h1 a G w hp ha hsub (p _ _ _ _ hsat), WS.imp hEnd L _ _ F N F' N' p h2⟩
        · obtain ⟨post, h1, h2⟩ := h
          exact ⟨post, fun a G w hp ha hsub hsat => h1 a G w hp ha hsub (p _ _ _ _ hsat), h2⟩
end

variable {n : Nat} {C : Cx} {Q : Exit → Act → World → Prop} {E E' : List (Nat × Value)} {F F' F1 Fs : List Pf} {R R' R0 Rs N N' A : List HP} {k k' : List Fr} {ops l : List Oper} {L L' : List (Nat × Nat)} {Tl : List Nat}
theorem r_imp (p : ImpR F N F' N') (t : Wr n C ops k Q Tl Fs R L E F' N') : Wr n C ops k Q Tl Fs R L E F N := fun hp hr w st hz sb =>
  WS.imp (fun _ _ _ _ _ p h a w ha hs => h a w ha (p _ _ _ _ hs)) L _ _ F N F' N' p (t hp hr w st hz sb)
theorem r_fz {b : Nat} {o : Obj} (t : Wr n C ops k Q Tl Fs R L E (Blk b o :: F) N') (hs : Sel (Pt b o) N N' := by (repeat (first | exact Sel.here | apply Sel.there)); first | done | fail) : Wr n C ops k Q Tl Fs R L E F N :=
  r_imp (fun _ _ _ _ h => (h.sel hs).freeze) t
theorem r_mk {f : Pf} (h : ∀ hp, (∀ x ∈ F1, x.p hp) → f.p hp) (t : Wr n C ops k Q Tl Fs R L E (f :: F) N) (hF : EntF F F1 := by (repeat (first | exact trivial | exact Sel.here | apply Sel.there | apply EntF.cons)); first | done | fail) : Wr n C ops k Q Tl Fs R L E F N :=
  r_imp (fun _ _ _ _ ⟨hp, _, st⟩ => add_fact st (h hp (hF.all hp st.f))) t

/-- A contract that says less. -/
theorem Spec.imp {P : Program} {f : FuncId} {args : Array Value} {post post' : Post} (h : Spec P f args F R post)
    (k : ∀ G w hp x w', post.pure x → Sat G w hp (post.F x) (post.R x) w' → post'.holds G w hp (.returned (post.val x)) w') : Spec P f args F R post' := fun G w hp hs =>
  (h G w hp hs).mono (by rintro e w' ⟨x, rfl, hx, hs⟩; exact k G w hp x w' hx hs)
end Go.Proofs.YtijaglinajfplaaGreatDoor
