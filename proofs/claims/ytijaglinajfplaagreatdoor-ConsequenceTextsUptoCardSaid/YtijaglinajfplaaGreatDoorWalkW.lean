/-
  A region that draws its order, walked once, in terms of facts and owned memory.
  Conditions: none beyond those that each theorem states.
-/
import Derived.Test.YtijaglinajfplaaGreatDoorWalkR
namespace Go.Proofs.YtijaglinajfplaaGreatDoor
open Go.RowKit

theorem Sep.perm {R R' : List HP} (p : R.Perm R') : ∀ {h : H}, Sep R h → Sep R' h := by
  induction p with
  | nil => exact fun h => h
  | cons x _ ih => rintro h ⟨h1, h2, d, s1, s2, hx, hs⟩; exact ⟨h1, h2, d, s1, s2, hx, ih hs⟩
  | swap x y l => exact fun hs => (Sel.there (y := y) (Sel.here (x := x) (R := l))).sep hs
  | trans _ _ ih1 ih2 => exact fun h => ih2 (ih1 h)

section
variable {G : H} {w0 : World} {hp0 : H} {F F' : List Pf} {R R' : List HP} {w w' : World}

theorem Sat.perm (h : Sat G w0 hp0 F R w) (p : R.Perm R') : Sat G w0 hp0 F R' w := h.res fun _ hk => hk.perm p

theorem Sat.rebase (h : Sat G w0 hp0 F R w) : ∃ hp, Sub hp0 hp ∧ Same w0 w ∧ Sat G w hp F R w :=
  let ⟨hp, hr, t⟩ := h
  ⟨hp, t.sub, t.same, hp, hr, t.inp, t.inr, t.ing, t.d1, t.d2, t.d3, Sub.refl _, t.f, t.r, Same.refl _⟩

theorem Sat.back {hp : H} (s : Sub hp0 hp) (m : Same w0 w) (h : Sat G w hp F R w') : Sat G w0 hp0 F R w' :=
  let ⟨hp', hr, t⟩ := h
  ⟨hp', hr, t.inp, t.inr, t.ing, t.d1, t.d2, t.d3, s.trans t.sub, t.f, t.r, m.trans t.same⟩

/-- One resource is set aside, and taken back. -/
theorem Sat.aside {r : HP} (h : Sat G w0 hp0 F (r :: R) w) : ∃ h1, r h1 ∧ Dj G h1 ∧ Sat (un G h1) w0 hp0 F R w := by
  obtain ⟨hp, hr, t⟩ := h
  obtain ⟨h1, h2, d, s1, s2, hx, hR⟩ := t.r
  exact ⟨h1, hx, (t.d3.sub s1).symm, hp, h2, t.inp, t.inr.sub s2, In.un t.ing (t.inr.sub s1), (t.d1.symm.sub s2).symm, (dj_un.2 ⟨t.d2.symm, t.d1.symm.sub s1⟩).symm,
    (dj_un.2 ⟨(t.d3.sub s2).symm, d⟩).symm, t.sub, t.f, hR, t.same⟩

theorem Sat.taken {r : HP} {h1 : H} (hr : r h1) (hd : Dj G h1) (h : Sat (un G h1) w0 hp0 F R w) : Sat G w0 hp0 F (r :: R) w := by
  obtain ⟨hp, h2, t⟩ := h
  obtain ⟨d1, d2⟩ := dj_un.1 t.d3.symm
  obtain ⟨d3, d4⟩ := dj_un.1 t.d2.symm
  exact ⟨hp, un h1 h2, t.inp, In.un (t.ing.sub (sub_un_right hd)) t.inr, t.ing.sub (sub_un_left _ _), (dj_un.2 ⟨d4, t.d1.symm⟩).symm, d3.symm, dj_un.2 ⟨hd.symm, d1.symm⟩, t.sub, t.f,
    ⟨h1, h2, d2, sub_un_left _ _, sub_un_right d2, hr, t.r⟩, t.same⟩

theorem Sat.subG {G' : H} (h : Sat G' w0 hp0 F R w) (s : Sub G G') : Sat G w0 hp0 F R w :=
  let ⟨hp, hr, t⟩ := h
  ⟨hp, hr, t.inp, t.inr, t.ing.sub s, t.d1, (t.d2.symm.sub s).symm, (t.d3.symm.sub s).symm, t.sub, t.f, t.r, t.same⟩

theorem Sat.stat {hs : H} (h : Sat G w hp0 F R w') (s : Sub hs (un G hp0)) : In hs w' :=
  let ⟨_, _, t⟩ := h
  (In.un t.ing (t.inp.sub t.sub)).sub s
end

theorem sub_un_mono {hs G hp hp' : H} (s : Sub hs (un G hp)) (t : Sub hp hp') : Sub hs (un G hp') := fun b o e => by
  have h := s b o e
  unfold un at h ⊢
  split at h
  · exact h
  · exact t b o h

theorem Agree.undo {n : Nat} {ds : List Deferred} {e : Env} {a : Act} {d : Option Nat} {v : Value} (hd : ∀ t, d = some t → t < n) (h : Agree n ds (upd e d v) a) : ∃ u, Agree n ds e (a.put d u) := by
  cases d with
  | none => exact ⟨v, h⟩
  | some d =>
    refine ⟨(e d).getD undef, by simp [Act.put, h.size], by simp [Act.put, h.defers], fun t u ht => ?_⟩
    by_cases hdt : d = t
    · subst hdt
      have : d < a.tmps.size := by rw [h.size]; exact hd d rfl
      simp [Act.put, this, ht]
    · simp only [Act.put]
      rw [Array.getElem?_setIfInBounds_ne hdt]
      exact h.slots t u (by rw [upd_ne _ _ hdt]; exact ht)

/-- The walk in a chosen order: 0: it reads what stays; 1: it makes one block; 2: it makes one block that stays as it is; 3: it reads what is owned; 4: anything else. -/
def WS (P : Program) (T : Tab) (n : Nat) (ds : List Deferred) (ops : Array Oper) (hs : H) (End : Env → List Pf → List HP → Prop) : List (Nat × Nat) → Env → List Pf → List HP → Prop
  | [], e, F, N => End e F N
  | (i, k) :: L, e, F, N => ∀ o, ops[i]? = some o → match wantF ops e o with
    | none => False
    | some false => WS P T n ds ops hs End L (upd e o.dst undef) F N
    | some true => match k with
      | 0 => ∃ v, (∀ a w, Agree n ds e a → In hs w → (execOp a.eval o).run P w = .ok (.value v) w) ∧ WS P T n ds ops hs End L (upd e o.dst v) F N
      | 1 => ∃ obj mk, allocOf T e o.op = some (obj, mk) ∧ ∀ b, WS P T n ds ops hs End L (upd e o.dst (mk b)) F (Pt b obj :: N)
      | 2 => ∃ obj mk, allocOf T e o.op = some (obj, mk) ∧ ∀ b, hs b = none → WS P T n ds ops (un (one b obj) hs) End L (upd e o.dst (mk b)) F N
      | 3 => ∃ v, (∀ a G w hp, Agree n ds e a → Sub hs (un G hp) → Sat G w hp F N w → (execOp a.eval o).run P w = .ok (.value v) w) ∧ WS P T n ds ops hs End L (upd e o.dst v) F N
      | _ => ∃ post : Post, (∀ a G w hp, Agree n ds e a → Sub hs (un G hp) → Sat G w hp F N w → OpRes P (execOp a.eval o) w fun v w' => ∃ x, v = post.val x ∧ post.pure x ∧ Sat G w hp (post.F x) (post.R x) w') ∧
          ∀ x, post.pure x → WS P T n ds ops hs End L (upd e o.dst (post.val x)) (post.F x) (post.R x)

section
variable {P : Program} {T : Tab} {n : Nat} {ds : List Deferred} {ops : Array Oper} {hs : H} {End : Env → List Pf → List HP → Prop}

theorem un_r {k hs hs' : H} (s : Sub hs hs') : Sub (un k hs) (un k hs') := fun b o e => by
  unfold un at e ⊢
  split at e
  · exact e
  · exact s b o e
theorem none_of_sub {hs hs' : H} (s : Sub hs hs') {b : Nat} (h : hs' b = none) : hs b = none := by
  cases e : hs b with
  | none => rfl
  | some o => rw [s b o e] at h; cases h
theorem sub_one {hs : H} {b : Nat} {o : Obj} (h : hs b = none) : Sub hs (un (one b o) hs) := fun c x e => by
  unfold un one
  by_cases hc : c = b
  · subst hc; rw [h] at e; cases e
  · simp [hc, e]
theorem sub_swap {hs : H} {b c : Nat} {o x : Obj} (h : b ≠ c) : Sub (un (one b o) (un (one c x) hs)) (un (one c x) (un (one b o) hs)) := fun d y e => by
  unfold un one at e ⊢
  by_cases h1 : d = b
  · subst h1; simp [h] at e ⊢; exact e
  · by_cases h2 : d = c
    · subst h2; simp [h1] at e ⊢; exact e
    · simp [h1, h2] at e ⊢; exact e
theorem un_noneS {b c : Nat} {o : Obj} {hs : H} (h : un (one b o) hs c = none) : c ≠ b ∧ hs c = none := by
  unfold un one at h
  by_cases hc : c = b
  · subst hc; simp at h
  · simp [hc] at h; exact ⟨hc, h⟩
theorem un_noneS' {b c : Nat} {o : Obj} {hs : H} (hc : c ≠ b) (h : hs c = none) : un (one b o) hs c = none := by
  unfold un one; simp [hc, h]

theorem WS.mono {End' : Env → List Pf → List HP → Prop} (hE : ∀ e F N, End e F N → End' e F N) : ∀ (L : List (Nat × Nat)) (hs hs' : H) (e : Env) (F : List Pf) (N : List HP), Sub hs hs' → WS P T n ds ops hs End L e F N → WS P T n ds ops hs' End' L e F N
  | [], _, _, e, F, N, _, h => hE e F N h
  | (i, k) :: L, hs, hs', e, F, N, s, h => by
    intro o ho
    have h := h o ho
    cases hw : wantF ops e o with
    | none => simp only [hw] at h
    | some b =>
      cases b with
      | false => simp only [hw] at h ⊢; exact WS.mono hE L hs hs' _ F N s h
      | true =>
        simp only [hw] at h ⊢
        match k with
        | 0 => obtain ⟨v, h1, h2⟩ := h; exact ⟨v, fun a w ha hin => h1 a w ha (hin.sub s), WS.mono hE L hs hs' _ F N s h2⟩
        | 1 => obtain ⟨obj, mk, h1, h2⟩ := h; exact ⟨obj, mk, h1, fun b => WS.mono hE L hs hs' _ F _ s (h2 b)⟩
        | 2 => obtain ⟨obj, mk, h1, h2⟩ := h; exact ⟨obj, mk, h1, fun b hb => WS.mono hE L _ _ _ F _ (un_r s) (h2 b (none_of_sub s hb))⟩
        | 3 => obtain ⟨v, h1, h2⟩ := h; exact ⟨v, fun a G w hp ha hsub hsat => h1 a G w hp ha (s.trans hsub) hsat, WS.mono hE L hs hs' _ F N s h2⟩
        | k + 4 => obtain ⟨post, h1, h2⟩ := h; exact ⟨post, fun a G w hp ha hsub hsat => h1 a G w hp ha (s.trans hsub) hsat, fun x hx => WS.mono hE L hs hs' _ _ _ s (h2 x hx)⟩

theorem WS.perm (hEnd : ∀ e F N N', List.Perm N N' → End e F N → End e F N') : ∀ (L : List (Nat × Nat)) (hs : H) (e : Env) (F : List Pf) (N N' : List HP), N.Perm N' → WS P T n ds ops hs End L e F N → WS P T n ds ops hs End L e F N'
  | [], _, e, F, N, N', p, h => hEnd e F N N' p h
  | (i, k) :: L, hs, e, F, N, N', p, h => by
    intro o ho
    have h := h o ho
    cases hw : wantF ops e o with
    | none => simp only [hw] at h
    | some b =>
      cases b with
      | false => simp only [hw] at h ⊢; exact WS.perm hEnd L _ _ F N N' p h
      | true =>
        simp only [hw] at h ⊢
        match k with
        | 0 => obtain ⟨v, h1, h2⟩ := h; exact ⟨v, h1, WS.perm hEnd L _ _ F N N' p h2⟩
        | 1 => obtain ⟨obj, mk, h1, h2⟩ := h; exact ⟨obj, mk, h1, fun b => WS.perm hEnd L _ _ F _ _ (p.cons _) (h2 b)⟩
        | 2 => obtain ⟨obj, mk, h1, h2⟩ := h; exact ⟨obj, mk, h1, fun b hb => WS.perm hEnd L _ _ F _ _ p (h2 b hb)⟩
        | 3 => obtain ⟨v, h1, h2⟩ := h; exact ⟨v, fun a G w hp ha hsub hsat => h1 a G w hp ha hsub (hsat.perm p.symm), WS.perm hEnd L _ _ F N N' p h2⟩
        | k + 4 => obtain ⟨post, h1, h2⟩ := h; exact ⟨post, fun a G w hp ha hsub hsat => h1 a G w hp ha hsub (hsat.perm p.symm), h2⟩

variable (hsel : Region.noSelect ops = true) (hdst : ∀ (i : Nat) (o : Oper), ops[i]? = some o → ∀ t, o.dst = some t → t < n)
include hsel hdst

theorem WS.pull (hEnd : ∀ e F N N', List.Perm N N' → End e F N → End e F N') {i : Nat} {oi : Oper} (hi : ops[i]? = some oi) {obj : Obj} {mk : Nat → Value} (C : List (Nat × Nat)) : ∀ (A : List (Nat × Nat)) (hs : H) (e : Env) (F : List Pf) (N : List HP),
    (∀ y ∈ A, apartOf ops y.1 i = true) → (∀ y ∈ A, ∃ oy, ops[y.1]? = some oy) → WS P T n ds ops hs End (A ++ (i, 1) :: C) e F N → wantF ops e oi = some true → allocOf T e oi.op = some (obj, mk) →
    ∀ b, WS P T n ds ops hs End (A ++ C) (upd e oi.dst (mk b)) F (Pt b obj :: N)
  | [], hs, e, F, N, _, _, h, hw, ha, b => by
    have h := h oi hi
    simp only [hw] at h
    obtain ⟨obj', mk', ha', h⟩ := h
    rw [ha] at ha'
    obtain ⟨rfl, rfl⟩ := Prod.mk.inj (Option.some.inj ha')
    exact h b
  | (y, ky) :: A, hs, e, F, N, hap, hin, h, hw, ha, b => by
    obtain ⟨oy, hy⟩ := hin (y, ky) List.mem_cons_self
    obtain ⟨ap1, ap2, ap3⟩ := apartOf_spec hy hi (hap (y, ky) List.mem_cons_self)
    have hsy : ∀ cs b, oy.op ≠ .select cs b := fun cs b => Region.noSelect_spec hsel y oy cs b hy
    have hap' : ∀ z ∈ A, apartOf ops z.1 i = true := fun z hz => hap z (List.mem_cons_of_mem _ hz)
    have hin' : ∀ z ∈ A, ∃ oz, ops[z.1]? = some oz := fun z hz => hin z (List.mem_cons_of_mem _ hz)
    have ih := fun (hs : H) v F' N' (hh : WS P T n ds ops hs End (A ++ (i, 1) :: C) (upd e oy.dst v) F' N') => WS.pull hEnd hi (obj := obj) (mk := mk) C A hs (upd e oy.dst v) F' N' hap' hin' hh (by rw [wantF_upd ap1]; exact hw) (by rw [allocOf_upd ap1]; exact ha) b
    have hcom : ∀ v u, upd (upd e oy.dst v) oi.dst u = upd (upd e oi.dst u) oy.dst v := fun v u => upd_comm e _ _ v u ap2
    have h := h oy hy
    intro o' ho'
    obtain rfl : o' = oy := Option.some.inj (ho'.symm.trans hy)
    rw [wantF_upd ap3]
    have und : ∀ (a : Act) (u : Value), Agree n ds (upd e oi.dst u) a → ∃ a', Agree n ds e a' ∧ execOp a'.eval o' = execOp a.eval o' := fun a u hag => by
      obtain ⟨z, hz⟩ := hag.undo (hdst i oi hi)
      exact ⟨_, hz, execOp_put o' hsy a oi.dst z ap3⟩
    cases hwy : wantF ops e o' with
    | none => simp only [hwy] at h
    | some wb =>
      cases wb with
      | false =>
        simp only [hwy] at h ⊢
        rw [← hcom]; exact ih _ _ _ _ h
      | true =>
        simp only [hwy] at h ⊢
        match ky with
        | 0 =>
          obtain ⟨v, hq, h2⟩ := h
          refine ⟨v, fun a w hag hin => ?_, by rw [← hcom]; exact ih _ _ _ _ h2⟩
          obtain ⟨a', h1, h3⟩ := und a _ hag
          rw [← h3]; exact hq a' w h1 hin
        | 1 =>
          obtain ⟨obj', mk', ha', h2⟩ := h
          refine ⟨obj', mk', by rw [allocOf_upd ap3]; exact ha', fun b' => ?_⟩
          rw [← hcom]
          exact WS.perm hEnd _ _ _ _ _ _ (List.Perm.swap _ _ _) (ih _ _ _ _ (h2 b'))
        | 2 =>
          obtain ⟨obj', mk', ha', h2⟩ := h
          refine ⟨obj', mk', by rw [allocOf_upd ap3]; exact ha', fun b' hb' => ?_⟩
          rw [← hcom]
          exact ih _ _ _ _ (h2 b' hb')
        | 3 =>
          obtain ⟨v, hq, h2⟩ := h
          refine ⟨v, fun a G w hp hag hsub hsat => ?_, by rw [← hcom]; exact ih _ _ _ _ h2⟩
          obtain ⟨a', h1, h3⟩ := und a _ hag
          rw [← h3]
          obtain ⟨k1, hk1, hdk, hs1⟩ := hsat.aside
          refine hq a' (un G k1) w hp h1 (fun c o e => ?_) hs1
          have := hsub c o e
          obtain ⟨hp', hr', t⟩ := hs1
          rcases un_or this with e1 | e1
          · exact sub_un_left _ _ c o (sub_un_left _ _ c o e1)
          · exact sub_un_right (t.d2.sub t.sub).symm c o e1
        | k + 4 =>
          obtain ⟨post, hq, h2⟩ := h
          refine ⟨{ post with R := fun x => Pt b obj :: post.R x }, fun a G w hp hag hsub hsat => ?_, fun x hx => by rw [← hcom]; exact ih _ _ _ _ (h2 x hx)⟩
          obtain ⟨a', h1, h3⟩ := und a _ hag
          rw [← h3]
          obtain ⟨k1, hk1, hdk, hs1⟩ := hsat.aside
          have hsub' : Sub hs (un (un G k1) hp) := fun c o e => by
            have := hsub c o e
            obtain ⟨hp', hr', t⟩ := hs1
            rcases un_or this with e1 | e1
            · exact sub_un_left _ _ c o (sub_un_left _ _ c o e1)
            · exact sub_un_right (t.d2.sub t.sub).symm c o e1
          refine (hq a' (un G k1) w hp h1 hsub' hs1).mono fun v w' hv => ?_
          obtain ⟨x, hv, hx, hsx⟩ := hv
          exact ⟨x, hv, hx, hsx.taken hk1 hdk⟩

theorem WS.pullS {i : Nat} {oi : Oper} (hi : ops[i]? = some oi) {obj : Obj} {mk : Nat → Value} (C : List (Nat × Nat)) : ∀ (A : List (Nat × Nat)) (hs : H) (e : Env) (F : List Pf) (N : List HP),
    (∀ y ∈ A, apartOf ops y.1 i = true) → (∀ y ∈ A, ∃ oy, ops[y.1]? = some oy) → WS P T n ds ops hs End (A ++ (i, 2) :: C) e F N → wantF ops e oi = some true → allocOf T e oi.op = some (obj, mk) →
    ∀ b, hs b = none → WS P T n ds ops (un (one b obj) hs) End (A ++ C) (upd e oi.dst (mk b)) F N
  | [], hs, e, F, N, _, _, h, hw, ha, b, hb => by
    have h := h oi hi
    simp only [hw] at h
    obtain ⟨obj', mk', ha', h⟩ := h
    rw [ha] at ha'
    obtain ⟨rfl, rfl⟩ := Prod.mk.inj (Option.some.inj ha')
    exact h b hb
  | (y, ky) :: A, hs, e, F, N, hap, hin, h, hw, ha, b, hb => by
    obtain ⟨oy, hy⟩ := hin (y, ky) List.mem_cons_self
    obtain ⟨ap1, ap2, ap3⟩ := apartOf_spec hy hi (hap (y, ky) List.mem_cons_self)
    have hsy : ∀ cs b, oy.op ≠ .select cs b := fun cs b => Region.noSelect_spec hsel y oy cs b hy
    have hap' : ∀ z ∈ A, apartOf ops z.1 i = true := fun z hz => hap z (List.mem_cons_of_mem _ hz)
    have hin' : ∀ z ∈ A, ∃ oz, ops[z.1]? = some oz := fun z hz => hin z (List.mem_cons_of_mem _ hz)
    have ih := fun (hs : H) v F' N' (hh : WS P T n ds ops hs End (A ++ (i, 2) :: C) (upd e oy.dst v) F' N') (hb : hs b = none) => WS.pullS hi (obj := obj) (mk := mk) C A hs (upd e oy.dst v) F' N' hap' hin' hh (by rw [wantF_upd ap1]; exact hw) (by rw [allocOf_upd ap1]; exact ha) b hb
    have hcom : ∀ v u, upd (upd e oy.dst v) oi.dst u = upd (upd e oi.dst u) oy.dst v := fun v u => upd_comm e _ _ v u ap2
    have h := h oy hy
    intro o' ho'
    obtain rfl : o' = oy := Option.some.inj (ho'.symm.trans hy)
    rw [wantF_upd ap3]
    have und : ∀ (a : Act) (u : Value), Agree n ds (upd e oi.dst u) a → ∃ a', Agree n ds e a' ∧ execOp a'.eval o' = execOp a.eval o' := fun a u hag => by
      obtain ⟨z, hz⟩ := hag.undo (hdst i oi hi)
      exact ⟨_, hz, execOp_put o' hsy a oi.dst z ap3⟩
    cases hwy : wantF ops e o' with
    | none => simp only [hwy] at h
    | some wb =>
      cases wb with
      | false =>
        simp only [hwy] at h ⊢
        rw [← hcom]; exact ih _ _ _ _ h hb
      | true =>
        simp only [hwy] at h ⊢
        match ky with
        | 0 =>
          obtain ⟨v, hq, h2⟩ := h
          refine ⟨v, fun a w hag hin => ?_, by rw [← hcom]; exact ih _ _ _ _ h2 hb⟩
          obtain ⟨a', h1, h3⟩ := und a _ hag
          rw [← h3]; exact hq a' w h1 (hin.sub (sub_one hb))
        | 1 =>
          obtain ⟨obj', mk', ha', h2⟩ := h
          refine ⟨obj', mk', by rw [allocOf_upd ap3]; exact ha', fun b' => ?_⟩
          rw [← hcom]
          exact ih _ _ _ _ (h2 b') hb
        | 2 =>
          obtain ⟨obj', mk', ha', h2⟩ := h
          refine ⟨obj', mk', by rw [allocOf_upd ap3]; exact ha', fun b' hb' => ?_⟩
          rw [← hcom]
          obtain ⟨n1, n2⟩ := un_noneS hb'
          exact WS.mono (fun _ _ _ h => h) _ _ _ _ _ _ (sub_swap (fun e => n1 e.symm)) (ih _ _ _ _ (h2 b' n2) (un_noneS' (fun e => n1 e.symm) hb))
        | 3 =>
          obtain ⟨v, hq, h2⟩ := h
          refine ⟨v, fun a G w hp hag hsub hsat => ?_, by rw [← hcom]; exact ih _ _ _ _ h2 hb⟩
          obtain ⟨a', h1, h3⟩ := und a _ hag
          rw [← h3]
          exact hq a' G w hp h1 ((sub_one hb).trans hsub) hsat
        | k + 4 =>
          obtain ⟨post, hq, h2⟩ := h
          refine ⟨post, fun a G w hp hag hsub hsat => ?_, fun x hx => by rw [← hcom]; exact ih _ _ _ _ (h2 x hx) hb⟩
          obtain ⟨a', h1, h3⟩ := und a _ hag
          rw [← h3]
          exact hq a' G w hp h1 ((sub_one hb).trans hsub) hsat

theorem WS.skip {i k : Nat} {oi : Oper} (hi : ops[i]? = some oi) (C : List (Nat × Nat)) : ∀ (A : List (Nat × Nat)) (hs : H) (e : Env) (F : List Pf) (N : List HP),
    (∀ y ∈ A, apartOf ops y.1 i = true) → (∀ y ∈ A, ∃ oy, ops[y.1]? = some oy) → WS P T n ds ops hs End (A ++ (i, k) :: C) e F N → wantF ops e oi = some false →
    WS P T n ds ops hs End (A ++ C) (upd e oi.dst undef) F N
  | [], hs, e, F, N, _, _, h, hw => by
    have h := h oi hi
    simp only [hw] at h
    exact h
  | (y, ky) :: A, hs, e, F, N, hap, hin, h, hw => by
    obtain ⟨oy, hy⟩ := hin (y, ky) List.mem_cons_self
    obtain ⟨ap1, ap2, ap3⟩ := apartOf_spec hy hi (hap (y, ky) List.mem_cons_self)
    have hsy : ∀ cs b, oy.op ≠ .select cs b := fun cs b => Region.noSelect_spec hsel y oy cs b hy
    have hap' : ∀ z ∈ A, apartOf ops z.1 i = true := fun z hz => hap z (List.mem_cons_of_mem _ hz)
    have hin' : ∀ z ∈ A, ∃ oz, ops[z.1]? = some oz := fun z hz => hin z (List.mem_cons_of_mem _ hz)
    have ih := fun (hs : H) v F' N' (hh : WS P T n ds ops hs End (A ++ (i, k) :: C) (upd e oy.dst v) F' N') => WS.skip hi C A hs (upd e oy.dst v) F' N' hap' hin' hh (by rw [wantF_upd ap1]; exact hw)
    have hcom : ∀ v u, upd (upd e oy.dst v) oi.dst u = upd (upd e oi.dst u) oy.dst v := fun v u => upd_comm e _ _ v u ap2
    have h := h oy hy
    intro o' ho'
    obtain rfl : o' = oy := Option.some.inj (ho'.symm.trans hy)
    rw [wantF_upd ap3]
    have und : ∀ (a : Act) (u : Value), Agree n ds (upd e oi.dst u) a → ∃ a', Agree n ds e a' ∧ execOp a'.eval o' = execOp a.eval o' := fun a u hag => by
      obtain ⟨z, hz⟩ := hag.undo (hdst i oi hi)
      exact ⟨_, hz, execOp_put o' hsy a oi.dst z ap3⟩
    cases hwy : wantF ops e o' with
    | none => simp only [hwy] at h
    | some wb =>
      cases wb with
      | false =>
        simp only [hwy] at h ⊢
        rw [← hcom]; exact ih _ _ _ _ h
      | true =>
        simp only [hwy] at h ⊢
        match ky with
        | 0 =>
          obtain ⟨v, hq, h2⟩ := h
          refine ⟨v, fun a w hag hin => ?_, by rw [← hcom]; exact ih _ _ _ _ h2⟩
          obtain ⟨a', h1, h3⟩ := und a _ hag
          rw [← h3]; exact hq a' w h1 hin
        | 1 =>
          obtain ⟨obj', mk', ha', h2⟩ := h
          refine ⟨obj', mk', by rw [allocOf_upd ap3]; exact ha', fun b' => ?_⟩
          rw [← hcom]
          exact ih _ _ _ _ (h2 b')
        | 2 =>
          obtain ⟨obj', mk', ha', h2⟩ := h
          refine ⟨obj', mk', by rw [allocOf_upd ap3]; exact ha', fun b' hb' => ?_⟩
          rw [← hcom]
          exact ih _ _ _ _ (h2 b' hb')
        | 3 =>
          obtain ⟨v, hq, h2⟩ := h
          refine ⟨v, fun a G w hp hag hsub hsat => ?_, by rw [← hcom]; exact ih _ _ _ _ h2⟩
          obtain ⟨a', h1, h3⟩ := und a _ hag
          rw [← h3]
          exact hq a' G w hp h1 hsub hsat
        | kk + 4 =>
          obtain ⟨post, hq, h2⟩ := h
          refine ⟨post, fun a G w hp hag hsub hsat => ?_, fun x hx => by rw [← hcom]; exact ih _ _ _ _ (h2 x hx)⟩
          obtain ⟨a', h1, h3⟩ := und a _ hag
          rw [← h3]
          exact hq a' G w hp h1 hsub hsat

omit hsel hdst in
theorem Sat.stalloc {G : H} {w : World} {hp : H} {F : List Pf} {N : List HP} {hs : H} (hsat : Sat G w hp F N w) (hsub : Sub hs (un G hp)) (obj : Obj) :
    hs w.heap.size = none ∧ ∃ G', Sub G G' ∧ (∀ hp1, Sub hp1 hp → Sub hs (un G hp1) → Sub (un (one w.heap.size obj) hs) (un G' hp1)) ∧ Sat G' w hp F N (w.alloc obj) := by
  have hb : hs w.heap.size = none := by
    cases e : hs w.heap.size with
    | none => rfl
    | some o => have := hsat.stat hsub _ _ e; simp at this
  refine ⟨hb, ?_⟩
  obtain ⟨h1, hx, hdj, hs1⟩ := (hsat.alloc obj).aside
  refine ⟨un G h1, sub_un_left _ _, fun hp1 s1 hsub1 c o e => ?_, hs1⟩
  obtain ⟨hp', hr', t⟩ := hs1
  by_cases hc : c = w.heap.size
  · subst hc
    have e' : some obj = some o := by simpa [un, one] using e
    cases e'
    exact sub_un_left _ _ _ _ (sub_un_right hdj _ _ hx)
  · have e' : hs c = some o := by simpa [un, one, hc] using e
    rcases un_or (hsub1 c o e') with e1 | e1
    · exact sub_un_left _ _ c o (sub_un_left _ _ c o e1)
    · exact sub_un_right ((t.d2.sub (s1.trans t.sub)).symm) c o e1

omit hsel in
theorem WS.reach (hT : TabOK P T) {i k : Nat} {oi : Oper} (hi : ops[i]? = some oi) (C : List (Nat × Nat)) : ∀ (A : List (Nat × Nat)) (hs : H) (e : Env) (F : List Pf) (N : List HP),
    (∀ y ∈ A, apartOf ops y.1 i = true) → (∀ y ∈ A, ∃ oy, ops[y.1]? = some oy) → WS P T n ds ops hs End (A ++ (i, k) :: C) e F N → (∃ a G w hp, Agree n ds e a ∧ Sub hs (un G hp) ∧ Sat G w hp F N w) →
    ∃ wb, wantF ops e oi = some wb ∧ (wb = true → k = 1 ∨ k = 2 → ∃ obj mk, allocOf T e oi.op = some (obj, mk))
  | [], hs, e, F, N, _, _, h, _ => by
    have h := h oi hi
    cases hw : wantF ops e oi with
    | none => simp only [hw] at h
    | some wb =>
      refine ⟨wb, rfl, fun hb hk => ?_⟩
      subst hb
      rcases hk with rfl | rfl
      · simp only [hw] at h
        obtain ⟨obj, mk, ha, _⟩ := h
        exact ⟨obj, mk, ha⟩
      · simp only [hw] at h
        obtain ⟨obj, mk, ha, _⟩ := h
        exact ⟨obj, mk, ha⟩
  | (y, ky) :: A, hs, e, F, N, hap, hin, h, ⟨a, G, w, hp, hag, hsub, hsat⟩ => by
    obtain ⟨oy, hy⟩ := hin (y, ky) List.mem_cons_self
    obtain ⟨ap1, ap2, ap3⟩ := apartOf_spec hy hi (hap (y, ky) List.mem_cons_self)
    have hap' : ∀ z ∈ A, apartOf ops z.1 i = true := fun z hz => hap z (List.mem_cons_of_mem _ hz)
    have hin' : ∀ z ∈ A, ∃ oz, ops[z.1]? = some oz := fun z hz => hin z (List.mem_cons_of_mem _ hz)
    have ih := fun (hs : H) v F' N' (hh : WS P T n ds ops hs End (A ++ (i, k) :: C) (upd e oy.dst v) F' N') hne => WS.reach hT hi C A hs (upd e oy.dst v) F' N' hap' hin' hh hne
    simp only [wantF_upd ap1, allocOf_upd ap1] at ih
    have hput := fun v => hag.put (hdst y oy hy) v
    have h := h oy hy
    cases hwy : wantF ops e oy with
    | none => simp only [hwy] at h
    | some wb =>
      cases wb with
      | false => simp only [hwy] at h; exact ih _ _ _ _ h ⟨_, G, w, hp, hput _, hsub, hsat⟩
      | true =>
        simp only [hwy] at h
        match ky with
        | 0 => obtain ⟨v, hq, h2⟩ := h; exact ih _ _ _ _ h2 ⟨_, G, w, hp, hput _, hsub, hsat⟩
        | 1 =>
          obtain ⟨obj', mk', ha', h2⟩ := h
          obtain ⟨hpc, s1, m1, hs1⟩ := (hsat.alloc obj').rebase
          exact ih _ _ _ _ (h2 w.heap.size) ⟨_, G, w.alloc obj', hpc, hput _, sub_un_mono hsub s1, hs1⟩
        | 2 =>
          obtain ⟨obj', mk', ha', h2⟩ := h
          obtain ⟨hb, G', _, s2, hs1⟩ := hsat.stalloc hsub obj'
          obtain ⟨hpc, s1, m1, hs2⟩ := hs1.rebase
          exact ih _ _ _ _ (h2 _ hb) ⟨_, G', w.alloc obj', hpc, hput _, sub_un_mono (s2 hp (Sub.refl _) hsub) s1, hs2⟩
        | 3 => obtain ⟨v, hq, h2⟩ := h; exact ih _ _ _ _ h2 ⟨_, G, w, hp, hput _, hsub, hsat⟩
        | kk + 4 =>
          obtain ⟨post, hq, h2⟩ := h
          obtain ⟨v, w', x, _, hx, hsx⟩ := (hq a G w hp hag hsub hsat).ex
          obtain ⟨hpc, s1, m1, hs1⟩ := hsx.rebase
          exact ih _ _ _ _ (h2 x hx) ⟨_, G, w', hpc, hput _, sub_un_mono hsub s1, hs1⟩

omit hsel hdst in
theorem eval_put {y i : Nat} {oy oi : Oper} (hsel : Region.noSelect ops = true) (hi : ops[i]? = some oi) (hy : ops[y]? = some oy) (hap : apartOf ops y i = true) (a : Act) (v : Value) : execOp (a.put oy.dst v).eval oi = execOp a.eval oi :=
  execOp_put oi (fun cs b => Region.noSelect_spec hsel i oi cs b hi) a oy.dst v (apartOf_spec hy hi hap).1

/-- What such a reading yields now. -/
theorem WS.val0 {i : Nat} {oi : Oper} (hi : ops[i]? = some oi) (C : List (Nat × Nat)) : ∀ (A : List (Nat × Nat)) (e : Env) (F : List Pf) (N : List HP),
    (∀ y ∈ A, apartOf ops y.1 i = true ∧ y.2 ≠ 2) → (∀ y ∈ A, ∃ oy, ops[y.1]? = some oy) → WS P T n ds ops hs End (A ++ (i, 0) :: C) e F N → (∃ a G w hp, Agree n ds e a ∧ Sub hs (un G hp) ∧ Sat G w hp F N w) → wantF ops e oi = some true →
    ∀ a w, Agree n ds e a → In hs w → ∃ v, (execOp a.eval oi).run P w = .ok (.value v) w
  | [], e, F, N, _, _, h, _, hw, a, w, hag, hin => by
    have h := h oi hi
    simp only [hw] at h
    obtain ⟨v, hq, _⟩ := h
    exact ⟨v, hq a w hag hin⟩
  | (y, ky) :: A, e, F, N, hap, hin, h, ⟨a2, G, w2, hp, hag2, hsub, hsat⟩, hw, a, w, hag, hinw => by
    obtain ⟨oy, hy⟩ := hin (y, ky) List.mem_cons_self
    obtain ⟨hap0, hk2⟩ := hap (y, ky) List.mem_cons_self
    obtain ⟨ap1, ap2, ap3⟩ := apartOf_spec hy hi hap0
    have hap' : ∀ z ∈ A, apartOf ops z.1 i = true ∧ z.2 ≠ 2 := fun z hz => hap z (List.mem_cons_of_mem _ hz)
    have hin' : ∀ z ∈ A, ∃ oz, ops[z.1]? = some oz := fun z hz => hin z (List.mem_cons_of_mem _ hz)
    have ih := fun v F' N' (hh : WS P T n ds ops hs End (A ++ (i, 0) :: C) (upd e oy.dst v) F' N') hne => WS.val0 hi C A (upd e oy.dst v) F' N' hap' hin' hh hne (by rw [wantF_upd ap1]; exact hw) (a.put oy.dst v) w (hag.put (hdst y oy hy) v) hinw
    simp only [eval_put hsel hi hy hap0] at ih
    have hput := fun v => hag2.put (hdst y oy hy) v
    have h := h oy hy
    cases hwy : wantF ops e oy with
    | none => simp only [hwy] at h
    | some wb =>
      cases wb with
      | false => simp only [hwy] at h; exact ih _ _ _ h ⟨_, G, w2, hp, hput _, hsub, hsat⟩
      | true =>
        simp only [hwy] at h
        match ky, hk2 with
        | 0, _ => obtain ⟨v, hq, h2⟩ := h; exact ih _ _ _ h2 ⟨_, G, w2, hp, hput _, hsub, hsat⟩
        | 1, _ =>
          obtain ⟨obj', mk', ha', h2⟩ := h
          obtain ⟨hpc, s1, m1, hs1⟩ := (hsat.alloc obj').rebase
          exact ih _ _ _ (h2 w2.heap.size) ⟨_, G, w2.alloc obj', hpc, hput _, sub_un_mono hsub s1, hs1⟩
        | 2, hne => exact absurd rfl hne
        | 3, _ => obtain ⟨v, hq, h2⟩ := h; exact ih _ _ _ h2 ⟨_, G, w2, hp, hput _, hsub, hsat⟩
        | kk + 4, _ =>
          obtain ⟨post, hq, h2⟩ := h
          obtain ⟨v, w', x, _, hx, hsx⟩ := (hq a2 G w2 hp hag2 hsub hsat).ex
          obtain ⟨hpc, s1, m1, hs1⟩ := hsx.rebase
          exact ih _ _ _ (h2 x hx) ⟨_, G, w', hpc, hput _, sub_un_mono hsub s1, hs1⟩

/-- It yields the same later. -/
theorem WS.uniq0 {i : Nat} {oi : Oper} (hi : ops[i]? = some oi) (C : List (Nat × Nat)) {w : World} {v0 : Value} (hinw : In hs w) : ∀ (A : List (Nat × Nat)) (e : Env) (F : List Pf) (N : List HP) (a : Act),
    (∀ y ∈ A, apartOf ops y.1 i = true ∧ y.2 ≠ 2) → (∀ y ∈ A, ∃ oy, ops[y.1]? = some oy) → WS P T n ds ops hs End (A ++ (i, 0) :: C) e F N → wantF ops e oi = some true → Agree n ds e a →
    (execOp a.eval oi).run P w = .ok (.value v0) w → WS P T n ds ops hs End (A ++ C) (upd e oi.dst v0) F N
  | [], e, F, N, a, _, _, h, hw, hag, hr => by
    have h := h oi hi
    simp only [hw] at h
    obtain ⟨v, hq, h2⟩ := h
    have := (hq a w hag hinw).symm.trans hr
    simp only [Result.ok.injEq, Next.value.injEq, and_true] at this
    rw [← this]
    exact h2
  | (y, ky) :: A, e, F, N, a, hap, hin, h, hw, hag, hr => by
    obtain ⟨oy, hy⟩ := hin (y, ky) List.mem_cons_self
    obtain ⟨hap0, hk2⟩ := hap (y, ky) List.mem_cons_self
    obtain ⟨ap1, ap2, ap3⟩ := apartOf_spec hy hi hap0
    have hsy : ∀ cs b, oy.op ≠ .select cs b := fun cs b => Region.noSelect_spec hsel y oy cs b hy
    have hap' : ∀ z ∈ A, apartOf ops z.1 i = true ∧ z.2 ≠ 2 := fun z hz => hap z (List.mem_cons_of_mem _ hz)
    have hin' : ∀ z ∈ A, ∃ oz, ops[z.1]? = some oz := fun z hz => hin z (List.mem_cons_of_mem _ hz)
    have ih := fun v F' N' (hh : WS P T n ds ops hs End (A ++ (i, 0) :: C) (upd e oy.dst v) F' N') => WS.uniq0 hi C hinw A (upd e oy.dst v) F' N' (a.put oy.dst v) hap' hin' hh (by rw [wantF_upd ap1]; exact hw) (hag.put (hdst y oy hy) v) (by rw [eval_put hsel hi hy hap0]; exact hr)
    have hcom : ∀ v u, upd (upd e oy.dst v) oi.dst u = upd (upd e oi.dst u) oy.dst v := fun v u => upd_comm e _ _ v u ap2
    have h := h oy hy
    intro o' ho'
    obtain rfl : o' = oy := Option.some.inj (ho'.symm.trans hy)
    rw [wantF_upd ap3]
    have und : ∀ (a : Act) (u : Value), Agree n ds (upd e oi.dst u) a → ∃ a', Agree n ds e a' ∧ execOp a'.eval o' = execOp a.eval o' := fun a u hag => by
      obtain ⟨z, hz⟩ := hag.undo (hdst i oi hi)
      exact ⟨_, hz, execOp_put o' hsy a oi.dst z ap3⟩
    cases hwy : wantF ops e o' with
    | none => simp only [hwy] at h
    | some wb =>
      cases wb with
      | false =>
        simp only [hwy] at h ⊢
        rw [← hcom]; exact ih _ _ _ h
      | true =>
        simp only [hwy] at h ⊢
        match ky, hk2 with
        | 0, _ =>
          obtain ⟨v, hq, h2⟩ := h
          refine ⟨v, fun a w hag hin => ?_, by rw [← hcom]; exact ih _ _ _ h2⟩
          obtain ⟨a', h1, h3⟩ := und a _ hag
          rw [← h3]; exact hq a' w h1 hin
        | 1, _ =>
          obtain ⟨obj', mk', ha', h2⟩ := h
          refine ⟨obj', mk', by rw [allocOf_upd ap3]; exact ha', fun b' => ?_⟩
          rw [← hcom]
          exact ih _ _ _ (h2 b')
        | 2, hne => exact absurd rfl hne
        | 3, _ =>
          obtain ⟨v, hq, h2⟩ := h
          refine ⟨v, fun a G w hp hag hsub hsat => ?_, by rw [← hcom]; exact ih _ _ _ h2⟩
          obtain ⟨a', h1, h3⟩ := und a _ hag
          rw [← h3]
          exact hq a' G w hp h1 hsub hsat
        | kk + 4, _ =>
          obtain ⟨post, hq, h2⟩ := h
          refine ⟨post, fun a G w hp hag hsub hsat => ?_, fun x hx => by rw [← hcom]; exact ih _ _ _ (h2 x hx)⟩
          obtain ⟨a', h1, h3⟩ := und a _ hag
          rw [← h3]
          exact hq a' G w hp h1 hsub hsat

/-- A reading of what is owned, pulled to the front of readings. -/
theorem WS.val3 {i : Nat} {oi : Oper} (hi : ops[i]? = some oi) (C : List (Nat × Nat)) {G : H} {w : World} {hp : H} {F : List Pf} {N : List HP} (hsub : Sub hs (un G hp)) (hsat : Sat G w hp F N w) : ∀ (A : List (Nat × Nat)) (e : Env) (a : Act),
    (∀ y ∈ A, apartOf ops y.1 i = true ∧ (y.2 = 0 ∨ y.2 = 3)) → (∀ y ∈ A, ∃ oy, ops[y.1]? = some oy) → WS P T n ds ops hs End (A ++ (i, 3) :: C) e F N → wantF ops e oi = some true → Agree n ds e a →
    ∃ v, (execOp a.eval oi).run P w = .ok (.value v) w ∧ WS P T n ds ops hs End (A ++ C) (upd e oi.dst v) F N
  | [], e, a, _, _, h, hw, hag => by
    have h := h oi hi
    simp only [hw] at h
    obtain ⟨v, hq, h2⟩ := h
    exact ⟨v, hq a G w hp hag hsub hsat, h2⟩
  | (y, ky) :: A, e, a, hap, hin, h, hw, hag => by
    obtain ⟨oy, hy⟩ := hin (y, ky) List.mem_cons_self
    obtain ⟨hap0, hk2⟩ := hap (y, ky) List.mem_cons_self
    obtain ⟨ap1, ap2, ap3⟩ := apartOf_spec hy hi hap0
    have hsy : ∀ cs b, oy.op ≠ .select cs b := fun cs b => Region.noSelect_spec hsel y oy cs b hy
    have hap' : ∀ z ∈ A, apartOf ops z.1 i = true ∧ (z.2 = 0 ∨ z.2 = 3) := fun z hz => hap z (List.mem_cons_of_mem _ hz)
    have hin' : ∀ z ∈ A, ∃ oz, ops[z.1]? = some oz := fun z hz => hin z (List.mem_cons_of_mem _ hz)
    have ih := fun v (hh : WS P T n ds ops hs End (A ++ (i, 3) :: C) (upd e oy.dst v) F N) => WS.val3 hi C hsub hsat A (upd e oy.dst v) (a.put oy.dst v) hap' hin' hh (by rw [wantF_upd ap1]; exact hw) (hag.put (hdst y oy hy) v)
    simp only [eval_put hsel hi hy hap0] at ih
    have hcom : ∀ v u, upd (upd e oy.dst v) oi.dst u = upd (upd e oi.dst u) oy.dst v := fun v u => upd_comm e _ _ v u ap2
    have h := h oy hy
    have und : ∀ (a : Act) (u : Value), Agree n ds (upd e oi.dst u) a → ∃ a', Agree n ds e a' ∧ execOp a'.eval oy = execOp a.eval oy := fun a u hag => by
      obtain ⟨z, hz⟩ := hag.undo (hdst i oi hi)
      exact ⟨_, hz, execOp_put oy hsy a oi.dst z ap3⟩
    cases hwy : wantF ops e oy with
    | none => simp only [hwy] at h
    | some wb =>
      cases wb with
      | false =>
        simp only [hwy] at h
        obtain ⟨v, h1, h2⟩ := ih _ h
        refine ⟨v, h1, fun o' ho' => ?_⟩
        obtain rfl : o' = oy := Option.some.inj (ho'.symm.trans hy)
        rw [wantF_upd ap3]
        simp only [hwy]
        rw [← hcom]; exact h2
      | true =>
        simp only [hwy] at h
        rcases hk2 with hk2 | hk2 <;> simp only at hk2 <;> subst hk2
        · obtain ⟨v0, hq, h2⟩ := h
          obtain ⟨v, h3, h4⟩ := ih _ h2
          refine ⟨v, h3, fun o' ho' => ?_⟩
          obtain rfl : o' = oy := Option.some.inj (ho'.symm.trans hy)
          rw [wantF_upd ap3]
          simp only [hwy]
          refine ⟨v0, fun a w hag hin => ?_, by rw [← hcom]; exact h4⟩
          obtain ⟨a', h5, h6⟩ := und a _ hag
          rw [← h6]; exact hq a' w h5 hin
        · obtain ⟨v0, hq, h2⟩ := h
          obtain ⟨v, h3, h4⟩ := ih _ h2
          refine ⟨v, h3, fun o' ho' => ?_⟩
          obtain rfl : o' = oy := Option.some.inj (ho'.symm.trans hy)
          rw [wantF_upd ap3]
          simp only [hwy]
          refine ⟨v0, fun a G w hp hag hsub hsat => ?_, by rw [← hcom]; exact h4⟩
          obtain ⟨a', h5, h6⟩ := und a _ hag
          rw [← h6]; exact hq a' G w hp h5 hsub hsat


theorem WS.first (hT : TabOK P T) (hEnd : ∀ e F N N', List.Perm N N' → End e F N → End e F N') {i k : Nat} {oi : Oper} (hi : ops[i]? = some oi) (C : List (Nat × Nat)) (A : List (Nat × Nat)) (e : Env) (F : List Pf) (N : List HP)
    (hap : ∀ y ∈ A, apartOf ops y.1 i = true ∧ (y.2 = 0 ∨ k = 1 ∨ k = 2 ∨ (k = 0 ∧ y.2 ≠ 2) ∨ (k = 3 ∧ y.2 = 3))) (hin : ∀ y ∈ A, ∃ oy, ops[y.1]? = some oy) (h : WS P T n ds ops hs End (A ++ (i, k) :: C) e F N)
    {a : Act} {G : H} {w : World} {hp : H} (hag : Agree n ds e a) (hsub : Sub hs (un G hp)) (hsat : Sat G w hp F N w) :
    (wantF ops e oi = some false ∧ WS P T n ds ops hs End (A ++ C) (upd e oi.dst undef) F N) ∨
    (wantF ops e oi = some true ∧ OpRes P (execOp a.eval oi) w fun v w' => ∃ G' hs' F' N', Sub G G' ∧ (∀ hp1, Sub hp1 hp → Sub hs (un G hp1) → Sub hs' (un G' hp1)) ∧ Sat G' w hp F' N' w' ∧ WS P T n ds ops hs' End (A ++ C) (upd e oi.dst v) F' N') := by
  by_cases hk : k = 1
  · subst hk
    obtain ⟨wb, hwb, hal⟩ := WS.reach hdst hT hi C A _ e F N (fun y hy => (hap y hy).1) hin h ⟨a, G, w, hp, hag, hsub, hsat⟩
    cases wb with
    | true =>
      obtain ⟨obj, mk, ha⟩ := hal rfl (.inl rfl)
      refine .inr ⟨hwb, ?_⟩
      have hp2 := WS.pull hsel hdst hEnd hi C A _ e F N (fun y hy => (hap y hy).1) hin h hwb ha
      unfold OpRes
      rw [allocOf_ok hT hag ha w]
      exact ⟨G, hs, F, _, Sub.refl _, fun _ _ h => h, hsat.alloc obj, hp2 _⟩
    | false =>
      refine .inl ⟨hwb, ?_⟩
      exact WS.skip hsel hdst hi C A _ e F N (fun y hy => (hap y hy).1) hin h hwb
  by_cases hk2 : k = 2
  · subst hk2
    obtain ⟨wb, hwb, hal⟩ := WS.reach hdst hT hi C A _ e F N (fun y hy => (hap y hy).1) hin h ⟨a, G, w, hp, hag, hsub, hsat⟩
    cases wb with
    | true =>
      obtain ⟨obj, mk, ha⟩ := hal rfl (.inr rfl)
      refine .inr ⟨hwb, ?_⟩
      obtain ⟨hb, G', sG, s2, hs1⟩ := hsat.stalloc hsub obj
      have hp2 := WS.pullS hsel hdst hi C A _ e F N (fun y hy => (hap y hy).1) hin h hwb ha _ hb
      unfold OpRes
      rw [allocOf_ok hT hag ha w]
      exact ⟨G', _, F, N, sG, s2, hs1, hp2⟩
    | false =>
      refine .inl ⟨hwb, ?_⟩
      exact WS.skip hsel hdst hi C A _ e F N (fun y hy => (hap y hy).1) hin h hwb
  by_cases hk0 : k = 0
  · subst hk0
    have hap0 : (∀ y ∈ A, apartOf ops y.1 i = true ∧ y.2 ≠ 2) := fun y hy => ⟨(hap y hy).1, by
      rcases (hap y hy).2 with h | h | h | h | h
      · rw [h]; decide
      · cases h
      · cases h
      · exact h.2
      · cases h.1⟩
    obtain ⟨wb, hwb, _⟩ := WS.reach hdst hT hi C A _ e F N (fun y hy => (hap y hy).1) hin h ⟨a, G, w, hp, hag, hsub, hsat⟩
    cases wb with
    | true =>
      refine .inr ⟨hwb, ?_⟩
      obtain ⟨v, hv⟩ := WS.val0 hsel hdst hi C A e F N hap0 hin h ⟨a, G, w, hp, hag, hsub, hsat⟩ hwb a w hag (hsat.stat hsub)
      unfold OpRes
      rw [hv]
      exact ⟨G, hs, F, N, Sub.refl _, fun _ _ h => h, hsat, WS.uniq0 hsel hdst hi C (hsat.stat hsub) A e F N a hap0 hin h hwb hag hv⟩
    | false =>
      refine .inl ⟨hwb, ?_⟩
      exact WS.skip hsel hdst hi C A _ e F N (fun y hy => (hap y hy).1) hin h hwb
  by_cases hk3 : k = 3
  · subst hk3
    have hap0 : (∀ y ∈ A, apartOf ops y.1 i = true ∧ (y.2 = 0 ∨ y.2 = 3)) := fun y hy => ⟨(hap y hy).1, by
      rcases (hap y hy).2 with h | h | h | h | h
      · exact .inl h
      · cases h
      · cases h
      · cases h.1
      · exact .inr h.2⟩
    obtain ⟨wb, hwb, _⟩ := WS.reach hdst hT hi C A _ e F N (fun y hy => (hap y hy).1) hin h ⟨a, G, w, hp, hag, hsub, hsat⟩
    cases wb with
    | true =>
      refine .inr ⟨hwb, ?_⟩
      obtain ⟨v, hv, h2⟩ := WS.val3 hsel hdst hi C hsub hsat A e a hap0 hin h hwb hag
      unfold OpRes
      rw [hv]
      exact ⟨G, hs, F, N, Sub.refl _, fun _ _ h => h, hsat, h2⟩
    | false =>
      refine .inl ⟨hwb, ?_⟩
      exact WS.skip hsel hdst hi C A _ e F N (fun y hy => (hap y hy).1) hin h hwb
  have hap2 : ∀ y ∈ A, apartOf ops y.1 i = true ∧ y.2 = 0 := fun y hy => ⟨(hap y hy).1, by
    rcases (hap y hy).2 with h | h | h | h | h
    · exact h
    · exact absurd h hk
    · exact absurd h hk2
    · exact absurd h.1 hk0
    · exact absurd h.1 hk3⟩
  clear hap
  suffices hsuf : (wantF ops e oi = some false ∧ WS P T n ds ops hs End (A ++ C) (upd e oi.dst undef) F N) ∨
      (wantF ops e oi = some true ∧ OpRes P (execOp a.eval oi) w fun v w' => ∃ F' N', Sat G w hp F' N' w' ∧ WS P T n ds ops hs End (A ++ C) (upd e oi.dst v) F' N') by
    rcases hsuf with h | ⟨h1, h2⟩
    · exact .inl h
    · exact .inr ⟨h1, h2.mono fun v w' ⟨F', N', h3, h4⟩ => ⟨G, hs, F', N', Sub.refl _, fun _ _ h => h, h3, h4⟩⟩
  · induction A generalizing e a with
    | nil =>
      have h := h oi hi
      cases hw : wantF ops e oi with
      | none => simp only [hw] at h
      | some wb =>
        cases wb with
        | false => simp only [hw] at h; exact .inl ⟨rfl, h⟩
        | true =>
          simp only [hw] at h
          refine .inr ⟨rfl, ?_⟩
          match k, hk, hk2, hk0, hk3, h with
          | 0, _, _, h0, _, _ => exact absurd rfl h0
          | 1, h1, _, _, _, _ => exact absurd rfl h1
          | 2, _, h2, _, _, _ => exact absurd rfl h2
          | 3, _, _, _, h3, _ => exact absurd rfl h3
          | k + 4, _, _, _, _, h =>
            obtain ⟨post, hq, h2⟩ := h
            refine (hq a G w hp hag hsub hsat).mono fun v w' hv => ?_
            obtain ⟨x, rfl, hx, hsx⟩ := hv
            exact ⟨_, _, hsx, h2 x hx⟩
    | cons yk A ihA =>
      obtain ⟨y, ky⟩ := yk
      obtain ⟨oy, hy⟩ := hin (y, ky) List.mem_cons_self
      obtain ⟨hap0, hky⟩ := hap2 (y, ky) List.mem_cons_self
      obtain ⟨ap1, ap2, ap3⟩ := apartOf_spec hy hi hap0
      obtain rfl : ky = 0 := hky
      have hsi : ∀ cs b, oi.op ≠ .select cs b := fun cs b => Region.noSelect_spec hsel i oi cs b hi
      have hsy : ∀ cs b, oy.op ≠ .select cs b := fun cs b => Region.noSelect_spec hsel y oy cs b hy
      have hap' := fun z hz => hap2 z (List.mem_cons_of_mem (y, 0) hz)
      have hin' := fun z hz => hin z (List.mem_cons_of_mem (y, 0) hz)
      have hput := fun v => hag.put (hdst y oy hy) v
      have hcom : ∀ v u, upd (upd e oy.dst v) oi.dst u = upd (upd e oi.dst u) oy.dst v := fun v u => upd_comm e _ _ v u ap2
      have eei : ∀ v, execOp (a.put oy.dst v).eval oi = execOp a.eval oi := fun v => execOp_put oi hsi a oy.dst v ap1
      have h := h oy hy
      have ih := fun v (hh : WS P T n ds ops hs End (A ++ (i, k) :: C) (upd e oy.dst v) F N) => ihA (upd e oy.dst v) hin' hh (hput v) hap'
      simp only [wantF_upd ap1, eei] at ih
      have und : ∀ (a : Act) (u : Value), Agree n ds (upd e oi.dst u) a → ∃ a', Agree n ds e a' ∧ execOp a'.eval oy = execOp a.eval oy := fun a u hag => by
        obtain ⟨z, hz⟩ := hag.undo (hdst i oi hi)
        exact ⟨_, hz, execOp_put oy hsy a oi.dst z ap3⟩
      cases hwy : wantF ops e oy with
      | none => simp only [hwy] at h
      | some wb =>
        cases wb with
        | false =>
          simp only [hwy] at h
          have re : ∀ u F' N', WS P T n ds ops hs End (A ++ C) (upd (upd e oy.dst undef) oi.dst u) F' N' → WS P T n ds ops hs End ((y, 0) :: A ++ C) (upd e oi.dst u) F' N' := fun u F' N' hh o' ho' => by
            obtain rfl : o' = oy := Option.some.inj (ho'.symm.trans hy)
            rw [wantF_upd ap3]
            simp only [hwy]
            rw [← hcom]; exact hh
          rcases ih _ h with ⟨h1, h2⟩ | ⟨h1, h2⟩
          · exact .inl ⟨h1, re _ _ _ h2⟩
          · exact .inr ⟨h1, h2.mono fun v w' ⟨F', N', h3, h4⟩ => ⟨F', N', h3, re _ _ _ h4⟩⟩
        | true =>
          simp only [hwy] at h
          obtain ⟨v0, hq, h2⟩ := h
          have re : ∀ u F' N', WS P T n ds ops hs End (A ++ C) (upd (upd e oy.dst v0) oi.dst u) F' N' → WS P T n ds ops hs End ((y, 0) :: A ++ C) (upd e oi.dst u) F' N' := fun u F' N' hh o' ho' => by
            obtain rfl : o' = oy := Option.some.inj (ho'.symm.trans hy)
            rw [wantF_upd ap3]
            simp only [hwy]
            refine ⟨v0, fun a w hag hin => ?_, by rw [← hcom]; exact hh⟩
            obtain ⟨a', h5, h6⟩ := und a _ hag
            rw [← h6]; exact hq a' w h5 hin
          rcases ih _ h2 with ⟨h1, h2⟩ | ⟨h1, h2⟩
          · exact .inl ⟨h1, re _ _ _ h2⟩
          · exact .inr ⟨h1, h2.mono fun v w' ⟨F', N', h3, h4⟩ => ⟨F', N', h3, re _ _ _ h4⟩⟩
end

/-- What stands at the end of such a walk: the operations T, in their order. -/
def WSEnd (P : Program) (r : Option Nat) (n : Nat) (ds : List Deferred) (ops : Array Oper) (G : H) (w0 : World) (hp0 : H) (Q : Exit → Act → World → Prop) (Tl : List Nat) (e : Env) (F : List Pf) (N : List HP) : Prop :=
  ∀ a w, Agree n ds e a → Sat G w0 hp0 F N w → wpOpsIn (fz r) 0 P ops Q Tl a w

section
variable {P : Program} {r : Option Nat} {T : Tab} {n : Nat} {ds : List Deferred} {ops : Array Oper} {hs : H} {M : Array Nat} {G : H} {w0 : World} {hp0 : H}

theorem wpAny_of_WS {Q : Exit → Act → World → Prop} (hT : TabOK P T) (hdst : ∀ (i : Nat) (o : Oper), ops[i]? = some o → ∀ t, o.dst = some t → t < n) (fx : RFix ops M) (Tl : List Nat) (hTl : ∀ t ∈ Tl, t < ops.size) :
    ∀ (m : Nat) (G : H) (hs : H) (_ : Sub hs (un G hp0)) (L : List (Nat × Nat)) (e : Env) (F : List Pf) (N : List HP) (a : Act) (w : World) (listed : Array Bool),
    L.length = m → RInv ops M listed L Tl → (∀ y ∈ L, y.1 < ops.size) → Agree n ds e a → Sat G w0 hp0 F N w →
    WS P T n ds ops hs (WSEnd P r n ds ops G w0 hp0 Q Tl) L e F N → wpAnyIn (fz r) 0 P .any ops Q (L.length + Tl.length) listed a w := by
  intro m
  induction m with
  | zero =>
    intro G hs hsub L e F N a w listed hn inv hL hag hsat h
    obtain rfl := List.length_eq_zero_iff.1 hn
    rw [List.length_nil, Nat.zero_add]
    exact wpAny_tail fx Tl a w listed inv hTl (h a w hag hsat)
  | succ m ih =>
    intro G hs hsub L e F N a w listed hn inv hL hag hsat h
    match L, hn with
    | (x, kx) :: L0, hn =>
      have hxr := inv.headReady fx (x := x) (R := L0.map (·.1) ++ Tl) (by simp) (hL _ List.mem_cons_self)
      rw [List.length_cons, Nat.add_right_comm]
      refine ⟨fun h0 => (by rw [h0] at hxr; cases hxr), fun i hi => ?_⟩
      have him := (inv.mem i).1 (mem_ready.1 hi).1
      rcases List.mem_append.1 him with hm | hm
      · obtain ⟨⟨i', k⟩, hik, rfl⟩ := List.mem_map.1 hm
        obtain ⟨A, C, hAC⟩ := List.append_of_mem hik
        have hpl := inv.pl
        rw [hAC] at hpl h
        have hcond : ∀ y ∈ A, apartOf ops y.1 i' = true ∧ (y.2 = 0 ∨ k = 1 ∨ k = 2 ∨ (k = 0 ∧ y.2 ≠ 2) ∨ (k = 3 ∧ y.2 = 3)) := fun y hy => by
          have h1 := (List.pairwise_append.1 hpl).2.2 y hy (i', k) List.mem_cons_self
          have h2 := inv.notB fx hi (y := y.1) (List.mem_append_left _ (List.mem_map.2 ⟨y, by rw [hAC]; exact List.mem_append_left _ hy, rfl⟩))
          simpa [okPair, h2, or_assoc] using h1
        have hin : ∀ y ∈ A, ∃ oy, ops[y.1]? = some oy := fun y hy => by
          have := hL y (by rw [hAC]; exact List.mem_append_left _ hy)
          exact ⟨ops[y.1], by simp [this]⟩
        obtain ⟨_, oi, hoi, _⟩ := mem_ready.1 hi
        have hsubl : (A ++ C).Sublist ((x, kx) :: L0) := by rw [hAC]; exact (List.Sublist.refl A).append (List.sublist_cons_self _ _)
        have hlen : (A ++ C).length = m := by
          have := congrArg List.length hAC
          simp at this hn ⊢; omega
        have hnd := inv.topo
        have inv' : RInv ops M (listed.setIfInBounds i' true) (A ++ C) Tl := by
          refine inv.step fx hi hsubl (List.Sublist.refl _) fun j => ?_
          rw [hAC] at hnd ⊢
          simp only [List.map_append, List.map_cons, List.append_assoc, List.cons_append] at hnd ⊢
          obtain ⟨_, h2, h3⟩ := List.pairwise_append.1 hnd
          obtain ⟨h4, _⟩ := List.pairwise_cons.1 h2
          have e1 : ∀ j ∈ A.map (·.1), j ≠ i' := fun j hj e => by have := h3 j hj i' List.mem_cons_self; simp [e] at this
          have e2 : ∀ j ∈ C.map (·.1) ++ Tl, j ≠ i' := fun j hj e => by have := h4 j hj; simp [e] at this
          simp only [List.mem_append, List.mem_cons]
          constructor
          · rintro (hj | hj | hj)
            · exact ⟨.inl hj, e1 j hj⟩
            · exact ⟨.inr (.inr (.inl hj)), e2 j (List.mem_append_left _ hj)⟩
            · exact ⟨.inr (.inr (.inr hj)), e2 j (List.mem_append_right _ hj)⟩
          · rintro ⟨hj | hj | hj | hj, hne⟩
            · exact .inl hj
            · exact absurd hj hne
            · exact .inr (.inl hj)
            · exact .inr (.inr hj)
        have hL' : ∀ y ∈ A ++ C, y.1 < ops.size := fun y hy => hL y (hsubl.subset hy)
        have hEnd : ∀ (e : Env) (F : List Pf) (N N' : List HP), List.Perm N N' → WSEnd P r n ds ops G w0 hp0 Q Tl e F N → WSEnd P r n ds ops G w0 hp0 Q Tl e F N' :=
          fun e F N N' p h a w hag hs => h a w hag (hs.perm p.symm)
        obtain ⟨hpc, s1, m1, hs1⟩ := hsat.rebase
        have h1 := WS.first (P := P) fx.sel hdst hT hEnd hoi C A e F N hcond hin h hag (sub_un_mono hsub s1) hs1
        have hl0 : L0.length = (A ++ C).length := by simp at hn; omega
        rw [hl0]
        rcases h1 with ⟨hw, h2⟩ | ⟨hw, h2⟩
        · have h3 := ih G hs hsub (A ++ C) _ F N _ w _ hlen inv' hL' (hag.put (hdst i' oi hoi) undef) hsat h2
          unfold wpOpIn
          simp only [hoi]
          rw [if_neg (by rw [wantF_ok hag hw]; simp)]
          exact ⟨fun _ _ => trivial, h3⟩
        · refine wpOp_of_res hoi (fun c => noDefer_spec fx.def_ hoi c) (wantF_ok hag hw) h2 fun v w' hv => ?_
          obtain ⟨G', hs', F', N', sG, s2, h3, h4⟩ := hv
          exact ih G' hs' (s2 hp0 s1 hsub) (A ++ C) _ F' N' _ w' _ hlen inv' hL' (hag.put (hdst i' oi hoi) v) (h3.back s1 m1) (WS.mono (fun e F N hh a w hag hsat => hh a w hag (hsat.subG sG)) _ _ _ _ _ _ (Sub.refl _) h4)
      · have h1 := inv.plt (x, kx) List.mem_cons_self i hm
        rw [inv.notB fx hi (y := x) (by simp)] at h1
        cases h1

def dstsOK (n : Nat) (ops : Array Oper) : Bool := ops.all fun o => match o.dst with | some t => decide (t < n) | none => true
theorem dstsOK_spec {n : Nat} {ops : Array Oper} (h : dstsOK n ops = true) (i : Nat) (o : Oper) (ho : ops[i]? = some o) (t : Nat) (ht : o.dst = some t) : t < n := by
  have := Array.all_eq_true_iff_forall_mem.1 h o (Array.mem_of_getElem? ho)
  simpa [ht] using this

/-- A region that draws its order, walked in the order L, then Tl. -/
theorem wp_region_S {id : Nat} {Q : Exit → Act → World → Prop} {a : Act} {e : Env} {F : List Pf} {N : List HP} {w : World} (L : List (Nat × Nat)) (Tl : List Nat) (hT : TabOK P T) (hm : P.follows .mixedOrders = true) (hok : (okW ops (Region.before ops) L Tl && dstsOK n ops) = true)
    (hsub : Sub hs (un G hp0)) (hag : Agree n ds e a) (hsat : Sat G w0 hp0 F N w) (h : WS P T n ds ops hs (WSEnd P r n ds ops G w0 hp0 Q Tl) L e F N) : (Code.region id ops true).wpIn (fz r) 0 P Q a w := by
  rw [Bool.and_eq_true] at hok
  obtain ⟨hok, hds⟩ := hok
  simp only [okW, Bool.and_eq_true, decide_eq_true_eq, List.all_eq_true] at hok
  obtain ⟨⟨⟨⟨⟨⟨⟨⟨⟨⟨h0, h1⟩, h2⟩, h3⟩, h4⟩, h5⟩, h6⟩, h7⟩, h8⟩, h9⟩, h10⟩ := hok
  have h3' : ∀ m ∈ Region.before ops, m < 2 ^ ops.size := fun m hm => by simpa using Array.all_eq_true_iff_forall_mem.1 h3 m hm
  have fx := rfix_of h0 h4 h1 h2 h3'
  have hmem : ∀ i, i ∈ L.map (·.1) ++ Tl ↔ i < ops.size := fun i => ⟨fun hi => h5 i hi, fun hi => by simpa using h6 i (List.mem_range.2 hi)⟩
  have inv : RInv ops (Region.before ops) (Array.replicate ops.size false) L Tl := by
    refine ⟨by simp, fun i => ?_, fun y _ x hB => ?_, pairsAll_spec h7, pairsAll_spec h8, fun y hy t ht => h9 y hy t ht, pairsAll_spec h10⟩
    · rw [hmem]
      rcases Nat.lt_or_ge i ops.size with hi | hi
      · simp [hi]
      · simp [hi]
    · rw [hmem]
      obtain ⟨o, ho, _⟩ := fx.cl x y hB
      exact (Array.getElem?_eq_some_iff.1 ho).1
  have hlen : L.length + Tl.length = ops.size := by
    have hnd : (L.map (·.1) ++ Tl).Nodup := (pairsAll_spec h7).imp fun h => by simp at h; exact h.1
    have hp : (L.map (·.1) ++ Tl).Perm (List.range ops.size) := (List.perm_ext_iff_of_nodup hnd List.nodup_range).2 fun i => by rw [hmem, List.mem_range]
    simpa using hp.length_eq
  refine wpIn_region_any hm ?_
  have hd : Ext w { w with drawn := w.drawn + 1 } := (Below.refl _ w).drew
  have h := wpAny_of_WS (P := P) (r := r) hT (dstsOK_spec hds) fx Tl (fun t ht => h5 t (List.mem_append_right _ ht)) L.length G hs hsub L e F N a _ _ rfl inv (fun y hy => h5 _ (List.mem_append_left _ (List.mem_map_of_mem hy))) hag (hsat.ext hd) h
  rw [hlen] at h
  exact h
end
end Go.Proofs.YtijaglinajfplaaGreatDoor
