/-
  A small separation logic over worlds: facts that stay, memory that is owned, and what a call leaves.
  Conditions: none beyond those that each theorem states.
-/
import Derived.Test.YtijaglinajfplaaGreatDoorRegion
namespace Go.Proofs.YtijaglinajfplaaGreatDoor
open Go.RowKit

/-- A part of memory. -/
abbrev H := Nat → Option Obj
abbrev HP := H → Prop
def Sub (h k : H) : Prop := ∀ b o, h b = some o → k b = some o
def Dj (h k : H) : Prop := ∀ b, h b = none ∨ k b = none
def un (h k : H) : H := fun b => match h b with | some o => some o | none => k b
def In (h : H) (w : World) : Prop := ∀ b o, h b = some o → w.heap[b]? = some o
def one (b : Nat) (o : Obj) : H := fun c => if c = b then some o else none
def emp : H := fun _ => none

theorem Sub.refl (h : H) : Sub h h := fun _ _ e => e
theorem Sub.trans {a b c : H} (h : Sub a b) (k : Sub b c) : Sub a c := fun x o e => k x o (h x o e)
theorem Dj.symm {h k : H} (d : Dj h k) : Dj k h := fun b => (d b).symm
theorem Dj.sub {h k h' : H} (d : Dj h k) (s : Sub h' h) : Dj h' k := fun b => by
  rcases d b with e | e
  · left; cases hb : h' b with
    | none => rfl
    | some o => rw [s b o hb] at e; cases e
  · exact .inr e
theorem Dj.sub2 {h k h' k' : H} (d : Dj h k) (s : Sub h' h) (t : Sub k' k) : Dj h' k' := (d.sub s).symm.sub t |>.symm
theorem sub_un_left (h k : H) : Sub h (un h k) := fun b o e => by simp [un, e]
theorem sub_un_right {h k : H} (d : Dj h k) : Sub k (un h k) := fun b o e => by
  rcases d b with h1 | h1
  · simp [un, h1, e]
  · rw [h1] at e; cases e
theorem un_or {h k : H} {b : Nat} {o : Obj} (e : un h k b = some o) : h b = some o ∨ k b = some o := by
  unfold un at e
  split at e
  · rename_i x hx; exact .inl (by rw [hx]; exact e)
  · exact .inr e
theorem un_none {h k : H} {b : Nat} : un h k b = none ↔ h b = none ∧ k b = none := by
  unfold un; split <;> simp_all
theorem dj_un {h k l : H} : Dj (un h k) l ↔ Dj h l ∧ Dj k l := by
  constructor
  · intro d
    refine ⟨fun b => ?_, fun b => ?_⟩
    · rcases d b with e | e
      · exact .inl (un_none.1 e).1
      · exact .inr e
    · rcases d b with e | e
      · exact .inl (un_none.1 e).2
      · exact .inr e
  · rintro ⟨d, e⟩ b
    rcases d b with h1 | h1
    · rcases e b with h2 | h2
      · exact .inl (un_none.2 ⟨h1, h2⟩)
      · exact .inr h2
    · exact .inr h1
theorem sub_un {h k l : H} (a : Sub h l) (b : Sub k l) : Sub (un h k) l := fun x o e => (un_or e).elim (a x o) (b x o)
theorem In.sub {h k : H} {w : World} (i : In h w) (s : Sub k h) : In k w := fun b o e => i b o (s b o e)
theorem In.un {h k : H} {w : World} (i : In h w) (j : In k w) : In (un h k) w := fun b o e => (un_or e).elim (i b o) (j b o)
theorem In.ext {h : H} {w w' : World} (i : In h w) (x : Ext w w') : In h w' := fun b o e => ext_blk x (i b o e)
theorem In.lt {h : H} {w : World} (i : In h w) {b : Nat} {o : Obj} (e : h b = some o) : b < w.heap.size := (Array.getElem?_eq_some_iff.1 (i b o e)).1
theorem one_same (b : Nat) (o : Obj) : one b o b = some o := by simp [one]
theorem one_some {b c : Nat} {o p : Obj} (e : one b o c = some p) : c = b ∧ p = o := by
  unfold one at e
  split at e
  · rename_i h; exact ⟨h, (Option.some.inj e).symm⟩
  · cases e
theorem dj_one {b : Nat} {o : Obj} {h : H} (e : h b = none) : Dj (one b o) h := fun c => by
  by_cases hc : c = b
  · subst hc; exact .inr e
  · left; simp [one, hc]

/-- A fact about memory that more memory does not end. -/
structure Pf where
  p : HP
  m : ∀ h k, Sub h k → p h → p k

/-- A block that is known and will not change. -/
def Blk (b : Nat) (o : Obj) : Pf := ⟨fun h => h b = some o, fun _ _ s e => s b o e⟩
/-- A block that is owned. -/
def Pt (b : Nat) (o : Obj) : HP := fun h => h b = some o

def Sep : List HP → H → Prop
  | [], _ => True
  | r :: R, h => ∃ h1 h2, Dj h1 h2 ∧ Sub h1 h ∧ Sub h2 h ∧ r h1 ∧ Sep R h2

theorem Sep.sub : ∀ {R : List HP} {h k : H}, Sep R h → Sub h k → Sep R k
  | [], _, _, _, _ => trivial
  | _ :: _, _, _, ⟨h1, h2, d, s1, s2, hr, hs⟩, s => ⟨h1, h2, d, s1.trans s, s2.trans s, hr, hs⟩

/-- x is one of R; R' are the others. -/
inductive Sel {α : Type} (x : α) : List α → List α → Prop
  | here {R : List α} : Sel x (x :: R) R
  | there {y : α} {R R' : List α} : Sel x R R' → Sel x (y :: R) (y :: R')

theorem Sel.sep {x : HP} {R R' : List HP} (s : Sel x R R') : ∀ {h : H}, Sep R h → Sep (x :: R') h := by
  induction s with
  | here => exact fun h => h
  | there _ ih =>
    rintro h ⟨h1, h2, d, s1, s2, hy, hs⟩
    obtain ⟨k1, k2, d', t1, t2, hx, hs'⟩ := ih hs
    exact ⟨k1, un h1 k2, (dj_un.2 ⟨d.sub2 (Sub.refl _) t1, d'.symm⟩).symm, t1.trans s2, sub_un s1 (t2.trans s2), hx,
      h1, k2, d.sub2 (Sub.refl _) t2, sub_un_left _ _, sub_un_right (d.sub2 (Sub.refl _) t2), hy, hs'⟩

theorem Sel.mem {α : Type} {x : α} {R R' : List α} (s : Sel x R R') : x ∈ R := by
  induction s with
  | here => exact List.mem_cons_self
  | there _ ih => exact List.mem_cons_of_mem _ ih

/-- All of A are among R, each once; R' are the others. -/
inductive Sels {α : Type} : List α → List α → List α → Prop
  | nil {R : List α} : Sels [] R R
  | cons {x : α} {A R R1 R' : List α} : Sel x R R1 → Sels A R1 R' → Sels (x :: A) R R'

theorem sep_append : ∀ {A R : List HP} {h : H}, Sep (A ++ R) h → ∃ h1 h2, Dj h1 h2 ∧ Sub h1 h ∧ Sub h2 h ∧ Sep A h1 ∧ Sep R h2
  | [], R, h, hs => ⟨emp, h, fun _ => .inl rfl, fun _ _ e => (by cases e), Sub.refl _, trivial, hs⟩
  | x :: A, R, h, ⟨h1, h2, d, s1, s2, hx, hs⟩ => by
    obtain ⟨k1, k2, d', t1, t2, ha, hr⟩ := sep_append (A := A) hs
    exact ⟨un h1 k1, k2, dj_un.2 ⟨d.sub2 (Sub.refl _) t2, d'⟩, sub_un s1 (t1.trans s2), t2.trans s2,
      ⟨h1, k1, d.sub2 (Sub.refl _) t1, sub_un_left _ _, sub_un_right (d.sub2 (Sub.refl _) t1), hx, ha⟩, hr⟩

theorem append_sep : ∀ {A R : List HP} {h h1 h2 : H}, Dj h1 h2 → Sub h1 h → Sub h2 h → Sep A h1 → Sep R h2 → Sep (A ++ R) h
  | [], _, _, _, _, _, _, s2, _, hr => hr.sub s2
  | _ :: _, _, _, _, h2, d, s1, s2, ⟨k1, k2, d', t1, t2, hx, ha⟩, hr =>
    ⟨k1, un k2 h2, (dj_un.2 ⟨d'.symm, (d.sub t1).symm⟩).symm, t1.trans s1, sub_un (t2.trans s1) s2, hx, append_sep (d.sub t2) (sub_un_left _ _) (sub_un_right (d.sub t2)) ha hr⟩

theorem Sels.sep {A R R' : List HP} (s : Sels A R R') : ∀ {h : H}, Sep R h → Sep (A ++ R') h := by
  induction s with
  | nil => exact fun h => h
  | cons s1 _ ih =>
    intro h hs
    obtain ⟨h1, h2, d, t1, t2, hx, hr⟩ := s1.sep hs
    exact ⟨h1, h2, d, t1, t2, hx, ih hr⟩

structure Same (w w' : World) : Prop where
  os : w'.os = w.os
  tape : w'.tape = w.tape
  output : w'.output = w.output
  size : w.heap.size ≤ w'.heap.size

theorem Same.refl (w : World) : Same w w := ⟨rfl, rfl, rfl, Nat.le_refl _⟩
theorem Same.trans {a b c : World} (h : Same a b) (k : Same b c) : Same a c := ⟨k.os.trans h.os, k.tape.trans h.tape, k.output.trans h.output, Nat.le_trans h.size k.size⟩
theorem Same.of_ext {a b : World} (h : Ext a b) : Same a b := ⟨h.os, h.tape, h.output, h.size⟩

/-- What a walk keeps: the frame's memory G, the world w0 where it began, the facts hp0 that were there. -/
structure SatAt (G : H) (w0 : World) (hp0 : H) (F : List Pf) (R : List HP) (w : World) (hp hr : H) : Prop where
  inp : In hp w
  inr : In hr w
  ing : In G w
  d1 : Dj hp hr
  d2 : Dj hp G
  d3 : Dj hr G
  sub : Sub hp0 hp
  f : ∀ x ∈ F, x.p hp
  r : Sep R hr
  same : Same w0 w

def Sat (G : H) (w0 : World) (hp0 : H) (F : List Pf) (R : List HP) (w : World) : Prop := ∃ hp hr, SatAt G w0 hp0 F R w hp hr

section
variable {G : H} {w0 : World} {hp0 : H} {F F' : List Pf} {R R' : List HP} {w w' : World}

theorem Sat.ext (h : Sat G w0 hp0 F R w) (x : Ext w w') : Sat G w0 hp0 F R w' :=
  let ⟨hp, hr, s⟩ := h
  ⟨hp, hr, s.inp.ext x, s.inr.ext x, s.ing.ext x, s.d1, s.d2, s.d3, s.sub, s.f, s.r, s.same.trans (.of_ext x)⟩

theorem sat_stab : Stab (Sat G w0 hp0 F R) := fun _ _ x h => h.ext x

theorem Sat.sels {A : List HP} (h : Sat G w0 hp0 F R w) (s : Sels A R R') : Sat G w0 hp0 F (A ++ R') w :=
  let ⟨hp, hr, t⟩ := h
  ⟨hp, hr, t.inp, t.inr, t.ing, t.d1, t.d2, t.d3, t.sub, t.f, s.sep t.r, t.same⟩

theorem Sat.sel {x : HP} (h : Sat G w0 hp0 F R w) (s : Sel x R R') : Sat G w0 hp0 F (x :: R') w :=
  h.sels (.cons s .nil)

theorem Sat.facts (h : Sat G w0 hp0 F R w) (hF : ∀ hp, (∀ x ∈ F, x.p hp) → ∀ x ∈ F', x.p hp) : Sat G w0 hp0 F' R w :=
  let ⟨hp, hr, t⟩ := h
  ⟨hp, hr, t.inp, t.inr, t.ing, t.d1, t.d2, t.d3, t.sub, hF hp t.f, t.r, t.same⟩

theorem Sat.res (h : Sat G w0 hp0 F R w) (hR : ∀ k, Sep R k → Sep R' k) : Sat G w0 hp0 F R' w :=
  let ⟨hp, hr, t⟩ := h
  ⟨hp, hr, t.inp, t.inr, t.ing, t.d1, t.d2, t.d3, t.sub, t.f, hR hr t.r, t.same⟩

/-- A resource is opened. -/
theorem Sat.open' {X : Type} {x : HP} {L : X → List HP} (h : Sat G w0 hp0 F (x :: R) w) (hx : ∀ k, x k → ∃ y, Sep (L y) k) : ∃ y, Sat G w0 hp0 F (L y ++ R) w := by
  obtain ⟨hp, hr, t⟩ := h
  obtain ⟨h1, h2, d, s1, s2, hx1, hR⟩ := t.r
  obtain ⟨y, hy⟩ := hx h1 hx1
  exact ⟨y, hp, hr, t.inp, t.inr, t.ing, t.d1, t.d2, t.d3, t.sub, t.f, append_sep d s1 s2 hy hR, t.same⟩

/-- Resources are shut into one. -/
theorem Sat.shut {x : HP} {L : List HP} (h : Sat G w0 hp0 F (L ++ R) w) (hx : ∀ k, Sep L k → x k) : Sat G w0 hp0 F (x :: R) w := by
  obtain ⟨hp, hr, t⟩ := h
  obtain ⟨h1, h2, d, s1, s2, hL, hR⟩ := sep_append t.r
  exact ⟨hp, hr, t.inp, t.inr, t.ing, t.d1, t.d2, t.d3, t.sub, t.f, ⟨h1, h2, d, s1, s2, hx h1 hL, hR⟩, t.same⟩

theorem Sat.pt {b : Nat} {o : Obj} (h : Sat G w0 hp0 F R w) (s : Sel (Pt b o) R R') : w.heap[b]? = some o := by
  obtain ⟨hp, hr, t⟩ := h.sel s
  obtain ⟨h1, h2, _, s1, _, hx, _⟩ := t.r
  exact t.inr b o (s1 b o hx)

theorem Sat.blk {b : Nat} {o : Obj} (h : Sat G w0 hp0 F R w) (s : Sel (Blk b o) F F') : w.heap[b]? = some o := by
  obtain ⟨hp, hr, t⟩ := h
  exact t.inp b o (t.f _ s.mem)

/-- A new block is owned. -/
theorem Sat.alloc (h : Sat G w0 hp0 F R w) (o : Obj) : Sat G w0 hp0 F (Pt w.heap.size o :: R) (w.alloc o) := by
  obtain ⟨hp, hr, t⟩ := h
  have hx := ext_alloc w o
  have nn : ∀ {k : H}, In k w → k w.heap.size = none := fun {k} i => by
    cases e : k w.heap.size with
    | none => rfl
    | some x => exact absurd (i.lt e) (Nat.lt_irrefl _)
  have d0 : Dj (one w.heap.size o) hr := dj_one (nn t.inr)
  refine ⟨hp, un (one w.heap.size o) hr, t.inp.ext hx, In.un (fun b x e => ?_) (t.inr.ext hx), t.ing.ext hx, (dj_un.2 ⟨dj_one (nn t.inp), t.d1.symm⟩).symm, t.d2,
    dj_un.2 ⟨dj_one (nn t.ing), t.d3⟩, t.sub, t.f, ⟨one w.heap.size o, hr, d0, sub_un_left _ _, sub_un_right d0, one_same _ _, t.r⟩, t.same.trans (.of_ext hx)⟩
  obtain ⟨rfl, rfl⟩ := one_some e
  exact heap_alloc_new w x

/-- An owned block changes. -/
theorem Sat.write {b : Nat} {o o' : Obj} (h : Sat G w0 hp0 F (Pt b o :: R) w) (hs : Same w w') (hb : w'.heap[b]? = some o') (hk : ∀ c, c ≠ b → c < w.heap.size → w'.heap[c]? = w.heap[c]?) :
    Sat G w0 hp0 F (Pt b o' :: R) w' := by
  obtain ⟨hp, hr, t⟩ := h
  obtain ⟨h1, h2, d, s1, s2, hx, hR⟩ := t.r
  have hrb : hr b = some o := s1 b o hx
  have h2b : h2 b = none := by
    rcases d b with e | e
    · rw [show h1 b = some o from hx] at e; cases e
    · exact e
  have keep : ∀ {k : H}, In k w → k b = none → In k w' := fun {k} i e c x hc => by
    have hne : c ≠ b := fun e' => by rw [e', e] at hc; cases hc
    rw [hk c hne (i.lt hc)]; exact i c x hc
  have hpb : hp b = none := by
    rcases t.d1 b with e | e
    · exact e
    · rw [hrb] at e; cases e
  have hgb : G b = none := by
    rcases t.d3 b with e | e
    · rw [hrb] at e; cases e
    · exact e
  have d0 : Dj (one b o') h2 := dj_one h2b
  refine ⟨hp, un (one b o') h2, keep t.inp hpb, In.un (fun c x e => ?_) (keep (t.inr.sub s2) h2b), keep t.ing hgb, (dj_un.2 ⟨dj_one hpb, (t.d1.symm.sub s2)⟩).symm, t.d2,
    dj_un.2 ⟨dj_one hgb, t.d3.sub s2⟩, t.sub, t.f, ⟨one b o', h2, d0, sub_un_left _ _, sub_un_right d0, one_same _ _, hR⟩, t.same.trans hs⟩
  obtain ⟨rfl, rfl⟩ := one_some e
  exact hb

/-- An owned block becomes a fact. -/
theorem Sat.freeze {b : Nat} {o : Obj} (h : Sat G w0 hp0 F (Pt b o :: R) w) : Sat G w0 hp0 (Blk b o :: F) R w := by
  obtain ⟨hp, hr, t⟩ := h
  obtain ⟨h1, h2, d, s1, s2, hx, hR⟩ := t.r
  have hrb : hr b = some o := s1 b o hx
  have so : Sub (one b o) hr := fun c p e => by obtain ⟨rfl, rfl⟩ := one_some e; exact hrb
  have h2b : h2 b = none := by
    rcases d b with e | e
    · rw [show h1 b = some o from hx] at e; cases e
    · exact e
  have hpb : hp b = none := by
    rcases t.d1 b with e | e
    · exact e
    · rw [hrb] at e; cases e
  have s3 : Sub hp (un hp (one b o)) := sub_un_left _ _
  refine ⟨un hp (one b o), h2, In.un t.inp (t.inr.sub so), t.inr.sub s2, t.ing, dj_un.2 ⟨(t.d1.symm.sub s2).symm, dj_one h2b⟩, dj_un.2 ⟨t.d2, t.d3.sub so⟩, t.d3.sub s2, t.sub.trans s3,
    fun x hx => ?_, hR, t.same⟩
  rcases List.mem_cons.1 hx with e | e
  · subst e; exact sub_un_right (dj_one hpb).symm b o (one_same b o)
  · exact x.m _ _ s3 (t.f x e)
end

/-- What a call leaves: a result, facts, owned memory, for some x. -/
structure Post where
  X : Type
  val : X → Value
  pure : X → Prop
  F : X → List Pf
  R : X → List HP

def Post.holds (post : Post) (G : H) (w0 : World) (hp0 : H) (e : Ending) (w' : World) : Prop :=
  ∃ x, e = .returned (post.val x) ∧ post.pure x ∧ Sat G w0 hp0 (post.F x) (post.R x) w'

/-- The function f, called with args where F holds and R is owned, leaves post. -/
def Spec (P : Program) (f : FuncId) (args : Array Value) (F : List Pf) (R : List HP) (post : Post) : Prop :=
  ∀ G w hp, Sat G w hp F R w → Calls P f args w (post.holds G w hp)

/-- What is not handed over is kept. -/
theorem sat_frame {F1 F : List Pf} {A R R' : List HP} {G : H} {w0 w : World} {hp0 : H} (hs : Sat G w0 hp0 F R w) (sel : Sels A R R') (hF : ∀ hp, (∀ x ∈ F, x.p hp) → ∀ x ∈ F1, x.p hp) :
    ∃ G' hp, Sat G' w hp F1 A w ∧ ∀ (F2 : List Pf) (R2 : List HP) (w' : World), Sat G' w hp F2 R2 w' → Sat G w0 hp0 (F2 ++ F) (R2 ++ R') w' := by
  obtain ⟨hp, hr, t⟩ := hs.sels sel
  obtain ⟨h1, h2, d, s1, s2, hA, hR⟩ := sep_append t.r
  refine ⟨un G h2, hp, ⟨hp, h1, t.inp, t.inr.sub s1, In.un t.ing (t.inr.sub s2), (t.d1.symm.sub s1).symm, (dj_un.2 ⟨t.d2.symm, (t.d1.symm.sub s2)⟩).symm,
    (dj_un.2 ⟨(t.d3.sub s1).symm, d.symm⟩).symm, Sub.refl _, hF hp t.f, hA, Same.refl _⟩, ?_⟩
  rintro F2 R2 w' ⟨hp', hr', t'⟩
  obtain ⟨dg, dr⟩ := dj_un.1 t'.d3.symm
  obtain ⟨dpg, dpr⟩ := dj_un.1 t'.d2.symm
  have dhr : Dj hr' h2 := dr.symm
  refine ⟨hp', un hr' h2, t'.inp, In.un t'.inr (t'.ing.sub (sub_un_right (t.d3.sub s2).symm)), t'.ing.sub (sub_un_left _ _), (dj_un.2 ⟨t'.d1.symm, dpr⟩).symm, dpg.symm,
    dj_un.2 ⟨dg.symm, t.d3.sub s2⟩, t.sub.trans t'.sub, fun y hy => ?_, append_sep dhr (sub_un_left _ _) (sub_un_right dhr) t'.r hR, t.same.trans t'.same⟩
  rcases List.mem_append.1 hy with e | e
  · exact t'.f y e
  · exact y.m _ _ t'.sub (t.f y e)

theorem sat_call {P : Program} {f : FuncId} {args : Array Value} {F1 F : List Pf} {A R R' : List HP} {post : Post} {G : H} {w0 w : World} {hp0 : H} (h : Spec P f args F1 A post)
    (hs : Sat G w0 hp0 F R w) (sel : Sels A R R') (hF : ∀ hp, (∀ x ∈ F, x.p hp) → ∀ x ∈ F1, x.p hp) {K : Ending → World → Prop}
    (k : ∀ x w', post.pure x → Sat G w0 hp0 (post.F x ++ F) (post.R x ++ R') w' → K (.returned (post.val x)) w') : Calls P f args w K := by
  obtain ⟨hp, hr, t⟩ := hs.sels sel
  obtain ⟨h1, h2, d, s1, s2, hA, hR⟩ := sep_append t.r
  have pre : Sat (un G h2) w hp F1 A w := ⟨hp, h1, t.inp, t.inr.sub s1, In.un t.ing (t.inr.sub s2), (t.d1.symm.sub s1).symm, (dj_un.2 ⟨t.d2.symm, (t.d1.symm.sub s2)⟩).symm,
    (dj_un.2 ⟨(t.d3.sub s1).symm, d.symm⟩).symm, Sub.refl _, hF hp t.f, hA, Same.refl _⟩
  refine (h _ w hp pre).mono ?_
  rintro e w' ⟨x, rfl, hx, hp', hr', t'⟩
  obtain ⟨dg, dr⟩ := dj_un.1 t'.d3.symm
  obtain ⟨dpg, dpr⟩ := dj_un.1 t'.d2.symm
  have dhr : Dj hr' h2 := dr.symm
  refine k x w' hx ⟨hp', un hr' h2, t'.inp, In.un t'.inr (t'.ing.sub (sub_un_right (t.d3.sub s2).symm)), t'.ing.sub (sub_un_left _ _), (dj_un.2 ⟨t'.d1.symm, dpr⟩).symm, dpg.symm,
    dj_un.2 ⟨dg.symm, t.d3.sub s2⟩, t.sub.trans t'.sub, fun y hy => ?_, append_sep dhr (sub_un_left _ _) (sub_un_right dhr) t'.r hR, t.same.trans t'.same⟩
  rcases List.mem_append.1 hy with e | e
  · exact t'.f y e
  · exact y.m _ _ t'.sub (t.f y e)
end Go.Proofs.YtijaglinajfplaaGreatDoor
