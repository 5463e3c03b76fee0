/-
  Contracts of the package state: with, find.
  Conditions: those that each theorem states.
-/
import Derived.Test.YtijaglinajfplaaGreatDoorState
set_option maxRecDepth 10000
namespace Go.Proofs.YtijaglinajfplaaGreatDoor
open Go.RowKit

theorem sz_bal (l : Tr) (a : Nm) (v : ByteArray) (r : Tr) : (Tr.bal l a v r).sz = 1 + l.sz + r.sz := by
  rw [Tr.sz_els, Tr.els_bal, Tr.sz_els l, Tr.sz_els r]; simp; omega
theorem by_bal (l : Tr) (a : Nm) (v : ByteArray) (r : Tr) : (Tr.bal l a v r).by_ = v.size + l.by_ + r.by_ := by
  rw [Tr.by_els, Tr.els_bal, Tr.by_els l, Tr.by_els r]; simp [Tr.ab]; omega
theorem sz_put (a : Nm) (v : ByteArray) : ∀ t : Tr, (Tr.put a v t).sz ≤ t.sz + 1
  | .nil => by simp [Tr.put, Tr.sz]
  | .node l b u r => by
    have := sz_put a v l
    have := sz_put a v r
    unfold Tr.put
    split
    · rw [sz_bal]; simp only [Tr.sz]; omega
    · split
      · rw [sz_bal]; simp only [Tr.sz]; omega
      · simp only [Tr.sz]; omega
theorem by_put (a : Nm) (v : ByteArray) : ∀ t : Tr, (Tr.put a v t).by_ ≤ t.by_ + v.size
  | .nil => by simp [Tr.put, Tr.by_]
  | .node l b u r => by
    have := by_put a v l
    have := by_put a v r
    unfold Tr.put
    split
    · rw [by_bal]; simp only [Tr.by_]; omega
    · split
      · rw [by_bal]; simp only [Tr.by_]; omega
      · simp only [Tr.by_]; omega

/-- A tree whose numbers are not too great. -/
structure Okt (t : Tr) : Prop where
  s : t.sz ≤ 1000000
  b : t.by_ ≤ 1000000000000
  o : ∀ x ∈ t.els, x.1.owner.size ≤ 1099511627770
theorem Okt.l {l r : Tr} {b : Nm} {u : ByteArray} (h : Okt (.node l b u r)) : Okt l := by
  have h1 := h.s
  have h2 := h.b
  simp only [Tr.sz] at h1
  simp only [Tr.by_] at h2
  exact ⟨by omega, by omega, fun x hx => h.o x (by simp [Tr.els, hx])⟩
theorem Okt.r {l r : Tr} {b : Nm} {u : ByteArray} (h : Okt (.node l b u r)) : Okt r := by
  have h1 := h.s
  have h2 := h.b
  simp only [Tr.sz] at h1
  simp only [Tr.by_] at h2
  exact ⟨by omega, by omega, fun x hx => h.o x (by simp [Tr.els, hx])⟩
theorem Okt.m {l r : Tr} {b : Nm} {u : ByteArray} (h : Okt (.node l b u r)) : b.owner.size ≤ 1099511627770 := h.o (b, u) (by simp [Tr.els])

section
variable {n : Nat} {C : Cx} {Q : Exit → Act → World → Prop} {E E' : List (Nat × Value)} {F F0 : List Pf} {R R0 : List HP} {k : List Fr}
theorem l_nd {ops l : List Oper} {p : Option Addr} {a : Nm} {v : ByteArray} (t : ∀ b pl pr x y z, p = some ⟨b, 0, none⟩ → Wl n C ops.toArray k Q l E (Blk b (ndc pl pr a v x y z) :: F) R) (hs : Sel (Nd p a v) F F0 := by (repeat (first | exact Sel.here | apply Sel.there)); first | done | fail) : Wl n C ops.toArray k Q l E F R :=
  l_fact (X := Nat × Option Addr × Option Addr × Int × Int × Int) (Fx := fun x => [Blk x.1 (ndc x.2.1 x.2.2.1 a v x.2.2.2.1 x.2.2.2.2.1 x.2.2.2.2.2)]) (p := fun x => p = some ⟨x.1, 0, none⟩) (f := Nd p a v) hs (fun h ⟨b, pl, pr, x, y, z, h1, h2⟩ => ⟨(b, pl, pr, x, y, z), h1, fun f hf => by simp at hf; subst hf; exact h2⟩) (fun x hp => t x.1 x.2.1 x.2.2.1 x.2.2.2.1 x.2.2.2.2.1 x.2.2.2.2.2 hp)
theorem k_nd {p : Option Addr} {a : Nm} {v : ByteArray} (t : ∀ b pl pr x y z, p = some ⟨b, 0, none⟩ → Wk n C k Q E (Blk b (ndc pl pr a v x y z) :: F) R) (hs : Sel (Nd p a v) F F0 := by (repeat (first | exact Sel.here | apply Sel.there)); first | done | fail) : Wk n C k Q E F R :=
  k_fact (X := Nat × Option Addr × Option Addr × Int × Int × Int) (Fx := fun x => [Blk x.1 (ndc x.2.1 x.2.2.1 a v x.2.2.2.1 x.2.2.2.2.1 x.2.2.2.2.2)]) (p := fun x => p = some ⟨x.1, 0, none⟩) (f := Nd p a v) hs (fun h ⟨b, pl, pr, x, y, z, h1, h2⟩ => ⟨(b, pl, pr, x, y, z), h1, fun f hf => by simp at hf; subst hf; exact h2⟩) (fun x hp => t x.1 x.2.1 x.2.2.1 x.2.2.2.1 x.2.2.2.2.1 x.2.2.2.2.2 hp)
end

def PtrPost (t : Tr) : Post := ⟨Nat, fun b => .pointer (some ⟨b, 0, none⟩), fun _ => True, fun b => [TrF (some ⟨b, 0, none⟩) t], fun _ => []⟩

set_option maxHeartbeats 1000000 in
theorem with_ok (a : Nm) (v : ByteArray) (pm : Option Addr) (ha : a.owner.size ≤ 1099511627770) (hv : v.size ≤ 1000000) : ∀ (t : Tr) (p : Option Addr), Okt t → Enters 133 ∧ Spec Tryz.prog 133 #[.pointer p, .pointer pm] [TrF p t, Nd pm a v] [] (PtrPost (Tr.put a v t)) := by
  intro t
  induction t with
  | nil =>
    intro p hok
    refine ⟨enters_of Tryz.func133 (by kernel_rfl) rfl, spec_of (vs := [_, _]) Tryz.func133 rfl Tryz.ntmps133 rfl fun G w hp => ?_⟩
    refine k_trn fun hp => ?_
    subst hp
    refine k_add (f := TrF none .nil) (fun _ => rfl) ?_
    repeat' (first | refine l_run ?_ | refine l_nil ?_ | refine l_one ?_ | refine k_reg ?_ | refine l_ld ?_ | refine l_ldF ?_ | refine l_st ?_ | refine l_al (fun b => ?_) | refine l_bs (fun b => ?_) | refine k_condT ?_ | refine k_condF ?_ | refine k_brk ?_ | refine r_run ?_ | refine r_one ?_ | refine r_ld ?_ | refine r_ldF ?_ | refine r_ldN ?_ | refine r_al (fun b => ?_) | refine r_bs (fun b => ?_) | refine r_st ?_ | refine r_end ?_ | refine l_call (join_ok none pm none .nil .nil a v (by simp [Tr.sz]) (by simp [Tr.by_]; omega)) (fun _ _ => ?_) | refine l_call0 (join_ok none pm none .nil .nil a v (by simp [Tr.sz]) (by simp [Tr.by_]; omega)) (fun _ _ => ?_) | refine r_call (join_ok none pm none .nil .nil a v (by simp [Tr.sz]) (by simp [Tr.by_]; omega)) (fun _ _ => ?_) | (refine l_split (fun hc => ?_) (fun hc => ?_) <;> (try simp at hc)) | (refine r_split (fun hc => ?_) (fun hc => ?_) <;> (try simp at hc)) | refine k_draw 3 [] [(0, 0), (1, 0), (2, 0), (3, 0), (4, 0), (5, 0), (6, 0), (7, 0), (8, 4), (9, 0)] [] ?_ | refine k_draw 5 [] [(0, 0), (1, 0), (2, 0), (3, 0), (4, 0), (6, 0), (7, 0), (8, 0), (9, 0), (10, 0), (5, 4), (11, 4), (12, 0)] [] ?_ | refine k_draw 7 [] [(0, 0), (1, 0), (2, 0), (3, 0), (4, 0), (5, 0), (6, 0), (7, 0), (8, 0), (9, 0), (10, 4), (11, 4), (12, 0)] [] ?_ | refine k_draw 8 [] [(0, 0), (1, 0), (2, 0), (3, 0), (4, 0), (5, 0), (6, 0), (7, 0), (8, 0), (9, 4), (10, 0)] [] ?_ | (refine k_cond (fun hc => ?_) (fun hc => ?_) <;> (try simp at hc)))
    rename_i q _
    exact k_ret q rfl trivial
  | node l b u r ihl ihr =>
    intro p hok
    have hl := ihl
    have h1 := hok.s
    have h2 := hok.b
    simp only [Tr.sz] at h1
    simp only [Tr.by_] at h2
    have s1 := sz_put a v l
    have s2 := sz_put a v r
    have b1 := by_put a v l
    have b2 := by_put a v r
    refine ⟨enters_of Tryz.func133 (by kernel_rfl) rfl, spec_of (vs := [_, _]) Tryz.func133 rfl Tryz.ntmps133 rfl fun G w hp => ?_⟩
    refine k_tr (p := p) (l := l) (r := r) (a := b) (v := u) (fun bb pl pr hp => ?_)
    subst hp
    refine k_nd (p := pm) (a := a) (v := v) (fun bm pl' pr' x y z hp => ?_)
    subst hp
    generalize hput : Tr.put a v (.node l b u r) = t
    unfold Tr.put at hput
    repeat' (first | refine l_run ?_ | refine l_nil ?_ | refine l_one ?_ | refine k_reg ?_ | refine l_ld ?_ | refine l_ldF ?_ | refine l_st ?_ | refine l_al (fun b => ?_) | refine l_bs (fun b => ?_) | refine k_condT ?_ | refine k_condF ?_ | refine k_brk ?_ | refine r_run ?_ | refine r_one ?_ | refine r_ld ?_ | refine r_ldF ?_ | refine r_ldN ?_ | refine r_al (fun b => ?_) | refine r_bs (fun b => ?_) | refine r_st ?_ | refine r_end ?_ | refine l_call (compareO_ok a b ha hok.m) (fun _ _ => ?_) | refine l_call0 (compareO_ok a b ha hok.m) (fun _ _ => ?_) | refine r_call (compareO_ok a b ha hok.m) (fun _ _ => ?_) | refine l_call (ihl pl hok.l) (fun _ _ => ?_) | refine l_call0 (ihl pl hok.l) (fun _ _ => ?_) | refine r_call (ihl pl hok.l) (fun _ _ => ?_) | refine l_call (ihr pr hok.r) (fun _ _ => ?_) | refine l_call0 (ihr pr hok.r) (fun _ _ => ?_) | refine r_call (ihr pr hok.r) (fun _ _ => ?_) | refine l_call (balance_ok _ _ pr (Tr.put a v l) r b u (by omega) (by omega)) (fun _ _ => ?_) | refine l_call0 (balance_ok _ _ pr (Tr.put a v l) r b u (by omega) (by omega)) (fun _ _ => ?_) | refine r_call (balance_ok _ _ pr (Tr.put a v l) r b u (by omega) (by omega)) (fun _ _ => ?_) | refine l_call (balance_ok pl _ _ l (Tr.put a v r) b u (by omega) (by omega)) (fun _ _ => ?_) | refine l_call0 (balance_ok pl _ _ l (Tr.put a v r) b u (by omega) (by omega)) (fun _ _ => ?_) | refine r_call (balance_ok pl _ _ l (Tr.put a v r) b u (by omega) (by omega)) (fun _ _ => ?_) | refine l_call (join_ok pl _ pr l r a v (by omega) (by omega)) (fun _ _ => ?_) | refine l_call0 (join_ok pl _ pr l r a v (by omega) (by omega)) (fun _ _ => ?_) | refine r_call (join_ok pl _ pr l r a v (by omega) (by omega)) (fun _ _ => ?_) | (refine l_split (fun hc => ?_) (fun hc => ?_) <;> (try simp at hc)) | (refine r_split (fun hc => ?_) (fun hc => ?_) <;> (try simp at hc)) | refine k_draw 3 [] [(0, 0), (1, 0), (2, 0), (3, 0), (4, 0), (5, 0), (6, 0), (7, 0), (8, 4), (9, 0)] [] ?_ | refine k_draw 5 [] [(0, 0), (1, 0), (2, 0), (3, 0), (4, 0), (6, 0), (7, 0), (8, 0), (9, 0), (10, 0), (5, 4), (11, 4), (12, 0)] [] ?_ | refine k_draw 7 [] [(0, 0), (1, 0), (2, 0), (3, 0), (4, 0), (5, 0), (6, 0), (7, 0), (8, 0), (9, 0), (10, 4), (11, 4), (12, 0)] [] ?_ | refine k_draw 8 [] [(0, 0), (1, 0), (2, 0), (3, 0), (4, 0), (5, 0), (6, 0), (7, 0), (8, 0), (9, 4), (10, 0)] [] ?_ | (refine k_cond (fun hc => ?_) (fun hc => ?_) <;> (try simp at hc)))
    all_goals rename_i q _
    · rw [if_pos hc] at hput
      subst hput
      exact k_ret q rfl trivial
    · rw [if_neg (by omega), if_pos hc] at hput
      subst hput
      exact k_ret q rfl trivial
    · rw [if_neg (by omega), if_neg (by omega)] at hput
      subst hput
      exact k_ret q rfl trivial

/-- What find hands back. -/
def FdF (q : Option Addr) (r : Option ByteArray) : Pf :=
  match r with
  | none => ⟨fun _ => q = none, fun _ _ _ h => h⟩
  | some v => ⟨fun h => ∃ a, (Nd q a v).p h, fun _ _ s ⟨a, h⟩ => ⟨a, (Nd q a v).m _ _ s h⟩⟩

structure FX (a : Nm) (t : Tr) where
  q : Option Addr
  s : Tr
  h1 : Tr.find a t = Tr.find a s
  h2 : Okt s

set_option maxHeartbeats 1000000 in
theorem find_ok (a : Nm) (ha : a.owner.size ≤ 1099511627770) (t : Tr) (p : Option Addr) (ht : Okt t) : Enters 132 ∧ Spec Tryz.prog 132 #[.pointer p, a.v] [TrF p t] [] ⟨Option Addr, fun q => .pointer q, fun _ => True, fun q => [FdF q (Tr.find a t)], fun _ => []⟩ := by
  refine ⟨enters_of Tryz.func132 (by kernel_rfl) rfl, spec_of (vs := [_, _]) Tryz.func132 rfl Tryz.ntmps132 rfl fun G w hp => ?_⟩
  repeat' (first | refine l_run ?_ | refine l_nil ?_ | refine l_one ?_ | refine k_reg ?_ | refine l_ld ?_ | refine l_ldF ?_ | refine l_st ?_ | refine l_al (fun b => ?_) | refine l_bs (fun b => ?_) | refine k_condT ?_ | refine k_condF ?_ | refine k_brk ?_ | refine r_run ?_ | refine r_one ?_ | refine r_ld ?_ | refine r_ldF ?_ | refine r_ldN ?_ | refine r_al (fun b => ?_) | refine r_bs (fun b => ?_) | refine r_st ?_ | refine r_end ?_ | refine l_split (fun hc => ?_) (fun hc => ?_) | refine r_split (fun hc => ?_) (fun hc => ?_) | refine k_draw 2 [] [(0, 0), (1, 0), (2, 0), (3, 0), (4, 0), (5, 4), (6, 0)] [] ?_ | refine k_cond (fun hc => ?_) (fun hc => ?_))
  refine k_lp (X := FX a t) (fun x => [(0, .pointer x.q), (3, .pointer (some ⟨b, 0, none⟩))]) (fun x => [TrF x.q x.s]) (fun _ => [Pt b (.cells #[.int .i64 a.kind, .string a.owner, .int .i64 a.number, .int .i64 a.index, .string a.text] 70)]) (fun x => x.s.sz) ⟨p, t, rfl, ht⟩ ⟨rfl, rfl, trivial⟩ ?_
  rintro ⟨q, s, h1, h2⟩
  dsimp only
  cases s with
  | nil =>
    refine k_trn fun hp => ?_
    subst hp
    rw [Tr.find] at h1
    repeat' (first | refine l_run ?_ | refine l_nil ?_ | refine l_one ?_ | refine k_reg ?_ | refine l_ld ?_ | refine l_ldF ?_ | refine l_st ?_ | refine l_al (fun b => ?_) | refine l_bs (fun b => ?_) | refine k_condT ?_ | refine k_condF ?_ | refine k_brk ?_ | refine r_run ?_ | refine r_one ?_ | refine r_ld ?_ | refine r_ldF ?_ | refine r_ldN ?_ | refine r_al (fun b => ?_) | refine r_bs (fun b => ?_) | refine r_st ?_ | refine r_end ?_ | refine l_split (fun hc => ?_) (fun hc => ?_) | refine r_split (fun hc => ?_) (fun hc => ?_) | refine k_draw 2 [] [(0, 0), (1, 0), (2, 0), (3, 0), (4, 0), (5, 4), (6, 0)] [] ?_ | refine k_cond (fun hc => ?_) (fun hc => ?_))
    rw [h1]
    refine k_mk (F1 := []) (f := FdF none none) (fun _ _ => rfl) ?_
    exact k_ret none rfl trivial
  | node l c u r =>
    refine k_tr (p := q) (l := l) (r := r) (a := c) (v := u) (fun bb pl pr hp => ?_)
    subst hp
    rw [Tr.find] at h1
    repeat' (first | refine l_run ?_ | refine l_nil ?_ | refine l_one ?_ | refine k_reg ?_ | refine l_ld ?_ | refine l_ldF ?_ | refine l_st ?_ | refine l_al (fun b => ?_) | refine l_bs (fun b => ?_) | refine k_condT ?_ | refine k_condF ?_ | refine k_brk ?_ | refine r_run ?_ | refine r_one ?_ | refine r_ld ?_ | refine r_ldF ?_ | refine r_ldN ?_ | refine r_al (fun b => ?_) | refine r_bs (fun b => ?_) | refine r_st ?_ | refine r_end ?_ | refine l_call (compareO_ok a c ha h2.m) (fun _ _ => ?_) | refine l_call0 (compareO_ok a c ha h2.m) (fun _ _ => ?_) | refine r_call (compareO_ok a c ha h2.m) (fun _ _ => ?_) | (refine l_split (fun hc => ?_) (fun hc => ?_) <;> (try simp at hc)) | (refine r_split (fun hc => ?_) (fun hc => ?_) <;> (try simp at hc)) | refine k_draw 2 [] [(0, 0), (1, 0), (2, 0), (3, 0), (4, 0), (5, 4), (6, 0)] [] ?_ | (refine k_cond (fun hc => ?_) (fun hc => ?_) <;> (try simp at hc)))
    · rw [if_pos hc] at h1
      refine k_mk (F1 := [Nd (some ⟨bb, 0, none⟩) c u]) (f := FdF (some ⟨bb, 0, none⟩) (Tr.find a t)) (fun hp hF => by rw [h1]; exact ⟨c, hF _ (by simp)⟩) ?_
      exact k_rt (w_lq (w_ret (some ⟨bb, 0, none⟩) rfl trivial))
    · rw [if_neg (by omega), if_pos hc] at h1
      exact k_next ⟨pl, l, h1, h2.l⟩ (by simp only [Tr.sz]; omega) ⟨rfl, rfl, trivial⟩
    · rw [if_neg (by omega), if_neg (by omega)] at h1
      exact k_next ⟨pr, r, h1, h2.r⟩ (by simp only [Tr.sz]; omega) ⟨rfl, rfl, trivial⟩

/-- A state in memory: its tree. -/
def StF (ps : Option Addr) (t : Tr) : Pf := ⟨fun h => ∃ b p, ps = some ⟨b, 0, none⟩ ∧ h b = some (.cells #[.pointer p] 211) ∧ TrP p t h, fun h k s ⟨b, p, h1, h2, h3⟩ => ⟨b, p, h1, s _ _ h2, trP_mono t p h k s h3⟩⟩

structure StOK (es : Al) : Prop where
  srt : Srt es
  len : es.length ≤ 65536
  own : ∀ x ∈ es, x.1.owner.size ≤ 1099511627770
  val : ∀ x ∈ es, x.2.size ≤ 65536
/-- A state in memory: its names and values, in order. -/
def St (ps : Option Addr) (es : Al) : Pf := ⟨fun h => ∃ t : Tr, t.els = es ∧ StOK es ∧ (StF ps t).p h, fun _ _ s ⟨t, h1, h2, h3⟩ => ⟨t, h1, h2, (StF ps t).m _ _ s h3⟩⟩

theorem ab_le {m : Nat} : ∀ {l : Al}, (∀ x ∈ l, x.2.size ≤ m) → Tr.ab l ≤ l.length * m
  | [], _ => by simp [Tr.ab]
  | x :: l, h => by
    have h1 := ab_le (l := l) fun y hy => h y (List.mem_cons_of_mem _ hy)
    have h2 := h x (by simp)
    simp only [Tr.ab, List.map_cons, List.sum_cons, List.length_cons] at h1 ⊢
    rw [Nat.succ_mul]; omega
theorem StOK.okt {t : Tr} (h : StOK t.els) : Okt t := by
  have h1 := ab_le h.val
  have h2 := h.len
  refine ⟨by rw [Tr.sz_els]; omega, ?_, h.own⟩
  rw [Tr.by_els]
  have : t.els.length * 65536 ≤ 65536 * 65536 := Nat.mul_le_mul_right _ h2
  omega

section
variable {n : Nat} {C : Cx} {Q : Exit → Act → World → Prop} {E E' : List (Nat × Value)} {F F0 : List Pf} {R R0 : List HP} {k : List Fr}
theorem k_st {ps : Option Addr} {es : Al} (t : ∀ b p (t : Tr), ps = some ⟨b, 0, none⟩ → t.els = es → StOK es → Wk n C k Q E (Blk b (.cells #[.pointer p] 211) :: TrF p t :: F) R) (hs : Sel (St ps es) F F0 := by (repeat (first | exact Sel.here | apply Sel.there)); first | done | fail) : Wk n C k Q E F R :=
  k_fact (X := Nat × Option Addr × Tr) (Fx := fun x => [Blk x.1 (.cells #[.pointer x.2.1] 211), TrF x.2.1 x.2.2]) (p := fun x => ps = some ⟨x.1, 0, none⟩ ∧ x.2.2.els = es ∧ StOK es) (f := St ps es) hs
    (fun h ⟨t, h1, h2, b, p, h3, h4, h5⟩ => ⟨(b, p, t), ⟨h3, h1, h2⟩, fun f hf => by
      simp only [List.mem_cons, List.not_mem_nil, or_false] at hf
      rcases hf with rfl | rfl
      · exact h4
      · exact h5⟩) (fun x hp => t x.1 x.2.1 x.2.2 hp.1 hp.2.1 hp.2.2)
end

theorem stateNew_ok : Enters 69 ∧ Spec Tryz.prog 69 #[] [] [] ⟨Nat, fun b => .pointer (some ⟨b, 0, none⟩), fun _ => True, fun b => [St (some ⟨b, 0, none⟩) []], fun _ => []⟩ := by
  refine ⟨enters_of Tryz.func69 (by kernel_rfl) rfl, spec_of (vs := []) Tryz.func69 rfl Tryz.ntmps69 rfl fun G w hp => ?_⟩
  repeat' (first | refine l_run ?_ | refine l_nil ?_ | refine l_one ?_ | refine k_reg ?_ | refine l_ld ?_ | refine l_ldF ?_ | refine l_st ?_ | refine l_al (fun b => ?_) | refine l_bs (fun b => ?_) | refine k_condT ?_ | refine k_condF ?_ | refine k_brk ?_ | refine l_split (fun hc => ?_) (fun hc => ?_) | refine k_cond (fun hc => ?_) (fun hc => ?_))
  refine k_fz ?_
  refine k_mk (F1 := [Blk b (.cells #[.pointer none] 211)]) (f := St (some ⟨b, 0, none⟩) []) (fun hp hF => ⟨.nil, rfl, ⟨List.Pairwise.nil, by simp, by simp, by simp⟩, b, none, rfl, hF (Blk b (.cells #[.pointer none] 211)) (by simp), rfl⟩) ?_
  exact k_ret b rfl trivial

theorem stateLen_ok (ps : Option Addr) (es : Al) : Enters 131 ∧ Spec Tryz.prog 131 #[.pointer ps] [St ps es] [] (RetV (.int .i64 (es.length : Int))) := by
  refine ⟨enters_of Tryz.func131 (by kernel_rfl) rfl, spec_of (vs := [_]) Tryz.func131 rfl Tryz.ntmps131 rfl fun G w hp => ?_⟩
  refine k_st (ps := ps) (es := es) (fun b p t hp he hok => ?_)
  subst hp
  subst he
  rw [← Tr.sz_els]
  repeat' (first | refine l_run ?_ | refine l_nil ?_ | refine l_one ?_ | refine k_reg ?_ | refine l_ld ?_ | refine l_ldF ?_ | refine l_st ?_ | refine l_al (fun b => ?_) | refine l_bs (fun b => ?_) | refine k_condT ?_ | refine k_condF ?_ | refine k_brk ?_ | refine l_call (sizeOf_ok p t) (fun _ _ => ?_) | refine l_call0 (sizeOf_ok p t) (fun _ _ => ?_) | refine l_split (fun hc => ?_) (fun hc => ?_) | refine k_cond (fun hc => ?_) (fun hc => ?_))
  exact k_ret () rfl trivial

theorem stateGet_ok (ps : Option Addr) (es : Al) (a : Nm) (ha : a.owner.size ≤ 1099511627770) : Enters 129 ∧ Spec Tryz.prog 129 #[.pointer ps, a.v] [St ps es] [] (RetV (.tuple #[.string ((getO a es).getD ⟨#[]⟩), .bool (getO a es).isSome])) := by
  refine ⟨enters_of Tryz.func129 (by kernel_rfl) rfl, spec_of (vs := [_, _]) Tryz.func129 rfl Tryz.ntmps129 rfl fun G w hp => ?_⟩
  refine k_st (ps := ps) (es := es) (fun b p t hp he hok => ?_)
  subst hp
  subst he
  rw [← find_els a t hok.srt]
  have hf := find_ok a ha t p hok.okt
  cases hfd : Tr.find a t with
  | none =>
    rw [hfd] at hf
    repeat' (first | refine l_run ?_ | refine l_nil ?_ | refine l_one ?_ | refine k_reg ?_ | refine l_ld ?_ | refine l_ldF ?_ | refine l_st ?_ | refine l_al (fun b => ?_) | refine l_bs (fun b => ?_) | refine k_condT ?_ | refine k_condF ?_ | refine k_brk ?_ | refine r_run ?_ | refine r_one ?_ | refine r_ld ?_ | refine r_ldF ?_ | refine r_ldN ?_ | refine r_al (fun b => ?_) | refine r_bs (fun b => ?_) | refine r_st ?_ | refine r_end ?_ | refine l_call (hf) (fun _ _ => ?_) | refine l_call0 (hf) (fun _ _ => ?_) | refine r_call (hf) (fun _ _ => ?_) | refine l_split (fun hc => ?_) (fun hc => ?_) | refine r_split (fun hc => ?_) (fun hc => ?_) | refine k_draw 3 [] [(0, 0), (1, 0), (2, 0), (3, 0), (4, 0), (5, 4), (6, 0)] [] ?_)
    rename_i q _
    refine l_fact (X := Unit) (Fx := fun _ => []) (p := fun _ => q = none) (f := FdF q none) .here (fun h hh => ⟨(), hh, fun _ hx => by cases hx⟩) (fun _ hp => ?_)
    subst hp
    repeat' (first | refine l_run ?_ | refine l_nil ?_ | refine l_one ?_ | refine k_reg ?_ | refine l_ld ?_ | refine l_ldF ?_ | refine l_st ?_ | refine l_al (fun b => ?_) | refine l_bs (fun b => ?_) | refine k_condT ?_ | refine k_condF ?_ | refine k_brk ?_ | refine r_run ?_ | refine r_one ?_ | refine r_ld ?_ | refine r_ldF ?_ | refine r_ldN ?_ | refine r_al (fun b => ?_) | refine r_bs (fun b => ?_) | refine r_st ?_ | refine r_end ?_ | refine l_split (fun hc => ?_) (fun hc => ?_) | refine r_split (fun hc => ?_) (fun hc => ?_) | refine k_draw 3 [] [(0, 0), (1, 0), (2, 0), (3, 0), (4, 0), (5, 4), (6, 0)] [] ?_ | refine k_cond (fun hc => ?_) (fun hc => ?_))
    exact k_ret () rfl trivial
  | some v =>
    rw [hfd] at hf
    repeat' (first | refine l_run ?_ | refine l_nil ?_ | refine l_one ?_ | refine k_reg ?_ | refine l_ld ?_ | refine l_ldF ?_ | refine l_st ?_ | refine l_al (fun b => ?_) | refine l_bs (fun b => ?_) | refine k_condT ?_ | refine k_condF ?_ | refine k_brk ?_ | refine r_run ?_ | refine r_one ?_ | refine r_ld ?_ | refine r_ldF ?_ | refine r_ldN ?_ | refine r_al (fun b => ?_) | refine r_bs (fun b => ?_) | refine r_st ?_ | refine r_end ?_ | refine l_call (hf) (fun _ _ => ?_) | refine l_call0 (hf) (fun _ _ => ?_) | refine r_call (hf) (fun _ _ => ?_) | refine l_split (fun hc => ?_) (fun hc => ?_) | refine r_split (fun hc => ?_) (fun hc => ?_) | refine k_draw 3 [] [(0, 0), (1, 0), (2, 0), (3, 0), (4, 0), (5, 4), (6, 0)] [] ?_)
    rename_i q _
    refine l_fact (X := Nm) (Fx := fun a => [Nd q a v]) (p := fun _ => True) (f := FdF q (some v)) .here (fun h ⟨a, hh⟩ => ⟨a, trivial, fun f hf => by simp at hf; subst hf; exact hh⟩) (fun a' _ => ?_)
    refine l_nd (p := q) (a := a') (v := v) (fun bm pl' pr' x y z hp => ?_)
    subst hp
    repeat' (first | refine l_run ?_ | refine l_nil ?_ | refine l_one ?_ | refine k_reg ?_ | refine l_ld ?_ | refine l_ldF ?_ | refine l_st ?_ | refine l_al (fun b => ?_) | refine l_bs (fun b => ?_) | refine k_condT ?_ | refine k_condF ?_ | refine k_brk ?_ | refine r_run ?_ | refine r_one ?_ | refine r_ld ?_ | refine r_ldF ?_ | refine r_ldN ?_ | refine r_al (fun b => ?_) | refine r_bs (fun b => ?_) | refine r_st ?_ | refine r_end ?_ | refine l_split (fun hc => ?_) (fun hc => ?_) | refine r_split (fun hc => ?_) (fun hc => ?_) | refine k_draw 3 [] [(0, 0), (1, 0), (2, 0), (3, 0), (4, 0), (5, 4), (6, 0)] [] ?_ | refine k_cond (fun hc => ?_) (fun hc => ?_))
    exact k_ret () rfl trivial
end Go.Proofs.YtijaglinajfplaaGreatDoor
