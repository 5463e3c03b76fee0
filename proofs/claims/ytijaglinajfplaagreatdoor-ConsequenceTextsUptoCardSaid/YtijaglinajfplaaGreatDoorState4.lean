/-
  Contracts of the package state: the nodes in order, Kind.
  Conditions: those that each theorem states.
-/
import Derived.Test.YtijaglinajfplaaGreatDoorState3
set_option maxRecDepth 10000
namespace Go.Proofs.YtijaglinajfplaaGreatDoor
open Go.RowKit

/-- A node: its block, its name, its value. -/
abbrev El := Nat × Nm × ByteArray
def elv (e : El) : Value := .pointer (some ⟨e.1, 0, none⟩)

/-- A tree with the blocks of its nodes. -/
inductive AT where
  | nil
  | node (b : Nat) (l : AT) (a : Nm) (v : ByteArray) (r : AT)
namespace AT
def ptr : AT → Option Addr
  | nil => none
  | node b _ _ _ _ => some ⟨b, 0, none⟩
def tr : AT → Tr
  | nil => .nil
  | node _ l a v r => .node l.tr a v r.tr
def els : AT → List El
  | nil => []
  | node b l a v r => l.els ++ (b, a, v) :: r.els
def P : AT → H → Prop
  | nil, _ => True
  | node b l a v r, h => h b = some (ndc l.ptr r.ptr a v (Tr.node l.tr a v r.tr).ht (Tr.node l.tr a v r.tr).sz (Tr.node l.tr a v r.tr).by_) ∧ l.P h ∧ r.P h
theorem mono : ∀ (t : AT) (h k : H), Sub h k → t.P h → t.P k
  | nil, _, _, _, _ => trivial
  | node _ l _ _ r, h, k, s, ⟨h1, h2, h3⟩ => ⟨s _ _ h1, mono l h k s h2, mono r h k s h3⟩
theorem tr_els : ∀ t : AT, t.tr.els = t.els.map (·.2)
  | nil => rfl
  | node _ l a v r => by simp [tr, els, Tr.els, tr_els l, tr_els r]
theorem of_tr : ∀ (t : Tr) (p : Option Addr) (h : H), TrP p t h → ∃ x : AT, x.tr = t ∧ p = x.ptr ∧ x.P h
  | .nil, p, h, hh => ⟨nil, rfl, hh, trivial⟩
  | .node l a v r, p, h, ⟨b, pl, pr, h1, h2, h3, h4⟩ => by
    obtain ⟨xl, rfl, rfl, ql⟩ := of_tr l pl h h3
    obtain ⟨xr, rfl, rfl, qr⟩ := of_tr r pr h h4
    exact ⟨node b xl a v xr, rfl, h1, h2, ql, qr⟩
theorem nd : ∀ (t : AT) (h : H), t.P h → ∀ e ∈ t.els, (Nd (some ⟨e.1, 0, none⟩) e.2.1 e.2.2).p h
  | nil, _, _, e, he => by cases he
  | node b l a v r, h, ⟨h1, h2, h3⟩, e, he => by
    rcases List.mem_append.1 he with he | he
    · exact nd l h h2 e he
    · rcases List.mem_cons.1 he with rfl | he
      · exact ⟨b, _, _, _, _, _, rfl, h1⟩
      · exact nd r h h3 e he
end AT
def AtF (t : AT) : Pf := ⟨t.P, t.mono⟩

def EPost {α : Type} (I Ix : List α → HP) (ys xs : List α) : Post := ⟨Option (List α), fun r => .bool r.isNone, fun r => ∀ q, r = some q → q <+: xs, fun _ => [], fun r => [match r with | none => I ys | some q => Ix q]⟩

set_option maxHeartbeats 1000000 in
theorem each_ok (v : Value) (Y : Pf) (I Ix : List El → HP) (xs : List El) (hy : ∀ pre e, pre ++ [e] <+: xs → SpecV v [elv e] [Y] [I pre] (YPost I Ix pre e)) : ∀ (t : AT) (pre : List El), pre ++ t.els <+: xs →
    Enters 240 ∧ Spec Tryz.prog 240 #[.pointer t.ptr, v] [Y, AtF t] [I pre] (EPost I Ix (pre ++ t.els) xs) := by
  intro t
  induction t with
  | nil =>
    intro pre hpre
    refine ⟨enters_of Tryz.func240 (by kernel_rfl) rfl, spec_of (vs := [_, _]) Tryz.func240 rfl Tryz.ntmps240 rfl fun G w hp => ?_⟩
    repeat' (first | refine l_run ?_ | refine l_nil ?_ | refine l_one ?_ | refine k_reg ?_ | refine l_ld ?_ | refine l_ldF ?_ | refine l_st ?_ | refine l_al (fun b => ?_) | refine l_bs (fun b => ?_) | refine k_condT ?_ | refine k_condF ?_ | refine k_brk ?_ | refine l_split (fun hc => ?_) (fun hc => ?_) | refine k_cond (fun hc => ?_) (fun hc => ?_))
    simp only [AT.els, List.append_nil]
    exact k_ret none rfl (fun q hq => by cases hq)
  | node b l a u r ihl ihr =>
    intro pre hpre
    have e0 : pre ++ (AT.node b l a u r).els = pre ++ l.els ++ [(b, a, u)] ++ r.els := by simp [AT.els]
    rw [e0] at hpre ⊢
    have p1 : pre ++ l.els <+: xs := List.IsPrefix.trans ⟨[(b, a, u)] ++ r.els, by simp⟩ hpre
    have p2 : pre ++ l.els ++ [(b, a, u)] <+: xs := List.IsPrefix.trans ⟨r.els, by simp⟩ hpre
    have hl := ihl pre p1
    have hr := ihr (pre ++ l.els ++ [(b, a, u)]) hpre
    have hyy := hy (pre ++ l.els) (b, a, u) p2
    refine ⟨enters_of Tryz.func240 (by kernel_rfl) rfl, spec_of (vs := [_, _]) Tryz.func240 rfl Tryz.ntmps240 rfl fun G w hp => ?_⟩
    refine k_fact (X := Unit) (Fx := fun _ => [Blk b (ndc l.ptr r.ptr a u (Tr.node l.tr a u r.tr).ht (Tr.node l.tr a u r.tr).sz (Tr.node l.tr a u r.tr).by_), AtF l, AtF r]) (p := fun _ => True) (f := AtF (.node b l a u r)) (.there .here) (fun h ⟨h1, h2, h3⟩ => ⟨(), trivial, fun f hf => by
      simp only [List.mem_cons, List.not_mem_nil, or_false] at hf
      rcases hf with rfl | rfl | rfl
      · exact h1
      · exact h2
      · exact h3⟩) (fun _ _ => ?_)
    repeat' (first | refine l_run ?_ | refine l_nil ?_ | refine l_one ?_ | refine k_reg ?_ | refine l_ld ?_ | refine l_ldF ?_ | refine l_st ?_ | refine l_al (fun b => ?_) | refine l_bs (fun b => ?_) | refine k_condT ?_ | refine k_condF ?_ | refine k_brk ?_ | refine l_split (fun hc => ?_) (fun hc => ?_) | refine k_cond (fun hc => ?_) (fun hc => ?_))
    refine l_call hl (fun q hq => ?_)
    cases q with
    | some q =>
      repeat' (first | refine l_run ?_ | refine l_nil ?_ | refine l_one ?_ | refine k_reg ?_ | refine l_ld ?_ | refine l_ldF ?_ | refine l_st ?_ | refine l_al (fun b => ?_) | refine l_bs (fun b => ?_) | refine k_condT ?_ | refine k_condF ?_ | refine k_brk ?_ | refine l_split (fun hc => ?_) (fun hc => ?_) | refine k_cond (fun hc => ?_) (fun hc => ?_))
      exact k_ret (some q) rfl hq
    | none =>
      repeat' (first | refine l_run ?_ | refine l_nil ?_ | refine l_one ?_ | refine k_reg ?_ | refine l_ld ?_ | refine l_ldF ?_ | refine l_st ?_ | refine l_al (fun b => ?_) | refine l_bs (fun b => ?_) | refine k_condT ?_ | refine k_condF ?_ | refine k_brk ?_ | refine l_split (fun hc => ?_) (fun hc => ?_) | refine k_cond (fun hc => ?_) (fun hc => ?_))
      refine l_callV hyy (fun bb _ => ?_)
      cases bb with
      | false =>
        repeat' (first | refine l_run ?_ | refine l_nil ?_ | refine l_one ?_ | refine k_reg ?_ | refine l_ld ?_ | refine l_ldF ?_ | refine l_st ?_ | refine l_al (fun b => ?_) | refine l_bs (fun b => ?_) | refine k_condT ?_ | refine k_condF ?_ | refine k_brk ?_ | refine l_split (fun hc => ?_) (fun hc => ?_) | refine k_cond (fun hc => ?_) (fun hc => ?_))
        exact k_ret (some (pre ++ l.els ++ [(b, a, u)])) rfl (fun q hq => by cases hq; exact p2)
      | true =>
        repeat' (first | refine l_run ?_ | refine l_nil ?_ | refine l_one ?_ | refine k_reg ?_ | refine l_ld ?_ | refine l_ldF ?_ | refine l_st ?_ | refine l_al (fun b => ?_) | refine l_bs (fun b => ?_) | refine k_condT ?_ | refine k_condF ?_ | refine k_brk ?_ | refine l_split (fun hc => ?_) (fun hc => ?_) | refine k_cond (fun hc => ?_) (fun hc => ?_))
        refine l_call hr (fun q hq => ?_)
        repeat' (first | refine l_run ?_ | refine l_nil ?_ | refine l_one ?_ | refine k_reg ?_ | refine l_ld ?_ | refine l_ldF ?_ | refine l_st ?_ | refine l_al (fun b => ?_) | refine l_bs (fun b => ?_) | refine k_condT ?_ | refine k_condF ?_ | refine k_brk ?_ | refine l_split (fun hc => ?_) (fun hc => ?_) | refine k_cond (fun hc => ?_) (fun hc => ?_))
        exact k_ret q rfl hq

theorem nodes_ok (ps : Option Addr) : Enters 190 ∧ Spec Tryz.prog 190 #[.pointer ps] [] []
    ⟨Nat, fun b => .func (.func 239) #[] #[.pointer (some ⟨b, 0, none⟩)], fun _ => True, fun b => [Blk b (.cells #[.pointer ps] 97)], fun _ => []⟩ := by
  refine ⟨enters_of Tryz.func190 (by kernel_rfl) rfl, spec_of (vs := [_]) Tryz.func190 rfl Tryz.ntmps190 rfl fun G w hp => ?_⟩
  repeat' (first | refine l_run ?_ | refine l_nil ?_ | refine l_one ?_ | refine k_reg ?_ | refine l_ld ?_ | refine l_ldF ?_ | refine l_st ?_ | refine l_al (fun b => ?_) | refine l_bs (fun b => ?_) | refine k_condT ?_ | refine k_condF ?_ | refine k_brk ?_ | refine l_split (fun hc => ?_) (fun hc => ?_) | refine k_cond (fun hc => ?_) (fun hc => ?_))
  refine k_fz ?_
  exact k_ret b rfl trivial

theorem nodes1_iter (b bs : Nat) (t : AT) : Iter 239 [.pointer (some ⟨b, 0, none⟩)] elv t.els [Blk b (.cells #[.pointer (some ⟨bs, 0, none⟩)] 97), Blk bs (.cells #[.pointer t.ptr] 211), AtF t] [] := by
  intro v Y I Ix hy
  have he := each_ok v Y I Ix t.els hy t [] (by simp)
  refine ⟨enters_of Tryz.func239 (by kernel_rfl) rfl, spec_of (vs := [_, _]) Tryz.func239 rfl Tryz.ntmps239 rfl fun G w hp => ?_⟩
  repeat' (first | refine l_run ?_ | refine l_nil ?_ | refine l_one ?_ | refine k_reg ?_ | refine l_ld ?_ | refine l_ldF ?_ | refine l_st ?_ | refine l_al (fun b => ?_) | refine l_bs (fun b => ?_) | refine k_condT ?_ | refine k_condF ?_ | refine k_brk ?_ | refine l_call (he) (fun _ _ => ?_) | refine l_call0 (he) (fun _ _ => ?_) | refine l_split (fun hc => ?_) (fun hc => ?_) | refine k_cond (fun hc => ?_) (fun hc => ?_))
  rename_i r hr
  cases r with
  | none => exact k_end none rfl (fun q hq => by cases hq)
  | some q => exact k_end (some q) rfl (fun q' hq => by cases hq; exact hr q rfl)

/-- The cells of a name. -/
def nmf (a : Nm) : List Value := [.int .i64 a.kind, .string a.owner, .int .i64 a.number, .int .i64 a.index, .string a.text]
/-- The names of a kind. -/
def kn (es : Al) (k : Int) : List Nm := (es.filter fun x => x.1.kind == k).map (·.1)
def kne (l : List El) (k : Int) : List Nm := (l.filter fun x => x.2.1.kind == k).map (·.2.1)
theorem kne_eq (t : AT) (k : Int) : kne t.els k = kn t.tr.els k := by
  rw [AT.tr_els, kn, kne, List.filter_map, List.map_map]; rfl

abbrev JKL (bk b5 : Nat) (k : Int) (pre : List El) (q : Option Addr × Nat) : List HP := [Pt bk (.cells #[.int .i64 k] 3), Pt b5 (.cells #[.slice q.1 (kne pre k).length q.2] 148), Row 70 5 q.1 (kne pre k).length q.2 ((kne pre k).flatMap nmf)]
def JK (bk b5 : Nat) (k : Int) (pre : List El) : HP := fun h => ∃ q, True ∧ Sep (JKL bk b5 k pre q) h

set_option maxHeartbeats 1000000 in
theorem kind_ok (ps : Option Addr) (es : Al) (k : Int) : Enters 128 ∧ Spec Tryz.prog 128 #[.pointer ps, .int .i64 k] [St ps es] []
    ⟨Option Addr × Nat, fun q => .slice q.1 (kn es k).length q.2, fun _ => True, fun q => [Sl 70 nmf q.1 q.2 (kn es k)], fun _ => []⟩ := by
  refine ⟨enters_of Tryz.func128 (by kernel_rfl) rfl, spec_ofM (vs := [_, _]) Tryz.func128 rfl Tryz.ntmps128 rfl fun G w hp => ?_⟩
  refine k_st (ps := ps) (es := es) (fun bs p t hp he hok => ?_)
  subst hp
  refine k_fact (X := AT) (Fx := fun x => [AtF x]) (p := fun x => x.tr = t ∧ p = x.ptr) (f := TrF p t) (.there .here) (fun h hh => let ⟨x, h1, h2, h3⟩ := AT.of_tr t p h hh; ⟨x, ⟨h1, h2⟩, fun f hf => by simp at hf; subst hf; exact h3⟩) (fun x hx => ?_)
  obtain ⟨rfl, rfl⟩ := hx
  have hlen : x.els.length ≤ 65536 := by
    have := hok.len
    rw [← he, AT.tr_els] at this
    simpa using this
  repeat' (first | refine l_run ?_ | refine l_nil ?_ | refine l_one ?_ | refine k_reg ?_ | refine l_ld ?_ | refine l_ldF ?_ | refine l_st ?_ | refine l_al (fun b => ?_) | refine l_bs (fun b => ?_) | refine k_condT ?_ | refine k_condF ?_ | refine k_brk ?_ | refine r_run ?_ | refine r_one ?_ | refine r_ld ?_ | refine r_ldF ?_ | refine r_ldN ?_ | refine r_al (fun b => ?_) | refine r_bs (fun b => ?_) | refine r_st ?_ | refine r_end ?_ | refine l_call (nodes_ok _) (fun _ _ => ?_) | refine l_call0 (nodes_ok _) (fun _ _ => ?_) | refine r_call (nodes_ok _) (fun _ _ => ?_) | refine l_split (fun hc => ?_) (fun hc => ?_) | refine r_split (fun hc => ?_) (fun hc => ?_) | refine k_draw 4 [] [(0, 0), (1, 0), (2, 0), (3, 0), (4, 0), (5, 0), (6, 0)] [] ?_ | refine k_draw 5 [] [(0, 0), (1, 0), (2, 0), (3, 0), (4, 0), (5, 1), (6, 4)] [7] ?_ | refine k_cond (fun hc => ?_) (fun hc => ?_))
  rename_i bk q _
  generalize b = b5
  refine k_shut (Lx := []) (r := Row 70 5 none 0 0 []) (fun h _ => row_nil _ _ h) ?_
  refine k_shut (Lx := JKL bk b5 k [] (none, 0)) (r := JK bk b5 k []) (fun h hh => ⟨(none, 0), trivial, hh⟩) ?_
  refine k_range (α := El) (enc := elv) (xs := x.els) (JK bk b5 k) (fun _ _ => False) (nodes1_iter q bs x) ?_ ?_ ?_
  · intro lr l pre e hpre G w0 hp0
    have hple := hpre.length_le
    simp only [List.length_append, List.length_singleton] at hple
    have hkl : (kne pre k).length ≤ pre.length := by simp only [kne, List.length_map]; exact List.length_filter_le ..
    refine k_open (X := Option Addr × Nat) (Lx := fun q => JKL bk b5 k pre q) (p := fun _ => True) (r := JK bk b5 k pre) (.there .here) (fun h hh => hh) (fun q _ => ?_)
    refine k_mk (F1 := [AtF x]) (f := Nd (some ⟨e.1, 0, none⟩) e.2.1 e.2.2) (fun hp hF => x.nd hp (hF (AtF x) (by simp)) e (hpre.subset (by simp))) ?_
    refine k_nd (p := some ⟨e.1, 0, none⟩) (a := e.2.1) (v := e.2.2) (fun bm pl' pr' y0 y1 y2 hp => ?_)
    obtain ⟨eb, ea, ev⟩ := e
    dsimp only at hp ⊢
    obtain rfl : eb = bm := by injection hp with hp; injection hp
    repeat' (first | refine l_run ?_ | refine l_nil ?_ | refine l_one ?_ | refine k_reg ?_ | refine l_ld ?_ | refine l_ldF ?_ | refine l_st ?_ | refine l_al (fun b => ?_) | refine l_bs (fun b => ?_) | refine k_condT ?_ | refine k_condF ?_ | refine k_brk ?_ | refine r_run ?_ | refine r_one ?_ | refine r_ld ?_ | refine r_ldF ?_ | refine r_ldN ?_ | refine r_al (fun b => ?_) | refine r_bs (fun b => ?_) | refine r_st ?_ | refine r_end ?_ | refine k_beg ?_ | refine r_app1 (fun o' cap' => ?_) | refine l_split (fun hc => ?_) (fun hc => ?_) | refine r_split (fun hc => ?_) (fun hc => ?_) | refine k_draw 4 [] [(0, 0), (1, 0), (2, 0), (3, 0), (4, 0), (5, 0), (6, 0)] [] ?_ | refine k_draw 5 [Row _ _ _ _ _ _] [(0, 0), (1, 0), (2, 0), (3, 0), (4, 0), (5, 1), (6, 4)] [7] ?_ | refine k_cond (fun hc => ?_) (fun hc => ?_))
    · have hkk : ea.kind = k := by simpa using hc
      have e1 : kne (pre ++ [(eb, ea, ev)]) k = kne pre k ++ [ea] := by simp [kne, hkk]
      have e2 : (kne pre k).length + 1 = (kne (pre ++ [(eb, ea, ev)]) k).length := by rw [e1]; simp
      have e3 : (kne pre k).flatMap nmf ++ #[Value.int .i64 ea.kind, .string ea.owner, .int .i64 ea.number, .int .i64 ea.index, .string ea.text].toList = (kne (pre ++ [(eb, ea, ev)]) k).flatMap nmf := by rw [e1]; simp [nmf]
      rw [e2, e3]
      refine k_shut (Lx := JKL bk b5 k (pre ++ [(eb, ea, ev)]) (o', cap')) (r := JK bk b5 k (pre ++ [(eb, ea, ev)])) (fun h hh => ⟨(o', cap'), trivial, hh⟩) ?_
      exact k_rn
    · have hkk : ea.kind ≠ k := by simpa using hc
      have e1 : kne (pre ++ [(eb, ea, ev)]) k = kne pre k := by simp [kne, hkk]
      refine k_shut (Lx := JKL bk b5 k pre q) (r := JK bk b5 k (pre ++ [(eb, ea, ev)])) (fun h hh => ⟨q, trivial, by rw [JKL, e1]; exact hh⟩) ?_
      exact k_rn
  · intro D
    refine k_open (X := Option Addr × Nat) (Lx := fun q => JKL bk b5 k x.els q) (p := fun _ => True) (r := JK bk b5 k x.els) .here (fun h hh => hh) (fun q _ => ?_)
    dsimp only [JKL]
    rw [kne_eq, he]
    repeat' (first | refine l_run ?_ | refine l_nil ?_ | refine l_one ?_ | refine k_reg ?_ | refine l_ld ?_ | refine l_ldF ?_ | refine l_st ?_ | refine l_al (fun b => ?_) | refine l_bs (fun b => ?_) | refine k_condT ?_ | refine k_condF ?_ | refine k_brk ?_ | refine r_run ?_ | refine r_one ?_ | refine r_ld ?_ | refine r_ldF ?_ | refine r_ldN ?_ | refine r_al (fun b => ?_) | refine r_bs (fun b => ?_) | refine r_st ?_ | refine r_end ?_ | refine l_split (fun hc => ?_) (fun hc => ?_) | refine r_split (fun hc => ?_) (fun hc => ?_) | refine k_draw 4 [] [(0, 0), (1, 0), (2, 0), (3, 0), (4, 0), (5, 0), (6, 0)] [] ?_ | refine k_draw 5 [] [(0, 0), (1, 0), (2, 0), (3, 0), (4, 0), (5, 1), (6, 4)] [7] ?_ | refine k_cond (fun hc => ?_) (fun hc => ?_))
    refine k_frz (sz := 5) (f := nmf) (o := q.1) (cap := q.2) (kn es k) ?_ rfl rfl
    exact k_retM q rfl trivial
  · intro D pre hpre
    exact w_open (X := Empty) (Lx := fun _ => []) (p := fun _ => False) .here (fun h hh => hh.elim) (fun q hq => hq.elim)
end Go.Proofs.YtijaglinajfplaaGreatDoor
