/-
  Contracts of the package state: the search tree.
  Conditions: those that each theorem states.
-/
import Derived.Test.YtijaglinajfplaaGreatDoorObj2
set_option maxRecDepth 10000
namespace Go.Proofs.YtijaglinajfplaaGreatDoor
open Go.RowKit

section
variable {n : Nat} {C : Cx} {Q : Exit → Act → World → Prop} {E E' : List (Nat × Value)} {F F1 : List Pf} {R R0 : List HP} {k : List Fr} {ops l : List Oper}
/-- A fact that follows from others. -/
theorem k_mk {f : Pf} (h : ∀ hp, (∀ x ∈ F1, x.p hp) → f.p hp) (t : Wk n C k Q E (f :: F) R) (hF : EntF F F1 := by (repeat (first | exact trivial | exact Sel.here | apply Sel.there | apply EntF.cons)); first | done | fail) : Wk n C k Q E F R :=
  fun a w ha ⟨hp, _, st⟩ => t a w ha (add_fact st (h hp (hF.all hp st.f)))
theorem l_mk {f : Pf} (h : ∀ hp, (∀ x ∈ F1, x.p hp) → f.p hp) (t : Wl n C ops.toArray k Q l E (f :: F) R) (hF : EntF F F1 := by (repeat (first | exact trivial | exact Sel.here | apply Sel.there | apply EntF.cons)); first | done | fail) : Wl n C ops.toArray k Q l E F R :=
  fun a w ha ⟨hp, _, st⟩ => t a w ha (add_fact st (h hp (hF.all hp st.f)))
end

/-- The cells of a node. -/
abbrev ndc (pl pr : Option Addr) (a : Nm) (v : ByteArray) (h s b : Int) : Obj := .cells #[.pointer pl, .pointer pr, .int .i64 a.kind, .string a.owner, .int .i64 a.number, .int .i64 a.index, .string a.text, .string v, .int .i64 h, .int .i64 s, .int .i64 b] 215

def TrP : Option Addr → Tr → H → Prop
  | p, .nil, _ => p = none
  | p, .node l a v r, h => ∃ b pl pr, p = some ⟨b, 0, none⟩ ∧ h b = some (ndc pl pr a v (Tr.node l a v r).ht (Tr.node l a v r).sz (Tr.node l a v r).by_) ∧ TrP pl l h ∧ TrP pr r h
theorem trP_mono : ∀ (t : Tr) (p : Option Addr) (h k : H), Sub h k → TrP p t h → TrP p t k
  | .nil, _, _, _, _, hh => hh
  | .node l _ _ r, _, h, k, s, ⟨b, pl, pr, h1, h2, h3, h4⟩ => ⟨b, pl, pr, h1, s _ _ h2, trP_mono l pl h k s h3, trP_mono r pr h k s h4⟩
/-- A tree in memory. -/
def TrF (p : Option Addr) (t : Tr) : Pf := ⟨TrP p t, trP_mono t p⟩
/-- A node with a name and a value. -/
def Nd (p : Option Addr) (a : Nm) (v : ByteArray) : Pf := ⟨fun h => ∃ b pl pr x y z, p = some ⟨b, 0, none⟩ ∧ h b = some (ndc pl pr a v x y z), fun _ _ s ⟨b, pl, pr, x, y, z, h1, h2⟩ => ⟨b, pl, pr, x, y, z, h1, s _ _ h2⟩⟩

theorem heightOf_ok (p : Option Addr) (t : Tr) : Enters 241 ∧ Spec Tryz.prog 241 #[.pointer p] [TrF p t] [] (RetV (.int .i64 (t.ht : Int))) := by
  refine ⟨enters_of Tryz.func241 (by kernel_rfl) rfl, spec_of (vs := [_]) Tryz.func241 rfl Tryz.ntmps241 rfl fun G w hp => ?_⟩
  cases t with
  | nil =>
    refine k_fact (X := Unit) (Fx := fun _ => []) (p := fun _ => p = none) (f := TrF p .nil) .here (fun h hh => ⟨(), hh, fun _ hx => by cases hx⟩) (fun _ hp => ?_)
    subst hp
    repeat' (first | refine l_run ?_ | refine l_nil ?_ | refine l_one ?_ | refine k_reg ?_ | refine l_ld ?_ | refine l_ldF ?_ | refine l_st ?_ | refine l_al (fun b => ?_) | refine l_bs (fun b => ?_) | refine k_condT ?_ | refine k_condF ?_ | refine k_brk ?_ | refine l_split (fun hc => ?_) (fun hc => ?_) | refine k_cond (fun hc => ?_) (fun hc => ?_))
    exact k_ret () rfl trivial
  | node l a v r =>
    refine k_fact (X := Nat × Option Addr × Option Addr) (Fx := fun x => [Blk x.1 (ndc x.2.1 x.2.2 a v (Tr.node l a v r).ht (Tr.node l a v r).sz (Tr.node l a v r).by_)]) (p := fun x => p = some ⟨x.1, 0, none⟩) (f := TrF p (.node l a v r)) .here (fun h ⟨b, pl, pr, h1, h2, _, _⟩ => ⟨(b, pl, pr), h1, fun f hf => by simp at hf; subst hf; exact h2⟩) (fun x hp => ?_)
    subst hp
    repeat' (first | refine l_run ?_ | refine l_nil ?_ | refine l_one ?_ | refine k_reg ?_ | refine l_ld ?_ | refine l_ldF ?_ | refine l_st ?_ | refine l_al (fun b => ?_) | refine l_bs (fun b => ?_) | refine k_condT ?_ | refine k_condF ?_ | refine k_brk ?_ | refine l_split (fun hc => ?_) (fun hc => ?_) | refine k_cond (fun hc => ?_) (fun hc => ?_))
    exact k_ret () rfl trivial
theorem sizeOf_ok (p : Option Addr) (t : Tr) : Enters 193 ∧ Spec Tryz.prog 193 #[.pointer p] [TrF p t] [] (RetV (.int .i64 (t.sz : Int))) := by
  refine ⟨enters_of Tryz.func193 (by kernel_rfl) rfl, spec_of (vs := [_]) Tryz.func193 rfl Tryz.ntmps193 rfl fun G w hp => ?_⟩
  cases t with
  | nil =>
    refine k_fact (X := Unit) (Fx := fun _ => []) (p := fun _ => p = none) (f := TrF p .nil) .here (fun h hh => ⟨(), hh, fun _ hx => by cases hx⟩) (fun _ hp => ?_)
    subst hp
    repeat' (first | refine l_run ?_ | refine l_nil ?_ | refine l_one ?_ | refine k_reg ?_ | refine l_ld ?_ | refine l_ldF ?_ | refine l_st ?_ | refine l_al (fun b => ?_) | refine l_bs (fun b => ?_) | refine k_condT ?_ | refine k_condF ?_ | refine k_brk ?_ | refine l_split (fun hc => ?_) (fun hc => ?_) | refine k_cond (fun hc => ?_) (fun hc => ?_))
    exact k_ret () rfl trivial
  | node l a v r =>
    refine k_fact (X := Nat × Option Addr × Option Addr) (Fx := fun x => [Blk x.1 (ndc x.2.1 x.2.2 a v (Tr.node l a v r).ht (Tr.node l a v r).sz (Tr.node l a v r).by_)]) (p := fun x => p = some ⟨x.1, 0, none⟩) (f := TrF p (.node l a v r)) .here (fun h ⟨b, pl, pr, h1, h2, _, _⟩ => ⟨(b, pl, pr), h1, fun f hf => by simp at hf; subst hf; exact h2⟩) (fun x hp => ?_)
    subst hp
    repeat' (first | refine l_run ?_ | refine l_nil ?_ | refine l_one ?_ | refine k_reg ?_ | refine l_ld ?_ | refine l_ldF ?_ | refine l_st ?_ | refine l_al (fun b => ?_) | refine l_bs (fun b => ?_) | refine k_condT ?_ | refine k_condF ?_ | refine k_brk ?_ | refine l_split (fun hc => ?_) (fun hc => ?_) | refine k_cond (fun hc => ?_) (fun hc => ?_))
    exact k_ret () rfl trivial
theorem bytesOf_ok (p : Option Addr) (t : Tr) : Enters 242 ∧ Spec Tryz.prog 242 #[.pointer p] [TrF p t] [] (RetV (.int .i64 (t.by_ : Int))) := by
  refine ⟨enters_of Tryz.func242 (by kernel_rfl) rfl, spec_of (vs := [_]) Tryz.func242 rfl Tryz.ntmps242 rfl fun G w hp => ?_⟩
  cases t with
  | nil =>
    refine k_fact (X := Unit) (Fx := fun _ => []) (p := fun _ => p = none) (f := TrF p .nil) .here (fun h hh => ⟨(), hh, fun _ hx => by cases hx⟩) (fun _ hp => ?_)
    subst hp
    repeat' (first | refine l_run ?_ | refine l_nil ?_ | refine l_one ?_ | refine k_reg ?_ | refine l_ld ?_ | refine l_ldF ?_ | refine l_st ?_ | refine l_al (fun b => ?_) | refine l_bs (fun b => ?_) | refine k_condT ?_ | refine k_condF ?_ | refine k_brk ?_ | refine l_split (fun hc => ?_) (fun hc => ?_) | refine k_cond (fun hc => ?_) (fun hc => ?_))
    exact k_ret () rfl trivial
  | node l a v r =>
    refine k_fact (X := Nat × Option Addr × Option Addr) (Fx := fun x => [Blk x.1 (ndc x.2.1 x.2.2 a v (Tr.node l a v r).ht (Tr.node l a v r).sz (Tr.node l a v r).by_)]) (p := fun x => p = some ⟨x.1, 0, none⟩) (f := TrF p (.node l a v r)) .here (fun h ⟨b, pl, pr, h1, h2, _, _⟩ => ⟨(b, pl, pr), h1, fun f hf => by simp at hf; subst hf; exact h2⟩) (fun x hp => ?_)
    subst hp
    repeat' (first | refine l_run ?_ | refine l_nil ?_ | refine l_one ?_ | refine k_reg ?_ | refine l_ld ?_ | refine l_ldF ?_ | refine l_st ?_ | refine l_al (fun b => ?_) | refine l_bs (fun b => ?_) | refine k_condT ?_ | refine k_condF ?_ | refine k_brk ?_ | refine l_split (fun hc => ?_) (fun hc => ?_) | refine k_cond (fun hc => ?_) (fun hc => ?_))
    exact k_ret () rfl trivial

theorem join_ok (pl pm pr : Option Addr) (l r : Tr) (a : Nm) (v : ByteArray) (hs : l.sz + r.sz ≤ 1099511627776) (hb : v.size + l.by_ + r.by_ ≤ 1152921504606846976) : Enters 194 ∧ Spec Tryz.prog 194 #[.pointer pl, .pointer pm, .pointer pr] [TrF pl l, Nd pm a v, TrF pr r] []
    ⟨Nat, fun b => .pointer (some ⟨b, 0, none⟩), fun _ => True, fun b => [TrF (some ⟨b, 0, none⟩) (.node l a v r)], fun _ => []⟩ := by
  have hl := l.ht_sz
  have hr := r.ht_sz
  refine ⟨enters_of Tryz.func194 (by kernel_rfl) rfl, spec_of (vs := [_, _, _]) Tryz.func194 rfl Tryz.ntmps194 rfl fun G w hp => ?_⟩
  refine k_fact (X := Nat × Option Addr × Option Addr × Int × Int × Int) (Fx := fun x => [Blk x.1 (ndc x.2.1 x.2.2.1 a v x.2.2.2.1 x.2.2.2.2.1 x.2.2.2.2.2)]) (p := fun x => pm = some ⟨x.1, 0, none⟩) (f := Nd pm a v) (.there .here) (fun h ⟨b, pl, pr, x, y, z, h1, h2⟩ => ⟨(b, pl, pr, x, y, z), h1, fun f hf => by simp at hf; subst hf; exact h2⟩) (fun x hp => ?_)
  subst hp
  repeat' (first | refine l_run ?_ | refine l_nil ?_ | refine l_one ?_ | refine k_reg ?_ | refine l_ld ?_ | refine l_ldF ?_ | refine l_st ?_ | refine l_al (fun b => ?_) | refine l_bs (fun b => ?_) | refine k_condT ?_ | refine k_condF ?_ | refine k_brk ?_ | refine r_run ?_ | refine r_one ?_ | refine r_ld ?_ | refine r_ldF ?_ | refine r_ldN ?_ | refine r_al (fun b => ?_) | refine r_bs (fun b => ?_) | refine r_st ?_ | refine r_end ?_ | refine l_call (heightOf_ok pl l) (fun _ _ => ?_) | refine l_call0 (heightOf_ok pl l) (fun _ _ => ?_) | refine r_call (heightOf_ok pl l) (fun _ _ => ?_) | refine l_call (heightOf_ok pr r) (fun _ _ => ?_) | refine l_call0 (heightOf_ok pr r) (fun _ _ => ?_) | refine r_call (heightOf_ok pr r) (fun _ _ => ?_) | refine l_call (sizeOf_ok pl l) (fun _ _ => ?_) | refine l_call0 (sizeOf_ok pl l) (fun _ _ => ?_) | refine r_call (sizeOf_ok pl l) (fun _ _ => ?_) | refine l_call (sizeOf_ok pr r) (fun _ _ => ?_) | refine l_call0 (sizeOf_ok pr r) (fun _ _ => ?_) | refine r_call (sizeOf_ok pr r) (fun _ _ => ?_) | refine l_call (bytesOf_ok pl l) (fun _ _ => ?_) | refine l_call0 (bytesOf_ok pl l) (fun _ _ => ?_) | refine r_call (bytesOf_ok pl l) (fun _ _ => ?_) | refine l_call (bytesOf_ok pr r) (fun _ _ => ?_) | refine l_call0 (bytesOf_ok pr r) (fun _ _ => ?_) | refine r_call (bytesOf_ok pr r) (fun _ _ => ?_) | refine l_split (fun hc => ?_) (fun hc => ?_) | refine r_split (fun hc => ?_) (fun hc => ?_) | refine k_draw 1 [] [(0, 0), (1, 0), (2, 0), (3, 0), (4, 0), (5, 0), (6, 0), (7, 0), (8, 0), (9, 0), (10, 0), (12, 0), (16, 0), (19, 0), (22, 0), (23, 0), (24, 0), (25, 0), (26, 0), (27, 0), (30, 0), (11, 4), (13, 4), (14, 0), (15, 0), (17, 4), (18, 0), (20, 4), (21, 0), (28, 4), (29, 0), (31, 4), (32, 0), (33, 0), (34, 1), (35, 0)] [] ?_ | refine k_cond (fun hc => ?_) (fun hc => ?_))
  have e1 : IntKind.i64.wrap (1 + if (l.ht : Int) < r.ht then (r.ht : Int) else l.ht) = ((Tr.node l a v r).ht : Int) := by
    rw [wrapi (by split <;> omega) (by split <;> omega)]; simp only [Tr.ht]; split <;> omega
  have e2 : IntKind.i64.wrap (IntKind.i64.wrap (1 + (l.sz : Int)) + r.sz) = ((Tr.node l a v r).sz : Int) := by
    rw [wrapi (z := 1 + (l.sz : Int)) (by omega) (by omega), wrapi (by omega) (by omega)]; simp only [Tr.sz]; omega
  have e3 : IntKind.i64.wrap (IntKind.i64.wrap ((v.size : Int) + l.by_) + r.by_) = ((Tr.node l a v r).by_ : Int) := by
    rw [wrapi (z := (v.size : Int) + l.by_) (by omega) (by omega), wrapi (by omega) (by omega)]; simp only [Tr.by_]; omega
  rw [e1, e2, e3]
  refine k_fz ?_
  refine k_mk (F1 := [Blk b (ndc pl pr a v (Tr.node l a v r).ht (Tr.node l a v r).sz (Tr.node l a v r).by_), TrF pl l, TrF pr r]) (f := TrF (some ⟨b, 0, none⟩) (.node l a v r)) (fun hp hF => ⟨b, pl, pr, rfl, hF (Blk b (ndc pl pr a v (Tr.node l a v r).ht (Tr.node l a v r).sz (Tr.node l a v r).by_)) (by simp), hF (TrF pl l) (by simp), hF (TrF pr r) (by simp)⟩) ?_
  exact k_ret b rfl trivial

theorem nd_of {p : Option Addr} {l r : Tr} {a : Nm} {v : ByteArray} {h : H} (hh : TrP p (.node l a v r) h) : (Nd p a v).p h :=
  let ⟨b, pl, pr, h1, h2, _, _⟩ := hh
  ⟨b, pl, pr, _, _, _, h1, h2⟩

section
variable {n : Nat} {C : Cx} {Q : Exit → Act → World → Prop} {E E' : List (Nat × Value)} {F F0 : List Pf} {R R0 : List HP} {k : List Fr} {ops l : List Oper}
/-- A node of a tree is opened. -/
theorem k_tr {p : Option Addr} {l r : Tr} {a : Nm} {v : ByteArray} (t : ∀ b pl pr, p = some ⟨b, 0, none⟩ → Wk n C k Q E (Blk b (ndc pl pr a v (Tr.node l a v r).ht (Tr.node l a v r).sz (Tr.node l a v r).by_) :: Nd p a v :: TrF pl l :: TrF pr r :: F) R) (hs : Sel (TrF p (.node l a v r)) F F0 := by (repeat (first | exact Sel.here | apply Sel.there)); first | done | fail) : Wk n C k Q E F R := by
  refine k_fact (X := Nat × Option Addr × Option Addr) (Fx := fun x => [Blk x.1 (ndc x.2.1 x.2.2 a v (Tr.node l a v r).ht (Tr.node l a v r).sz (Tr.node l a v r).by_), Nd p a v, TrF x.2.1 l, TrF x.2.2 r]) (p := fun x => p = some ⟨x.1, 0, none⟩) (f := TrF p (.node l a v r)) hs (fun h hh => ?_) (fun x hp => t x.1 x.2.1 x.2.2 hp)
  have hn := nd_of hh
  obtain ⟨b, pl, pr, h1, h2, h3, h4⟩ := hh
  refine ⟨(b, pl, pr), h1, fun f hf => ?_⟩
  simp only [List.mem_cons, List.not_mem_nil, or_false] at hf
  rcases hf with rfl | rfl | rfl | rfl
  · exact h2
  · exact hn
  · exact h3
  · exact h4
theorem k_trn {p : Option Addr} (t : p = none → Wk n C k Q E F R) (hs : Sel (TrF p .nil) F F0 := by (repeat (first | exact Sel.here | apply Sel.there)); first | done | fail) : Wk n C k Q E F R :=
  k_fact (X := Unit) (Fx := fun _ => []) (p := fun _ => p = none) (f := TrF p .nil) hs (fun h hh => ⟨(), hh, fun _ hx => by cases hx⟩) (fun _ hp => t hp)
end

set_option maxHeartbeats 2000000 in
theorem balance_ok (pl pm pr : Option Addr) (l r : Tr) (a : Nm) (v : ByteArray) (hs : l.sz + r.sz ≤ 1099511627776) (hb : v.size + l.by_ + r.by_ ≤ 1152921504606846976) : Enters 195 ∧ Spec Tryz.prog 195 #[.pointer pl, .pointer pm, .pointer pr] [TrF pl l, Nd pm a v, TrF pr r] []
    ⟨Nat, fun b => .pointer (some ⟨b, 0, none⟩), fun _ => True, fun b => [TrF (some ⟨b, 0, none⟩) (Tr.bal l a v r)], fun _ => []⟩ := by
  have hl := l.ht_sz
  have hr := r.ht_sz
  have w1 := wrapi (z := (l.ht : Int) - r.ht) (by omega) (by omega)
  refine ⟨enters_of Tryz.func195 (by kernel_rfl) rfl, spec_of (vs := [_, _, _]) Tryz.func195 rfl Tryz.ntmps195 rfl fun G w hp => ?_⟩
  generalize hbal : Tr.bal l a v r = t
  unfold Tr.bal at hbal
  have k1 := hs
  have k2 := hb
  by_cases h1 : r.ht + 1 < l.ht
  · rw [if_pos h1] at hbal
    cases l with
    | nil => simp [Tr.ht] at h1
    | node ll la lv lr =>
      dsimp only at hbal
      simp only [Tr.sz] at k1
      simp only [Tr.by_] at k2
      refine k_tr (p := pl) (l := ll) (r := lr) (a := la) (v := lv) (fun b pll plr hp => ?_)
      subst hp
      by_cases h2 : lr.ht ≤ ll.ht
      · rw [if_pos h2] at hbal
        subst hbal
        repeat' (first | refine l_run ?_ | refine l_nil ?_ | refine l_one ?_ | refine k_reg ?_ | refine l_ld ?_ | refine l_ldF ?_ | refine l_st ?_ | refine l_al (fun b => ?_) | refine l_bs (fun b => ?_) | refine k_condT ?_ | refine k_condF ?_ | refine k_brk ?_ | refine r_run ?_ | refine r_one ?_ | refine r_ld ?_ | refine r_ldF ?_ | refine r_ldN ?_ | refine r_al (fun b => ?_) | refine r_bs (fun b => ?_) | refine r_st ?_ | refine r_end ?_ | refine l_call (heightOf_ok _ (Tr.node ll la lv lr)) (fun _ _ => ?_) | refine l_call0 (heightOf_ok _ (Tr.node ll la lv lr)) (fun _ _ => ?_) | refine r_call (heightOf_ok _ (Tr.node ll la lv lr)) (fun _ _ => ?_) | refine l_call (heightOf_ok pr r) (fun _ _ => ?_) | refine l_call0 (heightOf_ok pr r) (fun _ _ => ?_) | refine r_call (heightOf_ok pr r) (fun _ _ => ?_) | refine l_call (heightOf_ok pll ll) (fun _ _ => ?_) | refine l_call0 (heightOf_ok pll ll) (fun _ _ => ?_) | refine r_call (heightOf_ok pll ll) (fun _ _ => ?_) | refine l_call (heightOf_ok plr lr) (fun _ _ => ?_) | refine l_call0 (heightOf_ok plr lr) (fun _ _ => ?_) | refine r_call (heightOf_ok plr lr) (fun _ _ => ?_) | refine l_call (join_ok plr pm pr lr r a v (by first | omega | (simp only [Tr.sz]; omega)) (by first | omega | (simp only [Tr.by_]; omega))) (fun _ _ => ?_) | refine l_call0 (join_ok plr pm pr lr r a v (by first | omega | (simp only [Tr.sz]; omega)) (by first | omega | (simp only [Tr.by_]; omega))) (fun _ _ => ?_) | refine r_call (join_ok plr pm pr lr r a v (by first | omega | (simp only [Tr.sz]; omega)) (by first | omega | (simp only [Tr.by_]; omega))) (fun _ _ => ?_) | refine l_call (join_ok pll _ _ ll (.node lr a v r) la lv (by first | omega | (simp only [Tr.sz]; omega)) (by first | omega | (simp only [Tr.by_]; omega))) (fun _ _ => ?_) | refine l_call0 (join_ok pll _ _ ll (.node lr a v r) la lv (by first | omega | (simp only [Tr.sz]; omega)) (by first | omega | (simp only [Tr.by_]; omega))) (fun _ _ => ?_) | refine r_call (join_ok pll _ _ ll (.node lr a v r) la lv (by first | omega | (simp only [Tr.sz]; omega)) (by first | omega | (simp only [Tr.by_]; omega))) (fun _ _ => ?_) | rw [w1] | (refine l_split (fun hc => ?_) (fun hc => ?_) <;> (try simp at hc) <;> (try omega)) | (refine r_split (fun hc => ?_) (fun hc => ?_) <;> (try simp at hc) <;> (try omega)) | refine k_draw 2 [] [(0, 0), (1, 0), (2, 0), (3, 0), (4, 0), (5, 0), (6, 0), (8, 0), (9, 0), (10, 0), (11, 0), (7, 4), (12, 4), (13, 0), (14, 0), (15, 0)] [] ?_ | refine k_draw 3 [] [(0, 0), (1, 0), (2, 0), (3, 0), (4, 0), (5, 0), (6, 0), (7, 0), (8, 0), (9, 0), (10, 0), (11, 4), (12, 4), (13, 0)] [] ?_ | refine k_draw 6 [] [(0, 0), (1, 0), (2, 0), (3, 0), (4, 0), (5, 0), (6, 0), (7, 0), (8, 0), (10, 0), (11, 0), (12, 0), (13, 0), (14, 0), (15, 0), (16, 0), (9, 4), (17, 4), (18, 4), (19, 0)] [] ?_ | refine k_draw 7 [] [(0, 0), (1, 0), (2, 0), (3, 0), (4, 0), (5, 0), (6, 0), (8, 0), (9, 0), (10, 0), (11, 0), (7, 4), (12, 4), (13, 0), (14, 0), (15, 0)] [] ?_ | refine k_draw 8 [] [(0, 0), (1, 0), (2, 0), (3, 0), (4, 0), (5, 0), (7, 0), (8, 0), (9, 0), (10, 0), (11, 0), (6, 4), (12, 4), (13, 0)] [] ?_ | refine k_draw 11 [] [(0, 0), (1, 0), (2, 0), (3, 0), (4, 0), (5, 0), (7, 0), (8, 0), (9, 0), (10, 0), (11, 0), (12, 0), (13, 0), (14, 0), (15, 0), (16, 0), (6, 4), (17, 4), (18, 4), (19, 0)] [] ?_ | (refine k_cond (fun hc => ?_) (fun hc => ?_) <;> (try simp at hc) <;> (try omega)))
        rename_i q _
        exact k_ret q rfl trivial
      · rw [if_neg h2] at hbal
        cases lr with
        | nil => simp [Tr.ht] at h2
        | node il ia iv ir =>
          dsimp only at hbal
          subst hbal
          simp only [Tr.sz] at k1
          simp only [Tr.by_] at k2
          refine k_tr (p := plr) (l := il) (r := ir) (a := ia) (v := iv) (fun b2 pil pir hp => ?_)
          subst hp
          repeat' (first | refine l_run ?_ | refine l_nil ?_ | refine l_one ?_ | refine k_reg ?_ | refine l_ld ?_ | refine l_ldF ?_ | refine l_st ?_ | refine l_al (fun b => ?_) | refine l_bs (fun b => ?_) | refine k_condT ?_ | refine k_condF ?_ | refine k_brk ?_ | refine r_run ?_ | refine r_one ?_ | refine r_ld ?_ | refine r_ldF ?_ | refine r_ldN ?_ | refine r_al (fun b => ?_) | refine r_bs (fun b => ?_) | refine r_st ?_ | refine r_end ?_ | refine l_call (heightOf_ok _ (Tr.node ll la lv (Tr.node il ia iv ir))) (fun _ _ => ?_) | refine l_call0 (heightOf_ok _ (Tr.node ll la lv (Tr.node il ia iv ir))) (fun _ _ => ?_) | refine r_call (heightOf_ok _ (Tr.node ll la lv (Tr.node il ia iv ir))) (fun _ _ => ?_) | refine l_call (heightOf_ok pr r) (fun _ _ => ?_) | refine l_call0 (heightOf_ok pr r) (fun _ _ => ?_) | refine r_call (heightOf_ok pr r) (fun _ _ => ?_) | refine l_call (heightOf_ok pll ll) (fun _ _ => ?_) | refine l_call0 (heightOf_ok pll ll) (fun _ _ => ?_) | refine r_call (heightOf_ok pll ll) (fun _ _ => ?_) | refine l_call (heightOf_ok _ (Tr.node il ia iv ir)) (fun _ _ => ?_) | refine l_call0 (heightOf_ok _ (Tr.node il ia iv ir)) (fun _ _ => ?_) | refine r_call (heightOf_ok _ (Tr.node il ia iv ir)) (fun _ _ => ?_) | refine l_call (join_ok pll _ pil ll il la lv (by first | omega | (simp only [Tr.sz]; omega)) (by first | omega | (simp only [Tr.by_]; omega))) (fun _ _ => ?_) | refine l_call0 (join_ok pll _ pil ll il la lv (by first | omega | (simp only [Tr.sz]; omega)) (by first | omega | (simp only [Tr.by_]; omega))) (fun _ _ => ?_) | refine r_call (join_ok pll _ pil ll il la lv (by first | omega | (simp only [Tr.sz]; omega)) (by first | omega | (simp only [Tr.by_]; omega))) (fun _ _ => ?_) | refine l_call (join_ok pir pm pr ir r a v (by first | omega | (simp only [Tr.sz]; omega)) (by first | omega | (simp only [Tr.by_]; omega))) (fun _ _ => ?_) | refine l_call0 (join_ok pir pm pr ir r a v (by first | omega | (simp only [Tr.sz]; omega)) (by first | omega | (simp only [Tr.by_]; omega))) (fun _ _ => ?_) | refine r_call (join_ok pir pm pr ir r a v (by first | omega | (simp only [Tr.sz]; omega)) (by first | omega | (simp only [Tr.by_]; omega))) (fun _ _ => ?_) | refine l_call (join_ok _ _ _ (.node ll la lv il) (.node ir a v r) ia iv (by first | omega | (simp only [Tr.sz]; omega)) (by first | omega | (simp only [Tr.by_]; omega))) (fun _ _ => ?_) | refine l_call0 (join_ok _ _ _ (.node ll la lv il) (.node ir a v r) ia iv (by first | omega | (simp only [Tr.sz]; omega)) (by first | omega | (simp only [Tr.by_]; omega))) (fun _ _ => ?_) | refine r_call (join_ok _ _ _ (.node ll la lv il) (.node ir a v r) ia iv (by first | omega | (simp only [Tr.sz]; omega)) (by first | omega | (simp only [Tr.by_]; omega))) (fun _ _ => ?_) | rw [w1] | (refine l_split (fun hc => ?_) (fun hc => ?_) <;> (try simp at hc) <;> (try omega)) | (refine r_split (fun hc => ?_) (fun hc => ?_) <;> (try simp at hc) <;> (try omega)) | refine k_draw 2 [] [(0, 0), (1, 0), (2, 0), (3, 0), (4, 0), (5, 0), (6, 0), (8, 0), (9, 0), (10, 0), (11, 0), (7, 4), (12, 4), (13, 0), (14, 0), (15, 0)] [] ?_ | refine k_draw 3 [] [(0, 0), (1, 0), (2, 0), (3, 0), (4, 0), (5, 0), (6, 0), (7, 0), (8, 0), (9, 0), (10, 0), (11, 4), (12, 4), (13, 0)] [] ?_ | refine k_draw 6 [] [(0, 0), (1, 0), (2, 0), (3, 0), (4, 0), (5, 0), (6, 0), (7, 0), (8, 0), (10, 0), (11, 0), (12, 0), (13, 0), (14, 0), (15, 0), (16, 0), (9, 4), (17, 4), (18, 4), (19, 0)] [] ?_ | refine k_draw 7 [] [(0, 0), (1, 0), (2, 0), (3, 0), (4, 0), (5, 0), (6, 0), (8, 0), (9, 0), (10, 0), (11, 0), (7, 4), (12, 4), (13, 0), (14, 0), (15, 0)] [] ?_ | refine k_draw 8 [] [(0, 0), (1, 0), (2, 0), (3, 0), (4, 0), (5, 0), (7, 0), (8, 0), (9, 0), (10, 0), (11, 0), (6, 4), (12, 4), (13, 0)] [] ?_ | refine k_draw 11 [] [(0, 0), (1, 0), (2, 0), (3, 0), (4, 0), (5, 0), (7, 0), (8, 0), (9, 0), (10, 0), (11, 0), (12, 0), (13, 0), (14, 0), (15, 0), (16, 0), (6, 4), (17, 4), (18, 4), (19, 0)] [] ?_ | (refine k_cond (fun hc => ?_) (fun hc => ?_) <;> (try simp at hc) <;> (try omega)))
          rename_i q _
          exact k_ret q rfl trivial
  · rw [if_neg h1] at hbal
    by_cases h3 : l.ht + 1 < r.ht
    · rw [if_pos h3] at hbal
      cases r with
      | nil => simp [Tr.ht] at h3
      | node rl ra rv rr =>
        dsimp only at hbal
        simp only [Tr.sz] at k1
        simp only [Tr.by_] at k2
        refine k_tr (p := pr) (l := rl) (r := rr) (a := ra) (v := rv) (fun b prl prr hp => ?_)
        subst hp
        by_cases h2 : rl.ht ≤ rr.ht
        · rw [if_pos h2] at hbal
          subst hbal
          repeat' (first | refine l_run ?_ | refine l_nil ?_ | refine l_one ?_ | refine k_reg ?_ | refine l_ld ?_ | refine l_ldF ?_ | refine l_st ?_ | refine l_al (fun b => ?_) | refine l_bs (fun b => ?_) | refine k_condT ?_ | refine k_condF ?_ | refine k_brk ?_ | refine r_run ?_ | refine r_one ?_ | refine r_ld ?_ | refine r_ldF ?_ | refine r_ldN ?_ | refine r_al (fun b => ?_) | refine r_bs (fun b => ?_) | refine r_st ?_ | refine r_end ?_ | refine l_call (heightOf_ok pl l) (fun _ _ => ?_) | refine l_call0 (heightOf_ok pl l) (fun _ _ => ?_) | refine r_call (heightOf_ok pl l) (fun _ _ => ?_) | refine l_call (heightOf_ok _ (Tr.node rl ra rv rr)) (fun _ _ => ?_) | refine l_call0 (heightOf_ok _ (Tr.node rl ra rv rr)) (fun _ _ => ?_) | refine r_call (heightOf_ok _ (Tr.node rl ra rv rr)) (fun _ _ => ?_) | refine l_call (heightOf_ok prl rl) (fun _ _ => ?_) | refine l_call0 (heightOf_ok prl rl) (fun _ _ => ?_) | refine r_call (heightOf_ok prl rl) (fun _ _ => ?_) | refine l_call (heightOf_ok prr rr) (fun _ _ => ?_) | refine l_call0 (heightOf_ok prr rr) (fun _ _ => ?_) | refine r_call (heightOf_ok prr rr) (fun _ _ => ?_) | refine l_call (join_ok pl pm prl l rl a v (by first | omega | (simp only [Tr.sz]; omega)) (by first | omega | (simp only [Tr.by_]; omega))) (fun _ _ => ?_) | refine l_call0 (join_ok pl pm prl l rl a v (by first | omega | (simp only [Tr.sz]; omega)) (by first | omega | (simp only [Tr.by_]; omega))) (fun _ _ => ?_) | refine r_call (join_ok pl pm prl l rl a v (by first | omega | (simp only [Tr.sz]; omega)) (by first | omega | (simp only [Tr.by_]; omega))) (fun _ _ => ?_) | refine l_call (join_ok _ _ prr (.node l a v rl) rr ra rv (by first | omega | (simp only [Tr.sz]; omega)) (by first | omega | (simp only [Tr.by_]; omega))) (fun _ _ => ?_) | refine l_call0 (join_ok _ _ prr (.node l a v rl) rr ra rv (by first | omega | (simp only [Tr.sz]; omega)) (by first | omega | (simp only [Tr.by_]; omega))) (fun _ _ => ?_) | refine r_call (join_ok _ _ prr (.node l a v rl) rr ra rv (by first | omega | (simp only [Tr.sz]; omega)) (by first | omega | (simp only [Tr.by_]; omega))) (fun _ _ => ?_) | rw [w1] | (refine l_split (fun hc => ?_) (fun hc => ?_) <;> (try simp at hc) <;> (try omega)) | (refine r_split (fun hc => ?_) (fun hc => ?_) <;> (try simp at hc) <;> (try omega)) | refine k_draw 2 [] [(0, 0), (1, 0), (2, 0), (3, 0), (4, 0), (5, 0), (6, 0), (8, 0), (9, 0), (10, 0), (11, 0), (7, 4), (12, 4), (13, 0), (14, 0), (15, 0)] [] ?_ | refine k_draw 3 [] [(0, 0), (1, 0), (2, 0), (3, 0), (4, 0), (5, 0), (6, 0), (7, 0), (8, 0), (9, 0), (10, 0), (11, 4), (12, 4), (13, 0)] [] ?_ | refine k_draw 6 [] [(0, 0), (1, 0), (2, 0), (3, 0), (4, 0), (5, 0), (6, 0), (7, 0), (8, 0), (10, 0), (11, 0), (12, 0), (13, 0), (14, 0), (15, 0), (16, 0), (9, 4), (17, 4), (18, 4), (19, 0)] [] ?_ | refine k_draw 7 [] [(0, 0), (1, 0), (2, 0), (3, 0), (4, 0), (5, 0), (6, 0), (8, 0), (9, 0), (10, 0), (11, 0), (7, 4), (12, 4), (13, 0), (14, 0), (15, 0)] [] ?_ | refine k_draw 8 [] [(0, 0), (1, 0), (2, 0), (3, 0), (4, 0), (5, 0), (7, 0), (8, 0), (9, 0), (10, 0), (11, 0), (6, 4), (12, 4), (13, 0)] [] ?_ | refine k_draw 11 [] [(0, 0), (1, 0), (2, 0), (3, 0), (4, 0), (5, 0), (7, 0), (8, 0), (9, 0), (10, 0), (11, 0), (12, 0), (13, 0), (14, 0), (15, 0), (16, 0), (6, 4), (17, 4), (18, 4), (19, 0)] [] ?_ | (refine k_cond (fun hc => ?_) (fun hc => ?_) <;> (try simp at hc) <;> (try omega)))
          rename_i q _
          exact k_ret q rfl trivial
        · rw [if_neg h2] at hbal
          cases rl with
          | nil => simp [Tr.ht] at h2
          | node il ia iv ir =>
            dsimp only at hbal
            subst hbal
            simp only [Tr.sz] at k1
            simp only [Tr.by_] at k2
            refine k_tr (p := prl) (l := il) (r := ir) (a := ia) (v := iv) (fun b2 pil pir hp => ?_)
            subst hp
            repeat' (first | refine l_run ?_ | refine l_nil ?_ | refine l_one ?_ | refine k_reg ?_ | refine l_ld ?_ | refine l_ldF ?_ | refine l_st ?_ | refine l_al (fun b => ?_) | refine l_bs (fun b => ?_) | refine k_condT ?_ | refine k_condF ?_ | refine k_brk ?_ | refine r_run ?_ | refine r_one ?_ | refine r_ld ?_ | refine r_ldF ?_ | refine r_ldN ?_ | refine r_al (fun b => ?_) | refine r_bs (fun b => ?_) | refine r_st ?_ | refine r_end ?_ | refine l_call (heightOf_ok pl l) (fun _ _ => ?_) | refine l_call0 (heightOf_ok pl l) (fun _ _ => ?_) | refine r_call (heightOf_ok pl l) (fun _ _ => ?_) | refine l_call (heightOf_ok _ (Tr.node (Tr.node il ia iv ir) ra rv rr)) (fun _ _ => ?_) | refine l_call0 (heightOf_ok _ (Tr.node (Tr.node il ia iv ir) ra rv rr)) (fun _ _ => ?_) | refine r_call (heightOf_ok _ (Tr.node (Tr.node il ia iv ir) ra rv rr)) (fun _ _ => ?_) | refine l_call (heightOf_ok prr rr) (fun _ _ => ?_) | refine l_call0 (heightOf_ok prr rr) (fun _ _ => ?_) | refine r_call (heightOf_ok prr rr) (fun _ _ => ?_) | refine l_call (heightOf_ok _ (Tr.node il ia iv ir)) (fun _ _ => ?_) | refine l_call0 (heightOf_ok _ (Tr.node il ia iv ir)) (fun _ _ => ?_) | refine r_call (heightOf_ok _ (Tr.node il ia iv ir)) (fun _ _ => ?_) | refine l_call (join_ok pl pm pil l il a v (by first | omega | (simp only [Tr.sz]; omega)) (by first | omega | (simp only [Tr.by_]; omega))) (fun _ _ => ?_) | refine l_call0 (join_ok pl pm pil l il a v (by first | omega | (simp only [Tr.sz]; omega)) (by first | omega | (simp only [Tr.by_]; omega))) (fun _ _ => ?_) | refine r_call (join_ok pl pm pil l il a v (by first | omega | (simp only [Tr.sz]; omega)) (by first | omega | (simp only [Tr.by_]; omega))) (fun _ _ => ?_) | refine l_call (join_ok pir _ prr ir rr ra rv (by first | omega | (simp only [Tr.sz]; omega)) (by first | omega | (simp only [Tr.by_]; omega))) (fun _ _ => ?_) | refine l_call0 (join_ok pir _ prr ir rr ra rv (by first | omega | (simp only [Tr.sz]; omega)) (by first | omega | (simp only [Tr.by_]; omega))) (fun _ _ => ?_) | refine r_call (join_ok pir _ prr ir rr ra rv (by first | omega | (simp only [Tr.sz]; omega)) (by first | omega | (simp only [Tr.by_]; omega))) (fun _ _ => ?_) | refine l_call (join_ok _ _ _ (.node l a v il) (.node ir ra rv rr) ia iv (by first | omega | (simp only [Tr.sz]; omega)) (by first | omega | (simp only [Tr.by_]; omega))) (fun _ _ => ?_) | refine l_call0 (join_ok _ _ _ (.node l a v il) (.node ir ra rv rr) ia iv (by first | omega | (simp only [Tr.sz]; omega)) (by first | omega | (simp only [Tr.by_]; omega))) (fun _ _ => ?_) | refine r_call (join_ok _ _ _ (.node l a v il) (.node ir ra rv rr) ia iv (by first | omega | (simp only [Tr.sz]; omega)) (by first | omega | (simp only [Tr.by_]; omega))) (fun _ _ => ?_) | rw [w1] | (refine l_split (fun hc => ?_) (fun hc => ?_) <;> (try simp at hc) <;> (try omega)) | (refine r_split (fun hc => ?_) (fun hc => ?_) <;> (try simp at hc) <;> (try omega)) | refine k_draw 2 [] [(0, 0), (1, 0), (2, 0), (3, 0), (4, 0), (5, 0), (6, 0), (8, 0), (9, 0), (10, 0), (11, 0), (7, 4), (12, 4), (13, 0), (14, 0), (15, 0)] [] ?_ | refine k_draw 3 [] [(0, 0), (1, 0), (2, 0), (3, 0), (4, 0), (5, 0), (6, 0), (7, 0), (8, 0), (9, 0), (10, 0), (11, 4), (12, 4), (13, 0)] [] ?_ | refine k_draw 6 [] [(0, 0), (1, 0), (2, 0), (3, 0), (4, 0), (5, 0), (6, 0), (7, 0), (8, 0), (10, 0), (11, 0), (12, 0), (13, 0), (14, 0), (15, 0), (16, 0), (9, 4), (17, 4), (18, 4), (19, 0)] [] ?_ | refine k_draw 7 [] [(0, 0), (1, 0), (2, 0), (3, 0), (4, 0), (5, 0), (6, 0), (8, 0), (9, 0), (10, 0), (11, 0), (7, 4), (12, 4), (13, 0), (14, 0), (15, 0)] [] ?_ | refine k_draw 8 [] [(0, 0), (1, 0), (2, 0), (3, 0), (4, 0), (5, 0), (7, 0), (8, 0), (9, 0), (10, 0), (11, 0), (6, 4), (12, 4), (13, 0)] [] ?_ | refine k_draw 11 [] [(0, 0), (1, 0), (2, 0), (3, 0), (4, 0), (5, 0), (7, 0), (8, 0), (9, 0), (10, 0), (11, 0), (12, 0), (13, 0), (14, 0), (15, 0), (16, 0), (6, 4), (17, 4), (18, 4), (19, 0)] [] ?_ | (refine k_cond (fun hc => ?_) (fun hc => ?_) <;> (try simp at hc) <;> (try omega)))
            rename_i q _
            exact k_ret q rfl trivial
    · rw [if_neg h3] at hbal
      subst hbal
      repeat' (first | refine l_run ?_ | refine l_nil ?_ | refine l_one ?_ | refine k_reg ?_ | refine l_ld ?_ | refine l_ldF ?_ | refine l_st ?_ | refine l_al (fun b => ?_) | refine l_bs (fun b => ?_) | refine k_condT ?_ | refine k_condF ?_ | refine k_brk ?_ | refine r_run ?_ | refine r_one ?_ | refine r_ld ?_ | refine r_ldF ?_ | refine r_ldN ?_ | refine r_al (fun b => ?_) | refine r_bs (fun b => ?_) | refine r_st ?_ | refine r_end ?_ | refine l_call (heightOf_ok pl l) (fun _ _ => ?_) | refine l_call0 (heightOf_ok pl l) (fun _ _ => ?_) | refine r_call (heightOf_ok pl l) (fun _ _ => ?_) | refine l_call (heightOf_ok pr r) (fun _ _ => ?_) | refine l_call0 (heightOf_ok pr r) (fun _ _ => ?_) | refine r_call (heightOf_ok pr r) (fun _ _ => ?_) | refine l_call (join_ok pl pm pr l r a v hs hb) (fun _ _ => ?_) | refine l_call0 (join_ok pl pm pr l r a v hs hb) (fun _ _ => ?_) | refine r_call (join_ok pl pm pr l r a v hs hb) (fun _ _ => ?_) | rw [w1] | (refine l_split (fun hc => ?_) (fun hc => ?_) <;> (try simp at hc) <;> (try omega)) | (refine r_split (fun hc => ?_) (fun hc => ?_) <;> (try simp at hc) <;> (try omega)) | refine k_draw 2 [] [(0, 0), (1, 0), (2, 0), (3, 0), (4, 0), (5, 0), (6, 0), (8, 0), (9, 0), (10, 0), (11, 0), (7, 4), (12, 4), (13, 0), (14, 0), (15, 0)] [] ?_ | refine k_draw 3 [] [(0, 0), (1, 0), (2, 0), (3, 0), (4, 0), (5, 0), (6, 0), (7, 0), (8, 0), (9, 0), (10, 0), (11, 4), (12, 4), (13, 0)] [] ?_ | refine k_draw 6 [] [(0, 0), (1, 0), (2, 0), (3, 0), (4, 0), (5, 0), (6, 0), (7, 0), (8, 0), (10, 0), (11, 0), (12, 0), (13, 0), (14, 0), (15, 0), (16, 0), (9, 4), (17, 4), (18, 4), (19, 0)] [] ?_ | refine k_draw 7 [] [(0, 0), (1, 0), (2, 0), (3, 0), (4, 0), (5, 0), (6, 0), (8, 0), (9, 0), (10, 0), (11, 0), (7, 4), (12, 4), (13, 0), (14, 0), (15, 0)] [] ?_ | refine k_draw 8 [] [(0, 0), (1, 0), (2, 0), (3, 0), (4, 0), (5, 0), (7, 0), (8, 0), (9, 0), (10, 0), (11, 0), (6, 4), (12, 4), (13, 0)] [] ?_ | refine k_draw 11 [] [(0, 0), (1, 0), (2, 0), (3, 0), (4, 0), (5, 0), (7, 0), (8, 0), (9, 0), (10, 0), (11, 0), (12, 0), (13, 0), (14, 0), (15, 0), (16, 0), (6, 4), (17, 4), (18, 4), (19, 0)] [] ?_ | (refine k_cond (fun hc => ?_) (fun hc => ?_) <;> (try simp at hc) <;> (try omega)))
      rename_i q _
      exact k_ret q rfl trivial
end Go.Proofs.YtijaglinajfplaaGreatDoor
