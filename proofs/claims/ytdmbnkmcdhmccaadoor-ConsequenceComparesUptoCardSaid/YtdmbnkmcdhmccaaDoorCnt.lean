/-
  Contracts of consequence.Differences and consequence.Count.
  Conditions: those that each theorem states.
-/
import Derived.Test.YtdmbnkmcdhmccaaDoorCqEq
import Derived.Test.YtdmbnkmcdhmccaaDoorArr
set_option maxRecDepth 10000
namespace Go.Proofs.YtdmbnkmcdhmccaaDoor
open Go.RowKit

def difE (l : List Cq) : List Cq := l.filter fun c => decide (c.kind ≠ 1)
def cn (j : Int) (l : List Cq) : Nat := l.countP fun c => decide (c.kind = j)
def cn0 (l : List Cq) : Nat := l.countP fun c => decide (c.kind < 1 ∨ 4 < c.kind)
/-- The numbers of the kinds. -/
def cntC (l : List Cq) : List Value := [.int .i64 (cn0 l : Int), .int .i64 (cn 1 l : Int), .int .i64 (cn 2 l : Int), .int .i64 (cn 3 l : Int), .int .i64 (cn 4 l : Int)]

structure D1 (l : List Cq) where
  i : Nat
  o : Option Addr
  cap : Nat
  hi : i ≤ l.length

set_option maxHeartbeats 1000000 in
theorem differences_ok (o1 : Option Addr) (c1 : Nat) (cs : List Cq) (hl : cs.length ≤ 1000000) : Enters 19 ∧ Spec Tryd.prog 19 #[.slice o1 cs.length c1] [Sl 37 cqf o1 c1 cs] []
    ⟨Option Addr × Nat, fun q => .slice q.1 (difE cs).length q.2, fun _ => True, fun q => [Sl 37 cqf q.1 q.2 (difE cs)], fun _ => []⟩ := by
  refine ⟨enters_of Tryd.func19 (by kernel_rfl) rfl, spec_of (vs := [_]) Tryd.func19 rfl Tryd.ntmps19 rfl fun G w hp => ?_⟩
  repeat' (first | refine l_run ?_ | refine l_nil ?_ | refine l_one ?_ | refine k_reg ?_ | refine l_ld ?_ | refine l_ldF ?_ | refine l_st ?_ | refine l_al (fun b => ?_) | refine l_bs (fun b => ?_) | refine k_condT ?_ | refine k_condF ?_ | refine k_brk ?_ | refine l_split (fun hc => ?_) (fun hc => ?_) | refine k_cond (fun hc => ?_) (fun hc => ?_))
  refine k_shut (Lx := []) (r := Row 37 14 none 0 0 []) (fun h _ => row_nil _ _ h) ?_
  refine k_lp (X := D1 cs) (fun x => [(3, .slice x.o (difE (cs.take x.i)).length x.cap), (6, .slice o1 cs.length c1), (7, .int .i64 (cs.length : Int)), (8, .int .i64 (x.i : Int))]) (fun _ => [Sl 37 cqf o1 c1 cs]) (fun x => [Row 37 14 x.o (difE (cs.take x.i)).length x.cap ((difE (cs.take x.i)).flatMap cqf)]) (fun x => cs.length - x.i) ⟨0, none, 0, by omega⟩ ⟨rfl, rfl, rfl, rfl, trivial⟩ ?_
  rintro ⟨i, o, cap, hi⟩
  dsimp only
  have hln : (difE (cs.take i)).length ≤ 1000000 := by
    have h4 : (difE (cs.take i)).length ≤ (cs.take i).length := List.length_filter_le ..
    simp only [List.length_take] at h4
    omega
  by_cases hlt : i < cs.length
  · obtain ⟨e, he⟩ : ∃ e, cs[i]? = some e := ⟨_, List.getElem?_eq_getElem hlt⟩
    have htk : cs.take (i + 1) = cs.take i ++ [e] := by rw [List.take_add_one, he]; rfl
    by_cases hk : e.kind = 1
    · have e3 : difE (cs.take (i + 1)) = difE (cs.take i) := by simp [difE, htk, hk]
      repeat' (first | refine l_run ?_ | refine l_nil ?_ | refine l_one ?_ | refine k_reg ?_ | refine l_ld ?_ | refine l_ldF ?_ | refine l_st ?_ | refine l_al (fun b => ?_) | refine l_bs (fun b => ?_) | refine k_condT ?_ | refine k_condF ?_ | refine k_brk ?_ | refine l_ixe (es := cs) i e he (fun b off => ?_) | refine l_ldC ?_ | (refine l_split (fun hc => ?_) (fun hc => ?_) <;> (try simp at hc) <;> (try omega)) | (refine k_cond (fun hc => ?_) (fun hc => ?_) <;> (try simp at hc) <;> (try omega)))
      rw [wrapi (z := (i : Int) + 1) (by omega) (by omega), ← e3]
      exact k_next ⟨i + 1, o, cap, by omega⟩ (by show cs.length - (i + 1) < cs.length - i; omega) ⟨rfl, rfl, rfl, rfl, trivial⟩
    · have e3 : difE (cs.take (i + 1)) = difE (cs.take i) ++ [e] := by simp [difE, htk, hk]
      have e1 : (difE (cs.take i)).length + 1 = (difE (cs.take (i + 1))).length := by rw [e3]; simp
      have e2 : (difE (cs.take i)).flatMap cqf ++ cqf e = (difE (cs.take (i + 1))).flatMap cqf := by rw [e3]; simp
      repeat' (first | refine l_run ?_ | refine l_nil ?_ | refine l_one ?_ | refine k_reg ?_ | refine l_ld ?_ | refine l_ldF ?_ | refine l_st ?_ | refine l_al (fun b => ?_) | refine l_bs (fun b => ?_) | refine k_condT ?_ | refine k_condF ?_ | refine k_brk ?_ | refine l_ixe (es := cs) i e he (fun b off => ?_) | refine l_ldC ?_ | refine l_app1 (fun o' cap' => ?_) | (refine l_split (fun hc => ?_) (fun hc => ?_) <;> (try simp at hc) <;> (try omega)) | (refine k_cond (fun hc => ?_) (fun hc => ?_) <;> (try simp at hc) <;> (try omega)))
      rw [wrapi (z := (i : Int) + 1) (by omega) (by omega)]
      refine k_rowc (T := 37) (sz := 14) (o := o') (cap := cap') (m := (difE (cs.take i)).length + 1) _ _ e1 e2 ?_
      rw [e1]
      exact k_next ⟨i + 1, o', cap', by omega⟩ (by show cs.length - (i + 1) < cs.length - i; omega) ⟨rfl, rfl, rfl, rfl, trivial⟩
  · have e : cs.take i = cs := List.take_of_length_le (by omega)
    rw [e]
    repeat' (first | refine l_run ?_ | refine l_nil ?_ | refine l_one ?_ | refine k_reg ?_ | refine l_ld ?_ | refine l_ldF ?_ | refine l_st ?_ | refine l_al (fun b => ?_) | refine l_bs (fun b => ?_) | refine k_condT ?_ | refine k_condF ?_ | refine k_brk ?_ | (refine l_split (fun hc => ?_) (fun hc => ?_) <;> (try simp at hc) <;> (try omega)) | (refine k_cond (fun hc => ?_) (fun hc => ?_) <;> (try simp at hc) <;> (try omega)))
    refine k_frz (T := 37) (sz := 14) (f := cqf) (o := o) (cap := cap) (difE cs) ?_ rfl rfl
    exact k_ret (o, cap) rfl trivial

theorem cn_snoc (j : Int) (l : List Cq) (e : Cq) : cn j (l ++ [e]) = cn j l + (if e.kind = j then 1 else 0) := by
  simp [cn, List.countP_append, List.countP_cons]
theorem cn0_snoc (l : List Cq) (e : Cq) : cn0 (l ++ [e]) = cn0 l + (if e.kind < 1 ∨ 4 < e.kind then 1 else 0) := by
  simp [cn0, List.countP_append, List.countP_cons]
theorem cn_le (j : Int) (l : List Cq) : cn j l ≤ l.length := List.countP_le_length
theorem cn0_le (l : List Cq) : cn0 l ≤ l.length := List.countP_le_length

structure D2 (l : List Cq) where
  i : Nat
  hi : i ≤ l.length

theorem cnt_step {l : List Cq} {i : Nat} {e : Cq} (he : l[i]? = some e) {a b c d f : Nat} (h0 : cn0 (l.take i) + (if e.kind < 1 ∨ 4 < e.kind then 1 else 0) = a) (h1 : cn 1 (l.take i) + (if e.kind = 1 then 1 else 0) = b) (h2 : cn 2 (l.take i) + (if e.kind = 2 then 1 else 0) = c) (h3 : cn 3 (l.take i) + (if e.kind = 3 then 1 else 0) = d) (h4 : cn 4 (l.take i) + (if e.kind = 4 then 1 else 0) = f) :
    cntC (l.take (i + 1)) = [.int .i64 (a : Int), .int .i64 (b : Int), .int .i64 (c : Int), .int .i64 (d : Int), .int .i64 (f : Int)] := by
  have htk : l.take (i + 1) = l.take i ++ [e] := by rw [List.take_add_one, he]; rfl
  rw [htk, cntC, cn0_snoc, cn_snoc, cn_snoc, cn_snoc, cn_snoc, h0, h1, h2, h3, h4]

set_option maxHeartbeats 2000000 in
theorem count_ok (o1 : Option Addr) (c1 : Nat) (cs : List Cq) (hl : cs.length ≤ 1000000) : Enters 18 ∧ Spec Tryd.prog 18 #[.slice o1 cs.length c1] [Sl 37 cqf o1 c1 cs] [] (RetV (.agg (cntC cs).toArray)) := by
  refine ⟨enters_of Tryd.func18 (by kernel_rfl) rfl, spec_of (vs := [_]) Tryd.func18 rfl Tryd.ntmps18 rfl fun G w hp => ?_⟩
  repeat' (first | refine l_run ?_ | refine l_nil ?_ | refine l_one ?_ | refine k_reg ?_ | refine l_ld ?_ | refine l_ldF ?_ | refine l_st ?_ | refine l_al (fun b => ?_) | refine l_bs (fun b => ?_) | refine k_condT ?_ | refine k_condF ?_ | refine k_brk ?_ | refine l_split (fun hc => ?_) (fun hc => ?_) | refine k_cond (fun hc => ?_) (fun hc => ?_))
  rename_i b2
  generalize b = b3
  refine k_lp (X := D2 cs) (fun x => [(2, .pointer (some ⟨b2, 0, none⟩)), (3, .pointer (some ⟨b3, 0, none⟩)), (6, .slice o1 cs.length c1), (7, .int .i64 (cs.length : Int)), (8, .int .i64 (x.i : Int))]) (fun _ => [Sl 37 cqf o1 c1 cs]) (fun x => [Pt b2 (.cells #[.int .i64 0, .int .i64 0, .int .i64 0, .int .i64 0, .int .i64 0] 53 (0, 0)), Pt b3 (.cells (cntC (cs.take x.i)).toArray 53 (0, 0))]) (fun x => cs.length - x.i) ⟨0, by omega⟩ ⟨rfl, rfl, rfl, rfl, rfl, trivial⟩ ?_
  rintro ⟨i, hi⟩
  dsimp only
  by_cases hlt : i < cs.length
  · obtain ⟨e, he⟩ : ∃ e, cs[i]? = some e := ⟨_, List.getElem?_eq_getElem hlt⟩
    have b0 := cn0_le (cs.take i)
    have b1 := cn_le 1 (cs.take i)
    have b2' := cn_le 2 (cs.take i)
    have b3' := cn_le 3 (cs.take i)
    have b4 := cn_le 4 (cs.take i)
    rw [List.length_take] at b0 b1 b2' b3' b4
    have hst := @cnt_step cs i e he
    unfold cntC
    generalize cn0 (cs.take i) = n0 at *
    generalize cn 1 (cs.take i) = n1 at *
    generalize cn 2 (cs.take i) = n2 at *
    generalize cn 3 (cs.take i) = n3 at *
    generalize cn 4 (cs.take i) = n4 at *
    have hcase : (e.kind < 1 ∨ 4 < e.kind) ∨ e.kind = 1 ∨ e.kind = 2 ∨ e.kind = 3 ∨ e.kind = 4 := by omega
    rcases hcase with hk | hk | hk | hk | hk
    · have hst := @hst (n0 + 1) n1 n2 n3 n4 (by rw [if_pos (by omega)]) (by rw [if_neg (by omega)]; rfl) (by rw [if_neg (by omega)]; rfl) (by rw [if_neg (by omega)]; rfl) (by rw [if_neg (by omega)]; rfl)
      have w0 : IntKind.i64.wrap ((n0 : Int) + 1) = ((n0 + 1 : Nat) : Int) := by rw [wrapi (by omega) (by omega)]; omega
      repeat' (first | refine l_run ?_ | refine l_nil ?_ | refine l_one ?_ | refine k_reg ?_ | refine l_ld ?_ | refine l_ldF ?_ | refine l_st ?_ | refine l_al (fun b => ?_) | refine l_bs (fun b => ?_) | refine k_condT ?_ | refine k_condF ?_ | refine k_brk ?_ | refine l_ixe (es := cs) i e he (fun b off => ?_) | refine l_ldC ?_ | refine l_ixA (m := 5) 0 (by omega) ?_ | rw [w0] | (refine l_split (fun hc => ?_) (fun hc => ?_) <;> (try simp at hc) <;> (try omega)) | (refine k_cond (fun hc => ?_) (fun hc => ?_) <;> (try simp at hc) <;> (try omega)))
      all_goals rw [wrapi (z := (i : Int) + 1) (by omega) (by omega)]
      all_goals refine k_ptc (b := b3) (.cells (cntC (cs.take (i + 1))).toArray 53 (0, 0)) (by rw [hst]) ?_
      all_goals exact k_next ⟨i + 1, by omega⟩ (by show cs.length - (i + 1) < cs.length - i; omega) ⟨rfl, rfl, rfl, rfl, rfl, trivial⟩
    · have hst := @hst n0 (n1 + 1) n2 n3 n4 (by rw [if_neg (by omega)]; rfl) (by rw [if_pos (by omega)]) (by rw [if_neg (by omega)]; rfl) (by rw [if_neg (by omega)]; rfl) (by rw [if_neg (by omega)]; rfl)
      have w0 : IntKind.i64.wrap ((n1 : Int) + 1) = ((n1 + 1 : Nat) : Int) := by rw [wrapi (by omega) (by omega)]; omega
      repeat' (first | refine l_run ?_ | refine l_nil ?_ | refine l_one ?_ | refine k_reg ?_ | refine l_ld ?_ | refine l_ldF ?_ | refine l_st ?_ | refine l_al (fun b => ?_) | refine l_bs (fun b => ?_) | refine k_condT ?_ | refine k_condF ?_ | refine k_brk ?_ | refine l_ixe (es := cs) i e he (fun b off => ?_) | refine l_ldC ?_ | refine l_ixA (m := 5) 1 (by omega) ?_ | rw [w0] | (refine l_split (fun hc => ?_) (fun hc => ?_) <;> (try simp at hc) <;> (try omega)) | (refine k_cond (fun hc => ?_) (fun hc => ?_) <;> (try simp at hc) <;> (try omega)))
      all_goals rw [wrapi (z := (i : Int) + 1) (by omega) (by omega)]
      all_goals refine k_ptc (b := b3) (.cells (cntC (cs.take (i + 1))).toArray 53 (0, 0)) (by rw [hst]) ?_
      all_goals exact k_next ⟨i + 1, by omega⟩ (by show cs.length - (i + 1) < cs.length - i; omega) ⟨rfl, rfl, rfl, rfl, rfl, trivial⟩
    · have hst := @hst n0 n1 (n2 + 1) n3 n4 (by rw [if_neg (by omega)]; rfl) (by rw [if_neg (by omega)]; rfl) (by rw [if_pos (by omega)]) (by rw [if_neg (by omega)]; rfl) (by rw [if_neg (by omega)]; rfl)
      have w0 : IntKind.i64.wrap ((n2 : Int) + 1) = ((n2 + 1 : Nat) : Int) := by rw [wrapi (by omega) (by omega)]; omega
      repeat' (first | refine l_run ?_ | refine l_nil ?_ | refine l_one ?_ | refine k_reg ?_ | refine l_ld ?_ | refine l_ldF ?_ | refine l_st ?_ | refine l_al (fun b => ?_) | refine l_bs (fun b => ?_) | refine k_condT ?_ | refine k_condF ?_ | refine k_brk ?_ | refine l_ixe (es := cs) i e he (fun b off => ?_) | refine l_ldC ?_ | refine l_ixA (m := 5) 2 (by omega) ?_ | rw [w0] | (refine l_split (fun hc => ?_) (fun hc => ?_) <;> (try simp at hc) <;> (try omega)) | (refine k_cond (fun hc => ?_) (fun hc => ?_) <;> (try simp at hc) <;> (try omega)))
      all_goals rw [wrapi (z := (i : Int) + 1) (by omega) (by omega)]
      all_goals refine k_ptc (b := b3) (.cells (cntC (cs.take (i + 1))).toArray 53 (0, 0)) (by rw [hst]) ?_
      all_goals exact k_next ⟨i + 1, by omega⟩ (by show cs.length - (i + 1) < cs.length - i; omega) ⟨rfl, rfl, rfl, rfl, rfl, trivial⟩
    · have hst := @hst n0 n1 n2 (n3 + 1) n4 (by rw [if_neg (by omega)]; rfl) (by rw [if_neg (by omega)]; rfl) (by rw [if_neg (by omega)]; rfl) (by rw [if_pos (by omega)]) (by rw [if_neg (by omega)]; rfl)
      have w0 : IntKind.i64.wrap ((n3 : Int) + 1) = ((n3 + 1 : Nat) : Int) := by rw [wrapi (by omega) (by omega)]; omega
      repeat' (first | refine l_run ?_ | refine l_nil ?_ | refine l_one ?_ | refine k_reg ?_ | refine l_ld ?_ | refine l_ldF ?_ | refine l_st ?_ | refine l_al (fun b => ?_) | refine l_bs (fun b => ?_) | refine k_condT ?_ | refine k_condF ?_ | refine k_brk ?_ | refine l_ixe (es := cs) i e he (fun b off => ?_) | refine l_ldC ?_ | refine l_ixA (m := 5) 3 (by omega) ?_ | rw [w0] | (refine l_split (fun hc => ?_) (fun hc => ?_) <;> (try simp at hc) <;> (try omega)) | (refine k_cond (fun hc => ?_) (fun hc => ?_) <;> (try simp at hc) <;> (try omega)))
      all_goals rw [wrapi (z := (i : Int) + 1) (by omega) (by omega)]
      all_goals refine k_ptc (b := b3) (.cells (cntC (cs.take (i + 1))).toArray 53 (0, 0)) (by rw [hst]) ?_
      all_goals exact k_next ⟨i + 1, by omega⟩ (by show cs.length - (i + 1) < cs.length - i; omega) ⟨rfl, rfl, rfl, rfl, rfl, trivial⟩
    · have hst := @hst n0 n1 n2 n3 (n4 + 1) (by rw [if_neg (by omega)]; rfl) (by rw [if_neg (by omega)]; rfl) (by rw [if_neg (by omega)]; rfl) (by rw [if_neg (by omega)]; rfl) (by rw [if_pos (by omega)])
      have w0 : IntKind.i64.wrap ((n4 : Int) + 1) = ((n4 + 1 : Nat) : Int) := by rw [wrapi (by omega) (by omega)]; omega
      repeat' (first | refine l_run ?_ | refine l_nil ?_ | refine l_one ?_ | refine k_reg ?_ | refine l_ld ?_ | refine l_ldF ?_ | refine l_st ?_ | refine l_al (fun b => ?_) | refine l_bs (fun b => ?_) | refine k_condT ?_ | refine k_condF ?_ | refine k_brk ?_ | refine l_ixe (es := cs) i e he (fun b off => ?_) | refine l_ldC ?_ | refine l_ixA (m := 5) 4 (by omega) ?_ | rw [w0] | (refine l_split (fun hc => ?_) (fun hc => ?_) <;> (try simp at hc) <;> (try omega)) | (refine k_cond (fun hc => ?_) (fun hc => ?_) <;> (try simp at hc) <;> (try omega)))
      all_goals rw [wrapi (z := (i : Int) + 1) (by omega) (by omega)]
      all_goals refine k_ptc (b := b3) (.cells (cntC (cs.take (i + 1))).toArray 53 (0, 0)) (by rw [hst]) ?_
      all_goals exact k_next ⟨i + 1, by omega⟩ (by show cs.length - (i + 1) < cs.length - i; omega) ⟨rfl, rfl, rfl, rfl, rfl, trivial⟩
  · have e : cs.take i = cs := List.take_of_length_le (by omega)
    rw [e]
    repeat' (first | refine l_run ?_ | refine l_nil ?_ | refine l_one ?_ | refine k_reg ?_ | refine l_ld ?_ | refine l_ldF ?_ | refine l_st ?_ | refine l_al (fun b => ?_) | refine l_bs (fun b => ?_) | refine k_condT ?_ | refine k_condF ?_ | refine k_brk ?_ | (refine l_split (fun hc => ?_) (fun hc => ?_) <;> (try simp at hc) <;> (try omega)) | (refine k_cond (fun hc => ?_) (fun hc => ?_) <;> (try simp at hc) <;> (try omega)))
    exact k_ret () rfl trivial
end Go.Proofs.YtdmbnkmcdhmccaaDoor
