/-
  The statement ConsequenceCounts, walked.
  Conditions: those that each theorem states.
-/
import Derived.Test.YtdmbnkmcdhmccaaDoorLawE
set_option maxRecDepth 10000
namespace Go.Proofs.YtdmbnkmcdhmccaaDoor
open Go.RowKit

def i8f (x : Int8) : List Value := [.int .i8 x.toInt]
/-- The consequences of the kinds. -/
def kq (c : Cq) (k : Int8) (p : Nat) : Cq := { c with kind := k.toInt, place := p }
def kqs (c : Cq) (ks : List Int8) : List Cq := ks.mapIdx fun p k => kq c k p
theorem kqs_len (c : Cq) (ks : List Int8) : (kqs c ks).length = ks.length := by simp [kqs]
theorem kqs_snoc (c : Cq) {ks : List Int8} {i : Nat} {k : Int8} (h : ks[i]? = some k) : kqs c (ks.take (i + 1)) = kqs c (ks.take i) ++ [kq c k i] := by
  have hi := (List.getElem?_eq_some_iff.1 h).1
  rw [List.take_add_one, h]
  simp only [Option.toList_some]
  rw [kqs, List.mapIdx_append]
  simp [kqs]
  congr 1; omega
theorem kqs_take (c : Cq) (ks : List Int8) (i : Nat) : kqs c (ks.take i) = (kqs c ks).take i := by
  apply List.ext_getElem?
  intro j
  simp only [kqs, List.getElem?_mapIdx, List.getElem?_take]
  split <;> simp
theorem kqs_get (c : Cq) {ks : List Int8} {i : Nat} {k : Int8} (h : ks[i]? = some k) : (kqs c ks)[i]? = some (kq c k i) := by simp [kqs, h]

structure N1 (ks : List Int8) where
  i : Nat
  o : Option Addr
  cap : Nat
  o' : Option Addr
  cap' : Nat
  hi : i ≤ ks.length

set_option maxHeartbeats 8000000 in
theorem lawCounts_ok (o1 : Option Addr) (c1 : Nat) (ks : List Int8) (c : Cq) (hl : ks.length ≤ 1099511627776) :
    Enters 7 ∧ Spec Tryd.prog 7 #[.slice o1 ks.length c1, c.v] [Sl 58 i8f o1 c1 ks, Usg] [] (RetV (.bool true)) := by
  by_cases h40 : 40 < ks.length
  · refine ⟨enters_of Tryd.func7 (by kernel_rfl) rfl, spec_of (vs := [_, _]) Tryd.func7 rfl Tryd.ntmps7 rfl fun G w hp => ?_⟩
    repeat' (first | refine l_run ?_ | refine l_nil ?_ | refine l_one ?_ | refine k_reg ?_ | refine l_ld ?_ | refine l_ldF ?_ | refine l_st ?_ | refine l_al (fun b => ?_) | refine l_bs (fun b => ?_) | refine k_condT ?_ | refine k_condF ?_ | refine k_brk ?_ | refine r_run ?_ | refine r_one ?_ | refine r_ld ?_ | refine r_ldF ?_ | refine r_al (fun b => ?_) | refine r_bs (fun b => ?_) | refine r_st ?_ | refine r_end ?_ | refine l_call (known_ok) (fun _ _ => ?_) | refine l_call0 (known_ok) (fun _ _ => ?_) | refine r_call (known_ok) (fun _ _ => ?_) | (refine l_split (fun hc => ?_) (fun hc => ?_) <;> (try simp at hc) <;> (try omega)) | (refine r_split (fun hc => ?_) (fun hc => ?_) <;> (try simp at hc) <;> (try omega)) | refine k_draw 17 [] [(0, 0), (2, 0), (1, 2), (3, 0), (4, 0), (5, 0), (6, 0), (7, 0), (8, 0), (9, 0), (10, 0)] [] ?_ | refine k_draw 22 [] [(0, 0), (1, 0), (2, 0), (3, 0), (4, 0), (5, 0), (6, 0), (7, 0), (8, 0)] [] ?_ | (refine k_cond (fun hc => ?_) (fun hc => ?_) <;> (try simp at hc) <;> (try omega)))
    all_goals exact k_ret () rfl trivial
  · have hkl : (kqs c ks).length ≤ 40 := by rw [kqs_len]; omega
    have hdl : (difE (kqs c ks)).length ≤ 40 := Nat.le_trans (List.length_filter_le ..) hkl
    have n1 := fun o c1 => differences_ok o c1 (kqs c ks) (by omega)
    have n2 := fun o c1 => count_ok o c1 (kqs c ks) (by omega)
    refine ⟨enters_of Tryd.func7 (by kernel_rfl) rfl, spec_of (vs := [_, _]) Tryd.func7 rfl Tryd.ntmps7 rfl fun G w hp => ?_⟩
    repeat' (first | refine l_run ?_ | refine l_nil ?_ | refine l_one ?_ | refine k_reg ?_ | refine l_ld ?_ | refine l_ldF ?_ | refine l_st ?_ | refine l_al (fun b => ?_) | refine l_bs (fun b => ?_) | refine k_condT ?_ | refine k_condF ?_ | refine k_brk ?_ | refine r_run ?_ | refine r_one ?_ | refine r_ld ?_ | refine r_ldF ?_ | refine r_al (fun b => ?_) | refine r_bs (fun b => ?_) | refine r_st ?_ | refine r_end ?_ | refine l_call (known_ok) (fun _ _ => ?_) | refine l_call0 (known_ok) (fun _ _ => ?_) | refine r_call (known_ok) (fun _ _ => ?_) | (refine l_split (fun hc => ?_) (fun hc => ?_) <;> (try simp at hc) <;> (try omega)) | (refine r_split (fun hc => ?_) (fun hc => ?_) <;> (try simp at hc) <;> (try omega)) | refine k_draw 17 [] [(0, 0), (2, 0), (1, 2), (3, 0), (4, 0), (5, 0), (6, 0), (7, 0), (8, 0), (9, 0), (10, 0)] [] ?_ | refine k_draw 22 [] [(0, 0), (1, 0), (2, 0), (3, 0), (4, 0), (5, 0), (6, 0), (7, 0), (8, 0)] [] ?_ | (refine k_cond (fun hc => ?_) (fun hc => ?_) <;> (try simp at hc) <;> (try omega)))
    rename_i b3 _ _
    generalize b = b7
    refine k_shut (Lx := []) (r := Row 37 14 none 0 0 []) (fun h _ => row_nil _ _ h) ?_
    refine k_shut (Lx := []) (r := Row 37 14 none 0 0 []) (fun h _ => row_nil _ _ h) ?_
    refine k_lpx (X := N1 ks) (Y := Option Addr × Nat × Option Addr × Nat)
      (fun x => [(0, .slice o1 ks.length c1), (3, .pointer (some ⟨b3, 0, none⟩)), (5, .slice x.o (kqs c (ks.take x.i)).length x.cap), (6, .slice x.o' (difE (kqs c (ks.take x.i))).length x.cap'), (7, .pointer (some ⟨b7, 0, none⟩)), (8, .int .i64 (x.i : Int))]) (fun _ => [Sl 58 i8f o1 c1 ks])
      (fun x => [Pt b3 (.cells (cqf c).toArray 37 (0, 0)), Pt b7 (.cells (cntC (kqs c (ks.take x.i))).toArray 53 (0, 0)), Row 37 14 x.o (kqs c (ks.take x.i)).length x.cap ((kqs c (ks.take x.i)).flatMap cqf), Row 37 14 x.o' (difE (kqs c (ks.take x.i))).length x.cap' ((difE (kqs c (ks.take x.i))).flatMap cqf)]) (fun x => ks.length - x.i)
      (fun y => [(5, .slice y.1 (kqs c ks).length y.2.1), (6, .slice y.2.2.1 (difE (kqs c ks)).length y.2.2.2), (7, .pointer (some ⟨b7, 0, none⟩))]) (fun y => [Sl 37 cqf y.1 y.2.1 (kqs c ks), Sl 37 cqf y.2.2.1 y.2.2.2 (difE (kqs c ks))]) (fun _ => [Pt b7 (.cells (cntC (kqs c ks)).toArray 53 (0, 0))])
      ⟨0, none, 0, none, 0, by omega⟩ ⟨rfl, rfl, rfl, rfl, rfl, rfl, trivial⟩ ?_ ?_
    · rintro ⟨o, cap, o', cap'⟩
      dsimp only
      generalize kqs c ks = cs at *
      generalize hd : difE cs = ds at *
      have hcnt : ∃ a b d e f : Int, cntC cs = [.int .i64 a, .int .i64 b, .int .i64 d, .int .i64 e, .int .i64 f] := ⟨_, _, _, _, _, rfl⟩
      obtain ⟨a0, a1, a2, a3, a4, hcnt⟩ := hcnt
      simp only [hcnt] at n2 ⊢
      repeat' (first | refine l_run ?_ | refine l_nil ?_ | refine l_one ?_ | refine k_reg ?_ | refine l_ld ?_ | refine l_ldF ?_ | refine l_st ?_ | refine l_al (fun b => ?_) | refine l_bs (fun b => ?_) | refine k_condT ?_ | refine k_condF ?_ | refine k_brk ?_ | refine r_run ?_ | refine r_one ?_ | refine r_ld ?_ | refine r_ldF ?_ | refine r_al (fun b => ?_) | refine r_bs (fun b => ?_) | refine r_st ?_ | refine r_end ?_ | refine l_call (n1 _ _) (fun _ _ => ?_) | refine l_call0 (n1 _ _) (fun _ _ => ?_) | refine r_call (n1 _ _) (fun _ _ => ?_) | refine l_call (n2 _ _) (fun _ _ => ?_) | refine l_call0 (n2 _ _) (fun _ _ => ?_) | refine r_call (n2 _ _) (fun _ _ => ?_) | refine r_sneq (b := true) ?_ rfl rfl rfl rfl rfl (by show some _ = some true; simp) | (refine l_split (fun hc => ?_) (fun hc => ?_) <;> (try simp at hc) <;> (try omega)) | (refine r_split (fun hc => ?_) (fun hc => ?_) <;> (try simp at hc) <;> (try omega)) | refine k_draw 17 [] [(0, 0), (2, 0), (1, 2), (3, 0), (4, 0), (5, 0), (6, 0), (7, 0), (8, 0), (9, 0), (10, 0)] [] ?_ | refine k_draw 22 [] [(0, 0), (1, 0), (2, 0), (3, 0), (4, 0), (5, 0), (6, 0), (7, 0), (8, 0)] [] ?_ | (refine k_cond (fun hc => ?_) (fun hc => ?_) <;> (try simp at hc) <;> (try omega)))
      rename_i qd _ _ _
      obtain ⟨od, cd⟩ := qd
      refine k_lp (X := { i : Nat // i ≤ ds.length }) (fun x => [(6, .slice o' ds.length cap'), (10, .slice od ds.length cd), (11, .int .i64 (x.1 : Int))]) (fun _ => [Sl 37 cqf o' cap' ds, Sl 37 cqf od cd ds]) (fun _ => []) (fun x => ds.length - x.1) ⟨0, by omega⟩ ⟨rfl, rfl, rfl, trivial⟩ ?_
      rintro ⟨i, hi⟩
      dsimp only
      by_cases hlt : i < ds.length
      · obtain ⟨e, he⟩ : ∃ e, ds[i]? = some e := ⟨_, List.getElem?_eq_getElem hlt⟩
        have hee : eqq e e = true := by rw [eqq_iff]; simp
        repeat' (first | refine l_run ?_ | refine l_nil ?_ | refine l_one ?_ | refine k_reg ?_ | refine l_ld ?_ | refine l_ldF ?_ | refine l_st ?_ | refine l_al (fun b => ?_) | refine l_bs (fun b => ?_) | refine k_condT ?_ | refine k_condF ?_ | refine k_brk ?_ | refine r_run ?_ | refine r_one ?_ | refine r_ld ?_ | refine r_ldF ?_ | refine r_al (fun b => ?_) | refine r_bs (fun b => ?_) | refine r_st ?_ | refine r_end ?_ | refine r_ixe (T := 37) (f := cqf) (es := ds) i e he (fun b off => ?_) | refine r_ldC ?_ | refine r_sneq (b := eqq e e) ?_ | rw [hee] | (refine l_split (fun hc => ?_) (fun hc => ?_) <;> (try simp at hc) <;> (try omega)) | (refine r_split (fun hc => ?_) (fun hc => ?_) <;> (try simp at hc) <;> (try omega)) | refine k_draw 17 [] [(0, 0), (2, 0), (1, 2), (3, 0), (4, 0), (5, 0), (6, 0), (7, 0), (8, 0), (9, 0), (10, 0)] [] ?_ | refine k_draw 22 [] [(0, 0), (1, 0), (2, 0), (3, 0), (4, 0), (5, 0), (6, 0), (7, 0), (8, 0)] [] ?_ | (refine k_cond (fun hc => ?_) (fun hc => ?_) <;> (try simp at hc) <;> (try omega)))
        rw [wrapi (z := (i : Int) + 1) (by omega) (by omega)]
        exact k_next ⟨i + 1, by omega⟩ (by show ds.length - (i + 1) < ds.length - i; omega) ⟨rfl, rfl, rfl, trivial⟩
      · repeat' (first | refine l_run ?_ | refine l_nil ?_ | refine l_one ?_ | refine k_reg ?_ | refine l_ld ?_ | refine l_ldF ?_ | refine l_st ?_ | refine l_al (fun b => ?_) | refine l_bs (fun b => ?_) | refine k_condT ?_ | refine k_condF ?_ | refine k_brk ?_ | refine r_run ?_ | refine r_one ?_ | refine r_ld ?_ | refine r_ldF ?_ | refine r_al (fun b => ?_) | refine r_bs (fun b => ?_) | refine r_st ?_ | refine r_end ?_ | (refine l_split (fun hc => ?_) (fun hc => ?_) <;> (try simp at hc) <;> (try omega)) | (refine r_split (fun hc => ?_) (fun hc => ?_) <;> (try simp at hc) <;> (try omega)) | refine k_draw 17 [] [(0, 0), (2, 0), (1, 2), (3, 0), (4, 0), (5, 0), (6, 0), (7, 0), (8, 0), (9, 0), (10, 0)] [] ?_ | refine k_draw 22 [] [(0, 0), (1, 0), (2, 0), (3, 0), (4, 0), (5, 0), (6, 0), (7, 0), (8, 0)] [] ?_ | (refine k_cond (fun hc => ?_) (fun hc => ?_) <;> (try simp at hc) <;> (try omega)))
        exact k_ret () rfl trivial
    · rintro hx ⟨i, o, cap, o', cap', hi⟩
      dsimp only
      have hln : (kqs c (ks.take i)).length = i := by rw [kqs_len]; simp; omega
      have hln2 : (difE (kqs c (ks.take i))).length ≤ i := Nat.le_trans (List.length_filter_le ..) (by omega)
      by_cases hlt : i < ks.length
      · obtain ⟨k, hk⟩ : ∃ e, ks[i]? = some e := ⟨_, List.getElem?_eq_getElem hlt⟩
        have hsn := kqs_snoc c hk
        have hkr : -128 ≤ k.toInt ∧ k.toInt ≤ 127 := ⟨Int8.le_toInt k, by have := Int8.toInt_lt k; omega⟩
        have wk : IntKind.i64.wrap k.toInt = k.toInt := wrapi (by omega) (by omega)
        have e1 : (kqs c (ks.take i)).length + 1 = (kqs c (ks.take (i + 1))).length := by rw [hsn]; simp
        have e2 : (kqs c (ks.take i)).flatMap cqf ++ cqf (kq c k i) = (kqs c (ks.take (i + 1))).flatMap cqf := by rw [hsn]; simp
        have b0 := cn0_le (kqs c (ks.take i))
        have b1 := cn_le 1 (kqs c (ks.take i))
        have b2' := cn_le 2 (kqs c (ks.take i))
        have b3' := cn_le 3 (kqs c (ks.take i))
        have b4 := cn_le 4 (kqs c (ks.take i))
        rw [hln] at b0 b1 b2' b3' b4
        have hst := @cnt_step (kqs c ks) i (kq c k i) (kqs_get c hk)
        rw [← kqs_take, ← kqs_take] at hst
        have hd0 : difE (kqs c (ks.take (i + 1))) = difE (kqs c (ks.take i)) ++ (if k.toInt = 1 then [] else [kq c k i]) := by
          rw [hsn]
          by_cases h1 : k.toInt = 1 <;> simp [difE, kq, h1]
        have hcase : ((kq c k i).kind < 1 ∨ 4 < (kq c k i).kind) ∨ (kq c k i).kind = 1 ∨ (kq c k i).kind = 2 ∨ (kq c k i).kind = 3 ∨ (kq c k i).kind = 4 := by omega
        have hkk : (kq c k i).kind = k.toInt := rfl
        simp only [hkk] at hst hcase
        unfold cntC
        generalize cn0 (kqs c (ks.take i)) = n0 at *
        generalize cn 1 (kqs c (ks.take i)) = n1' at *
        generalize cn 2 (kqs c (ks.take i)) = n2' at *
        generalize cn 3 (kqs c (ks.take i)) = n3 at *
        generalize cn 4 (kqs c (ks.take i)) = n4 at *
        rcases hcase with hq | hq | hq | hq | hq
        · have hst := @hst (n0 + 1) n1' n2' n3 n4 (by rw [if_pos (by omega)]) (by rw [if_neg (by omega)]; rfl) (by rw [if_neg (by omega)]; rfl) (by rw [if_neg (by omega)]; rfl) (by rw [if_neg (by omega)]; rfl)
          have w0 : IntKind.i64.wrap ((n0 : Int) + 1) = ((n0 + 1 : Nat) : Int) := by rw [wrapi (by omega) (by omega)]; omega
          rw [if_neg (by omega)] at hd0
          have d1 : (difE (kqs c (ks.take i))).length + 1 = (difE (kqs c (ks.take (i + 1)))).length := by rw [hd0]; simp
          have d2 : (difE (kqs c (ks.take i))).flatMap cqf ++ cqf (kq c k i) = (difE (kqs c (ks.take (i + 1)))).flatMap cqf := by rw [hd0]; simp
          repeat' (first | refine l_run ?_ | refine l_nil ?_ | refine l_one ?_ | refine k_reg ?_ | refine l_ld ?_ | refine l_ldF ?_ | refine l_st ?_ | refine l_al (fun b => ?_) | refine l_bs (fun b => ?_) | refine k_condT ?_ | refine k_condF ?_ | refine r_run ?_ | refine r_one ?_ | refine r_ld ?_ | refine r_ldF ?_ | refine r_al (fun b => ?_) | refine r_bs (fun b => ?_) | refine r_st ?_ | refine r_end ?_ | refine l_ixe (T := 58) (f := i8f) (es := ks) i k hk (fun b off => ?_) | refine l_ldC ?_ | rw [wk] | refine l_app1 (m := (kqs c (ks.take i)).length) (fun o2 cap2 => ?_) | refine l_app1 (m := (difE (kqs c (ks.take i))).length) (fun o3 cap3 => ?_) | refine l_ixA (m := 5) 0 (by omega) ?_ | rw [w0] | (refine l_split (fun hc => ?_) (fun hc => ?_) <;> (try simp at hc) <;> (try omega)) | (refine r_split (fun hc => ?_) (fun hc => ?_) <;> (try simp at hc) <;> (try omega)) | refine k_draw 17 [] [(0, 0), (2, 0), (1, 2), (3, 0), (4, 0), (5, 0), (6, 0), (7, 0), (8, 0), (9, 0), (10, 0)] [] ?_ | refine k_draw 22 [] [(0, 0), (1, 0), (2, 0), (3, 0), (4, 0), (5, 0), (6, 0), (7, 0), (8, 0)] [] ?_ | (refine k_cond (fun hc => ?_) (fun hc => ?_) <;> (try simp at hc) <;> (try omega)))
          all_goals rw [wrapi (z := (i : Int) + 1) (by omega) (by omega)]
          all_goals refine k_ptc (b := b7) (.cells (cntC (kqs c (ks.take (i + 1)))).toArray 53 (0, 0)) (by rw [hst]) ?_
          all_goals refine k_rowc (T := 37) (sz := 14) (o := o2) (cap := cap2) (m := (kqs c (ks.take i)).length + 1) _ _ e1 e2 ?_
          all_goals refine k_rowc (T := 37) (sz := 14) (o := o3) (cap := cap3) (m := (difE (kqs c (ks.take i))).length + 1) _ _ d1 d2 ?_
          all_goals rw [e1, d1]
          all_goals exact k_next ⟨i + 1, o2, cap2, o3, cap3, by omega⟩ (by show ks.length - (i + 1) < ks.length - i; omega) ⟨rfl, rfl, rfl, rfl, rfl, rfl, trivial⟩
        · have hst := @hst n0 (n1' + 1) n2' n3 n4 (by rw [if_neg (by omega)]; rfl) (by rw [if_pos (by omega)]) (by rw [if_neg (by omega)]; rfl) (by rw [if_neg (by omega)]; rfl) (by rw [if_neg (by omega)]; rfl)
          have w0 : IntKind.i64.wrap ((n1' : Int) + 1) = ((n1' + 1 : Nat) : Int) := by rw [wrapi (by omega) (by omega)]; omega
          rw [if_pos hq, List.append_nil] at hd0
          repeat' (first | refine l_run ?_ | refine l_nil ?_ | refine l_one ?_ | refine k_reg ?_ | refine l_ld ?_ | refine l_ldF ?_ | refine l_st ?_ | refine l_al (fun b => ?_) | refine l_bs (fun b => ?_) | refine k_condT ?_ | refine k_condF ?_ | refine r_run ?_ | refine r_one ?_ | refine r_ld ?_ | refine r_ldF ?_ | refine r_al (fun b => ?_) | refine r_bs (fun b => ?_) | refine r_st ?_ | refine r_end ?_ | refine l_ixe (T := 58) (f := i8f) (es := ks) i k hk (fun b off => ?_) | refine l_ldC ?_ | rw [wk] | refine l_app1 (m := (kqs c (ks.take i)).length) (fun o2 cap2 => ?_) | refine l_app1 (m := (difE (kqs c (ks.take i))).length) (fun o3 cap3 => ?_) | refine l_ixA (m := 5) 1 (by omega) ?_ | rw [w0] | (refine l_split (fun hc => ?_) (fun hc => ?_) <;> (try simp at hc) <;> (try omega)) | (refine r_split (fun hc => ?_) (fun hc => ?_) <;> (try simp at hc) <;> (try omega)) | refine k_draw 17 [] [(0, 0), (2, 0), (1, 2), (3, 0), (4, 0), (5, 0), (6, 0), (7, 0), (8, 0), (9, 0), (10, 0)] [] ?_ | refine k_draw 22 [] [(0, 0), (1, 0), (2, 0), (3, 0), (4, 0), (5, 0), (6, 0), (7, 0), (8, 0)] [] ?_ | (refine k_cond (fun hc => ?_) (fun hc => ?_) <;> (try simp at hc) <;> (try omega)))
          all_goals rw [wrapi (z := (i : Int) + 1) (by omega) (by omega)]
          all_goals refine k_ptc (b := b7) (.cells (cntC (kqs c (ks.take (i + 1)))).toArray 53 (0, 0)) (by rw [hst]) ?_
          all_goals refine k_rowc (T := 37) (sz := 14) (o := o2) (cap := cap2) (m := (kqs c (ks.take i)).length + 1) _ _ e1 e2 ?_
          all_goals rw [e1, ← hd0]
          all_goals exact k_next ⟨i + 1, o2, cap2, o', cap', by omega⟩ (by show ks.length - (i + 1) < ks.length - i; omega) ⟨rfl, rfl, rfl, rfl, rfl, rfl, trivial⟩
        · have hst := @hst n0 n1' (n2' + 1) n3 n4 (by rw [if_neg (by omega)]; rfl) (by rw [if_neg (by omega)]; rfl) (by rw [if_pos (by omega)]) (by rw [if_neg (by omega)]; rfl) (by rw [if_neg (by omega)]; rfl)
          have w0 : IntKind.i64.wrap ((n2' : Int) + 1) = ((n2' + 1 : Nat) : Int) := by rw [wrapi (by omega) (by omega)]; omega
          rw [if_neg (by omega)] at hd0
          have d1 : (difE (kqs c (ks.take i))).length + 1 = (difE (kqs c (ks.take (i + 1)))).length := by rw [hd0]; simp
          have d2 : (difE (kqs c (ks.take i))).flatMap cqf ++ cqf (kq c k i) = (difE (kqs c (ks.take (i + 1)))).flatMap cqf := by rw [hd0]; simp
          repeat' (first | refine l_run ?_ | refine l_nil ?_ | refine l_one ?_ | refine k_reg ?_ | refine l_ld ?_ | refine l_ldF ?_ | refine l_st ?_ | refine l_al (fun b => ?_) | refine l_bs (fun b => ?_) | refine k_condT ?_ | refine k_condF ?_ | refine r_run ?_ | refine r_one ?_ | refine r_ld ?_ | refine r_ldF ?_ | refine r_al (fun b => ?_) | refine r_bs (fun b => ?_) | refine r_st ?_ | refine r_end ?_ | refine l_ixe (T := 58) (f := i8f) (es := ks) i k hk (fun b off => ?_) | refine l_ldC ?_ | rw [wk] | refine l_app1 (m := (kqs c (ks.take i)).length) (fun o2 cap2 => ?_) | refine l_app1 (m := (difE (kqs c (ks.take i))).length) (fun o3 cap3 => ?_) | refine l_ixA (m := 5) 2 (by omega) ?_ | rw [w0] | (refine l_split (fun hc => ?_) (fun hc => ?_) <;> (try simp at hc) <;> (try omega)) | (refine r_split (fun hc => ?_) (fun hc => ?_) <;> (try simp at hc) <;> (try omega)) | refine k_draw 17 [] [(0, 0), (2, 0), (1, 2), (3, 0), (4, 0), (5, 0), (6, 0), (7, 0), (8, 0), (9, 0), (10, 0)] [] ?_ | refine k_draw 22 [] [(0, 0), (1, 0), (2, 0), (3, 0), (4, 0), (5, 0), (6, 0), (7, 0), (8, 0)] [] ?_ | (refine k_cond (fun hc => ?_) (fun hc => ?_) <;> (try simp at hc) <;> (try omega)))
          all_goals rw [wrapi (z := (i : Int) + 1) (by omega) (by omega)]
          all_goals refine k_ptc (b := b7) (.cells (cntC (kqs c (ks.take (i + 1)))).toArray 53 (0, 0)) (by rw [hst]) ?_
          all_goals refine k_rowc (T := 37) (sz := 14) (o := o2) (cap := cap2) (m := (kqs c (ks.take i)).length + 1) _ _ e1 e2 ?_
          all_goals refine k_rowc (T := 37) (sz := 14) (o := o3) (cap := cap3) (m := (difE (kqs c (ks.take i))).length + 1) _ _ d1 d2 ?_
          all_goals rw [e1, d1]
          all_goals exact k_next ⟨i + 1, o2, cap2, o3, cap3, by omega⟩ (by show ks.length - (i + 1) < ks.length - i; omega) ⟨rfl, rfl, rfl, rfl, rfl, rfl, trivial⟩
        · have hst := @hst n0 n1' n2' (n3 + 1) n4 (by rw [if_neg (by omega)]; rfl) (by rw [if_neg (by omega)]; rfl) (by rw [if_neg (by omega)]; rfl) (by rw [if_pos (by omega)]) (by rw [if_neg (by omega)]; rfl)
          have w0 : IntKind.i64.wrap ((n3 : Int) + 1) = ((n3 + 1 : Nat) : Int) := by rw [wrapi (by omega) (by omega)]; omega
          rw [if_neg (by omega)] at hd0
          have d1 : (difE (kqs c (ks.take i))).length + 1 = (difE (kqs c (ks.take (i + 1)))).length := by rw [hd0]; simp
          have d2 : (difE (kqs c (ks.take i))).flatMap cqf ++ cqf (kq c k i) = (difE (kqs c (ks.take (i + 1)))).flatMap cqf := by rw [hd0]; simp
          repeat' (first | refine l_run ?_ | refine l_nil ?_ | refine l_one ?_ | refine k_reg ?_ | refine l_ld ?_ | refine l_ldF ?_ | refine l_st ?_ | refine l_al (fun b => ?_) | refine l_bs (fun b => ?_) | refine k_condT ?_ | refine k_condF ?_ | refine r_run ?_ | refine r_one ?_ | refine r_ld ?_ | refine r_ldF ?_ | refine r_al (fun b => ?_) | refine r_bs (fun b => ?_) | refine r_st ?_ | refine r_end ?_ | refine l_ixe (T := 58) (f := i8f) (es := ks) i k hk (fun b off => ?_) | refine l_ldC ?_ | rw [wk] | refine l_app1 (m := (kqs c (ks.take i)).length) (fun o2 cap2 => ?_) | refine l_app1 (m := (difE (kqs c (ks.take i))).length) (fun o3 cap3 => ?_) | refine l_ixA (m := 5) 3 (by omega) ?_ | rw [w0] | (refine l_split (fun hc => ?_) (fun hc => ?_) <;> (try simp at hc) <;> (try omega)) | (refine r_split (fun hc => ?_) (fun hc => ?_) <;> (try simp at hc) <;> (try omega)) | refine k_draw 17 [] [(0, 0), (2, 0), (1, 2), (3, 0), (4, 0), (5, 0), (6, 0), (7, 0), (8, 0), (9, 0), (10, 0)] [] ?_ | refine k_draw 22 [] [(0, 0), (1, 0), (2, 0), (3, 0), (4, 0), (5, 0), (6, 0), (7, 0), (8, 0)] [] ?_ | (refine k_cond (fun hc => ?_) (fun hc => ?_) <;> (try simp at hc) <;> (try omega)))
          all_goals rw [wrapi (z := (i : Int) + 1) (by omega) (by omega)]
          all_goals refine k_ptc (b := b7) (.cells (cntC (kqs c (ks.take (i + 1)))).toArray 53 (0, 0)) (by rw [hst]) ?_
          all_goals refine k_rowc (T := 37) (sz := 14) (o := o2) (cap := cap2) (m := (kqs c (ks.take i)).length + 1) _ _ e1 e2 ?_
          all_goals refine k_rowc (T := 37) (sz := 14) (o := o3) (cap := cap3) (m := (difE (kqs c (ks.take i))).length + 1) _ _ d1 d2 ?_
          all_goals rw [e1, d1]
          all_goals exact k_next ⟨i + 1, o2, cap2, o3, cap3, by omega⟩ (by show ks.length - (i + 1) < ks.length - i; omega) ⟨rfl, rfl, rfl, rfl, rfl, rfl, trivial⟩
        · have hst := @hst n0 n1' n2' n3 (n4 + 1) (by rw [if_neg (by omega)]; rfl) (by rw [if_neg (by omega)]; rfl) (by rw [if_neg (by omega)]; rfl) (by rw [if_neg (by omega)]; rfl) (by rw [if_pos (by omega)])
          have w0 : IntKind.i64.wrap ((n4 : Int) + 1) = ((n4 + 1 : Nat) : Int) := by rw [wrapi (by omega) (by omega)]; omega
          rw [if_neg (by omega)] at hd0
          have d1 : (difE (kqs c (ks.take i))).length + 1 = (difE (kqs c (ks.take (i + 1)))).length := by rw [hd0]; simp
          have d2 : (difE (kqs c (ks.take i))).flatMap cqf ++ cqf (kq c k i) = (difE (kqs c (ks.take (i + 1)))).flatMap cqf := by rw [hd0]; simp
          repeat' (first | refine l_run ?_ | refine l_nil ?_ | refine l_one ?_ | refine k_reg ?_ | refine l_ld ?_ | refine l_ldF ?_ | refine l_st ?_ | refine l_al (fun b => ?_) | refine l_bs (fun b => ?_) | refine k_condT ?_ | refine k_condF ?_ | refine r_run ?_ | refine r_one ?_ | refine r_ld ?_ | refine r_ldF ?_ | refine r_al (fun b => ?_) | refine r_bs (fun b => ?_) | refine r_st ?_ | refine r_end ?_ | refine l_ixe (T := 58) (f := i8f) (es := ks) i k hk (fun b off => ?_) | refine l_ldC ?_ | rw [wk] | refine l_app1 (m := (kqs c (ks.take i)).length) (fun o2 cap2 => ?_) | refine l_app1 (m := (difE (kqs c (ks.take i))).length) (fun o3 cap3 => ?_) | refine l_ixA (m := 5) 4 (by omega) ?_ | rw [w0] | (refine l_split (fun hc => ?_) (fun hc => ?_) <;> (try simp at hc) <;> (try omega)) | (refine r_split (fun hc => ?_) (fun hc => ?_) <;> (try simp at hc) <;> (try omega)) | refine k_draw 17 [] [(0, 0), (2, 0), (1, 2), (3, 0), (4, 0), (5, 0), (6, 0), (7, 0), (8, 0), (9, 0), (10, 0)] [] ?_ | refine k_draw 22 [] [(0, 0), (1, 0), (2, 0), (3, 0), (4, 0), (5, 0), (6, 0), (7, 0), (8, 0)] [] ?_ | (refine k_cond (fun hc => ?_) (fun hc => ?_) <;> (try simp at hc) <;> (try omega)))
          all_goals rw [wrapi (z := (i : Int) + 1) (by omega) (by omega)]
          all_goals refine k_ptc (b := b7) (.cells (cntC (kqs c (ks.take (i + 1)))).toArray 53 (0, 0)) (by rw [hst]) ?_
          all_goals refine k_rowc (T := 37) (sz := 14) (o := o2) (cap := cap2) (m := (kqs c (ks.take i)).length + 1) _ _ e1 e2 ?_
          all_goals refine k_rowc (T := 37) (sz := 14) (o := o3) (cap := cap3) (m := (difE (kqs c (ks.take i))).length + 1) _ _ d1 d2 ?_
          all_goals rw [e1, d1]
          all_goals exact k_next ⟨i + 1, o2, cap2, o3, cap3, by omega⟩ (by show ks.length - (i + 1) < ks.length - i; omega) ⟨rfl, rfl, rfl, rfl, rfl, rfl, trivial⟩
      · have e : ks.take i = ks := List.take_of_length_le (by omega)
        rw [e]
        repeat' (first | refine l_run ?_ | refine l_nil ?_ | refine l_one ?_ | refine k_reg ?_ | refine l_ld ?_ | refine l_ldF ?_ | refine l_st ?_ | refine l_al (fun b => ?_) | refine l_bs (fun b => ?_) | refine k_condT ?_ | refine k_condF ?_ | refine r_run ?_ | refine r_one ?_ | refine r_ld ?_ | refine r_ldF ?_ | refine r_al (fun b => ?_) | refine r_bs (fun b => ?_) | refine r_st ?_ | refine r_end ?_ | (refine l_split (fun hc => ?_) (fun hc => ?_) <;> (try simp at hc) <;> (try omega)) | (refine r_split (fun hc => ?_) (fun hc => ?_) <;> (try simp at hc) <;> (try omega)) | refine k_draw 17 [] [(0, 0), (2, 0), (1, 2), (3, 0), (4, 0), (5, 0), (6, 0), (7, 0), (8, 0), (9, 0), (10, 0)] [] ?_ | refine k_draw 22 [] [(0, 0), (1, 0), (2, 0), (3, 0), (4, 0), (5, 0), (6, 0), (7, 0), (8, 0)] [] ?_ | (refine k_cond (fun hc => ?_) (fun hc => ?_) <;> (try simp at hc) <;> (try omega)))
        refine k_frz (T := 37) (sz := 14) (f := cqf) (o := o) (cap := cap) (m := (kqs c ks).length) (xs := (kqs c ks).flatMap cqf) (kqs c ks) ?_ rfl rfl
        refine k_frz (T := 37) (sz := 14) (f := cqf) (o := o') (cap := cap') (m := (difE (kqs c ks)).length) (xs := (difE (kqs c ks)).flatMap cqf) (difE (kqs c ks)) ?_ rfl rfl
        exact k_out hx (o, cap, o', cap') ⟨rfl, rfl, rfl, trivial⟩
end Go.Proofs.YtdmbnkmcdhmccaaDoor
