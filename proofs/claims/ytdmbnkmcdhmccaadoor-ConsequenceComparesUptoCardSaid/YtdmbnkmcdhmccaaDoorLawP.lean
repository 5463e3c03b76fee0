/-
  The statement ConsequencePlaces, walked.
  Conditions: those that each theorem states.
-/
import Derived.Test.YtdmbnkmcdhmccaaDoorLawE
set_option maxRecDepth 10000
namespace Go.Proofs.YtdmbnkmcdhmccaaDoor
open Go.RowKit

def ouq (a b : Ou) : Bool := (a.ch == b.ch) && ((a.tg.toList == b.tg.toList) && ((a.tx.toList == b.tx.toList) && ((a.us == b.us) && true)))
theorem ouq_iff (a b : Ou) : ouq a b = decide (a = b) := by
  obtain ⟨a1, a2, a3, a4⟩ := a
  obtain ⟨b1, b2, b3, b4⟩ := b
  unfold ouq
  simp only [beqS, beqI, Ou.mk.injEq]
  rw [Bool.eq_iff_iff]
  simp
def fnd (y : En) (c : Cq) : Bool := sameC c y && decide (c.kind ≠ 2)
def nws (y : En) (c : Cq) : Bool := sameC c y && decide (c.kind = 4)
theorem any_snoc {α : Type} {p : α → Bool} {l : List α} {i : Nat} {e : α} (he : l[i]? = some e) : (l.take (i + 1)).any p = ((l.take i).any p || p e) := by
  rw [List.take_add_one, he]; simp
theorem countP_snoc {α : Type} {p : α → Bool} {l : List α} {i : Nat} {e : α} (he : l[i]? = some e) : (l.take (i + 1)).countP p = (l.take i).countP p + (if p e then 1 else 0) := by
  rw [List.take_add_one, he]; simp [List.countP_append, List.countP_cons]

set_option maxHeartbeats 8000000 in
theorem lawPlaces_ok (o1 o2 : Option Addr) (c1 c2 : Nat) (now left : List It) (hn : ∀ x ∈ now, x.tx.size ≤ 1099511627776) (hl : ∀ x ∈ left, x.tx.size ≤ 1099511627776) (hn2 : now.length ≤ 1099511627776) (hl2 : left.length ≤ 1099511627776) :
    Enters 3 ∧ Spec Tryd.prog 3 #[.slice o1 now.length c1, .slice o2 left.length c2] [Sl 62 itf o1 c1 now, Sl 62 itf o2 c2 left, Usg] [] (RetV (.bool true)) := by
  have nb := build_ok o1 o2 c1 c2 now left hn hl hn2 hl2
  have hal := all20 now
  have hnd := all_nodup (now.take 20)
  have hll : (ldF (left.take 20)).length ≤ 20 := by rw [ldF_len]; simp; omega
  generalize stF [] (now.take 20) = es at *
  generalize ldF (left.take 20) = ls at *
  have n4 := fun b bs => consCompare_ok b bs es ls (by omega) (by omega)
  have n5 := fun p => outAll_ok p es
  have n6 := fun b => lgLen_ok b ls
  generalize allE es = all at *
  have hat := @consE_at all ls
  have hfd := @found_all all ls
  have hnw := news_le (all := all) (ls := ls) hnd
  have hlen : (consE all ls).length ≤ 40 := by
    have h1 : (cons2 (ls.flatMap (knw all)) all).length ≤ all.length := by simp only [cons2, List.length_map]; exact List.length_filter_le ..
    simp only [consE, List.length_append, cons1_len]; omega
  have hlen2 : ls.length ≤ (consE all ls).length := by simp only [consE, List.length_append, cons1_len]; omega
  generalize consE all ls = cs at *
  refine ⟨enters_of Tryd.func3 (by kernel_rfl) rfl, spec_of (vs := [_, _]) Tryd.func3 rfl Tryd.ntmps3 rfl fun G w hp => ?_⟩
  repeat' (first | refine l_run ?_ | refine l_nil ?_ | refine l_one ?_ | refine k_reg ?_ | refine l_ld ?_ | refine l_ldF ?_ | refine l_st ?_ | refine l_al (fun b => ?_) | refine l_bs (fun b => ?_) | refine k_condT ?_ | refine k_condF ?_ | refine k_brk ?_ | refine r_run ?_ | refine r_one ?_ | refine r_ld ?_ | refine r_ldF ?_ | refine r_al (fun b => ?_) | refine r_bs (fun b => ?_) | refine r_st ?_ | refine r_end ?_ | refine l_call (nb) (fun _ _ => ?_) | refine l_call0 (nb) (fun _ _ => ?_) | refine r_call (nb) (fun _ _ => ?_) | refine l_call (known_ok) (fun _ _ => ?_) | refine l_call0 (known_ok) (fun _ _ => ?_) | refine r_call (known_ok) (fun _ _ => ?_) | refine l_call (n4 _ _) (fun _ _ => ?_) | refine l_call0 (n4 _ _) (fun _ _ => ?_) | refine r_call (n4 _ _) (fun _ _ => ?_) | (refine l_split (fun hc => ?_) (fun hc => ?_) <;> (try simp at hc) <;> (try omega)) | (refine r_split (fun hc => ?_) (fun hc => ?_) <;> (try simp at hc) <;> (try omega)) | refine k_draw 20 [] [(0, 0), (1, 0), (2, 0), (3, 0), (4, 0), (5, 0), (6, 0), (7, 0), (8, 0), (9, 0), (10, 0), (11, 0), (12, 0), (13, 0), (14, 0), (15, 0), (16, 0), (17, 0), (18, 0), (19, 0), (20, 0), (21, 0), (22, 0), (23, 0), (24, 0), (25, 0), (26, 0), (27, 0), (28, 0), (29, 0), (30, 0), (31, 0), (32, 0), (33, 0), (34, 0), (35, 0), (36, 0), (37, 0), (38, 0), (39, 0), (40, 0), (41, 0), (42, 0), (43, 0), (44, 0), (45, 0), (46, 0), (47, 0), (48, 0), (49, 0), (50, 0)] [] ?_ | (refine k_cond (fun hc => ?_) (fun hc => ?_) <;> (try simp at hc) <;> (try omega)))
  rename_i qb _ _ _ qc _
  obtain ⟨bs, bl⟩ := qb
  obtain ⟨oc, cc⟩ := qc
  refine k_lpx (X := { i : Nat // i ≤ cs.length }) (Y := Unit) (fun x => [(5, .pointer (some ⟨bs, 0, none⟩)), (6, .pointer (some ⟨bl, 0, none⟩)), (8, .slice oc cs.length cc), (10, .int .i64 (x.1 : Int))]) (fun _ => [LgF bl ls, St (some ⟨bs, 0, none⟩) es, Sl 37 cqf oc cc cs]) (fun _ => []) (fun x => cs.length - x.1)
    (fun _ => [(5, .pointer (some ⟨bs, 0, none⟩)), (6, .pointer (some ⟨bl, 0, none⟩)), (8, .slice oc cs.length cc)]) (fun _ => [LgF bl ls, St (some ⟨bs, 0, none⟩) es, Sl 37 cqf oc cc cs]) (fun _ => []) ⟨0, by omega⟩ ⟨rfl, rfl, rfl, rfl, trivial⟩ ?_ ?_
  · rintro ⟨⟩
    repeat' (first | refine l_run ?_ | refine l_nil ?_ | refine l_one ?_ | refine k_reg ?_ | refine l_ld ?_ | refine l_ldF ?_ | refine l_st ?_ | refine l_al (fun b => ?_) | refine l_bs (fun b => ?_) | refine k_condT ?_ | refine k_condF ?_ | refine k_brk ?_ | refine r_run ?_ | refine r_one ?_ | refine r_ld ?_ | refine r_ldF ?_ | refine r_al (fun b => ?_) | refine r_bs (fun b => ?_) | refine r_st ?_ | refine r_end ?_ | refine l_call (n5 _) (fun _ _ => ?_) | refine l_call0 (n5 _) (fun _ _ => ?_) | refine r_call (n5 _) (fun _ _ => ?_) | (refine l_split (fun hc => ?_) (fun hc => ?_) <;> (try simp at hc) <;> (try omega)) | (refine r_split (fun hc => ?_) (fun hc => ?_) <;> (try simp at hc) <;> (try omega)) | refine k_draw 20 [] [(0, 0), (1, 0), (2, 0), (3, 0), (4, 0), (5, 0), (6, 0), (7, 0), (8, 0), (9, 0), (10, 0), (11, 0), (12, 0), (13, 0), (14, 0), (15, 0), (16, 0), (17, 0), (18, 0), (19, 0), (20, 0), (21, 0), (22, 0), (23, 0), (24, 0), (25, 0), (26, 0), (27, 0), (28, 0), (29, 0), (30, 0), (31, 0), (32, 0), (33, 0), (34, 0), (35, 0), (36, 0), (37, 0), (38, 0), (39, 0), (40, 0), (41, 0), (42, 0), (43, 0), (44, 0), (45, 0), (46, 0), (47, 0), (48, 0), (49, 0), (50, 0)] [] ?_ | (refine k_cond (fun hc => ?_) (fun hc => ?_) <;> (try simp at hc) <;> (try omega)))
    rename_i qa _
    obtain ⟨oa, ca⟩ := qa
    refine k_lp (X := { i : Nat // i ≤ all.length }) (fun x => [(6, .pointer (some ⟨bl, 0, none⟩)), (8, .slice oc cs.length cc), (11, .slice oa all.length ca), (12, .int .i64 (x.1 : Int))]) (fun _ => [LgF bl ls, Sl 37 cqf oc cc cs, Sl 41 enf oa ca all]) (fun _ => []) (fun x => all.length - x.1) ⟨0, by omega⟩ ⟨rfl, rfl, rfl, rfl, trivial⟩ ?_
    rintro ⟨i, hi⟩
    dsimp only
    by_cases hlt : i < all.length
    · obtain ⟨y, hy⟩ : ∃ e, all[i]? = some e := ⟨_, List.getElem?_eq_getElem hlt⟩
      have hym : y ∈ all := List.mem_of_getElem? hy
      repeat' (first | refine l_run ?_ | refine l_nil ?_ | refine l_one ?_ | refine k_reg ?_ | refine l_ld ?_ | refine l_ldF ?_ | refine l_st ?_ | refine l_al (fun b => ?_) | refine l_bs (fun b => ?_) | refine k_condT ?_ | refine k_condF ?_ | refine r_run ?_ | refine r_one ?_ | refine r_ld ?_ | refine r_ldF ?_ | refine r_al (fun b => ?_) | refine r_bs (fun b => ?_) | refine r_st ?_ | refine r_end ?_ | (refine l_split (fun hc => ?_) (fun hc => ?_) <;> (try simp at hc) <;> (try omega)) | (refine r_split (fun hc => ?_) (fun hc => ?_) <;> (try simp at hc) <;> (try omega)) | refine k_draw 20 [] [(0, 0), (1, 0), (2, 0), (3, 0), (4, 0), (5, 0), (6, 0), (7, 0), (8, 0), (9, 0), (10, 0), (11, 0), (12, 0), (13, 0), (14, 0), (15, 0), (16, 0), (17, 0), (18, 0), (19, 0), (20, 0), (21, 0), (22, 0), (23, 0), (24, 0), (25, 0), (26, 0), (27, 0), (28, 0), (29, 0), (30, 0), (31, 0), (32, 0), (33, 0), (34, 0), (35, 0), (36, 0), (37, 0), (38, 0), (39, 0), (40, 0), (41, 0), (42, 0), (43, 0), (44, 0), (45, 0), (46, 0), (47, 0), (48, 0), (49, 0), (50, 0)] [] ?_ | (refine k_cond (fun hc => ?_) (fun hc => ?_) <;> (try simp at hc) <;> (try omega)))
      refine k_lpx (X := { j : Nat // j ≤ cs.length }) (Y := Unit) (fun x => [(6, .pointer (some ⟨bl, 0, none⟩)), (8, .slice oc cs.length cc), (11, .slice oa all.length ca), (12, .int .i64 (i : Int)), (13, .bool ((cs.take x.1).any (fnd y))), (14, .int .i64 ((cs.take x.1).countP (nws y) : Nat)), (15, .int .i64 (x.1 : Int))]) (fun _ => [LgF bl ls, Sl 37 cqf oc cc cs, Sl 41 enf oa ca all]) (fun _ => []) (fun x => cs.length - x.1)
        (fun _ => [(6, .pointer (some ⟨bl, 0, none⟩)), (8, .slice oc cs.length cc), (11, .slice oa all.length ca), (12, .int .i64 (i : Int)), (13, .bool (cs.any (fnd y))), (14, .int .i64 (cs.countP (nws y) : Nat))]) (fun _ => [LgF bl ls, Sl 37 cqf oc cc cs, Sl 41 enf oa ca all]) (fun _ => []) ⟨0, by omega⟩ ⟨rfl, rfl, rfl, rfl, rfl, rfl, rfl, trivial⟩ ?_ ?_
      · rintro ⟨⟩
        have h1 : cs.any (fnd y) = true := by
          obtain ⟨c, hc1, hc2, hc3⟩ := hfd hym
          exact List.any_eq_true.2 ⟨c, hc1, by simp [fnd, hc2, hc3]⟩
        have h2 : cs.countP (nws y) ≤ 1 := hnw y
        rw [h1]
        generalize cs.countP (nws y) = m at h2
        repeat' (first | refine l_run ?_ | refine l_nil ?_ | refine l_one ?_ | refine k_reg ?_ | refine l_ld ?_ | refine l_ldF ?_ | refine l_st ?_ | refine l_al (fun b => ?_) | refine l_bs (fun b => ?_) | refine k_condT ?_ | refine k_condF ?_ | refine r_run ?_ | refine r_one ?_ | refine r_ld ?_ | refine r_ldF ?_ | refine r_al (fun b => ?_) | refine r_bs (fun b => ?_) | refine r_st ?_ | refine r_end ?_ | (refine l_split (fun hc => ?_) (fun hc => ?_) <;> (try simp at hc) <;> (try omega)) | (refine r_split (fun hc => ?_) (fun hc => ?_) <;> (try simp at hc) <;> (try omega)) | refine k_draw 20 [] [(0, 0), (1, 0), (2, 0), (3, 0), (4, 0), (5, 0), (6, 0), (7, 0), (8, 0), (9, 0), (10, 0), (11, 0), (12, 0), (13, 0), (14, 0), (15, 0), (16, 0), (17, 0), (18, 0), (19, 0), (20, 0), (21, 0), (22, 0), (23, 0), (24, 0), (25, 0), (26, 0), (27, 0), (28, 0), (29, 0), (30, 0), (31, 0), (32, 0), (33, 0), (34, 0), (35, 0), (36, 0), (37, 0), (38, 0), (39, 0), (40, 0), (41, 0), (42, 0), (43, 0), (44, 0), (45, 0), (46, 0), (47, 0), (48, 0), (49, 0), (50, 0)] [] ?_ | (refine k_cond (fun hc => ?_) (fun hc => ?_) <;> (try simp at hc) <;> (try omega)))
        rw [wrapi (z := (i : Int) + 1) (by omega) (by omega)]
        exact k_next ⟨i + 1, by omega⟩ (by show all.length - (i + 1) < all.length - i; omega) ⟨rfl, rfl, rfl, rfl, trivial⟩
      · rintro hx ⟨j, hj⟩
        dsimp only
        by_cases hjl : j < cs.length
        · obtain ⟨c, hcx⟩ : ∃ e, cs[j]? = some e := ⟨_, List.getElem?_eq_getElem hjl⟩
          have ha := any_snoc (p := fnd y) hcx
          have hcn := countP_snoc (p := nws y) hcx
          have hcl : (cs.take j).countP (nws y) ≤ j := Nat.le_trans List.countP_le_length (by simp; omega)
          generalize (cs.take j).any (fnd y) = f at *
          generalize (cs.take j).countP (nws y) = m at *
          repeat' (first | refine l_run ?_ | refine l_nil ?_ | refine l_one ?_ | refine k_reg ?_ | refine l_ld ?_ | refine l_ldF ?_ | refine l_st ?_ | refine l_al (fun b => ?_) | refine l_bs (fun b => ?_) | refine k_condT ?_ | refine k_condF ?_ | refine r_run ?_ | refine r_one ?_ | refine r_ld ?_ | refine r_ldF ?_ | refine r_al (fun b => ?_) | refine r_bs (fun b => ?_) | refine r_st ?_ | refine r_end ?_ | (refine l_split (fun hc => ?_) (fun hc => ?_) <;> (try simp at hc) <;> (try omega)) | (refine r_split (fun hc => ?_) (fun hc => ?_) <;> (try simp at hc) <;> (try omega)) | (refine k_cond (fun hc => ?_) (fun hc => ?_) <;> (try simp at hc) <;> (try omega)))
          refine k_cut (Y := Unit) (fun _ => [(6, .pointer (some ⟨bl, 0, none⟩)), (8, .slice oc cs.length cc), (11, .slice oa all.length ca), (12, .int .i64 (i : Int)), (13, .bool f), (14, .int .i64 (m : Int)), (15, .int .i64 (j : Int)), (16, .bool (sameC c y))]) (fun _ => [LgF bl ls, Sl 37 cqf oc cc cs, Sl 41 enf oa ca all]) (fun _ => []) ?_ ?_
          · rintro ⟨⟩
            cases hsv : sameC c y
            · have ha' : (cs.take (j + 1)).any (fnd y) = f := by rw [ha]; simp [fnd, hsv]
              have hc' : (cs.take (j + 1)).countP (nws y) = m := by rw [hcn]; simp [nws, hsv]
              cases f
              all_goals repeat' (first | refine l_run ?_ | refine l_nil ?_ | refine l_one ?_ | refine k_reg ?_ | refine l_ld ?_ | refine l_ldF ?_ | refine l_st ?_ | refine l_al (fun b => ?_) | refine l_bs (fun b => ?_) | refine k_condT ?_ | refine k_condF ?_ | refine r_run ?_ | refine r_one ?_ | refine r_ld ?_ | refine r_ldF ?_ | refine r_al (fun b => ?_) | refine r_bs (fun b => ?_) | refine r_st ?_ | refine r_end ?_ | (refine l_split (fun hc => ?_) (fun hc => ?_) <;> (try simp at hc) <;> (try omega)) | (refine r_split (fun hc => ?_) (fun hc => ?_) <;> (try simp at hc) <;> (try omega)) | (refine k_cond (fun hc => ?_) (fun hc => ?_) <;> (try simp at hc) <;> (try omega)))
              all_goals rw [wrapi (z := (j : Int) + 1) (by omega) (by omega)]
              all_goals exact k_next ⟨j + 1, by omega⟩ (by show cs.length - (j + 1) < cs.length - j; omega) ⟨rfl, rfl, rfl, rfl, by rw [ha']; rfl, by rw [hc']; rfl, rfl, trivial⟩
            · have hf2 : fnd y c = (c.kind != 2) := by rw [Bool.eq_iff_iff]; simp [fnd, hsv]
              have hc' : (cs.take (j + 1)).countP (nws y) = m + (if c.kind = 4 then 1 else 0) := by rw [hcn]; simp [nws, hsv]
              have wm : IntKind.i64.wrap ((m : Int) + 1) = ((m + 1 : Nat) : Int) := by rw [wrapi (by omega) (by omega)]; omega
              rw [hf2] at ha
              cases f
              all_goals repeat' (first | refine l_run ?_ | refine l_nil ?_ | refine l_one ?_ | refine k_reg ?_ | refine l_ld ?_ | refine l_ldF ?_ | refine l_st ?_ | refine l_al (fun b => ?_) | refine l_bs (fun b => ?_) | refine k_condT ?_ | refine k_condF ?_ | refine r_run ?_ | refine r_one ?_ | refine r_ld ?_ | refine r_ldF ?_ | refine r_al (fun b => ?_) | refine r_bs (fun b => ?_) | refine r_st ?_ | refine r_end ?_ | refine l_ixe (es := cs) j c hcx (fun b off => ?_) | refine l_ldC ?_ | (refine l_split (fun hc => ?_) (fun hc => ?_) <;> (try simp at hc) <;> (try omega)) | (refine r_split (fun hc => ?_) (fun hc => ?_) <;> (try simp at hc) <;> (try omega)) | (refine k_cond (fun hc => ?_) (fun hc => ?_) <;> (try simp at hc) <;> (try omega)))
              all_goals rw [wrapi (z := (j : Int) + 1) (by omega) (by omega)]
              all_goals first | rw [wm] | skip
              all_goals refine k_next ⟨j + 1, by omega⟩ (by show cs.length - (j + 1) < cs.length - j; omega) ⟨rfl, rfl, rfl, rfl, by rw [ha]; rfl, ?_, rfl, trivial⟩
              all_goals rw [hc']
              all_goals first | (rw [if_pos hc]; rfl) | (rw [if_neg hc]; rfl)
          · intro hx2
            repeat' (first | refine k_to hx2 () ⟨rfl, rfl, rfl, rfl, rfl, rfl, rfl, ?_, trivial⟩ | refine l_run ?_ | refine l_nil ?_ | refine l_one ?_ | refine k_reg ?_ | refine l_ld ?_ | refine l_ldF ?_ | refine l_st ?_ | refine l_al (fun b => ?_) | refine l_bs (fun b => ?_) | refine k_condT ?_ | refine k_condF ?_ | refine r_run ?_ | refine r_one ?_ | refine r_ld ?_ | refine r_ldF ?_ | refine r_al (fun b => ?_) | refine r_bs (fun b => ?_) | refine r_st ?_ | refine r_end ?_ | refine r_ixe (es := cs) j c hcx (fun b off => ?_) | refine r_ixe (es := all) i y hy (fun b off => ?_) | refine r_ldC ?_ | refine r_seq (b := ouq c.new y.o) ?_ | refine l_split (fun hc => ?_) (fun hc => ?_) | refine r_split (fun hc => ?_) (fun hc => ?_) | refine k_draw 20 [] [(0, 0), (1, 0), (2, 0), (3, 0), (4, 0), (5, 0), (6, 0), (7, 0), (8, 0), (9, 0), (10, 0), (11, 0), (12, 0), (13, 0), (14, 0), (15, 0), (16, 0), (17, 0), (18, 0), (19, 0), (20, 0), (21, 0), (22, 0), (23, 0), (24, 0), (25, 0), (26, 0), (27, 0), (28, 0), (29, 0), (30, 0), (31, 0), (32, 0), (33, 0), (34, 0), (35, 0), (36, 0), (37, 0), (38, 0), (39, 0), (40, 0), (41, 0), (42, 0), (43, 0), (44, 0), (45, 0), (46, 0), (47, 0), (48, 0), (49, 0), (50, 0)] [] ?_ | refine k_cond (fun hc => ?_) (fun hc => ?_))
            all_goals (show some (Value.bool _) = _; congr 2; simp only [ouq_iff, beqS, beqI] at *; simp_all [sameC])
        · have e : cs.take j = cs := List.take_of_length_le (by omega)
          rw [e]
          repeat' (first | refine l_run ?_ | refine l_nil ?_ | refine l_one ?_ | refine k_reg ?_ | refine l_ld ?_ | refine l_ldF ?_ | refine l_st ?_ | refine l_al (fun b => ?_) | refine l_bs (fun b => ?_) | refine k_condT ?_ | refine k_condF ?_ | refine r_run ?_ | refine r_one ?_ | refine r_ld ?_ | refine r_ldF ?_ | refine r_al (fun b => ?_) | refine r_bs (fun b => ?_) | refine r_st ?_ | refine r_end ?_ | (refine l_split (fun hc => ?_) (fun hc => ?_) <;> (try simp at hc) <;> (try omega)) | (refine r_split (fun hc => ?_) (fun hc => ?_) <;> (try simp at hc) <;> (try omega)) | refine k_draw 20 [] [(0, 0), (1, 0), (2, 0), (3, 0), (4, 0), (5, 0), (6, 0), (7, 0), (8, 0), (9, 0), (10, 0), (11, 0), (12, 0), (13, 0), (14, 0), (15, 0), (16, 0), (17, 0), (18, 0), (19, 0), (20, 0), (21, 0), (22, 0), (23, 0), (24, 0), (25, 0), (26, 0), (27, 0), (28, 0), (29, 0), (30, 0), (31, 0), (32, 0), (33, 0), (34, 0), (35, 0), (36, 0), (37, 0), (38, 0), (39, 0), (40, 0), (41, 0), (42, 0), (43, 0), (44, 0), (45, 0), (46, 0), (47, 0), (48, 0), (49, 0), (50, 0)] [] ?_ | (refine k_cond (fun hc => ?_) (fun hc => ?_) <;> (try simp at hc) <;> (try omega)))
          exact k_out hx () ⟨rfl, rfl, rfl, rfl, rfl, rfl, trivial⟩
    · repeat' (first | refine l_run ?_ | refine l_nil ?_ | refine l_one ?_ | refine k_reg ?_ | refine l_ld ?_ | refine l_ldF ?_ | refine l_st ?_ | refine l_al (fun b => ?_) | refine l_bs (fun b => ?_) | refine k_condT ?_ | refine k_condF ?_ | refine k_brk ?_ | refine r_run ?_ | refine r_one ?_ | refine r_ld ?_ | refine r_ldF ?_ | refine r_al (fun b => ?_) | refine r_bs (fun b => ?_) | refine r_st ?_ | refine r_end ?_ | refine l_call (n6 _) (fun _ _ => ?_) | refine l_call0 (n6 _) (fun _ _ => ?_) | refine r_call (n6 _) (fun _ _ => ?_) | (refine l_split (fun hc => ?_) (fun hc => ?_) <;> (try simp at hc) <;> (try omega)) | (refine r_split (fun hc => ?_) (fun hc => ?_) <;> (try simp at hc) <;> (try omega)) | refine k_draw 20 [] [(0, 0), (1, 0), (2, 0), (3, 0), (4, 0), (5, 0), (6, 0), (7, 0), (8, 0), (9, 0), (10, 0), (11, 0), (12, 0), (13, 0), (14, 0), (15, 0), (16, 0), (17, 0), (18, 0), (19, 0), (20, 0), (21, 0), (22, 0), (23, 0), (24, 0), (25, 0), (26, 0), (27, 0), (28, 0), (29, 0), (30, 0), (31, 0), (32, 0), (33, 0), (34, 0), (35, 0), (36, 0), (37, 0), (38, 0), (39, 0), (40, 0), (41, 0), (42, 0), (43, 0), (44, 0), (45, 0), (46, 0), (47, 0), (48, 0), (49, 0), (50, 0)] [] ?_ | (refine k_cond (fun hc => ?_) (fun hc => ?_) <;> (try simp at hc) <;> (try omega)))
      rw [show decide ((ls.length : Int) ≤ (cs.length : Int)) = true by simp; omega]
      exact k_ret () rfl trivial
  · rintro hx ⟨i, hi⟩
    dsimp only
    by_cases hlt : i < cs.length
    · obtain ⟨c, hcx⟩ : ∃ e, cs[i]? = some e := ⟨_, List.getElem?_eq_getElem hlt⟩
      obtain ⟨h1, h2⟩ := hat hcx
      by_cases hil : i < ls.length
      · obtain ⟨h1, h3⟩ := h1 hil
        repeat' (first | refine l_run ?_ | refine l_nil ?_ | refine l_one ?_ | refine k_reg ?_ | refine l_ld ?_ | refine l_ldF ?_ | refine l_st ?_ | refine l_al (fun b => ?_) | refine l_bs (fun b => ?_) | refine k_condT ?_ | refine k_condF ?_ | refine r_run ?_ | refine r_one ?_ | refine r_ld ?_ | refine r_ldF ?_ | refine r_al (fun b => ?_) | refine r_bs (fun b => ?_) | refine r_st ?_ | refine r_end ?_ | refine l_call (n6 _) (fun _ _ => ?_) | refine l_call0 (n6 _) (fun _ _ => ?_) | refine r_call (n6 _) (fun _ _ => ?_) | refine l_ixe (es := cs) i c hcx (fun b off => ?_) | refine l_ldC ?_ | (refine l_split (fun hc => ?_) (fun hc => ?_) <;> (try simp at hc) <;> (try omega)) | (refine r_split (fun hc => ?_) (fun hc => ?_) <;> (try simp at hc) <;> (try omega)) | refine k_draw 20 [] [(0, 0), (1, 0), (2, 0), (3, 0), (4, 0), (5, 0), (6, 0), (7, 0), (8, 0), (9, 0), (10, 0), (11, 0), (12, 0), (13, 0), (14, 0), (15, 0), (16, 0), (17, 0), (18, 0), (19, 0), (20, 0), (21, 0), (22, 0), (23, 0), (24, 0), (25, 0), (26, 0), (27, 0), (28, 0), (29, 0), (30, 0), (31, 0), (32, 0), (33, 0), (34, 0), (35, 0), (36, 0), (37, 0), (38, 0), (39, 0), (40, 0), (41, 0), (42, 0), (43, 0), (44, 0), (45, 0), (46, 0), (47, 0), (48, 0), (49, 0), (50, 0)] [] ?_ | (refine k_cond (fun hc => ?_) (fun hc => ?_) <;> (try simp at hc) <;> (try omega)))
        all_goals rw [wrapi (z := (i : Int) + 1) (by omega) (by omega)]
        all_goals exact k_next ⟨i + 1, by omega⟩ (by show cs.length - (i + 1) < cs.length - i; omega) ⟨rfl, rfl, rfl, rfl, trivial⟩
      · obtain ⟨h1, h3⟩ := h2 (by omega)
        repeat' (first | refine l_run ?_ | refine l_nil ?_ | refine l_one ?_ | refine k_reg ?_ | refine l_ld ?_ | refine l_ldF ?_ | refine l_st ?_ | refine l_al (fun b => ?_) | refine l_bs (fun b => ?_) | refine k_condT ?_ | refine k_condF ?_ | refine r_run ?_ | refine r_one ?_ | refine r_ld ?_ | refine r_ldF ?_ | refine r_al (fun b => ?_) | refine r_bs (fun b => ?_) | refine r_st ?_ | refine r_end ?_ | refine l_call (n6 _) (fun _ _ => ?_) | refine l_call0 (n6 _) (fun _ _ => ?_) | refine r_call (n6 _) (fun _ _ => ?_) | refine l_ixe (es := cs) i c hcx (fun b off => ?_) | refine l_ldC ?_ | (refine l_split (fun hc => ?_) (fun hc => ?_) <;> (try simp at hc) <;> (try omega)) | (refine r_split (fun hc => ?_) (fun hc => ?_) <;> (try simp at hc) <;> (try omega)) | refine k_draw 20 [] [(0, 0), (1, 0), (2, 0), (3, 0), (4, 0), (5, 0), (6, 0), (7, 0), (8, 0), (9, 0), (10, 0), (11, 0), (12, 0), (13, 0), (14, 0), (15, 0), (16, 0), (17, 0), (18, 0), (19, 0), (20, 0), (21, 0), (22, 0), (23, 0), (24, 0), (25, 0), (26, 0), (27, 0), (28, 0), (29, 0), (30, 0), (31, 0), (32, 0), (33, 0), (34, 0), (35, 0), (36, 0), (37, 0), (38, 0), (39, 0), (40, 0), (41, 0), (42, 0), (43, 0), (44, 0), (45, 0), (46, 0), (47, 0), (48, 0), (49, 0), (50, 0)] [] ?_ | (refine k_cond (fun hc => ?_) (fun hc => ?_) <;> (try simp at hc) <;> (try omega)))
        all_goals rw [wrapi (z := (i : Int) + 1) (by omega) (by omega)]
        all_goals exact k_next ⟨i + 1, by omega⟩ (by show cs.length - (i + 1) < cs.length - i; omega) ⟨rfl, rfl, rfl, rfl, trivial⟩
    · repeat' (first | refine l_run ?_ | refine l_nil ?_ | refine l_one ?_ | refine k_reg ?_ | refine l_ld ?_ | refine l_ldF ?_ | refine l_st ?_ | refine l_al (fun b => ?_) | refine l_bs (fun b => ?_) | refine k_condT ?_ | refine k_condF ?_ | refine r_run ?_ | refine r_one ?_ | refine r_ld ?_ | refine r_ldF ?_ | refine r_al (fun b => ?_) | refine r_bs (fun b => ?_) | refine r_st ?_ | refine r_end ?_ | (refine l_split (fun hc => ?_) (fun hc => ?_) <;> (try simp at hc) <;> (try omega)) | (refine r_split (fun hc => ?_) (fun hc => ?_) <;> (try simp at hc) <;> (try omega)) | refine k_draw 20 [] [(0, 0), (1, 0), (2, 0), (3, 0), (4, 0), (5, 0), (6, 0), (7, 0), (8, 0), (9, 0), (10, 0), (11, 0), (12, 0), (13, 0), (14, 0), (15, 0), (16, 0), (17, 0), (18, 0), (19, 0), (20, 0), (21, 0), (22, 0), (23, 0), (24, 0), (25, 0), (26, 0), (27, 0), (28, 0), (29, 0), (30, 0), (31, 0), (32, 0), (33, 0), (34, 0), (35, 0), (36, 0), (37, 0), (38, 0), (39, 0), (40, 0), (41, 0), (42, 0), (43, 0), (44, 0), (45, 0), (46, 0), (47, 0), (48, 0), (49, 0), (50, 0)] [] ?_ | (refine k_cond (fun hc => ?_) (fun hc => ?_) <;> (try simp at hc) <;> (try omega)))
      exact k_out hx () ⟨rfl, rfl, rfl, trivial⟩
end Go.Proofs.YtdmbnkmcdhmccaaDoor
