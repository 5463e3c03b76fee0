/-
  The statement ConsequenceNothing, walked.
  Conditions: those that each theorem states.
-/
import Derived.Test.YtdmbnkmcdhmccaaDoorModC
set_option maxRecDepth 10000
namespace Go.Proofs.YtdmbnkmcdhmccaaDoor
open Go.RowKit

section
variable {n : Nat} {C : Cx} {Q : Exit → Act → World → Prop} {E E' : List (Nat × Value)} {F F' F1 Fs F0 : List Pf} {R R' R0 Rs N N' A : List HP} {k k' : List Fr} {ops l : List Oper}
  {i d : Nat} {t t2 ty0 : TypeId} {x y : Operand} {pos : String} {aft : Array Edge} {gd : Option (Nat × Bool)}
/-- A rest, the divisor not 0. -/
theorem l_rem {a b : Int} {kd : IntKind} (hb : b ≠ 0) (nx : Wl n C ops.toArray k Q l ((d, .int kd (a.tmod b)) :: E) F R) (hw : wantL ops E ⟨some d, .binOp .rem t x y t2, ty0, pos, aft, gd⟩ = some true := by rfl) (hn : Nat.blt d n = true := by rfl)
    (hx : ev E x = some (.int kd a) := by rfl) (hy : ev E y = some (.int kd b) := by rfl) (hk : ikEq kd kd = true := by rfl) : Wl n C ops.toArray k Q (⟨some d, .binOp .rem t x y t2, ty0, pos, aft, gd⟩ :: l) E F R :=
  l_q (fun ac w ha => qv_ok tab_ok (e := ev E) (o := ⟨some d, .binOp .rem t x y t2, ty0, pos, aft, gd⟩) (by simp [qv, hx, hy, hk, iop, hb]) (ρ := ac.eval) (fun x _ u hu => ha.ev (by rw [evf_look]; exact hu)) w) nx (by intro c h; cases h) hw hn
end

theorem stF_mem2 : ∀ (l : List It) (es : Al) (p : Nm × ByteArray), p ∈ stF es l → p ∈ es ∨ ∃ x, p = (itn x, oencS (ito x))
  | [], _, _, h => .inl h
  | x :: l, es, p, h => by
    rcases stF_mem2 l _ p h with h | h
    · rcases mem_insO _ _ _ _ h with rfl | h
      · exact .inr ⟨x, rfl⟩
      · exact .inl h
    · exact .inr h
/-- What such a state holds can leave. -/
theorem all_leave {l : List It} {e : En} (he : e ∈ allE (stF [] l)) : lchk ⟨e, 100, 0⟩ = 0 ∧ e.who.size ≤ 3 := by
  unfold allE allN at he
  obtain ⟨a, ha, hae⟩ := List.mem_filterMap.1 he
  obtain ⟨p, hp, rfl⟩ := List.mem_map.1 ha
  obtain ⟨x, hx⟩ := (stF_mem2 l [] p (List.mem_filter.1 hp).1).resolve_left (by simp)
  subst hx
  unfold entO at hae
  simp only [Option.map_eq_some_iff] at hae
  obtain ⟨o, ho, rfl⟩ := hae
  have hoo : ochk o = 0 := by
    unfold odec at ho
    dsimp only at ho
    split at ho
    · rename_i h
      cases ho
      exact h.2.2
    · cases ho
  refine ⟨?_, who_size _⟩
  have h1 := lvalid_who (x.who.toNat % 3)
  have h3 : tick ((x.tk.toNat % 8 : Nat) : Int) = true := small_in (x.tk.toNat % 8) (by omega)
  have h4 : tick 100 = true := small_in 100 (by omega)
  unfold lchk
  rw [if_neg (by simp [itn, h1]), if_neg (by simp only [itn]; rw [h3, h4]; simp; omega)]
  exact hoo

theorem usK_snoc {all : List En} (hn : all.Nodup) (K : List En) {j : Nat} {y : En} (hj : all[j]? = some y) : (usK all K).set j true = usK all (K ++ [y]) := by
  unfold usK
  rw [set_map hn hj]
  refine List.map_congr_left fun z _ => ?_
  rw [Bool.eq_iff_iff]; simp

/-- All the same. -/
theorem cons_same {all : List En} {ls : List Lf} (h1 : ∀ x ∈ ls, x.e ∈ all) (h2 : ∀ y ∈ all, y ∈ ls.map (·.e)) : (consE all ls).length = ls.length ∧ (∀ c ∈ consE all ls, c.kind = 1) := by
  have h3 : cons2 (ls.flatMap (knw all)) all = [] := by
    unfold cons2
    rw [List.filter_eq_nil_iff.2 fun y hy => ?_]
    · rfl
    · obtain ⟨x, hx, rfl⟩ := List.mem_map.1 (h2 y hy)
      simp only [decide_eq_true_eq, Decidable.not_not]
      exact List.mem_flatMap.2 ⟨x, hx, by simp [knw]⟩
  rw [consE, h3, List.append_nil]
  refine ⟨by simp [cons1], fun c hc => ?_⟩
  unfold cons1 at hc
  rw [List.mem_mapIdx] at hc
  obtain ⟨p, hp, rfl⟩ := hc
  rw [con1, if_pos (h1 _ (List.getElem_mem hp))]
theorem same_cnt {cs : List Cq} (h : ∀ c ∈ cs, c.kind = 1) : cn 1 cs = cs.length ∧ difE cs = [] := by
  refine ⟨List.countP_eq_length.2 fun c hc => by simp [h c hc], ?_⟩
  unfold difE
  exact List.filter_eq_nil_iff.2 fun c hc => by simp [h c hc]

structure O1 (all : List En) (q : Nat) where
  i : Nat
  ls : List Lf
  h1 : i ≤ q + all.length
  h2 : ∀ x ∈ ls, x.e ∈ all ∧ x.tm = 100 ∧ x.rd = 0
  h3 : ∀ k y, k + q < i → all[k]? = some y → y ∈ ls.map (·.e)
  h4 : ls.length ≤ i

set_option maxHeartbeats 8000000 in
theorem lawNothing_ok (o1 o2 : Option Addr) (c1 c2 : Nat) (now : List It) (ord : List UInt8) (hn : ∀ x ∈ now, x.tx.size ≤ 1099511627776) (hn2 : now.length ≤ 1099511627776) (hl2 : ord.length ≤ 1099511627776) :
    Enters 6 ∧ Spec Tryd.prog 6 #[.slice o1 now.length c1, .slice o2 ord.length c2] [Sl 62 itf o1 c1 now, Sl 5 bf o2 c2 ord, Usg] [] (RetV (.bool true)) := by
  have nb0 := build_ok o1 none c1 0 now [] hn (by simp) hn2 (by simp)
  have nb : Enters 9 ∧ Spec Tryd.prog 9 #[.slice o1 now.length c1, .slice none 0 0] [Sl 62 itf o1 c1 now, Usg] []
      ⟨Nat × Nat, fun q => .tuple #[.pointer (some ⟨q.1, 0, none⟩), .pointer (some ⟨q.2, 0, none⟩), .bool true], fun _ => True, fun q => [St (some ⟨q.1, 0, none⟩) (stF [] (now.take 20))], fun _ => []⟩ := by
    refine ⟨nb0.1, fun G w hp hs => ?_⟩
    refine (nb0.2 G w hp (hs.facts fun hp hF x hx => ?_)).mono ?_
    · simp only [List.mem_cons, List.not_mem_nil, or_false] at hx
      rcases hx with rfl | rfl | rfl
      · exact hF _ (by simp)
      · exact ⟨by simp, .inl rfl⟩
      · exact hF _ (by simp)
    · rintro e w' ⟨x, rfl, hx, hs⟩
      exact ⟨x, rfl, trivial, hs.facts fun hp hF y hy => hF y (by simp at hy; simp [hy])⟩
  clear nb0
  have hal := all20 now
  have hnd := all_nodup (now.take 20)
  have hlv := fun e => @all_leave (now.take 20) e
  generalize stF [] (now.take 20) = es at *
  have n5 := fun p => outAll_ok p es
  have n4 := fun b bs ls hl => consCompare_ok b bs es ls hl (by omega)
  generalize allE es = all at *
  by_cases h60 : 60 < ord.length
  · refine ⟨enters_of Tryd.func6 (by kernel_rfl) rfl, spec_of (vs := [_, _]) Tryd.func6 rfl Tryd.ntmps6 rfl fun G w hp => ?_⟩
    repeat' (first | refine l_run ?_ | refine l_nil ?_ | refine l_one ?_ | refine k_reg ?_ | refine l_ld ?_ | refine l_ldF ?_ | refine l_st ?_ | refine l_al (fun b => ?_) | refine l_bs (fun b => ?_) | refine k_condT ?_ | refine k_condF ?_ | refine k_brk ?_ | refine l_call (nb) (fun _ _ => ?_) | refine l_call0 (nb) (fun _ _ => ?_) | refine l_call (known_ok) (fun _ _ => ?_) | refine l_call0 (known_ok) (fun _ _ => ?_) | (refine l_split (fun hc => ?_) (fun hc => ?_) <;> (try simp at hc) <;> (try omega)) | (refine k_cond (fun hc => ?_) (fun hc => ?_) <;> (try simp at hc) <;> (try omega)))
    all_goals exact k_ret () rfl trivial
  · refine ⟨enters_of Tryd.func6 (by kernel_rfl) rfl, spec_of (vs := [_, _]) Tryd.func6 rfl Tryd.ntmps6 rfl fun G w hp => ?_⟩
    repeat' (first | refine l_run ?_ | refine l_nil ?_ | refine l_one ?_ | refine k_reg ?_ | refine l_ld ?_ | refine l_ldF ?_ | refine l_st ?_ | refine l_al (fun b => ?_) | refine l_bs (fun b => ?_) | refine k_condT ?_ | refine k_condF ?_ | refine k_brk ?_ | refine l_call (nb) (fun _ _ => ?_) | refine l_call0 (nb) (fun _ _ => ?_) | refine l_call (known_ok) (fun _ _ => ?_) | refine l_call0 (known_ok) (fun _ _ => ?_) | refine l_call (n5 _) (fun _ _ => ?_) | refine l_call0 (n5 _) (fun _ _ => ?_) | refine l_call (newLedger_ok) (fun _ _ => ?_) | refine l_call0 (newLedger_ok) (fun _ _ => ?_) | refine l_mks bvf false all.length 1 (by omega) (by omega) (fun b10 => ?_) | (refine l_split (fun hc => ?_) (fun hc => ?_) <;> (try simp at hc) <;> (try omega)) | (refine k_cond (fun hc => ?_) (fun hc => ?_) <;> (try simp at hc) <;> (try omega)))
    rename_i qb _ _ _ qa _ bl _
    obtain ⟨bs, bl0⟩ := qb
    obtain ⟨oa, ca⟩ := qa
    have hrep : List.replicate all.length false = usK all (([] : List Lf).map (·.e)) := (List.eq_replicate_iff.2 ⟨by simp [usK], by simp [usK]⟩).symm
    rw [hrep]
    refine k_lpx (X := O1 all ord.length) (Y := { ls : List Lf // (∀ x ∈ ls, x.e ∈ all) ∧ (∀ y ∈ all, y ∈ ls.map (·.e)) ∧ ls.length ≤ 100 })
      (fun x => [(1, .slice o2 ord.length c2), (5, .pointer (some ⟨bs, 0, none⟩)), (8, .slice oa all.length ca), (9, .pointer (some ⟨bl, 0, none⟩)), (10, .slice (some ⟨b10, 0, none⟩) all.length all.length), (11, .int .i64 (x.i : Int))]) (fun _ => [St (some ⟨bs, 0, none⟩) es, Sl 5 bf o2 c2 ord, Sl 41 enf oa ca all]) (fun x => [Lg bl x.ls, Ar 4 bvf b10 (usK all (x.ls.map (·.e)))]) (fun x => ord.length + all.length - x.i)
      (fun _ => [(5, .pointer (some ⟨bs, 0, none⟩)), (9, .pointer (some ⟨bl, 0, none⟩))]) (fun y => [St (some ⟨bs, 0, none⟩) es, LgF bl y.1]) (fun _ => [])
      ⟨0, [], by omega, by simp, by omega, by simp⟩ ⟨rfl, rfl, rfl, rfl, rfl, rfl, trivial⟩ ?_ ?_
    · rintro ⟨ls, h1, h2, h3⟩
      dsimp only
      have n6 := fun b bs => n4 b bs ls (by omega)
      have n7 := fun b => lgLen_ok b ls
      obtain ⟨g1, g2⟩ := cons_same h1 h2
      generalize consE all ls = cs at *
      obtain ⟨g3, g4⟩ := same_cnt g2
      have n8 := fun o c => count_ok o c cs (by omega)
      have n9 := fun o c => differences_ok o c cs (by omega)
      rw [g4] at n9
      unfold cntC at n8
      rw [g3] at n8
      repeat' (first | refine l_run ?_ | refine l_nil ?_ | refine l_one ?_ | refine k_reg ?_ | refine l_ld ?_ | refine l_ldF ?_ | refine l_st ?_ | refine l_al (fun b => ?_) | refine l_bs (fun b => ?_) | refine k_condT ?_ | refine k_condF ?_ | refine k_brk ?_ | refine l_call (n6 _ _) (fun _ _ => ?_) | refine l_call0 (n6 _ _) (fun _ _ => ?_) | refine l_call (n7 _) (fun _ _ => ?_) | refine l_call0 (n7 _) (fun _ _ => ?_) | refine l_call (n8 _ _) (fun _ _ => ?_) | refine l_call0 (n8 _ _) (fun _ _ => ?_) | refine l_call (n9 _ _) (fun _ _ => ?_) | refine l_call0 (n9 _ _) (fun _ _ => ?_) | refine l_ixA (m := 5) 1 (by omega) ?_ | (refine l_split (fun hc => ?_) (fun hc => ?_) <;> (try simp at hc) <;> (try omega)) | (refine k_cond (fun hc => ?_) (fun hc => ?_) <;> (try simp at hc) <;> (try omega)))
      exact k_ret () rfl trivial
    · rintro hx ⟨i, ls, h1, h2, h3, h4⟩
      dsimp only
      have ws : IntKind.i64.wrap ((ord.length : Int) + (all.length : Int)) = ((ord.length + all.length : Nat) : Int) := by rw [wrapi (by omega) (by omega)]; omega
      by_cases hlt : i < ord.length + all.length
      · have hal2 : all.length ≤ 20 := by omega
        have step : ∀ (j : Nat) (y : En), all[j]? = some y → leaveE ls ⟨y, 100, 0⟩ = 0 ∧ y.who.size ≤ 1099511627776 := fun j y hy => by
          obtain ⟨g1, g2⟩ := hlv y (List.mem_of_getElem? hy)
          refine ⟨?_, by omega⟩
          have hlt2 : late ls ⟨y, 100, 0⟩ = false := by
            unfold late
            cases hg : ls.getLast? with
            | none => rfl
            | some z =>
              obtain ⟨_, z1, z2⟩ := h2 z (List.mem_of_getLast? hg)
              simp [z1, z2]
          rw [leaveE, if_neg (by simp [g1]), if_neg (by simp [hlt2]), if_neg (by omega)]
        have hset : ∀ (j : Nat) (y : En), all[j]? = some y → (usK all (ls.map (·.e))).set j true = usK all ((ls ++ [(⟨y, 100, 0⟩ : Lf)]).map (·.e)) := fun j y hy => by
          rw [usK_snoc hnd _ hy]; simp
        have hmem : ∀ (j : Nat) (y : En), all[j]? = some y → ∀ x ∈ ls ++ [(⟨y, 100, 0⟩ : Lf)], x.e ∈ all ∧ x.tm = 100 ∧ x.rd = 0 := fun j y hy x hx => by
          rcases List.mem_append.1 hx with hx | hx
          · exact h2 x hx
          · simp at hx; subst hx; exact ⟨List.mem_of_getElem? hy, rfl, rfl⟩
        have wi := wrapi (z := (i : Int) + 1) (by omega) (by omega)
        by_cases hio : i < ord.length
        · obtain ⟨w8, hw8⟩ : ∃ e, ord[i]? = some e := ⟨_, List.getElem?_eq_getElem hio⟩
          by_cases ha0 : all.length = 0
          · repeat' (first | refine l_run ?_ | refine l_nil ?_ | refine l_one ?_ | refine k_reg ?_ | refine l_ld ?_ | refine l_ldF ?_ | refine l_st ?_ | refine l_al (fun b => ?_) | refine l_bs (fun b => ?_) | refine k_condT ?_ | refine k_condF ?_ | rw [ws] | (refine l_split (fun hc => ?_) (fun hc => ?_) <;> (try simp at hc) <;> (try omega)) | (refine k_cond (fun hc => ?_) (fun hc => ?_) <;> (try simp at hc) <;> (try omega)))
            all_goals first | exact absurd (List.length_eq_zero_iff.1 ha0) (by assumption) | rw [wi]
            all_goals exact k_next ⟨i + 1, ls, by omega, h2, fun k y hk hy => by omega, by omega⟩ (by show ord.length + all.length - (i + 1) < ord.length + all.length - i; omega) ⟨rfl, rfl, rfl, rfl, rfl, rfl, trivial⟩
          · have hw0 := w8.toNat_lt
            have hjl : w8.toNat % all.length < all.length := Nat.mod_lt _ (by omega)
            obtain ⟨y, hy⟩ : ∃ e, all[w8.toNat % all.length]? = some e := ⟨_, List.getElem?_eq_getElem hjl⟩
            obtain ⟨ub, hub⟩ : ∃ e, (usK all (ls.map (·.e)))[w8.toNat % all.length]? = some e := ⟨_, List.getElem?_eq_getElem (by simp [usK]; exact hjl)⟩
            have tm : (w8.toNat : Int).tmod (all.length : Int) = ((w8.toNat % all.length : Nat) : Int) := tmodN _ _
            have w0 : IntKind.i64.wrap (w8.toNat : Int) = (w8.toNat : Int) := wrapi (by omega) (by omega)
            obtain ⟨s1, s2⟩ := step _ y hy
            have nl := leave_ok bl ls ⟨y, 100, 0⟩ s2 (by omega)
            rw [lvPost_ok s1] at nl
            have hs := hset _ y hy
            have hm := hmem _ y hy
            generalize w8.toNat % all.length = j at *
            repeat' (first | refine l_run ?_ | refine l_nil ?_ | refine l_one ?_ | refine k_reg ?_ | refine l_ld ?_ | refine l_ldF ?_ | refine l_st ?_ | refine l_al (fun b => ?_) | refine l_bs (fun b => ?_) | refine k_condT ?_ | refine k_condF ?_ | refine l_call (nl) (fun _ _ => ?_) | refine l_call0 (nl) (fun _ _ => ?_) | rw [ws] | rw [w0] | refine l_ixe (es := ord) i w8 hw8 (fun b off => ?_) | refine l_ldC ?_ | refine l_rem (a := (w8.toNat : Int)) (b := (all.length : Int)) (by omega) ?_ | rw [tm] | refine l_ixS j hjl ?_ | refine l_stA 1 j 0 true hub ?_ | refine l_ixe (es := all) j y hy (fun b off => ?_) | (refine l_split (fun hc => ?_) (fun hc => ?_) <;> (try simp at hc) <;> (try omega)) | (refine k_cond (fun hc => ?_) (fun hc => ?_) <;> (try simp at hc) <;> (try omega)))
            all_goals first | exact absurd (by assumption : all = []) (fun h => ha0 (by rw [h]; rfl)) | rw [wi, hs]
            all_goals exact k_next ⟨i + 1, ls ++ [⟨y, 100, 0⟩], by omega, hm, fun k y hk hy => by omega, by simp; omega⟩ (by show ord.length + all.length - (i + 1) < ord.length + all.length - i; omega) ⟨rfl, rfl, rfl, rfl, rfl, rfl, trivial⟩
        · obtain ⟨j, rfl⟩ : ∃ j, i = ord.length + j := ⟨i - ord.length, by omega⟩
          have hjl : j < all.length := by omega
          obtain ⟨y, hy⟩ : ∃ e, all[j]? = some e := ⟨_, List.getElem?_eq_getElem hjl⟩
          have wj : IntKind.i64.wrap (((ord.length + j : Nat) : Int) - (ord.length : Int)) = (j : Int) := by rw [wrapi (by omega) (by omega)]; omega
          have hub : (usK all (ls.map (·.e)))[j]? = some (decide (y ∈ ls.map (·.e))) := by simp [usK, hy]
          by_cases hin : y ∈ ls.map (·.e)
          · rw [decide_eq_true hin] at hub
            repeat' (first | refine l_run ?_ | refine l_nil ?_ | refine l_one ?_ | refine k_reg ?_ | refine l_ld ?_ | refine l_ldF ?_ | refine l_st ?_ | refine l_al (fun b => ?_) | refine l_bs (fun b => ?_) | refine k_condT ?_ | refine k_condF ?_ | rw [ws] | rw [wj] | refine l_ixS j hjl ?_ | refine l_ldA 1 j 0 hub ?_ | (refine l_split (fun hc => ?_) (fun hc => ?_) <;> (try simp at hc) <;> (try omega)) | (refine k_cond (fun hc => ?_) (fun hc => ?_) <;> (try simp at hc) <;> (try omega)))
            all_goals rw [wi]
            all_goals exact k_next ⟨ord.length + j + 1, ls, by omega, h2, fun k z hk hz => by
              by_cases hkj : k = j
              · subst hkj; rw [hy] at hz; cases hz; exact hin
              · exact h3 k z (by omega) hz, by omega⟩ (by show ord.length + all.length - (ord.length + j + 1) < ord.length + all.length - (ord.length + j); omega) ⟨rfl, rfl, rfl, rfl, rfl, rfl, trivial⟩
          · rw [decide_eq_false hin] at hub
            obtain ⟨s1, s2⟩ := step _ y hy
            have nl := leave_ok bl ls ⟨y, 100, 0⟩ s2 (by omega)
            rw [lvPost_ok s1] at nl
            have hs := hset _ y hy
            have hm := hmem _ y hy
            repeat' (first | refine l_run ?_ | refine l_nil ?_ | refine l_one ?_ | refine k_reg ?_ | refine l_ld ?_ | refine l_ldF ?_ | refine l_st ?_ | refine l_al (fun b => ?_) | refine l_bs (fun b => ?_) | refine k_condT ?_ | refine k_condF ?_ | refine l_call (nl) (fun _ _ => ?_) | refine l_call0 (nl) (fun _ _ => ?_) | rw [ws] | rw [wj] | refine l_ixS j hjl ?_ | refine l_ldA 1 j 0 hub ?_ | refine l_stA 1 j 0 true hub ?_ | refine l_ixe (es := all) j y hy (fun b off => ?_) | refine l_ldC ?_ | (refine l_split (fun hc => ?_) (fun hc => ?_) <;> (try simp at hc) <;> (try omega)) | (refine k_cond (fun hc => ?_) (fun hc => ?_) <;> (try simp at hc) <;> (try omega)))
            all_goals rw [wi, hs]
            all_goals exact k_next ⟨ord.length + j + 1, ls ++ [⟨y, 100, 0⟩], by omega, hm, fun k z hk hz => by
              by_cases hkj : k = j
              · subst hkj; rw [hy] at hz; cases hz; simp
              · have := h3 k z (by omega) hz
                simp at this ⊢; exact .inl this, by simp; omega⟩ (by show ord.length + all.length - (ord.length + j + 1) < ord.length + all.length - (ord.length + j); omega) ⟨rfl, rfl, rfl, rfl, rfl, rfl, trivial⟩
      · repeat' (first | refine l_run ?_ | refine l_nil ?_ | refine l_one ?_ | refine k_reg ?_ | refine l_ld ?_ | refine l_ldF ?_ | refine l_st ?_ | refine l_al (fun b => ?_) | refine l_bs (fun b => ?_) | refine k_condT ?_ | refine k_condF ?_ | rw [ws] | (refine l_split (fun hc => ?_) (fun hc => ?_) <;> (try simp at hc) <;> (try omega)) | (refine k_cond (fun hc => ?_) (fun hc => ?_) <;> (try simp at hc) <;> (try omega)))
        refine k_lgz (b := bl) (ls := ls) ?_
        refine k_out hx ⟨ls, fun x hx => (h2 x hx).1, fun y hy => ?_, by omega⟩ ⟨rfl, rfl, trivial⟩
        obtain ⟨j, hj, rfl⟩ := List.mem_iff_getElem.1 hy
        exact h3 j _ (by omega) (List.getElem?_eq_getElem hj)
end Go.Proofs.YtdmbnkmcdhmccaaDoor
