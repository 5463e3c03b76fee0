/-
  The contracts of process.Fork and process.Thread, where they succeed.
  Conditions: those that each theorem states.
-/
import Derived.Test.YtgaipgbgppdfeaaGreatDoorPro11
import Derived.Test.YtgaipgbgppdfeaaGreatDoorSpc8
set_option maxRecDepth 10000
namespace Go.Proofs.YtgaipgbgppdfeaaGreatDoor
open Go.RowKit

/-- What a copy of an object changes. -/
def cpC (es : Al) (cs : List Ch) (x y : Nm) : List Ch := if (vget es cs x).2 = true then cs ++ [⟨y, (vget es cs x).1, false⟩] else cs
theorem cpC_len (es : Al) (cs : List Ch) (x y : Nm) : (cpC es cs x y).length ≤ cs.length + 1 := by
  unfold cpC; split <;> simp
theorem vcp_ne {es : Al} {cs : List Ch} {x y n : Nm} (h : y ≠ n) : vget es (cpC es cs x y) n = vget es cs n := by
  unfold cpC; split
  · exact vg_ne h
  · rfl
/-- The pages copied one after the other. -/
def spP (es : Al) (cs : List Ch) (f ch : ByteArray) : Nat → List Ch
  | 0 => cs
  | n + 1 => cpC es (spP es cs f ch n) (gnm f (n : Int)) (gnm ch (n : Int))
theorem spP_len (es : Al) (cs : List Ch) (f ch : ByteArray) : ∀ n, (spP es cs f ch n).length ≤ cs.length + n
  | 0 => Nat.le_refl _
  | n + 1 => by
    have h1 := spP_len es cs f ch n
    have h2 := cpC_len es (spP es cs f ch n) (gnm f (n : Int)) (gnm ch (n : Int))
    rw [spP]; omega
theorem vsp_ne {es : Al} {cs : List Ch} {f ch : ByteArray} {m : Nm} : ∀ {n : Nat}, (∀ i : Nat, i < n → gnm ch (i : Int) ≠ m) → vget es (spP es cs f ch n) m = vget es cs m
  | 0, _ => rfl
  | n + 1, h => by rw [spP, vcp_ne (h n (by omega)), vsp_ne fun i hi => h i (by omega)]
theorem gnm_ne {a c : ByteArray} {i j : Int} (h : a ≠ c ∨ i ≠ j) : gnm a i ≠ gnm c j := by
  intro e
  simp only [gnm, Nm.mk.injEq, true_and, and_true] at e
  rcases h with h | h
  · exact h e.1
  · exact h e.2
theorem vsp_f {es : Al} {cs : List Ch} {f ch : ByteArray} (hne : ch ≠ f) (n : Nat) (j : Int) : vget es (spP es cs f ch n) (gnm f j) = vget es cs (gnm f j) := vsp_ne fun _ _ => gnm_ne (.inl hne)
section
variable (b : Nat) (ps : Option Addr) (es : Al) (rs : List (Nm × Ch)) (cs : List Ch)
theorem copyG_ok (x y : Nm) (hx : x.owner.size ≤ 1099511627770) (hxt : x.text.size ≤ 1099511627776) (hy : y.owner.size ≤ 1099511627770) (hyt : y.text.size ≤ 1099511627776) (hyc : nchk y = 0) (hs : (vget es cs x).1.size ≤ 65536) (hl : cs.length ≤ 1000000) :
    Enters 120 ∧ Spec Tryz.prog 120 #[.pointer (some ⟨b, 0, none⟩), x.v, y.v] [St ps es, Usg] [Vw b ps rs cs]
    ⟨Unit, fun _ => .int .i64 0, fun _ => True, fun _ => [], fun _ => [Vw b ps (vread es rs cs x) (cpC es cs x y)]⟩ := by
  unfold cpC
  by_cases h : (vget es cs x).2 = true
  · rw [if_pos h]
    have n1 := vwGet_ok b ps es rs cs x hx hxt
    rw [h] at n1
    generalize (vget es cs x).1 = s at *
    have n2 := vwSet_ok b ps (vread es rs cs x) cs y s (by omega) hyt hl
    have e2 : vset cs y s = (0, cs ++ [⟨y, s, false⟩]) := by
      unfold vset
      rw [if_neg (by rw [hyc]; simp), if_neg (by omega)]
    rw [e2] at n2
    generalize vread es rs cs x = rs2 at *
    generalize b = bv at *
    refine ⟨enters_of Tryz.func120 (by kernel_rfl) rfl, spec_of (vs := [_, _, _]) Tryz.func120 rfl Tryz.ntmps120 rfl fun G w hp => ?_⟩
    repeat' (first | refine l_run ?_ | refine l_nil ?_ | refine l_one ?_ | refine k_reg ?_ | refine l_ld ?_ | refine l_ldF ?_ | refine l_st ?_ | refine l_al (fun b => ?_) | refine l_bs (fun b => ?_) | refine k_condT ?_ | refine k_condF ?_ | refine k_brk ?_ | refine l_call (n1) (fun _ _ => ?_) | refine l_call0 (n1) (fun _ _ => ?_) | refine l_call (n2) (fun _ _ => ?_) | refine l_call0 (n2) (fun _ _ => ?_) | (refine l_split (fun hc => ?_) (fun hc => ?_) <;> (try simp at hc) <;> (try omega)) | (refine k_cond (fun hc => ?_) (fun hc => ?_) <;> (try simp at hc) <;> (try omega)))
    exact k_ret () rfl trivial
  · rw [if_neg h]
    exact copy0_ok b ps es rs cs x y hx hxt (by simpa using h)
variable (who : ByteArray) (p o : Pr)
/-- A child of a process: with a memory of its own, or a thread. -/
def kidS (share : Bool) (p o : Pr) (ch : ByteArray) : Pr := if share then { p with pg := 0 } else { p with sp := ch, pg := o.pg }
def spC (es : Al) (cs : List Ch) (who ch : ByteArray) (c : Ct) (p k : Pr) : List Ch := spP es (cpC es (cs ++ [⟨cnm who, cvs { c with c := c.c + 1 }, false⟩] ++ [⟨pnm ch, pencS k, false⟩]) (rnm who) (rnm ch)) p.sp ch k.pg.toNat
theorem own_pg {es : Al} {cs : List Ch} {who : ByteArray} {p o : Pr} (h : PrAt es cs who p) (ho : Own es cs who p o) : 0 ≤ o.pg ∧ o.pg ≤ 64 := by
  have hc : pchk o = 0 := by
    unfold Own at ho
    split at ho
    · rw [ho]; exact h.c
    · exact ho.c
  obtain ⟨q1, q2, q3, q4, q5, q6⟩ := pchk_zero hc
  unfold pfit at q3
  omega
theorem kidS_chk {share : Bool} {p o : Pr} {ch : ByteArray} (h : pchk p = 0) (hv : lvalid ch.data.toList = true) (ho : 0 ≤ o.pg ∧ o.pg ≤ 64) : pchk (kidS share p o ch) = 0 := by
  obtain ⟨q1, q2, q3, q4, q5, q6⟩ := pchk_zero h
  unfold pfit at q3
  unfold pchk pfit kidS
  cases share with
  | true =>
    simp only [if_true]
    rw [if_neg (by omega), if_neg (by omega), if_neg (by simp only [Decidable.not_not]; omega), if_neg (by simp [q4]), if_neg (by simp [q5])]
    exact q6
  | false =>
    simp only [Bool.false_eq_true, if_false]
    rw [if_neg (by omega), if_neg (by omega), if_neg (by simp only [Decidable.not_not]; omega), if_neg (by simp [q4]), if_neg (by simp [hv])]
    exact q6
set_option maxHeartbeats 8000000 in
theorem spawn_ok (share : Bool) (h : PrAt es cs who p) (hr : p.st = 1) (ho : Own es cs who p o) (c : Ct) (hm : madeE es cs who = (c, 0)) (hmv : (vget es cs (cnm who)).1.size ≤ 1099511627776) (hct : CtOK c) (hk2 : c.c + 1 ≤ 999999) (hd : (lords who.data.toList).length ≠ 8) (hne : isE who = false) (hi : (Lib.itoa (c.c + 1)).length ≤ 100)
    (hcv : lvalid (chN who (c.c + 1)).data.toList = true) (hcw : (chN who (c.c + 1)).size ≤ 1000) (hg : (vget es cs (pnm (chN who (c.c + 1)))).2 = false) (hcs : chN who (c.c + 1) ≠ p.sp) (hrs : (vget es cs (rnm who)).1.size ≤ 65536) (hps : ∀ i : Nat, i < 64 → (vget es cs (gnm p.sp (i : Int))).1.size ≤ 65536) (hl : cs.length ≤ 900000) :
    Enters 67 ∧ Spec Tryz.prog 67 #[.pointer (some ⟨b, 0, none⟩), .string who, .bool share] [St ps es, Usg, P10] [Vw b ps rs cs]
      ⟨List (Nm × Ch), fun _ => .tuple #[.string (chN who (c.c + 1)), .int .i64 0], fun _ => True, fun _ => [], fun rs' => [Vw b ps rs' (spC es cs who (chN who (c.c + 1)) c p (kidS share p o (chN who (c.c + 1))))]⟩ := by
  have hw := h.w
  have hsp := h.s
  have hopg := own_pg h ho
  obtain ⟨q1, q2, q3, q4, q5, q6⟩ := pchk_zero h.c
  unfold pfit at q3
  have n1 := running_ok b ps es rs cs who p h hr
  have n2 := made_ok b ps es (pgR es rs cs who) cs who (by omega) hmv
  rw [hm] at n2
  have hc0 := hct.c0
  have n3 := child_ok who (c.c + 1) h.v hw ⟨by omega, hk2⟩ hd hne hi
  have n4 := ofProcess_ok (chN who (c.c + 1))
  have n5 := fun rs' => vwHas_ok b ps es rs' cs (pnm (chN who (c.c + 1))) (by show (chN who (c.c + 1)).size ≤ _; omega) (Nat.zero_le _)
  rw [hg] at n5
  have n6 := fun rs' a c' => owner2_ok b ps es rs' cs who p o a c' ho
  have n7 := fun rs' => vwMark_ok b ps rs' cs
  have hct2 : CtOK { c with c := c.c + 1 } := ⟨hct.b0, hct.b1, hct.o0, hct.o1, by show 0 ≤ c.c + 1; omega, by show c.c + 1 ≤ _; omega⟩
  have n8 := fun rs' => setMade_ok b ps rs' cs who { c with c := c.c + 1 } (by omega) h.v hct2 (by omega)
  have hcsz := cvs_size hct2
  have e8 : vset cs (cnm who) ⟨(cenc { c with c := c.c + 1 }).toArray⟩ = (0, cs ++ [⟨cnm who, cvs { c with c := c.c + 1 }, false⟩]) := by
    unfold vset
    rw [if_neg (by rw [chk_cnm h.v]; simp), if_neg (by show ¬ 65536 < (cvs { c with c := c.c + 1 }).size; omega)]
    rfl
  rw [e8] at n8
  have hkc := kidS_chk (share := share) h.c hcv hopg
  have hk3 : (kidS share p o (chN who (c.c + 1))).sp.size ≤ 1000 ∧ (kidS share p o (chN who (c.c + 1))).dr.mkr.size ≤ 1000 := by
    unfold kidS; cases share
    · exact ⟨hcw, h.d⟩
    · exact ⟨h.s, h.d⟩
  have n9 := fun rs' a c' => proPut_ok b ps rs' (cs ++ [⟨cnm who, cvs { c with c := c.c + 1 }, false⟩]) (chN who (c.c + 1)) (kidS share p o (chN who (c.c + 1))) a c' hkc hk3.1 hk3.2 hcw hcv (by simp; omega)
  have hv2 : ∀ m : Nm, m.kind ≠ 1 → m.kind ≠ 5 → vget es (cs ++ [⟨cnm who, cvs { c with c := c.c + 1 }, false⟩] ++ [⟨pnm (chN who (c.c + 1)), pencS (kidS share p o (chN who (c.c + 1))), false⟩]) m = vget es cs m := fun m m1 m5 => by
    rw [vg_ne (fun e => m1 (by rw [← e]; rfl)), vg_ne (fun e => m5 (by rw [← e]; rfl))]
  have n10 := fun rs' => copyG_ok b ps es rs' (cs ++ [⟨cnm who, cvs { c with c := c.c + 1 }, false⟩] ++ [⟨pnm (chN who (c.c + 1)), pencS (kidS share p o (chN who (c.c + 1))), false⟩]) (rnm who) (rnm (chN who (c.c + 1))) (by show who.size ≤ _; omega) (Nat.zero_le _) (by show (chN who (c.c + 1)).size ≤ _; omega) (Nat.zero_le _) (chk_rnm hcv) (by rw [hv2 _ (by simp [rnm]) (by simp [rnm])]; exact hrs) (by simp; omega)
  have hl3 : (cpC es (cs ++ [⟨cnm who, cvs { c with c := c.c + 1 }, false⟩] ++ [⟨pnm (chN who (c.c + 1)), pencS (kidS share p o (chN who (c.c + 1))), false⟩]) (rnm who) (rnm (chN who (c.c + 1)))).length ≤ cs.length + 3 := by
    have := cpC_len es (cs ++ [⟨cnm who, cvs { c with c := c.c + 1 }, false⟩] ++ [⟨pnm (chN who (c.c + 1)), pencS (kidS share p o (chN who (c.c + 1))), false⟩]) (rnm who) (rnm (chN who (c.c + 1)))
    simp only [List.length_append, List.length_cons, List.length_nil] at this ⊢
    omega
  have hps3 : ∀ i : Nat, i < 64 → (vget es (cpC es (cs ++ [⟨cnm who, cvs { c with c := c.c + 1 }, false⟩] ++ [⟨pnm (chN who (c.c + 1)), pencS (kidS share p o (chN who (c.c + 1))), false⟩]) (rnm who) (rnm (chN who (c.c + 1)))) (gnm p.sp (i : Int))).1.size ≤ 65536 := fun i hi => by
    rw [vcp_ne (by simp [rnm, gnm]), hv2 _ (by simp [gnm]) (by simp [gnm])]; exact hps i hi
  have n12 := ofRegisters_ok who
  have n13 := ofRegisters_ok (chN who (c.c + 1))
  have n14 := fun i : Nat => ofPage_ok p.sp (i : Int)
  have n15 := fun i : Nat => ofPage_ok (chN who (c.c + 1)) (i : Int)
  have w1 : IntKind.i64.wrap (c.c + 1) = c.c + 1 := wrapi (by omega) (by omega)
  unfold spC
  generalize hcs3 : cpC es (cs ++ [⟨cnm who, cvs { c with c := c.c + 1 }, false⟩] ++ [⟨pnm (chN who (c.c + 1)), pencS (kidS share p o (chN who (c.c + 1))), false⟩]) (rnm who) (rnm (chN who (c.c + 1))) = cs3 at *
  clear hcs3 hv2
  generalize (cs ++ [⟨cnm who, cvs { c with c := c.c + 1 }, false⟩] ++ [⟨pnm (chN who (c.c + 1)), pencS (kidS share p o (chN who (c.c + 1))), false⟩] : List Ch) = cs23 at *
  generalize (cs ++ [⟨cnm who, cvs { c with c := c.c + 1 }, false⟩] : List Ch) = cs2 at *
  generalize chN who (c.c + 1) = ch at *
  clear h ho hkc e8 hg hm hmv
  obtain ⟨c1, c2, c3⟩ := c
  obtain ⟨a1, a2, a3, a4, a5, gs, a7, a8, ⟨d1, d2⟩, a10⟩ := p
  obtain ⟨o1, o2, o3, o4, o5, os, o7, o8, ⟨e1, e2⟩, o10⟩ := o
  dsimp only at *
  obtain ⟨pg, hpge⟩ : ∃ pg : Nat, o8 = (pg : Int) := ⟨o8.toNat, by omega⟩
  subst hr hpge
  generalize b = bv at *
  cases share with
  | false =>
    have hll := spP_len es cs3 a7 ch
    have m0 := fun rs' (i : Nat) (hi : i < pg) => copyG_ok bv ps es rs' (spP es cs3 a7 ch i) (gnm a7 (i : Int)) (gnm ch (i : Int)) (by show a7.size ≤ _; omega) (Nat.zero_le _) (by show ch.size ≤ _; omega) (Nat.zero_le _) (chk_gnm hcv (by omega)) (by rw [vsp_f hcs]; exact hps3 i (by omega)) (by have := hll i; omega)
    simp only [Pr.v, kidS, Bool.false_eq_true, if_false] at n1 n6 n9 ⊢
    refine ⟨enters_of Tryz.func67 (by kernel_rfl) rfl, spec_of (vs := [_, _, _]) Tryz.func67 rfl Tryz.ntmps67 rfl fun G w hp => ?_⟩
    repeat' (first | refine l_run ?_ | refine l_nil ?_ | refine l_one ?_ | refine k_reg ?_ | refine l_ld ?_ | refine l_ldF ?_ | refine l_st ?_ | refine l_al (fun b => ?_) | refine l_bs (fun b => ?_) | refine k_condT ?_ | refine k_condF ?_ | refine k_brk ?_ | refine r_run ?_ | refine r_one ?_ | refine r_ld ?_ | refine r_ldF ?_ | refine r_ldN ?_ | refine r_al (fun b => ?_) | refine r_bs (fun b => ?_) | refine r_st ?_ | refine r_end ?_ | refine l_call (n1) (fun _ _ => ?_) | refine l_call0 (n1) (fun _ _ => ?_) | refine r_call (n1) (fun _ _ => ?_) | refine l_call (n2) (fun _ _ => ?_) | refine l_call0 (n2) (fun _ _ => ?_) | refine r_call (n2) (fun _ _ => ?_) | refine l_call (n3) (fun _ _ => ?_) | refine l_call0 (n3) (fun _ _ => ?_) | refine r_call (n3) (fun _ _ => ?_) | refine l_call (n4) (fun _ _ => ?_) | refine l_call0 (n4) (fun _ _ => ?_) | refine r_call (n4) (fun _ _ => ?_) | refine l_call (n5 _) (fun _ _ => ?_) | refine l_call0 (n5 _) (fun _ _ => ?_) | refine r_call (n5 _) (fun _ _ => ?_) | refine l_call (n6 _ _ _) (fun _ _ => ?_) | refine l_call0 (n6 _ _ _) (fun _ _ => ?_) | refine r_call (n6 _ _ _) (fun _ _ => ?_) | refine l_call (n7 _) (fun _ _ => ?_) | refine l_call0 (n7 _) (fun _ _ => ?_) | refine r_call (n7 _) (fun _ _ => ?_) | refine l_call (n8 _) (fun _ _ => ?_) | refine l_call0 (n8 _) (fun _ _ => ?_) | refine r_call (n8 _) (fun _ _ => ?_) | refine l_call (n9 _ _ _) (fun _ _ => ?_) | refine l_call0 (n9 _ _ _) (fun _ _ => ?_) | refine r_call (n9 _ _ _) (fun _ _ => ?_) | refine l_call (n10 _) (fun _ _ => ?_) | refine l_call0 (n10 _) (fun _ _ => ?_) | refine r_call (n10 _) (fun _ _ => ?_) | refine l_call (n12) (fun _ _ => ?_) | refine l_call0 (n12) (fun _ _ => ?_) | refine r_call (n12) (fun _ _ => ?_) | refine l_call (n13) (fun _ _ => ?_) | refine l_call0 (n13) (fun _ _ => ?_) | refine r_call (n13) (fun _ _ => ?_) | rw [w1] | (refine l_split (fun hc => ?_) (fun hc => ?_) <;> (try simp at hc) <;> (try omega)) | (refine r_split (fun hc => ?_) (fun hc => ?_) <;> (try simp at hc) <;> (try omega)) | refine k_draw 15 [] [(0, 0), (1, 0), (2, 0), (3, 1), (4, 0)] [5] ?_ | refine k_draw 21 [Pt _ (.cells #[_, _, _, _, _, _, _, .int .i64 0, _, _, _] 80 _)] [(0, 0), (1, 0), (2, 0), (3, 0), (4, 4), (5, 0), (6, 4)] [] ?_ | (refine k_cond (fun hc => ?_) (fun hc => ?_) <;> (try simp at hc) <;> (try omega)))
    rename_i q _ b8 _ _ b10 _ _ _ _ _ _ b13 _ _ _ _ _ _ _ _ _ _ _ _ _ _
    obtain ⟨qo, qc⟩ := q
    refine k_lp (X := { q : Nat × List (Nm × Ch) // q.1 ≤ pg }) (fun q => [(0, .pointer (some ⟨bv, 0, none⟩)), (9, .int .i64 0), (11, .string ch), (12, .string a7), (13, .pointer (some ⟨b13, 0, none⟩)), (17, .int .i64 (q.1.1 : Int))]) (fun _ => [St ps es, Usg, P10]) (fun q => [Vw bv ps q.1.2 (spP es cs3 a7 ch q.1.1), Pt b13 (.cells #[.int .i64 a1, .int .i64 1, .int .i64 a3, .int .i64 a4, .int .i64 a5, .slice qo gs.length qc, .string ch, .int .i64 (pg : Int), .string d1, .int .i64 d2, .int .i64 a10] 80)]) (fun q => pg - q.1.1) ⟨(0, _), Nat.zero_le _⟩ ⟨rfl, rfl, rfl, rfl, rfl, rfl, trivial⟩ ?_
    rintro ⟨⟨i, rs'⟩, hi'⟩
    dsimp only at hi' ⊢
    by_cases hlt : i < pg
    · have m1 := m0 rs' i hlt
      rw [show cpC es (spP es cs3 a7 ch i) (gnm a7 (i : Int)) (gnm ch (i : Int)) = spP es cs3 a7 ch (i + 1) from rfl] at m1
      have m2 := n14 i
      have m3 := n15 i
      generalize vread es rs' (spP es cs3 a7 ch i) (gnm a7 (i : Int)) = rs2 at *
      have wi : IntKind.i64.wrap ((i : Int) + 1) = ((i + 1 : Nat) : Int) := by rw [wrapi (by omega) (by omega)]; omega
      repeat' (first | refine l_run ?_ | refine l_nil ?_ | refine l_one ?_ | refine k_reg ?_ | refine l_ld ?_ | refine l_ldF ?_ | refine l_st ?_ | refine l_al (fun b => ?_) | refine l_bs (fun b => ?_) | refine k_condT ?_ | refine k_condF ?_ | refine l_call (m1) (fun _ _ => ?_) | refine l_call0 (m1) (fun _ _ => ?_) | refine l_call (m2) (fun _ _ => ?_) | refine l_call0 (m2) (fun _ _ => ?_) | refine l_call (m3) (fun _ _ => ?_) | refine l_call0 (m3) (fun _ _ => ?_) | rw [wi] | (refine l_split (fun hc => ?_) (fun hc => ?_) <;> (try simp at hc) <;> (try omega)) | (refine k_cond (fun hc => ?_) (fun hc => ?_) <;> (try simp at hc) <;> (try omega)))
      exact k_next ⟨(i + 1, rs2), by dsimp only; omega⟩ (by show pg - (i + 1) < pg - i; omega) ⟨rfl, rfl, rfl, rfl, rfl, rfl, trivial⟩
    · obtain rfl : i = pg := by omega
      repeat' (first | refine l_run ?_ | refine l_nil ?_ | refine l_one ?_ | refine k_reg ?_ | refine l_ld ?_ | refine l_ldF ?_ | refine l_st ?_ | refine l_al (fun b => ?_) | refine l_bs (fun b => ?_) | refine k_condT ?_ | refine k_condF ?_ | refine k_brk ?_ | (refine l_split (fun hc => ?_) (fun hc => ?_) <;> (try simp at hc) <;> (try omega)) | (refine k_cond (fun hc => ?_) (fun hc => ?_) <;> (try simp at hc) <;> (try omega)))
      exact k_ret rs' rfl trivial
  | true =>
    simp only [Pr.v, kidS, if_true] at n1 n9 ⊢
    refine ⟨enters_of Tryz.func67 (by kernel_rfl) rfl, spec_of (vs := [_, _, _]) Tryz.func67 rfl Tryz.ntmps67 rfl fun G w hp => ?_⟩
    repeat' (first | refine l_run ?_ | refine l_nil ?_ | refine l_one ?_ | refine k_reg ?_ | refine l_ld ?_ | refine l_ldF ?_ | refine l_st ?_ | refine l_al (fun b => ?_) | refine l_bs (fun b => ?_) | refine k_condT ?_ | refine k_condF ?_ | refine k_brk ?_ | refine r_run ?_ | refine r_one ?_ | refine r_ld ?_ | refine r_ldF ?_ | refine r_ldN ?_ | refine r_al (fun b => ?_) | refine r_bs (fun b => ?_) | refine r_st ?_ | refine r_end ?_ | refine l_call (n1) (fun _ _ => ?_) | refine l_call0 (n1) (fun _ _ => ?_) | refine r_call (n1) (fun _ _ => ?_) | refine l_call (n2) (fun _ _ => ?_) | refine l_call0 (n2) (fun _ _ => ?_) | refine r_call (n2) (fun _ _ => ?_) | refine l_call (n3) (fun _ _ => ?_) | refine l_call0 (n3) (fun _ _ => ?_) | refine r_call (n3) (fun _ _ => ?_) | refine l_call (n4) (fun _ _ => ?_) | refine l_call0 (n4) (fun _ _ => ?_) | refine r_call (n4) (fun _ _ => ?_) | refine l_call (n5 _) (fun _ _ => ?_) | refine l_call0 (n5 _) (fun _ _ => ?_) | refine r_call (n5 _) (fun _ _ => ?_) | refine l_call (n7 _) (fun _ _ => ?_) | refine l_call0 (n7 _) (fun _ _ => ?_) | refine r_call (n7 _) (fun _ _ => ?_) | refine l_call (n8 _) (fun _ _ => ?_) | refine l_call0 (n8 _) (fun _ _ => ?_) | refine r_call (n8 _) (fun _ _ => ?_) | refine l_call (n9 _ _ _) (fun _ _ => ?_) | refine l_call0 (n9 _ _ _) (fun _ _ => ?_) | refine r_call (n9 _ _ _) (fun _ _ => ?_) | refine l_call (n10 _) (fun _ _ => ?_) | refine l_call0 (n10 _) (fun _ _ => ?_) | refine r_call (n10 _) (fun _ _ => ?_) | refine l_call (n12) (fun _ _ => ?_) | refine l_call0 (n12) (fun _ _ => ?_) | refine r_call (n12) (fun _ _ => ?_) | refine l_call (n13) (fun _ _ => ?_) | refine l_call0 (n13) (fun _ _ => ?_) | refine r_call (n13) (fun _ _ => ?_) | rw [w1] | (refine l_split (fun hc => ?_) (fun hc => ?_) <;> (try simp at hc) <;> (try omega)) | (refine r_split (fun hc => ?_) (fun hc => ?_) <;> (try simp at hc) <;> (try omega)) | refine k_draw 15 [] [(0, 0), (1, 0), (2, 0), (3, 1), (4, 0)] [5] ?_ | (refine k_cond (fun hc => ?_) (fun hc => ?_) <;> (try simp at hc) <;> (try omega)))
    rename_i q _ b8 _ _ b10 _ _ _ _ _ _ _ _ _ _ _ _ _ _ _ _ _ _
    obtain ⟨qo, qc⟩ := q
    refine k_lp (X := { q : Nat × List (Nm × Ch) // q.1 ≤ 0 }) (fun q => [(0, .pointer (some ⟨bv, 0, none⟩)), (9, .int .i64 0), (11, .string ch), (12, .string a7), (13, .pointer (some ⟨b, 0, none⟩)), (17, .int .i64 0)]) (fun _ => [St ps es, Usg, P10]) (fun q => [Vw bv ps q.1.2 cs3, Pt b (.cells #[.int .i64 a1, .int .i64 1, .int .i64 a3, .int .i64 a4, .int .i64 a5, .slice qo gs.length qc, .string a7, .int .i64 0, .string d1, .int .i64 d2, .int .i64 a10] 80)]) (fun q => 0) ⟨(0, _), Nat.zero_le _⟩ ⟨rfl, rfl, rfl, rfl, rfl, rfl, trivial⟩ ?_
    rintro ⟨⟨i, rs'⟩, hi'⟩
    dsimp only at hi' ⊢
    repeat' (first | refine l_run ?_ | refine l_nil ?_ | refine l_one ?_ | refine k_reg ?_ | refine l_ld ?_ | refine l_ldF ?_ | refine l_st ?_ | refine l_al (fun b => ?_) | refine l_bs (fun b => ?_) | refine k_condT ?_ | refine k_condF ?_ | refine k_brk ?_ | (refine l_split (fun hc => ?_) (fun hc => ?_) <;> (try simp at hc) <;> (try omega)) | (refine k_cond (fun hc => ?_) (fun hc => ?_) <;> (try simp at hc) <;> (try omega)))
    exact k_ret rs' rfl trivial
end
end Go.Proofs.YtgaipgbgppdfeaaGreatDoor
