/-
  Entries as values, and their identities.
  The contract of slices.SortFunc at replevin/output.Entry, for at most 12 elements.
  The contract of a ledger's Waiting, for at most 19 outputs.
  The contract of a ledger's Waiting, for at most 19 outputs.
  The example of layer 39, in plain numbers.
  The contract of the example of layer 39, known.
  Contracts of the statements' own functions of layer 39: shortO, short, check, put, value, leave, find, encoding.
  Conditions: those that each theorem states.
-/
import Derived.Test.YtijaglinajfplaaGreatDoorME
import Derived.Test.YtijaglinajfplaaGreatDoorMF
set_option maxRecDepth 10000
namespace Go.Proofs.YtijaglinajfplaaGreatDoor
open Go.RowKit

def En.w (e : En) : Value := .agg #[.string e.who, .int .i64 e.nu, .int .i64 e.tk, .int .i64 e.o.ch, .string e.o.tg, .string e.o.tx, .int .i64 e.o.us]
/-- What tells an output apart. -/
structure Idn where
  who : ByteArray
  nu : Int
  tk : Int
  deriving DecidableEq
def Idn.v (i : Idn) : Value := .agg #[.string i.who, .int .i64 i.nu, .int .i64 i.tk]
def En.id (e : En) : Idn := ⟨e.who, e.nu, e.tk⟩
theorem beqSw (a b : ByteArray) : (a.toList == b.toList) = decide (a = b) := by
  rw [toList_data, toList_data, Bool.eq_iff_iff]
  simp only [beq_iff_eq, decide_eq_true_eq]
  exact ⟨fun h => ba_ext h, fun h => by rw [h]⟩
theorem beqIw (a b : Int) : (a == b) = decide (a = b) := by rw [Bool.eq_iff_iff]; simp
theorem key_id : KeyOK 197 Idn.v where
  eq a b w := by
    refine (equal_ok (t := 197) (x := Idn.v a) (y := Idn.v b) rfl w).trans ?_
    obtain ⟨a1, a2, a3⟩ := a
    obtain ⟨b1, b2, b3⟩ := b
    congr 1
    simp only [beqSw, beqIw, Idn.mk.injEq]
    rw [Bool.eq_iff_iff]
    simp
  chk a em w := ckC_ok eqS_ok em 20 10000 _ _ w (by omega) rfl
  bits a := by simp [Idn.v, Instr.sameBits, beq_toListBytes]
  now := ⟨_, rfl, fun a b => .inl rfl⟩
theorem identity_ok (e : En) : Enters 119 ∧ Spec Tryz.prog 119 #[e.w] [] [] (RetV e.id.v) := by
  refine ⟨enters_of Tryz.func119 (by kernel_rfl) rfl, spec_of (vs := [_]) Tryz.func119 rfl Tryz.ntmps119 rfl fun G w hp => ?_⟩
  repeat' (first | refine l_run ?_ | refine l_nil ?_ | refine l_one ?_ | refine k_reg ?_ | refine l_ld ?_ | refine l_ldF ?_ | refine l_st ?_ | refine l_al (fun b => ?_) | refine l_bs (fun b => ?_) | refine k_condT ?_ | refine k_condF ?_ | refine k_brk ?_ | (refine l_split (fun hc => ?_) (fun hc => ?_) <;> (try simp at hc)) | (refine k_cond (fun hc => ?_) (fun hc => ?_) <;> (try simp at hc)))
  exact k_ret () rfl trivial

def cmpT (a b : En) : Int := cmpI a.tk b.tk
theorem cmpT_a (a b : En) (h : cmpT a b < 0) : ¬ cmpT b a < 0 := by
  have := (ord_int.anti a.tk b.tk).1 h
  unfold cmpT; omega
theorem cmpT_t (a b d : En) (h1 : ¬ cmpT b a < 0) (h2 : ¬ cmpT d b < 0) : ¬ cmpT d a < 0 := by
  unfold cmpT cmpI at *
  repeat' split at h1
  all_goals (repeat' split at h2)
  all_goals (repeat' split)
  all_goals omega
end Go.Proofs.YtijaglinajfplaaGreatDoor

set_option maxRecDepth 10000
namespace Go.Proofs.YtijaglinajfplaaGreatDoor
open Go.RowKit

set_option maxHeartbeats 4000000 in
theorem insE_ok (b cap : Nat) (es : List En) (q : List Value × (Nat × Nat)) (fv : FuncId) (Fc : Pf) (c : En → En → Int) (hn : es.length ≤ 1000000) (hq : AxOK (es.length * 7) q)
    (ha : ∀ a b, c a b < 0 → ¬ c b a < 0) (ht : ∀ a b d, ¬ c b a < 0 → ¬ c d b < 0 → ¬ c d a < 0) (hcmp : ∀ x y, x ∈ es → y ∈ es → Enters fv ∧ Spec Tryz.prog fv #[x.w, y.w] [Fc] [] (RetV (.int .i64 (c x y)))) :
    Enters 196 ∧ Spec Tryz.prog 196 #[.slice (some ⟨b, 0, none⟩) es.length cap, .int .i64 0, .int .i64 (es.length : Int), .func (.func fv) #[] #[]] [Fc] [Ax 78 enf b es q]
      ⟨List En, fun _ => .tuple #[], fun l => l.Perm es ∧ Srd c l, fun _ => [], fun l => [Ax 78 enf b l q]⟩ := by
  refine ⟨enters_of Tryz.func196 (by kernel_rfl) rfl, spec_of (vs := [_, _, _, _]) Tryz.func196 rfl Tryz.ntmps196 rfl fun G w hp => ?_⟩
  repeat' (first | refine l_run ?_ | refine l_nil ?_ | refine l_one ?_ | refine k_reg ?_ | refine l_ld ?_ | refine l_ldF ?_ | refine l_st ?_ | refine l_al (fun b => ?_) | refine l_bs (fun b => ?_) | refine k_condT ?_ | refine k_condF ?_ | refine k_brk ?_ | refine r_run ?_ | refine r_one ?_ | refine r_ld ?_ | refine r_ldF ?_ | refine r_ldN ?_ | refine r_al (fun b => ?_) | refine r_bs (fun b => ?_) | refine r_st ?_ | refine r_end ?_ | refine l_split (fun hc => ?_) (fun hc => ?_) | refine r_split (fun hc => ?_) (fun hc => ?_) | refine k_draw 4 [] [(0, 0), (1, 0), (2, 0), (3, 0), (4, 0), (5, 0), (6, 0), (7, 0), (8, 0), (9, 0), (10, 0), (11, 0), (12, 0), (13, 0), (14, 4), (15, 0), (16, 0)] [] ?_ | refine k_draw 6 [] [(0, 0), (1, 0), (2, 0), (3, 0), (4, 0), (5, 0), (6, 0), (7, 0), (8, 0), (9, 0), (10, 0), (11, 0), (12, 0), (13, 0), (14, 0), (15, 4), (16, 0)] [17] ?_ | refine k_cond (fun hc => ?_) (fun hc => ?_))
  refine k_lp (X := { t : Nat × List En // 1 ≤ t.1 ∧ t.1 ≤ max 1 es.length ∧ t.2.Perm es ∧ Srd c (t.2.take t.1) }) (fun t => [(0, .slice (some ⟨b, 0, none⟩) es.length cap), (1, .int .i64 0), (2, .int .i64 (es.length : Int)), (3, .func (.func fv) #[] #[]), (8, .int .i64 (t.1.1 : Int))]) (fun _ => [Fc]) (fun t => [Ax 78 enf b t.1.2 q]) (fun t => es.length - t.1.1)
    ⟨(1, es), by simp, by simp; omega, List.Perm.refl _, by
      show Srd c (es.take 1)
      cases es with
      | nil => exact List.Pairwise.nil
      | cons e es => exact List.pairwise_singleton _ _⟩ ⟨rfl, rfl, rfl, rfl, rfl, trivial⟩ ?_
  rintro ⟨⟨i, ys⟩, hi1, hi2, hi3, hi4⟩
  dsimp only at hi1 hi2 hi3 hi4 ⊢
  have hlen := hi3.length_eq
  by_cases hin : i < es.length
  · obtain ⟨x, hx⟩ : ∃ x, ys[i]? = some x := ⟨ys[i]'(by omega), by simp [hlen, hin]⟩
    have hsp : ys = ys.take i ++ x :: ([] ++ ys.drop (i + 1)) := by
      have hlt : i < ys.length := by omega
      have h1 : ys[i] = x := by rw [List.getElem?_eq_getElem hlt] at hx; exact Option.some.inj hx
      rw [List.nil_append, ← h1, List.getElem_cons_drop, List.take_append_drop]
    have hti : (ys.take i).length = i := by simp; omega
    obtain ⟨P0, hP0⟩ : ∃ P0, P0 = ys.take i := ⟨_, rfl⟩
    obtain ⟨D, hD⟩ : ∃ D, D = ys.drop (i + 1) := ⟨_, rfl⟩
    have hi5 : Srd c P0 := by rw [hP0]; exact hi4
    rw [← hP0, ← hD] at hsp
    rw [← hP0] at hti
    have hxm : x ∈ es := hi3.mem_iff.1 (by rw [hsp]; simp)
    have hpm : ∀ p ∈ P0, p ∈ es := fun p hp => hi3.mem_iff.1 (by rw [hsp]; simp [hp])
    repeat' (first | refine l_run ?_ | refine l_nil ?_ | refine l_one ?_ | refine k_reg ?_ | refine l_ld ?_ | refine l_ldF ?_ | refine l_st ?_ | refine l_al (fun b => ?_) | refine l_bs (fun b => ?_) | refine k_condT ?_ | refine k_condF ?_ | refine r_run ?_ | refine r_one ?_ | refine r_ld ?_ | refine r_ldF ?_ | refine r_ldN ?_ | refine r_al (fun b => ?_) | refine r_bs (fun b => ?_) | refine r_st ?_ | refine r_end ?_ | (refine l_split (fun hc => ?_) (fun hc => ?_) <;> (try simp at hc) <;> (try omega)) | (refine r_split (fun hc => ?_) (fun hc => ?_) <;> (try simp at hc) <;> (try omega)) | refine k_draw 4 [] [(0, 0), (1, 0), (2, 0), (3, 0), (4, 0), (5, 0), (6, 0), (7, 0), (8, 0), (9, 0), (10, 0), (11, 0), (12, 0), (13, 0), (14, 4), (15, 0), (16, 0)] [] ?_ | refine k_draw 6 [] [(0, 0), (1, 0), (2, 0), (3, 0), (4, 0), (5, 0), (6, 0), (7, 0), (8, 0), (9, 0), (10, 0), (11, 0), (12, 0), (13, 0), (14, 0), (15, 4), (16, 0)] [17] ?_ | (refine k_cond (fun hc => ?_) (fun hc => ?_) <;> (try simp at hc) <;> (try omega)))
    refine k_lp (X := { t : List En × List En // t.1 ++ t.2 = P0 ∧ ∀ s ∈ t.2, c x s < 0 }) (fun t => [(0, .slice (some ⟨b, 0, none⟩) es.length cap), (1, .int .i64 0), (2, .int .i64 (es.length : Int)), (3, .func (.func fv) #[] #[]), (8, .int .i64 (i : Int)), (9, .int .i64 (t.1.1.length : Int))]) (fun _ => [Fc]) (fun t => [Ax 78 enf b (t.1.1 ++ x :: (t.1.2 ++ D)) q]) (fun t => t.1.1.length)
      ⟨(P0, []), by simp, by simp⟩ ⟨rfl, rfl, rfl, rfl, rfl, (by show look _ _ = some (Value.int .i64 ((P0.length : Nat) : Int)); rw [hti]; rfl), trivial⟩ ?_ (hr := by rw [hsp]; exact Sels.cons Sel.here Sels.nil)
    rintro ⟨⟨P, S⟩, hPS, hS⟩
    dsimp only at hPS hS ⊢
    have hout : (∀ p, P.getLast? = some p → ¬ c x p < 0) → Srd c (P ++ x :: S) ∧ (P ++ x :: (S ++ D)).Perm es ∧ (P ++ x :: (S ++ D)).take (i + 1) = P ++ x :: S := fun h2 => by
      refine ⟨srt_insr ha ht (by rw [hPS]; exact hi5) hS h2, ?_, ?_⟩
      · refine List.Perm.trans ?_ hi3
        rw [hsp, ← hPS, List.append_assoc]
        refine List.Perm.append_left P ?_
        exact (List.perm_middle (l₁ := S) (a := x) (l₂ := D)).symm.trans (by simp)
      · have : (P ++ x :: S).length = i + 1 := by
          have := congrArg List.length hPS
          simp at this ⊢; omega
        rw [show P ++ x :: (S ++ D) = (P ++ x :: S) ++ D by simp, ← this, List.take_left]
    rcases List.eq_nil_or_concat P with hP | ⟨P', p, hP⟩
    · subst hP
      obtain ⟨h1, h2, h3⟩ := hout (by simp)
      simp only [List.length_nil, Int.natCast_zero]
      repeat' (first | refine l_run ?_ | refine l_nil ?_ | refine l_one ?_ | refine k_reg ?_ | refine l_ld ?_ | refine l_ldF ?_ | refine l_st ?_ | refine l_al (fun b => ?_) | refine l_bs (fun b => ?_) | refine k_condT ?_ | refine k_condF ?_ | refine k_brk ?_ | refine r_run ?_ | refine r_one ?_ | refine r_ld ?_ | refine r_ldF ?_ | refine r_ldN ?_ | refine r_al (fun b => ?_) | refine r_bs (fun b => ?_) | refine r_st ?_ | refine r_end ?_ | (refine l_split (fun hc => ?_) (fun hc => ?_) <;> (try simp at hc) <;> (try omega)) | (refine r_split (fun hc => ?_) (fun hc => ?_) <;> (try simp at hc) <;> (try omega)) | refine k_draw 4 [] [(0, 0), (1, 0), (2, 0), (3, 0), (4, 0), (5, 0), (6, 0), (7, 0), (8, 0), (9, 0), (10, 0), (11, 0), (12, 0), (13, 0), (14, 4), (15, 0), (16, 0)] [] ?_ | refine k_draw 6 [] [(0, 0), (1, 0), (2, 0), (3, 0), (4, 0), (5, 0), (6, 0), (7, 0), (8, 0), (9, 0), (10, 0), (11, 0), (12, 0), (13, 0), (14, 0), (15, 4), (16, 0)] [17] ?_ | (refine k_cond (fun hc => ?_) (fun hc => ?_) <;> (try simp at hc) <;> (try omega)))
      rw [wrapi (z := (i : Int) + 1) (by omega) (by omega)]
      exact k_next ⟨(i + 1, [] ++ x :: (S ++ D)), by simp, by simp; omega, h2, by rw [h3]; exact h1⟩ (by show es.length - (i + 1) < es.length - i; omega) ⟨rfl, rfl, rfl, rfl, rfl, trivial⟩
    · rw [List.concat_eq_append] at hP
      subst hP
      have hj : (((P' ++ [p]).length : Nat) : Int) = (P'.length : Int) + 1 := by simp
      have w1 : IntKind.i64.wrap ((P'.length : Int) + 1 - 1) = (P'.length : Int) := by
        have := congrArg List.length hPS
        simp at this
        rw [wrapi (by omega) (by omega)]; omega
      have hPl := congrArg List.length hPS
      simp only [List.length_append, List.length_cons, List.length_nil] at hPl
      have e1 : P' ++ [p] ++ x :: (S ++ D) = P' ++ p :: x :: (S ++ D) := by simp
      have g1 : (P' ++ p :: x :: (S ++ D))[P'.length + 1]? = some x := by
        rw [List.getElem?_append_right (by omega)]; simp
      have g0 : (P' ++ p :: x :: (S ++ D))[P'.length]? = some p := by
        rw [List.getElem?_append_right (by omega)]; simp
      have g2 : ((P' ++ p :: x :: (S ++ D)).set (P'.length + 1) p)[P'.length]? = some p := by
        rw [List.getElem?_set_ne (by omega)]; exact g0
      have hl2 : (P' ++ p :: x :: (S ++ D)).length = es.length := by
        rw [← e1, ← hi3.length_eq, hsp, ← hPS]; simp; omega
      have hq1 : AxOK ((P' ++ p :: x :: (S ++ D)).length * 7) q := by rw [hl2]; exact hq
      have hq2 : AxOK (((P' ++ p :: x :: (S ++ D)).set (P'.length + 1) p).length * 7) q := by rw [List.length_set, hl2]; exact hq
      have hj1 : P'.length + 1 < es.length := by omega
      have hj0 : P'.length < es.length := by omega
      have sp := hcmp x p hxm (hpm p (by rw [← hPS]; simp))
      rw [hj, e1]
      have b0 : decide ((0 : Int) < (P'.length : Int) + 1) = true := by simp <;> omega
      repeat' (first | refine l_run ?_ | refine l_nil ?_ | refine l_one ?_ | refine k_reg ?_ | refine l_ld ?_ | refine l_ldF ?_ | refine l_st ?_ | refine l_al (fun b => ?_) | refine l_bs (fun b => ?_) | refine k_condT ?_ | refine k_condF ?_ | refine k_brk ?_ | refine r_run ?_ | refine r_one ?_ | refine r_ld ?_ | refine r_ldF ?_ | refine r_ldN ?_ | refine r_al (fun b => ?_) | refine r_bs (fun b => ?_) | refine r_st ?_ | refine r_end ?_ | rw [b0] | rw [w1] | refine r_ixP (m := es.length) (P'.length + 1) hj1 ?_ | refine r_ixP (m := es.length) P'.length hj0 ?_ | refine r_ldE 7 (P'.length + 1) 0 g1 ?_ | refine r_ldE 7 P'.length 0 g0 ?_ | refine r_ldEN 7 (P'.length + 1) 0 g1 ?_ | refine r_ldEN 7 P'.length 0 g0 ?_ | refine r_stE 7 (P'.length + 1) 0 p g1 hq1 ?_ | refine r_callF sp (fun _ _ => ?_) | refine l_ixS (m := es.length) (P'.length + 1) hj1 ?_ | refine l_ixS (m := es.length) P'.length hj0 ?_ | refine l_stE 7 (P'.length + 1) 0 p g1 hq1 ?_ | refine l_stE 7 P'.length 0 x g2 hq2 ?_ | refine r_up ?_ | (refine l_split (fun hc => ?_) (fun hc => ?_) <;> (try simp at hc) <;> (try omega)) | (refine r_split (fun hc => ?_) (fun hc => ?_) <;> (try simp at hc) <;> (try omega)) | refine k_draw 4 [] [(0, 0), (1, 0), (2, 0), (3, 0), (4, 0), (5, 0), (6, 0), (7, 0), (8, 0), (9, 0), (10, 0), (11, 0), (12, 0), (13, 0), (14, 4), (15, 0), (16, 0)] [] ?_ | refine k_draw 6 [Ax _ _ _ _ _] [(0, 0), (1, 0), (2, 0), (3, 0), (4, 0), (5, 0), (6, 0), (7, 0), (8, 0), (10, 0), (11, 0), (12, 0), (9, 3), (13, 3), (14, 0), (15, 4), (16, 0)] [17] ?_ | (refine k_cond (fun hc => ?_) (fun hc => ?_) <;> (try simp at hc) <;> (try omega)))
      · rw [swap_set]
        exact k_next ⟨(P', p :: S), by simpa using hPS, by
          intro s hs
          rcases List.mem_cons.1 hs with rfl | hs
          · exact hc
          · exact hS s hs⟩ (by simp) ⟨rfl, rfl, rfl, rfl, rfl, rfl, trivial⟩
      · obtain ⟨h1, h2, h3⟩ := hout (by simpa using hc)
        rw [wrapi (z := (i : Int) + 1) (by omega) (by omega)]
        rw [e1] at h2 h3
        exact k_next ⟨(i + 1, P' ++ p :: x :: (S ++ D)), by simp, by simp; omega, h2, by rw [h3]; exact h1⟩ (by show es.length - (i + 1) < es.length - i; omega) ⟨rfl, rfl, rfl, rfl, rfl, trivial⟩
  · repeat' (first | refine l_run ?_ | refine l_nil ?_ | refine l_one ?_ | refine k_reg ?_ | refine l_ld ?_ | refine l_ldF ?_ | refine l_st ?_ | refine l_al (fun b => ?_) | refine l_bs (fun b => ?_) | refine k_condT ?_ | refine k_condF ?_ | refine k_brk ?_ | refine r_run ?_ | refine r_one ?_ | refine r_ld ?_ | refine r_ldF ?_ | refine r_ldN ?_ | refine r_al (fun b => ?_) | refine r_bs (fun b => ?_) | refine r_st ?_ | refine r_end ?_ | (refine l_split (fun hc => ?_) (fun hc => ?_) <;> (try simp at hc) <;> (try omega)) | (refine r_split (fun hc => ?_) (fun hc => ?_) <;> (try simp at hc) <;> (try omega)) | refine k_draw 4 [] [(0, 0), (1, 0), (2, 0), (3, 0), (4, 0), (5, 0), (6, 0), (7, 0), (8, 0), (9, 0), (10, 0), (11, 0), (12, 0), (13, 0), (14, 4), (15, 0), (16, 0)] [] ?_ | refine k_draw 6 [] [(0, 0), (1, 0), (2, 0), (3, 0), (4, 0), (5, 0), (6, 0), (7, 0), (8, 0), (9, 0), (10, 0), (11, 0), (12, 0), (13, 0), (14, 0), (15, 4), (16, 0)] [17] ?_ | (refine k_cond (fun hc => ?_) (fun hc => ?_) <;> (try simp at hc) <;> (try omega)))
    refine k_end ys rfl ⟨hi3, ?_⟩
    rw [List.take_of_length_le (by omega)] at hi4
    exact hi4

theorem pdqE_ok (b cap : Nat) (es : List En) (q : List Value × (Nat × Nat)) (lim : Int) (fv : FuncId) (Fc : Pf) (c : En → En → Int) (hn : es.length ≤ 12) (hq : AxOK (es.length * 7) q)
    (ha : ∀ a b, c a b < 0 → ¬ c b a < 0) (ht : ∀ a b d, ¬ c b a < 0 → ¬ c d b < 0 → ¬ c d a < 0) (hcmp : ∀ x y, x ∈ es → y ∈ es → Enters fv ∧ Spec Tryz.prog fv #[x.w, y.w] [Fc] [] (RetV (.int .i64 (c x y)))) :
    Enters 185 ∧ Spec Tryz.prog 185 #[.slice (some ⟨b, 0, none⟩) es.length cap, .int .i64 0, .int .i64 (es.length : Int), .int .i64 lim, .func (.func fv) #[] #[]] [Fc] [Ax 78 enf b es q]
      ⟨List En, fun _ => .tuple #[], fun l => l.Perm es ∧ Srd c l, fun _ => [], fun l => [Ax 78 enf b l q]⟩ := by
  have s1 := insE_ok b cap es q fv Fc c (by omega) hq ha ht hcmp
  have w1 : IntKind.i64.wrap ((es.length : Int) - 0) = (es.length : Int) := by rw [wrapi (by omega) (by omega)]; omega
  refine ⟨enters_of Tryz.func185 (by kernel_rfl) rfl, spec_of (vs := [_, _, _, _, _]) Tryz.func185 rfl Tryz.ntmps185 rfl fun G w hp => ?_⟩
  repeat' (first | refine l_run ?_ | refine l_nil ?_ | refine l_one ?_ | refine k_reg ?_ | refine l_ld ?_ | refine l_ldF ?_ | refine l_st ?_ | refine l_al (fun b => ?_) | refine l_bs (fun b => ?_) | refine k_condT ?_ | refine k_condF ?_ | refine k_brk ?_ | refine l_split (fun hc => ?_) (fun hc => ?_) | refine k_cond (fun hc => ?_) (fun hc => ?_))
  refine k_lp (X := Unit) (fun _ => [(0, .slice (some ⟨b, 0, none⟩) es.length cap), (1, .int .i64 0), (2, .int .i64 (es.length : Int)), (3, .int .i64 lim), (4, .func (.func fv) #[] #[])]) (fun _ => [Fc]) (fun _ => [Ax 78 enf b es q]) (fun _ => 0) () ⟨rfl, rfl, rfl, rfl, rfl, trivial⟩ ?_
  rintro ⟨⟩
  repeat' (first | refine l_run ?_ | refine l_nil ?_ | refine l_one ?_ | refine k_reg ?_ | refine l_ld ?_ | refine l_ldF ?_ | refine l_st ?_ | refine l_al (fun b => ?_) | refine l_bs (fun b => ?_) | refine k_condT ?_ | refine k_condF ?_ | refine k_brk ?_ | refine l_call (s1) (fun _ _ => ?_) | refine l_call0 (s1) (fun _ _ => ?_) | rw [w1] | (refine l_split (fun hc => ?_) (fun hc => ?_) <;> (try simp at hc) <;> (try omega)) | (refine k_cond (fun hc => ?_) (fun hc => ?_) <;> (try simp at hc) <;> (try omega)))
  rename_i l hl
  exact k_rt (w_lq (w_ret l rfl hl))

theorem insE0_ok (o : Option Addr) (cap : Nat) (fv : FuncId) :
    Enters 196 ∧ Spec Tryz.prog 196 #[.slice o 0 cap, .int .i64 0, .int .i64 0, .func (.func fv) #[] #[]] [] [] ⟨Unit, fun _ => .tuple #[], fun _ => True, fun _ => [], fun _ => []⟩ := by
  refine ⟨enters_of Tryz.func196 (by kernel_rfl) rfl, spec_of (vs := [_, _, _, _]) Tryz.func196 rfl Tryz.ntmps196 rfl fun G w hp => ?_⟩
  repeat' (first | refine l_run ?_ | refine l_nil ?_ | refine l_one ?_ | refine k_reg ?_ | refine l_ld ?_ | refine l_ldF ?_ | refine l_st ?_ | refine l_al (fun b => ?_) | refine l_bs (fun b => ?_) | refine k_condT ?_ | refine k_condF ?_ | refine k_brk ?_ | refine r_run ?_ | refine r_one ?_ | refine r_ld ?_ | refine r_ldF ?_ | refine r_ldN ?_ | refine r_al (fun b => ?_) | refine r_bs (fun b => ?_) | refine r_st ?_ | refine r_end ?_ | refine l_split (fun hc => ?_) (fun hc => ?_) | refine r_split (fun hc => ?_) (fun hc => ?_) | refine k_draw 4 [] [(0, 0), (1, 0), (2, 0), (3, 0), (4, 0), (5, 0), (6, 0), (7, 0), (8, 0), (9, 0), (10, 0), (11, 0), (12, 0), (13, 0), (14, 4), (15, 0), (16, 0)] [] ?_ | refine k_draw 6 [] [(0, 0), (1, 0), (2, 0), (3, 0), (4, 0), (5, 0), (6, 0), (7, 0), (8, 0), (9, 0), (10, 0), (11, 0), (12, 0), (13, 0), (14, 0), (15, 4), (16, 0)] [17] ?_ | refine k_cond (fun hc => ?_) (fun hc => ?_))
  refine k_lp (X := Unit) (fun _ => [(2, .int .i64 0), (8, .int .i64 1)]) (fun _ => []) (fun _ => []) (fun _ => 0) () ⟨rfl, rfl, trivial⟩ ?_
  rintro ⟨⟩
  repeat' (first | refine l_run ?_ | refine l_nil ?_ | refine l_one ?_ | refine k_reg ?_ | refine l_ld ?_ | refine l_ldF ?_ | refine l_st ?_ | refine l_al (fun b => ?_) | refine l_bs (fun b => ?_) | refine k_condT ?_ | refine k_condF ?_ | refine k_brk ?_ | (refine l_split (fun hc => ?_) (fun hc => ?_) <;> (try simp at hc) <;> (try omega)) | (refine k_cond (fun hc => ?_) (fun hc => ?_) <;> (try simp at hc) <;> (try omega)))
  exact k_end () rfl trivial
theorem pdqE0_ok (o : Option Addr) (cap : Nat) (lim : Int) (fv : FuncId) :
    Enters 185 ∧ Spec Tryz.prog 185 #[.slice o 0 cap, .int .i64 0, .int .i64 0, .int .i64 lim, .func (.func fv) #[] #[]] [] [] ⟨Unit, fun _ => .tuple #[], fun _ => True, fun _ => [], fun _ => []⟩ := by
  have s1 := insE0_ok o cap fv
  refine ⟨enters_of Tryz.func185 (by kernel_rfl) rfl, spec_of (vs := [_, _, _, _, _]) Tryz.func185 rfl Tryz.ntmps185 rfl fun G w hp => ?_⟩
  repeat' (first | refine l_run ?_ | refine l_nil ?_ | refine l_one ?_ | refine k_reg ?_ | refine l_ld ?_ | refine l_ldF ?_ | refine l_st ?_ | refine l_al (fun b => ?_) | refine l_bs (fun b => ?_) | refine k_condT ?_ | refine k_condF ?_ | refine k_brk ?_ | refine l_split (fun hc => ?_) (fun hc => ?_) | refine k_cond (fun hc => ?_) (fun hc => ?_))
  refine k_lp (X := Unit) (fun _ => [(0, .slice o 0 cap), (1, .int .i64 0), (2, .int .i64 0), (3, .int .i64 lim), (4, .func (.func fv) #[] #[])]) (fun _ => []) (fun _ => []) (fun _ => 0) () ⟨rfl, rfl, rfl, rfl, rfl, trivial⟩ ?_
  rintro ⟨⟩
  repeat' (first | refine l_run ?_ | refine l_nil ?_ | refine l_one ?_ | refine k_reg ?_ | refine l_ld ?_ | refine l_ldF ?_ | refine l_st ?_ | refine l_al (fun b => ?_) | refine l_bs (fun b => ?_) | refine k_condT ?_ | refine k_condF ?_ | refine k_brk ?_ | refine l_call (s1) (fun _ _ => ?_) | refine l_call0 (s1) (fun _ _ => ?_) | (refine l_split (fun hc => ?_) (fun hc => ?_) <;> (try simp at hc) <;> (try omega)) | (refine k_cond (fun hc => ?_) (fun hc => ?_) <;> (try simp at hc) <;> (try omega)))
  exact k_rt (w_lq (w_ret () rfl trivial))

theorem sortE_ok (o : Option Addr) (cap : Nat) (es : List En) (fv : FuncId) (Fc : Pf) (c : En → En → Int) (hn : es.length ≤ 12)
    (ha : ∀ a b, c a b < 0 → ¬ c b a < 0) (ht : ∀ a b d, ¬ c b a < 0 → ¬ c d b < 0 → ¬ c d a < 0) (hcmp : ∀ x y, x ∈ es → y ∈ es → Enters fv ∧ Spec Tryz.prog fv #[x.w, y.w] [Fc] [] (RetV (.int .i64 (c x y)))) :
    Enters 125 ∧ Spec Tryz.prog 125 #[.slice o es.length cap, .func (.func fv) #[] #[]] [Fc] [Row 78 7 o es.length cap (es.flatMap enf)]
      ⟨List En, fun _ => .tuple #[], fun l => l.Perm es ∧ Srd c l, fun _ => [], fun l => [Row 78 7 o es.length cap (l.flatMap enf)]⟩ := by
  have hu : IntKind.u64.wrap ((es.length : Nat) : Int) = (es.length : Int) := wrap64 (by omega)
  have s2 := bitsLen_ok es.length (by omega)
  by_cases h0 : es = []
  · subst h0
    refine ⟨enters_of Tryz.func125 (by kernel_rfl) rfl, spec_of (vs := [_, _]) Tryz.func125 rfl Tryz.ntmps125 rfl fun G w hp => ?_⟩
    have s3 := fun lim => pdqE0_ok o cap lim fv
    repeat' (first | refine l_run ?_ | refine l_nil ?_ | refine l_one ?_ | refine k_reg ?_ | refine l_ld ?_ | refine l_ldF ?_ | refine l_st ?_ | refine l_al (fun b => ?_) | refine l_bs (fun b => ?_) | refine k_condT ?_ | refine k_condF ?_ | refine k_brk ?_ | refine l_call (s2) (fun _ _ => ?_) | refine l_call0 (s2) (fun _ _ => ?_) | refine l_call (s3 _) (fun _ _ => ?_) | refine l_call0 (s3 _) (fun _ _ => ?_) | rw [hu] | (refine l_split (fun hc => ?_) (fun hc => ?_) <;> (try simp at hc)) | (refine k_cond (fun hc => ?_) (fun hc => ?_) <;> (try simp at hc)))
    exact k_end [] rfl ⟨List.Perm.refl _, List.Pairwise.nil⟩
  · have hlen : 0 < es.length := List.length_pos_iff.2 h0
    refine ⟨enters_of Tryz.func125 (by kernel_rfl) rfl, spec_of (vs := [_, _]) Tryz.func125 rfl Tryz.ntmps125 rfl fun G w hp => ?_⟩
    refine k_row hlen fun p hp => ?_
    have hq : AxOK (es.length * 7) p.2 := by
      rcases hp.f with h | h
      · exact .inl h
      · exact .inr (by rw [List.length_append, hp.l] at h; exact h)
    have ho := hp.o
    subst ho
    have s3 := fun lim => pdqE_ok p.1 cap es p.2 lim fv Fc c hn hq ha ht hcmp
    repeat' (first | refine l_run ?_ | refine l_nil ?_ | refine l_one ?_ | refine k_reg ?_ | refine l_ld ?_ | refine l_ldF ?_ | refine l_st ?_ | refine l_al (fun b => ?_) | refine l_bs (fun b => ?_) | refine k_condT ?_ | refine k_condF ?_ | refine k_brk ?_ | refine l_call (s2) (fun _ _ => ?_) | refine l_call0 (s2) (fun _ _ => ?_) | refine l_call (s3 _) (fun _ _ => ?_) | refine l_call0 (s3 _) (fun _ _ => ?_) | rw [hu] | (refine l_split (fun hc => ?_) (fun hc => ?_) <;> (try simp at hc)) | (refine k_cond (fun hc => ?_) (fun hc => ?_) <;> (try simp at hc)))
    rename_i l hl
    have hll := hl.1.length_eq
    refine k_shut (r := Row 78 7 (some ⟨p.1, 0, none⟩) es.length cap (l.flatMap enf)) (Lx := [Ax 78 enf p.1 l p.2]) (fun h hh => row_shut (q := p) ⟨rfl, by rw [flat_len (f := enf) (sz := 7) (fun _ => rfl), hll], by rw [← hp.c, List.length_append, List.length_append, flat_len (f := enf) (sz := 7) (fun _ => rfl), flat_len (f := enf) (sz := 7) (fun _ => rfl), hll], hp.m, by rw [List.length_append, flat_len (f := enf) (sz := 7) (fun _ => rfl), hll]; rcases hp.f with h | h; exact .inl h; exact .inr (by rw [List.length_append, hp.l] at h; exact h)⟩ h hh) ?_
    exact k_end l rfl hl
end Go.Proofs.YtijaglinajfplaaGreatDoor

set_option maxRecDepth 10000
namespace Go.Proofs.YtijaglinajfplaaGreatDoor
open Go.RowKit

theorem waitCmp_ok (a c : En) : Enters 135 ∧ Spec Tryz.prog 135 #[a.w, c.w] [] [] (RetV (.int .i64 (cmpT a c))) := by
  have n1 := cmp_int a.tk c.tk
  refine ⟨enters_of Tryz.func135 (by kernel_rfl) rfl, spec_of (vs := [_, _]) Tryz.func135 rfl Tryz.ntmps135 rfl fun G w hp => ?_⟩
  repeat' (first | refine l_run ?_ | refine l_nil ?_ | refine l_one ?_ | refine k_reg ?_ | refine l_ld ?_ | refine l_ldF ?_ | refine l_st ?_ | refine l_al (fun b => ?_) | refine l_bs (fun b => ?_) | refine k_condT ?_ | refine k_condF ?_ | refine k_brk ?_ | refine l_call (n1) (fun _ _ => ?_) | refine l_call0 (n1) (fun _ _ => ?_) | (refine l_split (fun hc => ?_) (fun hc => ?_) <;> (try simp at hc)) | (refine k_cond (fun hc => ?_) (fun hc => ?_) <;> (try simp at hc)))
  exact k_ret () rfl trivial

theorem stableE_ok (b cap : Nat) (es : List En) (q : List Value × (Nat × Nat)) (fv : FuncId) (Fc : Pf) (c : En → En → Int) (hn : es.length ≤ 19) (hq : AxOK (es.length * 7) q)
    (ha : ∀ a b, c a b < 0 → ¬ c b a < 0) (ht : ∀ a b d, ¬ c b a < 0 → ¬ c d b < 0 → ¬ c d a < 0) (hcmp : ∀ x y, x ∈ es → y ∈ es → Enters fv ∧ Spec Tryz.prog fv #[x.w, y.w] [Fc] [] (RetV (.int .i64 (c x y)))) :
    Enters 134 ∧ Spec Tryz.prog 134 #[.slice (some ⟨b, 0, none⟩) es.length cap, .int .i64 (es.length : Int), .func (.func fv) #[] #[]] [Fc] [Ax 78 enf b es q]
      ⟨List En, fun _ => .tuple #[], fun l => l.Perm es ∧ Srd c l, fun _ => [], fun l => [Ax 78 enf b l q]⟩ := by
  have s1 := insE_ok b cap es q fv Fc c (by omega) hq ha ht hcmp
  refine ⟨enters_of Tryz.func134 (by kernel_rfl) rfl, spec_of (vs := [_, _, _]) Tryz.func134 rfl Tryz.ntmps134 rfl fun G w hp => ?_⟩
  repeat' (first | refine l_run ?_ | refine l_nil ?_ | refine l_one ?_ | refine k_reg ?_ | refine l_ld ?_ | refine l_ldF ?_ | refine l_st ?_ | refine l_al (fun b => ?_) | refine l_bs (fun b => ?_) | refine k_condT ?_ | refine k_condF ?_ | refine k_brk ?_ | refine l_split (fun hc => ?_) (fun hc => ?_) | refine k_cond (fun hc => ?_) (fun hc => ?_))
  refine k_lp (X := Unit) (fun _ => [(0, .slice (some ⟨b, 0, none⟩) es.length cap), (1, .int .i64 (es.length : Int)), (2, .func (.func fv) #[] #[]), (6, .int .i64 20), (7, .int .i64 0), (8, .int .i64 20)]) (fun _ => [Fc]) (fun _ => [Ax 78 enf b es q]) (fun _ => 0) () ⟨rfl, rfl, rfl, rfl, rfl, rfl, trivial⟩ ?_
  rintro ⟨⟩
  repeat' (first | refine l_run ?_ | refine l_nil ?_ | refine l_one ?_ | refine k_reg ?_ | refine l_ld ?_ | refine l_ldF ?_ | refine l_st ?_ | refine l_al (fun b => ?_) | refine l_bs (fun b => ?_) | refine k_condT ?_ | refine k_condF ?_ | refine k_brk ?_ | refine l_call (s1) (fun _ _ => ?_) | refine l_call0 (s1) (fun _ _ => ?_) | (refine l_split (fun hc => ?_) (fun hc => ?_) <;> (try simp at hc) <;> (try omega)) | (refine k_cond (fun hc => ?_) (fun hc => ?_) <;> (try simp at hc) <;> (try omega)))
  rename_i l hl
  refine k_lp (X := Unit) (fun _ => [(1, .int .i64 (es.length : Int)), (6, .int .i64 20)]) (fun _ => []) (fun _ => [Ax 78 enf b l q]) (fun _ => 0) () ⟨rfl, rfl, trivial⟩ ?_
  rintro ⟨⟩
  repeat' (first | refine l_run ?_ | refine l_nil ?_ | refine l_one ?_ | refine k_reg ?_ | refine l_ld ?_ | refine l_ldF ?_ | refine l_st ?_ | refine l_al (fun b => ?_) | refine l_bs (fun b => ?_) | refine k_condT ?_ | refine k_condF ?_ | refine k_brk ?_ | (refine l_split (fun hc => ?_) (fun hc => ?_) <;> (try simp at hc) <;> (try omega)) | (refine k_cond (fun hc => ?_) (fun hc => ?_) <;> (try simp at hc) <;> (try omega)))
  exact k_end l rfl hl

theorem insE0b_ok (o : Option Addr) (cap : Nat) (fv : FuncId) : Enters 134 ∧ Spec Tryz.prog 134 #[.slice o 0 cap, .int .i64 0, .func (.func fv) #[] #[]] [] [] ⟨Unit, fun _ => .tuple #[], fun _ => True, fun _ => [], fun _ => []⟩ := by
  have s1 := insE0_ok o cap fv
  refine ⟨enters_of Tryz.func134 (by kernel_rfl) rfl, spec_of (vs := [_, _, _]) Tryz.func134 rfl Tryz.ntmps134 rfl fun G w hp => ?_⟩
  repeat' (first | refine l_run ?_ | refine l_nil ?_ | refine l_one ?_ | refine k_reg ?_ | refine l_ld ?_ | refine l_ldF ?_ | refine l_st ?_ | refine l_al (fun b => ?_) | refine l_bs (fun b => ?_) | refine k_condT ?_ | refine k_condF ?_ | refine k_brk ?_ | refine l_split (fun hc => ?_) (fun hc => ?_) | refine k_cond (fun hc => ?_) (fun hc => ?_))
  refine k_lp (X := Unit) (fun _ => [(0, .slice o 0 cap), (1, .int .i64 0), (2, .func (.func fv) #[] #[]), (6, .int .i64 20), (7, .int .i64 0), (8, .int .i64 20)]) (fun _ => []) (fun _ => []) (fun _ => 0) () ⟨rfl, rfl, rfl, rfl, rfl, rfl, trivial⟩ ?_
  rintro ⟨⟩
  repeat' (first | refine l_run ?_ | refine l_nil ?_ | refine l_one ?_ | refine k_reg ?_ | refine l_ld ?_ | refine l_ldF ?_ | refine l_st ?_ | refine l_al (fun b => ?_) | refine l_bs (fun b => ?_) | refine k_condT ?_ | refine k_condF ?_ | refine k_brk ?_ | refine l_call (s1) (fun _ _ => ?_) | refine l_call0 (s1) (fun _ _ => ?_) | (refine l_split (fun hc => ?_) (fun hc => ?_) <;> (try simp at hc) <;> (try omega)) | (refine k_cond (fun hc => ?_) (fun hc => ?_) <;> (try simp at hc) <;> (try omega)))
  refine k_lp (X := Unit) (fun _ => [(1, .int .i64 0), (6, .int .i64 20)]) (fun _ => []) (fun _ => []) (fun _ => 0) () ⟨rfl, rfl, trivial⟩ ?_
  rintro ⟨⟩
  repeat' (first | refine l_run ?_ | refine l_nil ?_ | refine l_one ?_ | refine k_reg ?_ | refine l_ld ?_ | refine l_ldF ?_ | refine l_st ?_ | refine l_al (fun b => ?_) | refine l_bs (fun b => ?_) | refine k_condT ?_ | refine k_condF ?_ | refine k_brk ?_ | (refine l_split (fun hc => ?_) (fun hc => ?_) <;> (try simp at hc) <;> (try omega)) | (refine k_cond (fun hc => ?_) (fun hc => ?_) <;> (try simp at hc) <;> (try omega)))
  exact k_end () rfl trivial

theorem sortStableE_ok (o : Option Addr) (cap : Nat) (es : List En) (fv : FuncId) (Fc : Pf) (c : En → En → Int) (hn : es.length ≤ 19)
    (ha : ∀ a b, c a b < 0 → ¬ c b a < 0) (ht : ∀ a b d, ¬ c b a < 0 → ¬ c d b < 0 → ¬ c d a < 0) (hcmp : ∀ x y, x ∈ es → y ∈ es → Enters fv ∧ Spec Tryz.prog fv #[x.w, y.w] [Fc] [] (RetV (.int .i64 (c x y)))) :
    Enters 61 ∧ Spec Tryz.prog 61 #[.slice o es.length cap, .func (.func fv) #[] #[]] [Fc] [Row 78 7 o es.length cap (es.flatMap enf)]
      ⟨List En, fun _ => .tuple #[], fun l => l.Perm es ∧ Srd c l, fun _ => [], fun l => [Row 78 7 o es.length cap (l.flatMap enf)]⟩ := by
  by_cases h0 : es = []
  · subst h0
    refine ⟨enters_of Tryz.func61 (by kernel_rfl) rfl, spec_of (vs := [_, _]) Tryz.func61 rfl Tryz.ntmps61 rfl fun G w hp => ?_⟩
    have s3 := insE0b_ok o cap fv
    repeat' (first | refine l_run ?_ | refine l_nil ?_ | refine l_one ?_ | refine k_reg ?_ | refine l_ld ?_ | refine l_ldF ?_ | refine l_st ?_ | refine l_al (fun b => ?_) | refine l_bs (fun b => ?_) | refine k_condT ?_ | refine k_condF ?_ | refine k_brk ?_ | refine l_call (s3) (fun _ _ => ?_) | refine l_call0 (s3) (fun _ _ => ?_) | (refine l_split (fun hc => ?_) (fun hc => ?_) <;> (try simp at hc)) | (refine k_cond (fun hc => ?_) (fun hc => ?_) <;> (try simp at hc)))
    exact k_end [] rfl ⟨List.Perm.refl _, List.Pairwise.nil⟩
  · have hlen : 0 < es.length := List.length_pos_iff.2 h0
    refine ⟨enters_of Tryz.func61 (by kernel_rfl) rfl, spec_of (vs := [_, _]) Tryz.func61 rfl Tryz.ntmps61 rfl fun G w hp => ?_⟩
    refine k_row hlen fun p hp => ?_
    have hq : AxOK (es.length * 7) p.2 := by
      rcases hp.f with h | h
      · exact .inl h
      · exact .inr (by rw [List.length_append, hp.l] at h; exact h)
    have ho := hp.o
    subst ho
    have s3 := stableE_ok p.1 cap es p.2 fv Fc c hn hq ha ht hcmp
    repeat' (first | refine l_run ?_ | refine l_nil ?_ | refine l_one ?_ | refine k_reg ?_ | refine l_ld ?_ | refine l_ldF ?_ | refine l_st ?_ | refine l_al (fun b => ?_) | refine l_bs (fun b => ?_) | refine k_condT ?_ | refine k_condF ?_ | refine k_brk ?_ | refine l_call (s3) (fun _ _ => ?_) | refine l_call0 (s3) (fun _ _ => ?_) | (refine l_split (fun hc => ?_) (fun hc => ?_) <;> (try simp at hc)) | (refine k_cond (fun hc => ?_) (fun hc => ?_) <;> (try simp at hc)))
    rename_i l hl
    have hll := hl.1.length_eq
    refine k_shut (r := Row 78 7 (some ⟨p.1, 0, none⟩) es.length cap (l.flatMap enf)) (Lx := [Ax 78 enf p.1 l p.2]) (fun h hh => row_shut (q := p) ⟨rfl, by rw [flat_len (f := enf) (sz := 7) (fun _ => rfl), hll], by rw [← hp.c, List.length_append, List.length_append, flat_len (f := enf) (sz := 7) (fun _ => rfl), flat_len (f := enf) (sz := 7) (fun _ => rfl), hll], hp.m, by rw [List.length_append, flat_len (f := enf) (sz := 7) (fun _ => rfl), hll]; rcases hp.f with h | h; exact .inl h; exact .inr (by rw [List.length_append, hp.l] at h; exact h)⟩ h hh) ?_
    exact k_end l rfl hl
end Go.Proofs.YtijaglinajfplaaGreatDoor

set_option maxRecDepth 10000
namespace Go.Proofs.YtijaglinajfplaaGreatDoor
open Go.RowKit

section
variable {n : Nat} {C : Cx} {Q : Exit → Act → World → Prop} {E E' : List (Nat × Value)} {F F' F1 Fs F0 : List Pf} {R R' R0 Rs N N' A : List HP} {k k' : List Fr} {ops l : List Oper}
  {i d : Nat} {t ty0 : TypeId} {x y z : Operand} {pos : String} {aft : Array Edge} {gd : Option (Nat × Bool)} {α β : Type} [DecidableEq α] {K : α → Value} {V : β → Value}
theorem l_mgetN {kt et r : Nat} {rs te : TRow} {m : List (α × β)} {zv : Value} (hk : KeyOK kt K) (a : α) (o : Option β) (ho : mget a m = o) (nx : Wl n C ops.toArray k Q l ((d, (o.map V).getD zv) :: E) F R) (hw : wantL ops E ⟨some d, .lookup t x y false, ty0, pos, aft, gd⟩ = some true := by rfl) (hn : Nat.blt d n = true := by rfl)
    (hx : ev E x = some (.map (some r)) := by rfl) (hy : ev E y = some (K a) := by rfl) (hts : lookT tab t = some rs := by rfl) (hrs : rs.k = .map kt et := by rfl) (hte : lookT tab et = some te := by rfl) (hzv : zval te = some zv := by rfl)
    (hs : Sel (Mp K V r m) R R0 := by (repeat (first | exact Sel.here | apply Sel.there)); first | done | fail) : Wl n C ops.toArray k Q (⟨some d, .lookup t x y false, ty0, pos, aft, gd⟩ :: l) E F R := by
  rw [← ho] at nx
  exact l_mget hk a nx hw hn hx hy hts hrs hte hzv hs
end

def tv (_ : Unit) : Value := .bool true
/-- The identities of what has left. -/
def idm (ls : List Lf) : List (Idn × Unit) := ls.foldl (fun m x => mset x.e.id () m) []
theorem idm_snoc (ls : List Lf) (x : Lf) : idm (ls ++ [x]) = mset x.e.id () (idm ls) := by simp [idm]
/-- What waits. -/
def wtL (m : List (Idn × Unit)) (l : List En) : List En := l.filter fun e => (mget e.id m).isNone
theorem wtL_snoc (m : List (Idn × Unit)) (l : List En) (e : En) : wtL m (l ++ [e]) = if (mget e.id m).isNone then wtL m l ++ [e] else wtL m l := by
  unfold wtL
  rw [List.filter_append]
  by_cases h : (mget e.id m).isNone
  · simp [h]
  · simp [h]
def wtE (es : Al) (ls : List Lf) : List En := wtL (idm ls) (allE es)

structure WX (m : List (Idn × Unit)) (all : List En) where
  i : Nat
  o : Option Addr
  cap : Nat
  hi : i ≤ all.length

def WtPost (b : Nat) (es : Al) (ls : List Lf) : Post := ⟨List En × Option Addr × Nat, fun q => .slice q.2.1 q.1.length q.2.2, fun q => q.1.Perm (wtE es ls) ∧ Srd cmpT q.1, fun _ => [], fun q => [Lg b ls, Row 78 7 q.2.1 q.1.length q.2.2 (q.1.flatMap enf)]⟩

set_option maxHeartbeats 2000000 in
theorem waiting_ok (b : Nat) (ps : Option Addr) (es : Al) (ls : List Lf) (hl : (allE es).length ≤ 19) (hls : ls.length ≤ 1000000) :
    Enters 63 ∧ Spec Tryz.prog 63 #[.pointer (some ⟨b, 0, none⟩), .pointer ps] [St ps es, Usg] [Lg b ls] (WtPost b es ls) := by
  have nA := outAll_ok ps es
  generalize hall : allE es = all at *
  have hwt : wtE es ls = wtL (idm ls) all := by rw [wtE, hall]
  refine ⟨enters_of Tryz.func63 (by kernel_rfl) rfl, spec_of (vs := [_, _]) Tryz.func63 rfl Tryz.ntmps63 rfl fun G w hp => ?_⟩
  refine k_lg fun q => ?_
  obtain ⟨o, cap⟩ := q
  repeat' (first | refine l_run ?_ | refine l_nil ?_ | refine l_one ?_ | refine k_reg ?_ | refine l_ld ?_ | refine l_ldF ?_ | refine l_st ?_ | refine l_al (fun b => ?_) | refine l_bs (fun b => ?_) | refine k_condT ?_ | refine k_condF ?_ | refine k_brk ?_ | refine l_mkm (K := Idn.v) (kt := 197) (et := 4) key_id tv (fun r => ?_) | (refine l_split (fun hc => ?_) (fun hc => ?_) <;> (try simp at hc)) | (refine k_cond (fun hc => ?_) (fun hc => ?_) <;> (try simp at hc)))
  refine k_lpx (X := { i : Nat // i ≤ ls.length }) (Y := Unit) (fun i => [(0, .pointer (some ⟨b, 0, none⟩)), (1, .pointer ps), (5, .map (some r)), (17, .slice o ls.length cap), (18, .int .i64 (ls.length : Int)), (19, .int .i64 (i.1 : Int))]) (fun _ => [St ps es, Usg])
    (fun i => [Mp Idn.v tv r (idm (ls.take i.1)), Pt b (.cells #[.slice o ls.length cap] 119), Row 80 9 o ls.length cap (ls.flatMap lff)]) (fun i => ls.length - i.1)
    (fun _ => [(1, .pointer ps), (5, .map (some r))]) (fun _ => [St ps es, Usg]) (fun _ => [Mp Idn.v tv r (idm ls), Pt b (.cells #[.slice o ls.length cap] 119), Row 80 9 o ls.length cap (ls.flatMap lff)]) ⟨0, by omega⟩ ⟨rfl, rfl, rfl, rfl, rfl, rfl, trivial⟩ ?_ ?_
  · rintro ⟨⟩
    repeat' (first | refine l_run ?_ | refine l_nil ?_ | refine l_one ?_ | refine k_reg ?_ | refine l_ld ?_ | refine l_ldF ?_ | refine l_st ?_ | refine l_al (fun b => ?_) | refine l_bs (fun b => ?_) | refine k_condT ?_ | refine k_condF ?_ | refine k_brk ?_ | refine l_call (nA) (fun _ _ => ?_) | refine l_call0 (nA) (fun _ _ => ?_) | (refine l_split (fun hc => ?_) (fun hc => ?_) <;> (try simp at hc)) | (refine k_cond (fun hc => ?_) (fun hc => ?_) <;> (try simp at hc)))
    rename_i qa _
    obtain ⟨ao, ac⟩ := qa
    refine k_shut (r := Row 78 7 none 0 0 []) (Lx := []) (fun h _ => row_nil _ _ h) ?_
    refine k_lpx (X := { t : Nat × Option Addr × Nat // t.1 ≤ all.length }) (Y := Option Addr × Nat)
      (fun t => [(5, .map (some r)), (8, .slice t.1.2.1 (wtL (idm ls) (all.take t.1.1)).length t.1.2.2), (29, .slice ao all.length ac), (30, .int .i64 (all.length : Int)), (31, .int .i64 (t.1.1 : Int))]) (fun _ => [Sl 78 enf ao ac all, Usg])
      (fun t => [Mp Idn.v tv r (idm ls), Pt b (.cells #[.slice o ls.length cap] 119), Row 80 9 o ls.length cap (ls.flatMap lff), Row 78 7 t.1.2.1 (wtL (idm ls) (all.take t.1.1)).length t.1.2.2 ((wtL (idm ls) (all.take t.1.1)).flatMap enf)]) (fun t => all.length - t.1.1)
      (fun q => [(8, .slice q.1 (wtL (idm ls) all).length q.2)]) (fun _ => [Usg]) (fun q => [Pt b (.cells #[.slice o ls.length cap] 119), Row 80 9 o ls.length cap (ls.flatMap lff), Row 78 7 q.1 (wtL (idm ls) all).length q.2 ((wtL (idm ls) all).flatMap enf)])
      ⟨(0, none, 0), by omega⟩ ⟨rfl, rfl, rfl, rfl, rfl, trivial⟩ ?_ ?_
    · rintro ⟨qo, qc⟩
      have hwl : (wtL (idm ls) all).length ≤ 19 := Nat.le_trans (List.length_filter_le ..) hl
      have n2 := sortStableE_ok qo qc (wtL (idm ls) all) 135 Usg cmpT hwl cmpT_a cmpT_t (fun x y _ _ => ⟨(waitCmp_ok x y).1, (waitCmp_ok x y).2.more⟩)
      repeat' (first | refine l_run ?_ | refine l_nil ?_ | refine l_one ?_ | refine k_reg ?_ | refine l_ld ?_ | refine l_ldF ?_ | refine l_st ?_ | refine l_al (fun b => ?_) | refine l_bs (fun b => ?_) | refine k_condT ?_ | refine k_condF ?_ | refine k_brk ?_ | refine l_call (n2) (fun _ _ => ?_) | refine l_call0 (n2) (fun _ _ => ?_) | (refine l_split (fun hc => ?_) (fun hc => ?_) <;> (try simp at hc)) | (refine k_cond (fun hc => ?_) (fun hc => ?_) <;> (try simp at hc)))
      rename_i l hl2
      have e3 : (wtL (idm ls) all).length = l.length := hl2.1.length_eq.symm
      refine k_rowc (T := 78) (sz := 7) (o := qo) (cap := qc) (m := (wtL (idm ls) all).length) _ _ e3 rfl ?_
      refine k_lg' (ls := ls) (o := o) (cap := cap) ?_ rfl rfl
      exact k_ret (post := WtPost b es ls) (l, qo, qc) (by show resV [Value.slice qo (wtL (idm ls) all).length qc] = _; rw [e3]; rfl) ⟨by rw [hwt]; exact hl2.1, hl2.2⟩
    · intro hx
      rintro ⟨⟨i, wo, wc⟩, hi⟩
      dsimp only at hi ⊢
      by_cases hlt : i < all.length
      · have hgt := List.getElem?_eq_getElem hlt
        obtain ⟨x, hxx⟩ : ∃ x, all[i] = x := ⟨_, rfl⟩
        rw [hxx] at hgt
        have n1 := identity_ok x
        have hwl : (wtL (idm ls) (all.take i)).length ≤ 19 := Nat.le_trans (List.length_filter_le ..) (by simp; omega)
        have et : all.take (i + 1) = all.take i ++ [x] := by rw [List.take_succ_eq_append_getElem hlt, hxx]
        cases hm : mget x.id (idm ls) with
        | none =>
          have e0 : wtL (idm ls) (all.take (i + 1)) = wtL (idm ls) (all.take i) ++ [x] := by rw [et, wtL_snoc, hm]; rfl
          repeat' (first | refine l_run ?_ | refine l_nil ?_ | refine l_one ?_ | refine k_reg ?_ | refine l_ld ?_ | refine l_ldF ?_ | refine l_st ?_ | refine l_al (fun b => ?_) | refine l_bs (fun b => ?_) | refine k_condT ?_ | refine k_condF ?_ | refine l_call (n1) (fun _ _ => ?_) | refine l_call0 (n1) (fun _ _ => ?_) | refine l_ixe i x hgt (fun b off => ?_) | refine l_ldC ?_ | refine l_mgetN (V := tv) key_id x.id none hm ?_ | refine l_app1 (fun o' cap' => ?_) | (refine l_split (fun hc => ?_) (fun hc => ?_) <;> (try simp at hc) <;> (try omega)) | (refine k_cond (fun hc => ?_) (fun hc => ?_) <;> (try simp at hc) <;> (try omega)))
          rw [wrapi (z := (i : Int) + 1) (by omega) (by omega)]
          have e1 : (wtL (idm ls) (all.take i)).length + 1 = (wtL (idm ls) (all.take (i + 1))).length := by rw [e0]; simp
          have e2 : (wtL (idm ls) (all.take i)).flatMap enf ++ enf x = (wtL (idm ls) (all.take (i + 1))).flatMap enf := by rw [e0]; simp
          refine k_rowc (T := 78) (sz := 7) (o := o') (cap := cap') (m := (wtL (idm ls) (all.take i)).length + 1) _ _ e1 e2 ?_
          exact k_next ⟨(i + 1, o', cap'), by simp; omega⟩ (by show all.length - (i + 1) < all.length - i; omega) ⟨rfl, (by show look _ _ = some (Value.slice o' (wtL (idm ls) (all.take (i + 1))).length cap'); rw [← e1]; rfl), rfl, rfl, rfl, trivial⟩
        | some u =>
          have e0 : wtL (idm ls) (all.take (i + 1)) = wtL (idm ls) (all.take i) := by rw [et, wtL_snoc, hm]; rfl
          repeat' (first | refine l_run ?_ | refine l_nil ?_ | refine l_one ?_ | refine k_reg ?_ | refine l_ld ?_ | refine l_ldF ?_ | refine l_st ?_ | refine l_al (fun b => ?_) | refine l_bs (fun b => ?_) | refine k_condT ?_ | refine k_condF ?_ | refine l_call (n1) (fun _ _ => ?_) | refine l_call0 (n1) (fun _ _ => ?_) | refine l_ixe i x hgt (fun b off => ?_) | refine l_ldC ?_ | refine l_mgetN (V := tv) key_id x.id (some u) hm ?_ | (refine l_split (fun hc => ?_) (fun hc => ?_) <;> (try simp at hc) <;> (try omega)) | (refine k_cond (fun hc => ?_) (fun hc => ?_) <;> (try simp at hc) <;> (try omega)))
          rw [wrapi (z := (i : Int) + 1) (by omega) (by omega)]
          rw [← e0]
          exact k_next ⟨(i + 1, wo, wc), by simp; omega⟩ (by show all.length - (i + 1) < all.length - i; omega) ⟨rfl, rfl, rfl, rfl, rfl, trivial⟩
      · obtain rfl : i = all.length := by omega
        rw [List.take_length]
        repeat' (first | refine l_run ?_ | refine l_nil ?_ | refine l_one ?_ | refine k_reg ?_ | refine l_ld ?_ | refine l_ldF ?_ | refine l_st ?_ | refine l_al (fun b => ?_) | refine l_bs (fun b => ?_) | refine k_condT ?_ | refine k_condF ?_ | (refine l_split (fun hc => ?_) (fun hc => ?_) <;> (try simp at hc) <;> (try omega)) | (refine k_cond (fun hc => ?_) (fun hc => ?_) <;> (try simp at hc) <;> (try omega)))
        exact k_out hx (wo, wc) ⟨rfl, trivial⟩
  · intro hx
    rintro ⟨i, hi⟩
    dsimp only at hi ⊢
    by_cases hlt : i < ls.length
    · have hgt := List.getElem?_eq_getElem hlt
      obtain ⟨x, hxx⟩ : ∃ x, ls[i] = x := ⟨_, rfl⟩
      rw [hxx] at hgt
      have n1 := identity_ok x.e
      refine k_row (m := ls.length) (by omega) fun p hp => ?_
      have ho := hp.o
      subst ho
      have hsp : Ax 80 lff p.1 ls p.2 = Pt p.1 (.cells (ls.flatMap lff ++ p.2.1).toArray 80 p.2.2) := rfl
      rw [← hsp]
      repeat' (first | refine l_run ?_ | refine l_nil ?_ | refine l_one ?_ | refine k_reg ?_ | refine l_ld ?_ | refine l_ldF ?_ | refine l_st ?_ | refine l_al (fun b => ?_) | refine l_bs (fun b => ?_) | refine k_condT ?_ | refine k_condF ?_ | refine l_call (n1) (fun _ _ => ?_) | refine l_call0 (n1) (fun _ _ => ?_) | refine l_ixS (m := ls.length) i hlt ?_ | refine l_ldE 9 i 0 hgt ?_ | refine l_mset (V := tv) key_id x.e.id () ?_ | (refine l_split (fun hc => ?_) (fun hc => ?_) <;> (try simp at hc) <;> (try omega)) | (refine k_cond (fun hc => ?_) (fun hc => ?_) <;> (try simp at hc) <;> (try omega)))
      rw [wrapi (z := (i : Int) + 1) (by omega) (by omega)]
      have e1 : mset x.e.id () (idm (ls.take i)) = idm (ls.take (i + 1)) := by rw [List.take_succ_eq_append_getElem hlt, hxx, idm_snoc]
      rw [e1]
      refine k_shut (r := Row 80 9 (some ⟨p.1, 0, none⟩) ls.length cap (ls.flatMap lff)) (Lx := [Ax 80 lff p.1 ls p.2]) (fun h hh => row_shut hp h hh) ?_
      exact k_next ⟨i + 1, by omega⟩ (by show ls.length - (i + 1) < ls.length - i; omega) ⟨rfl, rfl, rfl, rfl, rfl, rfl, trivial⟩
    · obtain rfl : i = ls.length := by omega
      rw [List.take_length]
      repeat' (first | refine l_run ?_ | refine l_nil ?_ | refine l_one ?_ | refine k_reg ?_ | refine l_ld ?_ | refine l_ldF ?_ | refine l_st ?_ | refine l_al (fun b => ?_) | refine l_bs (fun b => ?_) | refine k_condT ?_ | refine k_condF ?_ | (refine l_split (fun hc => ?_) (fun hc => ?_) <;> (try simp at hc) <;> (try omega)) | (refine k_cond (fun hc => ?_) (fun hc => ?_) <;> (try simp at hc) <;> (try omega)))
      exact k_out hx () ⟨rfl, rfl, trivial⟩
end Go.Proofs.YtijaglinajfplaaGreatDoor

set_option maxRecDepth 10000
namespace Go.Proofs.YtijaglinajfplaaGreatDoor
open Go.RowKit

def w31 : ByteArray := ⟨#[51, 46, 49]⟩
def kA : Ou := ⟨1, ⟨#[97, 64, 98]⟩, ⟨#[104, 101, 108, 108, 111]⟩, 0⟩
def kB : Ou := ⟨2, ⟨#[108, 112]⟩, ⟨#[]⟩, 0⟩
theorem w31_valid : lvalid w31.data.toList = true := by
  have h := (prts_step [51, 46, 49] 0 0 (by simp)).2.2.2
  rw [show ffirst (([51, 46, 49] : List UInt8).drop 0) 0 0 = (⟨3, 0, 0⟩, 1) from rfl] at h
  have h2 := (prts_step [51, 46, 49] 2 1 (by simp)).2.2.2
  rw [show ffirst (([51, 46, 49] : List UInt8).drop 2) 2 1 = (⟨1, 2, 0⟩, 3) from rfl] at h2
  simp at h h2
  simp [w31, lvalid, lparts, h, h2]
theorem kA_chk : ochk kA = 0 := by
  have h1 : isE kA.tg = false := by simp [kA, isE, toList_data]
  have h3 : (kA.tg.data.toList.any bad2) = false := by simp [kA, bad2]
  unfold ochk
  rw [if_neg (by simp [kA]), if_neg (by simp [h1]), if_neg (by show ¬ 64 < (ByteArray.mk #[97, 64, 98]).size; decide), if_neg (by simp [h3]), if_neg (by show ¬ 4096 < (ByteArray.mk #[104, 101, 108, 108, 111]).size; decide), if_neg (by simp [kA])]
theorem kB_chk : ochk kB = 0 := by
  have h1 : isE kB.tg = false := by simp [kB, isE, toList_data]
  have h3 : (kB.tg.data.toList.any bad2) = false := by simp [kB, bad2]
  unfold ochk
  rw [if_neg (by simp [kB]), if_neg (by simp [h1]), if_neg (by show ¬ 64 < (ByteArray.mk #[108, 112]).size; decide), if_neg (by simp [h3]), if_neg (by show ¬ 4096 < (ByteArray.mk #[]).size; decide), if_neg (by simp [kB])]

theorem cnm_chk {who : ByteArray} (h : lvalid who.data.toList = true) : nchk (cnm who) = 0 := by
  have h2 : isE ⟨#[]⟩ = true := by simp [isE]
  rw [nchk, if_pos (by simp [cnm])]
  show uchk ⟨_, true, false, false, false, 0⟩ (cnm who) = 0
  have h1 : lvalid (cnm who).owner.data.toList = true := h
  simp [uchk, h, h2, cnm]
theorem onm_chk {who : ByteArray} {n t : Int} (h : lvalid who.data.toList = true) (hn : 0 ≤ n ∧ n ≤ 1073741824) (ht : 0 ≤ t ∧ t ≤ 1073741824) : nchk (onm who n t) = 0 := by
  have h2 : isE (onm who n t).text = true := by simp [onm, isE]
  rw [nchk, if_pos (by simp [onm])]
  show uchk ⟨_, true, true, true, false, 1073741824⟩ (onm who n t) = 0
  have h1 : lvalid (onm who n t).owner.data.toList = true := h
  have h3 : within (onm who n t).number 1073741824 = true := by simp [within, onm, hn]
  have h4 : within (onm who n t).index 1073741824 = true := by simp [within, onm, ht]
  simp [uchk, h1, h2, h3, h4]
theorem cdec_enc {c : Ct} (h : CtOK c) : cdec ⟨(cenc c).toArray⟩ = some c := by
  obtain ⟨h1, h2, h3, h4, h5, h6⟩ := h
  have e1 : ((c.b.toNat : Nat) : Int) = c.b := by omega
  have e2 : ((c.o.toNat : Nat) : Int) = c.o := by omega
  have e3 : ((c.c.toNat : Nat) : Int) = c.c := by omega
  unfold cdec cread
  have r1 := rnum_venc c.b.toNat (by omega) (venc c.o.toNat ++ venc c.c.toNat) 0 1048576 (by omega)
  have hl : cenc c = venc c.b.toNat ++ (venc c.o.toNat ++ venc c.c.toNat) := by simp [cenc]
  have r2 := rnum_venc c.o.toNat (by omega) (venc c.c.toNat) (0 + (venc c.b.toNat).length) 1048576 (by omega)
  have r3 := rnum_venc c.c.toNat (by omega) [] (0 + (venc c.b.toNat).length + (venc c.o.toNat).length) 1048576 (by omega)
  rw [List.append_nil] at r3
  simp only [hl, r1, r2, r3, e1, e2, e3]
  simp

def kc1 : Ct := ⟨0, 1, 0⟩
def kc2 : Ct := ⟨0, 2, 0⟩
theorem ctz_ok : CtOK Ct.z := by constructor <;> decide
theorem kc1_ok : CtOK kc1 := by constructor <;> decide
def cvl (c : Ct) : ByteArray := ⟨(cenc c).toArray⟩
def kcs1 : List Ch := snt w31 Ct.z 5 kA
def kcs2 : List Ch := kcs1 ++ snt w31 kc1 6 kB
def kes : Al := [(cnm w31, cvl kc2), (onm w31 0 5, oencS kA), (onm w31 1 6, oencS kB)]
def kEA : En := ⟨w31, 0, 5, kA⟩
def kEB : En := ⟨w31, 1, 6, kB⟩

theorem vget0 : vget [] [] (cnm w31) = (⟨#[]⟩, false) := by
  unfold vget
  rw [if_neg (by simp [cnm_chk w31_valid])]
  rfl
theorem made0 : madeE [] [] w31 = (Ct.z, 0) := by
  rw [madeE, if_pos w31_valid, vget0]; rfl
theorem vget1 : vget [] kcs1 (cnm w31) = (cvl kc1, true) := by
  unfold vget
  rw [if_neg (by simp [cnm_chk w31_valid])]
  have h : vcall kcs1 (cnm w31) = some ⟨cnm w31, cvl kc1, false⟩ := by
    show vcall ([⟨onm w31 0 5, oencS kA, false⟩] ++ [⟨cnm w31, cvl kc1, false⟩]) (cnm w31) = _
    rw [vcall_snoc, if_pos rfl]
  rw [h]; rfl
theorem made1 : madeE [] kcs1 w31 = (kc1, 0) := by
  unfold madeE
  rw [if_pos w31_valid, vget1]
  simp [cvl, cdec_enc kc1_ok]

theorem cmp_co (w : ByteArray) (n t : Int) : cmpO (cnm w) (onm w n t) < 0 := by
  have h : cmpI (cnm w).kind (onm w n t).kind = -1 := rfl
  unfold cmpO; rw [h, if_pos (by decide)]; decide
theorem cmp_oc (w : ByteArray) (n t : Int) : 0 < cmpO (onm w n t) (cnm w) := (cmpO_anti _ _).1 (cmp_co w n t)
theorem cmp_oo (w : ByteArray) (n n' t t' : Int) (h : n < n') : cmpO (onm w n t) (onm w n' t') < 0 := by
  have h1 : cmpI (onm w n t).kind (onm w n' t').kind = 0 := rfl
  have h2 : cmpN (onm w n t).owner (onm w n' t').owner = 0 := ord_lin.self _
  have h3 : cmpI (onm w n t).number (onm w n' t').number = -1 := by show cmpI n n' = -1; simp [cmpI, h]
  unfold cmpO; rw [h1, h2, h3, if_neg (by simp), if_neg (by simp), if_pos (by decide)]; decide

theorem klast : lastL kcs2 = [(onm w31 0 5, 0), (cnm w31, 3), (onm w31 1 6, 2)] := by
  have m1 : onm w31 0 5 ≠ cnm w31 := by simp [onm, cnm]
  have m2 : cnm w31 ≠ onm w31 0 5 := by simp [onm, cnm]
  have m3 : onm w31 1 6 ≠ cnm w31 := by simp [onm, cnm]
  have m4 : cnm w31 ≠ onm w31 1 6 := by simp [onm, cnm]
  have m5 : onm w31 1 6 ≠ onm w31 0 5 := by simp [onm]
  show lastG [⟨onm w31 0 5, oencS kA, false⟩, ⟨cnm w31, cvl kc1, false⟩, ⟨onm w31 1 6, oencS kB, false⟩, ⟨cnm w31, cvl kc2, false⟩] 0 [] = _
  simp [lastG, mset, m2, m3, m5]
theorem kvwr : vwr kcs2 = [⟨cnm w31, cvl kc2, false⟩, ⟨onm w31 0 5, oencS kA, false⟩, ⟨onm w31 1 6, oencS kB, false⟩] := by
  have h1 : cmpO (cnm w31) (onm w31 1 6) < 0 := cmp_co _ _ _
  have h2 : ¬ cmpO (onm w31 0 5) (cnm w31) < 0 := by have := cmp_oc w31 0 5; omega
  have h3 : cmpO (onm w31 0 5) (onm w31 1 6) < 0 := cmp_oo _ _ _ _ _ (by decide)
  have hl : (lastL kcs2).map (chAt kcs2) = [⟨onm w31 0 5, oencS kA, false⟩, ⟨cnm w31, cvl kc2, false⟩, ⟨onm w31 1 6, oencS kB, false⟩] := by rw [klast]; rfl
  show srtC ((lastL kcs2).map (chAt kcs2)) = _
  rw [hl]
  show srtC [⟨onm w31 0 5, oencS kA, false⟩, ⟨cnm w31, cvl kc2, false⟩, ⟨onm w31 1 6, oencS kB, false⟩] = _
  simp [srtC, insC, cmpC, h1, h2, h3]
theorem kapp : applyE [] (vwr kcs2) = kes := by
  rw [kvwr]
  have h1 := cmp_oc w31 0 5
  have h1' : ¬ cmpO (onm w31 0 5) (cnm w31) < 0 := by omega
  have h2 := cmp_oc w31 1 6
  have h2' : ¬ cmpO (onm w31 1 6) (cnm w31) < 0 := by omega
  have h3 : 0 < cmpO (onm w31 1 6) (onm w31 0 5) := (cmpO_anti _ _).1 (cmp_oo _ _ _ _ _ (by decide))
  have h3' : ¬ cmpO (onm w31 1 6) (onm w31 0 5) < 0 := by omega
  simp [applyE, insO, h1, h1', h2, h2', h3, h3', kes]
theorem kall : allE kes = [kEA, kEB] := by
  have hk : kn kes 18 = [onm w31 0 5, onm w31 1 6] := by simp [kn, kes, onm, cnm]
  have h1 : ¬ cmpO (onm w31 0 5) (cnm w31) = 0 := by have := cmp_oc w31 0 5; omega
  have h2 : ¬ cmpO (onm w31 1 6) (cnm w31) = 0 := by have := cmp_oc w31 1 6; omega
  have h3 : ¬ cmpO (onm w31 1 6) (onm w31 0 5) = 0 := by have := (cmpO_anti _ _).1 (cmp_oo w31 0 1 5 6 (by decide)); omega
  have g1 : getO (onm w31 0 5) kes = some (oencS kA) := by simp [getO, kes, h1, ord_obj.self]
  have g2 : getO (onm w31 1 6) kes = some (oencS kB) := by simp [getO, kes, h2, h3, ord_obj.self]
  rw [allE, hk]
  unfold allN
  simp only [List.filterMap_cons, List.filterMap_nil, entO, g1, g2, Option.getD_some, odec_enc kA_chk, odec_enc kB_chk, Option.map_some]
  rfl
theorem fit_snt {who : ByteArray} {c : Ct} {tk : Int} {o : Ou} (hw : who.size ≤ 1000) (hv : lvalid who.data.toList = true) (hc : CtOK c) (h1 : c.o < 1048576) (ht : 0 ≤ tk ∧ tk ≤ 1073741824) (ho : ochk o = 0) : ∀ x ∈ snt who c tk o, FitC x := by
  intro x hx
  have hc2 : CtOK { c with o := c.o + 1 } := ⟨hc.b0, hc.b1, by have := hc.o0; show 0 ≤ c.o + 1; omega, by show c.o + 1 ≤ _; omega, hc.c0, hc.c1⟩
  simp only [snt, List.mem_cons, List.not_mem_nil, or_false] at hx
  rcases hx with rfl | rfl
  · refine ⟨onm_chk hv ⟨hc.o0, by omega⟩ ht, ?_, rfl, ?_, ?_⟩
    · have := oenc_len ho
      show (oencS o).size ≤ _
      rw [oencS, if_pos ho]
      show (oenc o).toArray.size ≤ _
      rw [List.size_toArray]; omega
    · show who.size ≤ _; omega
    · show (ByteArray.mk #[]).size ≤ _; decide
  · refine ⟨cnm_chk hv, ?_, rfl, ?_, ?_⟩
    · have := cenc_len hc2
      show (cenc _).toArray.size ≤ _
      rw [List.size_toArray]; omega
    · show who.size ≤ _; omega
    · show (ByteArray.mk #[]).size ≤ _; decide
end Go.Proofs.YtijaglinajfplaaGreatDoor

set_option maxRecDepth 10000
namespace Go.Proofs.YtijaglinajfplaaGreatDoor
open Go.RowKit

theorem Spec.to {P : Program} {f : FuncId} {args : Array Value} {F : List Pf} {R : List HP} {post post' : Post} (h : Spec P f args F R post)
    (k : ∀ x, post.pure x → ∃ y, post.val x = post'.val y ∧ post'.pure y ∧ post.F x = post'.F y ∧ post.R x = post'.R y) : Spec P f args F R post' :=
  h.imp fun G w hp x w' hx hs => by
    obtain ⟨y, e1, e2, e3, e4⟩ := k x hx
    exact ⟨y, by rw [e1], e2, by rw [← e3, ← e4]; exact hs⟩

def wtP (b : Nat) (ls : List Lf) (l : List En) : Post := ⟨Option Addr × Nat, fun q => .slice q.1 l.length q.2, fun _ => True, fun _ => [], fun q => [Lg b ls, Row 78 7 q.1 l.length q.2 (l.flatMap enf)]⟩
theorem srd2 {l : List En} (hp : l.Perm [kEA, kEB]) (hs : Srd cmpT l) : l = [kEA, kEB] := by
  have h1 : cmpT kEA kEB < 0 := by decide
  have hl := hp.length_eq
  match l, hl with
  | [a, b], _ =>
    have ha := hp.mem_iff.1 (show a ∈ [a, b] by simp)
    have hb := hp.mem_iff.1 (show b ∈ [a, b] by simp)
    have hab : a ≠ b := fun e => by
      have hn : [a, b].Nodup := hp.nodup_iff.2 (by decide)
      rw [e] at hn; simp at hn
    have hs1 : ¬ cmpT b a < 0 := by
      have := (List.pairwise_cons.1 hs).1 b (by simp)
      exact this
    simp only [List.mem_cons, List.not_mem_nil, or_false] at ha hb
    rcases ha with rfl | rfl <;> rcases hb with rfl | rfl
    · exact absurd rfl hab
    · rfl
    · exact absurd h1 hs1
    · exact absurd rfl hab
theorem wait0_ok (b bs : Nat) : Enters 63 ∧ Spec Tryz.prog 63 #[.pointer (some ⟨b, 0, none⟩), .pointer (some ⟨bs, 0, none⟩)] [St (some ⟨bs, 0, none⟩) kes, Usg] [Lg b []] (wtP b [] [kEA, kEB]) := by
  have h := waiting_ok b (some ⟨bs, 0, none⟩) kes [] (by rw [kall]; decide) (by simp)
  refine ⟨h.1, h.2.to fun x hx => ?_⟩
  obtain ⟨l, o, c⟩ := x
  have e : wtE kes [] = [kEA, kEB] := by rw [wtE, kall]; rfl
  have hx' : l.Perm (wtE kes []) ∧ Srd cmpT l := hx
  rw [e] at hx'
  obtain rfl := srd2 hx'.1 hx'.2
  exact ⟨(o, c), rfl, trivial, rfl, rfl⟩
def kLA : Lf := ⟨kEA, 7, 0⟩
theorem wait1_ok (b bs : Nat) : Enters 63 ∧ Spec Tryz.prog 63 #[.pointer (some ⟨b, 0, none⟩), .pointer (some ⟨bs, 0, none⟩)] [St (some ⟨bs, 0, none⟩) kes, Usg] [Lg b [kLA]] (wtP b [kLA] [kEB]) := by
  have h := waiting_ok b (some ⟨bs, 0, none⟩) kes [kLA] (by rw [kall]; decide) (by simp)
  refine ⟨h.1, h.2.to fun x hx => ?_⟩
  obtain ⟨l, o, c⟩ := x
  have e : wtE kes [kLA] = [kEB] := by
    rw [wtE, kall]
    have h1 : mget kEA.id (idm [kLA]) = some () := by simp [idm, kLA, mset, mget]
    have h2 : mget kEB.id (idm [kLA]) = none := by simp [idm, kLA, mset, mget, kEA, kEB, En.id]
    simp [wtL, h1, h2]
  have hx' : l.Perm (wtE kes [kLA]) ∧ Srd cmpT l := hx
  rw [e] at hx'
  obtain rfl := List.perm_singleton.1 hx'.1
  exact ⟨(o, c), rfl, trivial, rfl, rfl⟩

set_option maxHeartbeats 2000000 in
theorem known39_ok : Enters 40 ∧ Spec Tryz.prog 40 #[] [Usg] [] (RetV (.bool true)) := by
  have hw : w31.size ≤ 1000 := by decide
  have v0 : (vget [] [] (cnm w31)).1.size ≤ 1099511627776 := by
    unfold vget
    rw [if_neg (by simp [cnm_chk w31_valid])]
    exact Nat.zero_le _
  have v1 : (vget [] kcs1 (cnm w31)).1.size ≤ 1099511627776 := by
    rw [vget1]
    have := cenc_len kc1_ok
    show (cenc kc1).toArray.size ≤ _
    rw [List.size_toArray]; omega
  have n1 := fun b bs => send_ok b (some ⟨bs, 0, none⟩) [] [] [] w31 5 kA Ct.z (by omega) w31_valid v0 kA_chk rfl made0 ctz_ok (by decide) (onm_chk w31_valid (by decide) (by decide)) (cnm_chk w31_valid) (by simp)
  have n2 := fun b bs rs => send_ok b (some ⟨bs, 0, none⟩) [] rs kcs1 w31 6 kB kc1 (by omega) w31_valid v1 kB_chk rfl made1 kc1_ok (by decide) (onm_chk w31_valid (by decide) (by decide)) (cnm_chk w31_valid) (by simp [kcs1, snt])
  have f1 := fit_snt hw w31_valid ctz_ok (by decide) (show (0 : Int) ≤ 5 ∧ (5 : Int) ≤ 1073741824 by decide) kA_chk
  have f2 := fit_snt hw w31_valid kc1_ok (by decide) (show (0 : Int) ≤ 6 ∧ (6 : Int) ≤ 1073741824 by decide) kB_chk
  have hfit : ∀ c ∈ kcs2, FitC c := fun c hc => by
    rcases List.mem_append.1 hc with h | h
    · exact f1 c h
    · exact f2 c h
  have n3 := fun b bs rs => vwAfter_ok b bs [] rs kcs2 (by rw [klast]; decide) hfit (by simp)
  rw [kapp] at n3
  have hlv : leaveE [] kLA = 0 := by
    have h1 : lchk kLA = 0 := by
      unfold lchk
      rw [if_neg (by simp [kLA, kEA, w31_valid]), if_neg (by simp [kLA, kEA, tick])]
      exact kA_chk
    simp [leaveE, h1, late]
  have n4 := fun b => leave_ok b [] kLA (by show w31.size ≤ _; omega) (by simp)
  simp only [lvPost_ok hlv] at n4
  refine ⟨enters_of Tryz.func40 (by kernel_rfl) rfl, spec_of (vs := []) Tryz.func40 rfl Tryz.ntmps40 rfl fun G w hp => ?_⟩
  repeat' (first | refine l_run ?_ | refine l_nil ?_ | refine l_one ?_ | refine k_reg ?_ | refine l_ld ?_ | refine l_ldF ?_ | refine l_st ?_ | refine l_al (fun b => ?_) | refine l_bs (fun b => ?_) | refine k_condT ?_ | refine k_condF ?_ | refine k_brk ?_ | refine l_call (stateNew_ok) (fun _ _ => ?_) | refine l_call0 (stateNew_ok) (fun _ _ => ?_) | refine l_call (viewNew_ok _) (fun _ _ => ?_) | refine l_call0 (viewNew_ok _) (fun _ _ => ?_) | refine l_call (n1 _ _) (fun _ _ => ?_) | refine l_call0 (n1 _ _) (fun _ _ => ?_) | refine l_call (n2 _ _ _) (fun _ _ => ?_) | refine l_call0 (n2 _ _ _) (fun _ _ => ?_) | refine l_call (n3 _ _ _) (fun _ _ => ?_) | refine l_call0 (n3 _ _ _) (fun _ _ => ?_) | refine l_call (newLedger_ok) (fun _ _ => ?_) | refine l_call0 (newLedger_ok) (fun _ _ => ?_) | refine l_call (wait0_ok _ _) (fun _ _ => ?_) | refine l_call0 (wait0_ok _ _) (fun _ _ => ?_) | refine l_call (n4 _) (fun _ _ => ?_) | refine l_call0 (n4 _) (fun _ _ => ?_) | refine l_call (wait1_ok _ _) (fun _ _ => ?_) | refine l_call0 (wait1_ok _ _) (fun _ _ => ?_) | refine l_frz (T := 78) (sz := 7) (f := enf) [kEA, kEB] ?_ rfl rfl | refine l_frz (T := 78) (sz := 7) (f := enf) [kEB] ?_ rfl rfl | refine l_ixe (es := [kEA, kEB]) 0 kEA rfl (fun b off => ?_) | refine l_ixe (es := [kEB]) 0 kEB rfl (fun b off => ?_) | refine l_ldC ?_ | (refine l_split (fun hc => ?_) (fun hc => ?_) <;> (try simp at hc)) | (refine k_cond (fun hc => ?_) (fun hc => ?_) <;> (try simp at hc)))
  exact k_ret () rfl trivial
end Go.Proofs.YtijaglinajfplaaGreatDoor

set_option maxRecDepth 10000
namespace Go.Proofs.YtijaglinajfplaaGreatDoor
open Go.RowKit

def shO (o : Ou) : Ou := ⟨o.ch, cutS o.tg 80, cutS o.tx 4200, o.us⟩
def shL (x : Lf) : Lf := ⟨⟨cutS x.e.who 80, x.e.nu, x.e.tk, shO x.e.o⟩, x.tm, x.rd⟩
theorem shortO_ok (o : Ou) : Enters 37 ∧ Spec Tryz.prog 37 #[o.v] [] [] (RetV (shO o).v) := by
  refine ⟨enters_of Tryz.func37 (by kernel_rfl) rfl, spec_of (vs := [_]) Tryz.func37 rfl Tryz.ntmps37 rfl fun G w hp => ?_⟩
  repeat' (first | refine l_run ?_ | refine l_nil ?_ | refine l_one ?_ | refine k_reg ?_ | refine l_ld ?_ | refine l_ldF ?_ | refine l_st ?_ | refine l_al (fun b => ?_) | refine l_bs (fun b => ?_) | refine k_condT ?_ | refine k_condF ?_ | refine k_brk ?_ | refine r_run ?_ | refine r_one ?_ | refine r_ld ?_ | refine r_ldF ?_ | refine r_ldN ?_ | refine r_al (fun b => ?_) | refine r_bs (fun b => ?_) | refine r_st ?_ | refine r_end ?_ | refine l_cutS 80 ?_ | refine r_cutS 80 ?_ | refine r_cutS 4200 ?_ | refine r_up ?_ | (refine l_split (fun hc => ?_) (fun hc => ?_) <;> (try simp at hc)) | (refine r_split (fun hc => ?_) (fun hc => ?_) <;> (try simp at hc)) | refine k_draw 1 [Pt _ _, Pt _ _] [(0, 0), (2, 0), (7, 0), (9, 0), (1, 3), (3, 3), (4, 0), (5, 0), (6, 0), (8, 3), (10, 3), (11, 0), (12, 0), (13, 0), (14, 0), (15, 4), (16, 0)] [17] ?_ | (refine k_cond (fun hc => ?_) (fun hc => ?_) <;> (try simp at hc)))
  exact k_ret () rfl trivial
theorem short_ok (x : Lf) : Enters 53 ∧ Spec Tryz.prog 53 #[x.v] [] [] (RetV (shL x).v) := by
  have n1 := shortO_ok x.e.o
  refine ⟨enters_of Tryz.func53 (by kernel_rfl) rfl, spec_of (vs := [_]) Tryz.func53 rfl Tryz.ntmps53 rfl fun G w hp => ?_⟩
  repeat' (first | refine l_run ?_ | refine l_nil ?_ | refine l_one ?_ | refine k_reg ?_ | refine l_ld ?_ | refine l_ldF ?_ | refine l_st ?_ | refine l_al (fun b => ?_) | refine l_bs (fun b => ?_) | refine k_condT ?_ | refine k_condF ?_ | refine k_brk ?_ | refine r_run ?_ | refine r_one ?_ | refine r_ld ?_ | refine r_ldF ?_ | refine r_ldN ?_ | refine r_al (fun b => ?_) | refine r_bs (fun b => ?_) | refine r_st ?_ | refine r_end ?_ | refine l_call (n1) (fun _ _ => ?_) | refine l_call0 (n1) (fun _ _ => ?_) | refine r_call (n1) (fun _ _ => ?_) | refine r_cutS 80 ?_ | (refine l_split (fun hc => ?_) (fun hc => ?_) <;> (try simp at hc)) | (refine r_split (fun hc => ?_) (fun hc => ?_) <;> (try simp at hc)) | refine k_draw 1 [] [(0, 0), (1, 0), (2, 0), (3, 0), (4, 0), (5, 0), (6, 0), (7, 0), (8, 0), (9, 0), (10, 0), (11, 0), (13, 0), (14, 0), (12, 4)] [15, 16, 17, 18] ?_ | (refine k_cond (fun hc => ?_) (fun hc => ?_) <;> (try simp at hc)))
  exact k_ret () rfl trivial

set_option maxHeartbeats 1000000 in
theorem mcheck_ok (o : Ou) : Enters 38 ∧ Spec Tryz.prog 38 #[o.v] [] [] (RetV (.int .i64 (ochk o))) := by
  have hsz : o.tg.data.toList.length = o.tg.size := by simp
  generalize hr : ochk o = r
  unfold ochk at hr
  refine ⟨enters_of Tryz.func38 (by kernel_rfl) rfl, spec_of (vs := [_]) Tryz.func38 rfl Tryz.ntmps38 rfl fun G w hp => ?_⟩
  repeat' (first | refine l_run ?_ | refine l_nil ?_ | refine l_one ?_ | refine k_reg ?_ | refine l_ld ?_ | refine l_ldF ?_ | refine l_st ?_ | refine l_al (fun b => ?_) | refine l_bs (fun b => ?_) | refine k_condT ?_ | refine k_condF ?_ | refine k_brk ?_ | (refine l_split (fun hc => ?_) (fun hc => ?_) <;> (try simp at hc)) | (refine k_cond (fun hc => ?_) (fun hc => ?_) <;> (try simp at hc)))
  · rw [if_pos (by omega)] at hr; subst hr; exact k_ret () rfl trivial
  · rw [if_pos (by omega)] at hr; subst hr; exact k_ret () rfl trivial
  · have hc : isE o.tg = true := by simpa [isE] using hc
    rw [if_neg (by omega), if_pos hc] at hr; subst hr; exact k_ret () rfl trivial
  · rename_i h1
    have h1 : isE o.tg = false := by simpa [isE] using h1
    rw [if_neg (by omega), if_neg (by simp [h1]), if_pos (by omega)] at hr; subst hr; exact k_ret () rfl trivial
  rename_i h1
  have h1 : isE o.tg = false := by simpa [isE] using h1
  rw [if_neg (by omega), if_neg (by simp [h1]), if_neg (by omega)] at hr
  refine k_lp (X := { i : Nat // i ≤ o.tg.size ∧ ∀ j, j < i → ∀ c, o.tg.data.toList[j]? = some c → bad2 c = false }) (fun i => [(1, .pointer (some ⟨b, 0, none⟩)), (3, .int .i64 (i.1 : Int))]) (fun _ => []) (fun _ => [Pt b (.cells #[.int .i64 o.ch, .string o.tg, .string o.tx, .int .i64 o.us] 24)]) (fun i => o.tg.size - i.1) ⟨0, by omega, fun j hj => by omega⟩ ⟨rfl, rfl, trivial⟩ ?_
  rintro ⟨i, hi1, hi2⟩
  dsimp only
  by_cases hlt : i < o.tg.data.toList.length
  · obtain ⟨c, hcc⟩ : ∃ c, o.tg.data.toList[i]? = some c := ⟨_, List.getElem?_eq_getElem hlt⟩
    have bad : bad2 c = true → r = 6 := fun hb => by
      rw [← hr, if_pos]
      rw [List.any_eq_true]
      exact ⟨c, List.mem_of_getElem? hcc, hb⟩
    repeat' (first | refine l_run ?_ | refine l_nil ?_ | refine l_one ?_ | refine k_reg ?_ | refine l_ld ?_ | refine l_ldF ?_ | refine l_st ?_ | refine l_al (fun b => ?_) | refine l_bs (fun b => ?_) | refine k_condT ?_ | refine k_condF ?_ | refine l_six (s := o.tg) i c hcc ?_ | (refine l_split (fun hc => ?_) (fun hc => ?_) <;> (try simp at hc) <;> (try omega)) | (refine k_cond (fun hc => ?_) (fun hc => ?_) <;> (try simp at hc) <;> (try omega)))
    all_goals try (
      have e := bad (by simp [bad2]; omega)
      exact k_rt (w_lq (w_rv (congrArg (Value.int .i64) e) (w_ret () rfl trivial))))
    rw [wrapi (z := (i : Int) + 1) (by omega) (by omega)]
    refine k_next ⟨i + 1, by omega, fun j hj c' hc' => ?_⟩ (by show o.tg.size - (i + 1) < o.tg.size - i; omega) ⟨rfl, rfl, trivial⟩
    by_cases hij : j = i
    · subst hij
      obtain rfl := Option.some.inj (hcc.symm.trans hc')
      simp [bad2]; omega
    · exact hi2 j (by omega) c' hc'
  · have e : ¬ (o.tg.data.toList.any bad2 = true) := by
      rw [List.any_eq_true]
      rintro ⟨c, hc, hb⟩
      obtain ⟨j, hj, rfl⟩ := List.mem_iff_getElem.1 hc
      rw [hi2 j (by omega) _ (List.getElem?_eq_getElem hj)] at hb
      cases hb
    rw [if_neg e] at hr
    repeat' (first | refine l_run ?_ | refine l_nil ?_ | refine l_one ?_ | refine k_reg ?_ | refine l_ld ?_ | refine l_ldF ?_ | refine l_st ?_ | refine l_al (fun b => ?_) | refine l_bs (fun b => ?_) | refine k_condT ?_ | refine k_condF ?_ | refine k_brk ?_ | (refine l_split (fun hc => ?_) (fun hc => ?_) <;> (try simp at hc) <;> (try omega)) | (refine k_cond (fun hc => ?_) (fun hc => ?_) <;> (try simp at hc) <;> (try omega)))
    · rw [if_pos (by omega)] at hr; subst hr; exact k_ret () rfl trivial
    · rw [if_neg (by omega), if_pos (by omega)] at hr; subst hr; exact k_ret () rfl trivial
    · rw [if_neg (by omega), if_pos (by omega)] at hr; subst hr; exact k_ret () rfl trivial
    · rw [if_neg (by omega), if_neg (by omega)] at hr; subst hr; exact k_ret () rfl trivial

theorem put_ok (o : Ou) (b : Nat) (bs : List UInt8) (h : ochk o = 0) (hb : bs.length ≤ 1000000000) : Enters 116 ∧ Spec Tryz.prog 116 #[.pointer (some ⟨b, 0, none⟩), o.v] [] [Wtr b bs] ⟨Unit, fun _ => .tuple #[], fun _ => True, fun _ => [], fun _ => [Wtr b (bs ++ oenc o)]⟩ := by
  obtain ⟨h1, h2, h3, h4⟩ := ochk_zero h
  have l1 := venc_len10 o.ch.toNat (by omega)
  have l2 := venc_len10 o.tg.size (by omega)
  have l3 := venc_len10 o.tx.size (by omega)
  have e1 : o.ch = ((o.ch.toNat : Nat) : Int) := by omega
  have e2 : o.us = ((o.us.toNat : Nat) : Int) := by omega
  have s1 : o.tg.data.toList.length = o.tg.size := by simp
  have s2 : o.tx.data.toList.length = o.tx.size := by simp
  have n1 := wtrNumber_ok b bs o.ch.toNat (by omega) (by omega)
  rw [← e1] at n1
  have n2 := wtrText_ok b (bs ++ venc o.ch.toNat) o.tg (by omega) (by simp only [List.length_append]; omega)
  have n3 := wtrText_ok b (bs ++ venc o.ch.toNat ++ venc o.tg.size ++ o.tg.data.toList) o.tx (by omega) (by simp only [List.length_append]; omega)
  have n4 := wtrNumber_ok b (bs ++ venc o.ch.toNat ++ venc o.tg.size ++ o.tg.data.toList ++ venc o.tx.size ++ o.tx.data.toList) o.us.toNat (by omega) (by simp only [List.length_append]; omega)
  rw [← e2] at n4
  have e3 : bs ++ oenc o = bs ++ venc o.ch.toNat ++ venc o.tg.size ++ o.tg.data.toList ++ venc o.tx.size ++ o.tx.data.toList ++ venc o.us.toNat := by simp [oenc]
  rw [e3]
  generalize b = bw at *
  refine ⟨enters_of Tryz.func116 (by kernel_rfl) rfl, spec_of (vs := [_, _]) Tryz.func116 rfl Tryz.ntmps116 rfl fun G w hp => ?_⟩
  repeat' (first | refine l_run ?_ | refine l_nil ?_ | refine l_one ?_ | refine k_reg ?_ | refine l_ld ?_ | refine l_ldF ?_ | refine l_st ?_ | refine l_al (fun b => ?_) | refine l_bs (fun b => ?_) | refine k_condT ?_ | refine k_condF ?_ | refine k_brk ?_ | refine l_call (n1) (fun _ _ => ?_) | refine l_call0 (n1) (fun _ _ => ?_) | refine l_call (n2) (fun _ _ => ?_) | refine l_call0 (n2) (fun _ _ => ?_) | refine l_call (n3) (fun _ _ => ?_) | refine l_call0 (n3) (fun _ _ => ?_) | refine l_call (n4) (fun _ _ => ?_) | refine l_call0 (n4) (fun _ _ => ?_) | refine l_split (fun hc => ?_) (fun hc => ?_) | refine k_cond (fun hc => ?_) (fun hc => ?_))
  exact k_end () rfl trivial
theorem value_ok (o : Ou) (h : ochk o = 0) : Enters 45 ∧ Spec Tryz.prog 45 #[o.v] [] [] (RetV (.string (oencS o))) := by
  have hw : ∀ bw, _ := fun bw => put_ok o bw [] h (by simp)
  have hl := oenc_len h
  rw [oencS, if_pos h]
  refine ⟨enters_of Tryz.func45 (by kernel_rfl) rfl, spec_of (vs := [_]) Tryz.func45 rfl Tryz.ntmps45 rfl fun G w hp => ?_⟩
  repeat' (first | refine l_run ?_ | refine l_nil ?_ | refine l_one ?_ | refine k_reg ?_ | refine l_ld ?_ | refine l_ldF ?_ | refine l_st ?_ | refine l_al (fun b => ?_) | refine l_bs (fun b => ?_) | refine k_condT ?_ | refine k_condF ?_ | refine k_brk ?_ | refine l_call (newWriter_ok) (fun _ _ => ?_) | refine l_call0 (newWriter_ok) (fun _ _ => ?_) | refine l_call (hw _) (fun _ _ => ?_) | refine l_call0 (hw _) (fun _ _ => ?_) | refine l_call (wtrBytes_ok _ ([] ++ oenc o) (by simp; omega)) (fun _ _ => ?_) | refine l_call0 (wtrBytes_ok _ ([] ++ oenc o) (by simp; omega)) (fun _ _ => ?_) | refine l_split (fun hc => ?_) (fun hc => ?_) | refine k_cond (fun hc => ?_) (fun hc => ?_))
  refine l_frz (sz := 1) (f := bf) ([] ++ oenc o) ?_ (byt_flat _) rfl
  refine l_b2s ?_
  repeat' (first | refine l_run ?_ | refine l_nil ?_ | refine l_one ?_ | refine k_reg ?_ | refine l_ld ?_ | refine l_ldF ?_ | refine l_st ?_ | refine l_al (fun b => ?_) | refine l_bs (fun b => ?_) | refine k_condT ?_ | refine k_condF ?_ | refine k_brk ?_ | refine l_split (fun hc => ?_) (fun hc => ?_) | refine k_cond (fun hc => ?_) (fun hc => ?_))
  exact k_ret () rfl trivial

/-! The list's own Leave. -/
def mleaveE (ls : List Lf) (x : Lf) : Int := if lchk x ≠ 0 then lchk x else if late ls x then 32 else 0
theorem mleave_leave {ls : List Lf} {x : Lf} (h : ls.length < 100000) : leaveE ls x = mleaveE ls x := by
  unfold leaveE mleaveE
  rw [if_neg (show ¬ 100000 ≤ ls.length by omega)]

def MLv (o : Option Addr) (cap : Nat) (ls : List Lf) (e : Int) : Post := ⟨Unit, fun _ => .int .i64 e, fun _ => True, fun _ => [], fun _ => [Row 80 9 o ls.length cap (ls.flatMap lff)]⟩

theorem lchk_cases (x : Lf) : (lvalid x.e.who.data.toList = false ∧ lchk x = 12) ∨ (lvalid x.e.who.data.toList = true ∧ (x.e.nu < 0 ∨ 1048576 < x.e.nu ∨ x.e.tk < 0 ∨ 1073741824 < x.e.tk ∨ x.tm < 0 ∨ 1073741824 < x.tm ∨ x.rd < 0 ∨ 1048576 < x.rd) ∧ lchk x = 2) ∨
    (lvalid x.e.who.data.toList = true ∧ (0 ≤ x.e.nu ∧ x.e.nu ≤ 1048576 ∧ 0 ≤ x.e.tk ∧ x.e.tk ≤ 1073741824 ∧ 0 ≤ x.tm ∧ x.tm ≤ 1073741824 ∧ 0 ≤ x.rd ∧ x.rd ≤ 1048576) ∧ lchk x = ochk x.e.o) := by
  have ht : ∀ z : Int, tick z = false ↔ z < 0 ∨ 1073741824 < z := fun z => by
    unfold tick
    by_cases h1 : 0 ≤ z <;> by_cases h2 : z ≤ 1073741824 <;> simp [h1, h2] <;> omega
  unfold lchk
  cases hv : lvalid x.e.who.data.toList
  · exact .inl ⟨rfl, by simp⟩
  · right
    rw [if_neg (by simp)]
    by_cases h : x.e.nu < 0 ∨ 1048576 < x.e.nu ∨ tick x.e.tk = false ∨ tick x.tm = false ∨ x.rd < 0 ∨ 1048576 < x.rd
    · left
      rw [if_pos h]
      rw [ht, ht] at h
      exact ⟨rfl, by omega, rfl⟩
    · right
      rw [if_neg h]
      rw [ht, ht] at h
      exact ⟨rfl, by omega, rfl⟩

theorem mleave_bad (o : Option Addr) (cap : Nat) (ls : List Lf) (x : Lf) (hx : x.e.who.size ≤ 1099511627776) (h0 : lchk x ≠ 0) :
    Enters 65 ∧ Spec Tryz.prog 65 #[.slice o ls.length cap, x.v] [] [Row 80 9 o ls.length cap (ls.flatMap lff)] (MLv o cap ls (lchk x)) := by
  have n1 := valid_ok x.e.who hx
  have n2 := mcheck_ok x.e.o
  rcases lchk_cases x with ⟨hv, he⟩ | ⟨hv, hr, he⟩ | ⟨hv, hr, he⟩
  all_goals rw [hv] at n1
  all_goals rw [he] at h0 ⊢
  all_goals refine ⟨enters_of Tryz.func65 (by kernel_rfl) rfl, spec_of (vs := [_, _]) Tryz.func65 rfl Tryz.ntmps65 rfl fun G w hp => ?_⟩
  all_goals repeat' (first | refine l_run ?_ | refine l_nil ?_ | refine l_one ?_ | refine k_reg ?_ | refine l_ld ?_ | refine l_ldF ?_ | refine l_st ?_ | refine l_al (fun b => ?_) | refine l_bs (fun b => ?_) | refine k_condT ?_ | refine k_condF ?_ | refine k_brk ?_ | refine l_call (n1) (fun _ _ => ?_) | refine l_call0 (n1) (fun _ _ => ?_) | refine l_call (n2) (fun _ _ => ?_) | refine l_call0 (n2) (fun _ _ => ?_) | (refine l_split (fun hc => ?_) (fun hc => ?_) <;> (try simp at hc) <;> (try omega)) | (refine k_cond (fun hc => ?_) (fun hc => ?_) <;> (try simp at hc) <;> (try omega)))
  all_goals first
    | exact k_ret () rfl trivial
    | (exfalso; simp_all)

set_option maxHeartbeats 2000000 in
theorem mleave_nil (o : Option Addr) (cap : Nat) (x : Lf) (hx : x.e.who.size ≤ 1099511627776) (h0 : lchk x = 0) :
    Enters 65 ∧ Spec Tryz.prog 65 #[.slice o 0 cap, x.v] [] [Row 80 9 o 0 cap []] (MLv o cap [] 0) := by
  have n1 := valid_ok x.e.who hx
  have n2 := mcheck_ok x.e.o
  rcases lchk_cases x with ⟨hv, he⟩ | ⟨hv, hr, he⟩ | ⟨hv, hr, he⟩
  · rw [he] at h0; cases h0
  · rw [he] at h0; cases h0
  rw [hv] at n1
  rw [he] at h0
  rw [h0] at n2
  refine ⟨enters_of Tryz.func65 (by kernel_rfl) rfl, spec_of (vs := [_, _]) Tryz.func65 rfl Tryz.ntmps65 rfl fun G w hp => ?_⟩
  repeat' (first | refine l_run ?_ | refine l_nil ?_ | refine l_one ?_ | refine k_reg ?_ | refine l_ld ?_ | refine l_ldF ?_ | refine l_st ?_ | refine l_al (fun b => ?_) | refine l_bs (fun b => ?_) | refine k_condT ?_ | refine k_condF ?_ | refine k_brk ?_ | refine r_run ?_ | refine r_one ?_ | refine r_ld ?_ | refine r_ldF ?_ | refine r_ldN ?_ | refine r_al (fun b => ?_) | refine r_bs (fun b => ?_) | refine r_st ?_ | refine r_end ?_ | refine l_call (n1) (fun _ _ => ?_) | refine l_call0 (n1) (fun _ _ => ?_) | refine r_call (n1) (fun _ _ => ?_) | refine l_call (n2) (fun _ _ => ?_) | refine l_call0 (n2) (fun _ _ => ?_) | refine r_call (n2) (fun _ _ => ?_) | (refine l_split (fun hc => ?_) (fun hc => ?_) <;> (try simp at hc) <;> (try omega)) | (refine r_split (fun hc => ?_) (fun hc => ?_) <;> (try simp at hc) <;> (try omega)) | refine k_draw 9 [] [(0, 0), (1, 0), (2, 0), (3, 0), (4, 0), (5, 0), (6, 0), (7, 0), (8, 0), (9, 0), (10, 0), (11, 0), (12, 0), (13, 0), (14, 0), (15, 0), (16, 0), (17, 0), (18, 0), (19, 0), (20, 0), (21, 0), (22, 0), (23, 0)] [] ?_ | (refine k_cond (fun hc => ?_) (fun hc => ?_) <;> (try simp at hc) <;> (try omega)))
  exact k_ret () rfl trivial

set_option maxHeartbeats 4000000 in
theorem mleave_cons (o : Option Addr) (cap : Nat) (init : List Lf) (y x : Lf) (hx : x.e.who.size ≤ 1099511627776) (h0 : lchk x = 0) (hl : init.length ≤ 1000000) :
    Enters 65 ∧ Spec Tryz.prog 65 #[.slice o (init.length + 1) cap, x.v] [] [Row 80 9 o (init.length + 1) cap ((init ++ [y]).flatMap lff)]
      ⟨Unit, fun _ => .int .i64 (if decide (x.tm < y.tm) || decide (x.rd < y.rd) then 32 else 0), fun _ => True, fun _ => [], fun _ => [Row 80 9 o (init.length + 1) cap ((init ++ [y]).flatMap lff)]⟩ := by
  have n1 := valid_ok x.e.who hx
  have n2 := mcheck_ok x.e.o
  rcases lchk_cases x with ⟨hv, he⟩ | ⟨hv, hr, he⟩ | ⟨hv, hr, he⟩
  · rw [he] at h0; cases h0
  · rw [he] at h0; cases h0
  rw [hv] at n1
  rw [he] at h0
  rw [h0] at n2
  have hpre : (init.flatMap lff).length = init.length * 9 := flat_len (sz := 9) (fun _ => rfl) init
  refine ⟨enters_of Tryz.func65 (by kernel_rfl) rfl, spec_of (vs := [_, _]) Tryz.func65 rfl Tryz.ntmps65 rfl fun G w hp => ?_⟩
  refine k_row (T := 80) (sz := 9) (o := o) (m := init.length + 1) (cap := cap) (xs := (init ++ [y]).flatMap lff) (by omega) (fun r hr => ?_)
  have ho := hr.o
  subst ho
  obtain ⟨rb, rest, fz⟩ := r
  dsimp only at hr ⊢
  have hcs : (((init ++ [y]).flatMap lff ++ rest).toArray).toList = init.flatMap lff ++ (lff y ++ rest) := by simp
  repeat' (first | refine l_run ?_ | refine l_nil ?_ | refine l_one ?_ | refine k_reg ?_ | refine l_ld ?_ | refine l_ldF ?_ | refine l_st ?_ | refine l_al (fun b => ?_) | refine l_bs (fun b => ?_) | refine k_condT ?_ | refine k_condF ?_ | refine k_brk ?_ | refine r_run ?_ | refine r_one ?_ | refine r_ld ?_ | refine r_ldF ?_ | refine r_ldN ?_ | refine r_al (fun b => ?_) | refine r_bs (fun b => ?_) | refine r_st ?_ | refine r_end ?_ | refine l_call (n1) (fun _ _ => ?_) | refine l_call0 (n1) (fun _ _ => ?_) | refine r_call (n1) (fun _ _ => ?_) | refine l_call (n2) (fun _ _ => ?_) | refine l_call0 (n2) (fun _ _ => ?_) | refine r_call (n2) (fun _ _ => ?_) | refine r_ixP (m := init.length + 1) init.length (by omega) ?_ | refine r_ldX (o := 7) (off' := init.length * 9 + (6 + 1)) (pre := init.flatMap lff) (xs := lff y) (post := rest) ?_ hcs (by rw [hpre]) | refine r_ldX (o := 8) (off' := init.length * 9 + (7 + 1)) (pre := init.flatMap lff) (xs := lff y) (post := rest) ?_ hcs (by rw [hpre]) | rw [wrapi (z := ((init.length + 1 : Nat) : Int) - 1) (by omega) (by omega)] | (refine l_split (fun hc => ?_) (fun hc => ?_) <;> (try simp at hc) <;> (try omega)) | (refine r_split (fun hc => ?_) (fun hc => ?_) <;> (try simp at hc) <;> (try omega)) | refine k_draw 9 [] [(0, 0), (1, 0), (2, 0), (3, 0), (4, 0), (5, 0), (6, 0), (7, 0), (8, 0), (9, 0), (10, 0), (11, 0), (12, 0), (13, 0), (14, 0), (15, 0), (16, 0), (17, 0), (18, 0), (19, 0), (20, 0), (21, 0), (22, 0), (23, 0)] [] ?_ | (refine k_cond (fun hc => ?_) (fun hc => ?_) <;> (try simp at hc) <;> (try omega)))
  all_goals refine k_shut (Lx := [Pt rb (.cells ((init ++ [y]).flatMap lff ++ rest).toArray 80 fz)]) (r := Row 80 9 (some ⟨rb, 0, none⟩) (init.length + 1) cap ((init ++ [y]).flatMap lff)) (fun h hh => row_shut hr h hh) ?_
  all_goals refine k_ret () ?_ trivial
  all_goals simp_all [resV]
  all_goals omega

theorem mleave_ok (o : Option Addr) (cap : Nat) (ls : List Lf) (x : Lf) (hx : x.e.who.size ≤ 1099511627776) (hl : ls.length ≤ 1000000) :
    Enters 65 ∧ Spec Tryz.prog 65 #[.slice o ls.length cap, x.v] [] [Row 80 9 o ls.length cap (ls.flatMap lff)] (MLv o cap ls (mleaveE ls x)) := by
  by_cases h0 : lchk x = 0
  · rcases List.eq_nil_or_concat ls with rfl | ⟨init, y, rfl⟩
    · rw [show mleaveE [] x = 0 by simp [mleaveE, h0, late]]
      exact mleave_nil o cap x hx h0
    · simp only [List.concat_eq_append] at hl ⊢
      have h := mleave_cons o cap init y x hx h0 (by simp at hl; omega)
      have e1 : (init ++ [y]).length = init.length + 1 := by simp
      have e2 : mleaveE (init ++ [y]) x = if decide (x.tm < y.tm) || decide (x.rd < y.rd) then 32 else 0 := by simp [mleaveE, h0, late]
      rw [MLv, e1, e2]; exact h
  · rw [show mleaveE ls x = lchk x by simp [mleaveE, h0]]
    exact mleave_bad o cap ls x hx h0

/-! find, encoding: of a list that stays. -/
theorem tl_iff (a b : ByteArray) : a.toList = b.toList ↔ a = b := by
  rw [toList_data, toList_data]
  exact ⟨fun h => ba_ext h, fun h => by rw [h]⟩
def idq (x : Lf) (w : ByteArray) (nu tk : Int) : Bool := decide (x.e.who = w) && (decide (x.e.nu = nu) && decide (x.e.tk = tk))
/-- The greatest place, of the first m. -/
def lfind (ls : List Lf) (w : ByteArray) (nu tk : Int) : Nat → Option Nat
  | 0 => none
  | m + 1 => match ls[m]? with | some x => if idq x w nu tk then some m else lfind ls w nu tk m | none => lfind ls w nu tk m
def fndv (r : Option Nat) : Int := match r with | some j => (j : Int) | none => -1

theorem lfind_ok (o : Option Addr) (cap : Nat) (ls : List Lf) (wn : ByteArray) (nu tk : Int) (hl : ls.length ≤ 1099511627776) :
    Enters 50 ∧ Spec Tryz.prog 50 #[.slice o ls.length cap, .string wn, .int .i64 nu, .int .i64 tk] [Sl 80 lff o cap ls] [] (RetV (.int .i64 (fndv (lfind ls wn nu tk ls.length)))) := by
  generalize hr : lfind ls wn nu tk ls.length = r
  refine ⟨enters_of Tryz.func50 (by kernel_rfl) rfl, spec_of (vs := [_, _, _, _]) Tryz.func50 rfl Tryz.ntmps50 rfl fun G w hp => ?_⟩
  repeat' (first | refine l_run ?_ | refine l_nil ?_ | refine l_one ?_ | refine k_reg ?_ | refine l_ld ?_ | refine l_ldF ?_ | refine l_st ?_ | refine l_al (fun b => ?_) | refine l_bs (fun b => ?_) | refine k_condT ?_ | refine k_condF ?_ | refine k_brk ?_ | (refine l_split (fun hc => ?_) (fun hc => ?_) <;> (try simp at hc)) | (refine k_cond (fun hc => ?_) (fun hc => ?_) <;> (try simp at hc)))
  rw [wrapi (z := (ls.length : Int) - 1) (by omega) (by omega)]
  refine k_lp (X := { q : Nat × Int // q.1 ≤ ls.length ∧ q.2 = (q.1 : Int) - 1 ∧ lfind ls wn nu tk q.1 = r }) (fun q => [(0, .slice o ls.length cap), (1, .string wn), (2, .int .i64 nu), (3, .int .i64 tk), (9, .int .i64 q.1.2)]) (fun _ => [Sl 80 lff o cap ls]) (fun _ => []) (fun q => q.1.1) ⟨(ls.length, (ls.length : Int) - 1), by simp, rfl, hr⟩ ⟨rfl, rfl, rfl, rfl, rfl, trivial⟩ ?_
  rintro ⟨⟨m, z⟩, hm, hz, he⟩
  dsimp only at hm hz he ⊢
  cases m with
  | zero =>
    have hz' : z = -1 := by omega
    subst hz'
    obtain rfl : r = none := he.symm
    repeat' (first | refine l_run ?_ | refine l_nil ?_ | refine l_one ?_ | refine k_reg ?_ | refine l_ld ?_ | refine l_ldF ?_ | refine l_st ?_ | refine l_al (fun b => ?_) | refine l_bs (fun b => ?_) | refine k_condT ?_ | refine k_condF ?_ | refine k_brk ?_ | (refine l_split (fun hc => ?_) (fun hc => ?_) <;> (try simp at hc) <;> (try omega)) | (refine k_cond (fun hc => ?_) (fun hc => ?_) <;> (try simp at hc) <;> (try omega)))
    exact k_ret () rfl trivial
  | succ m =>
    have hz' : z = (m : Int) := by omega
    subst hz'
    obtain ⟨x, hx⟩ : ∃ x, ls[m]? = some x := ⟨_, List.getElem?_eq_getElem (by omega)⟩
    rw [lfind, hx] at he
    dsimp only at he
    repeat' (first | refine l_run ?_ | refine l_nil ?_ | refine l_one ?_ | refine k_reg ?_ | refine l_ld ?_ | refine l_ldF ?_ | refine l_st ?_ | refine l_al (fun b => ?_) | refine l_bs (fun b => ?_) | refine k_condT ?_ | refine k_condF ?_ | refine l_ixe (es := ls) m x hx (fun b off => ?_) | refine l_ldC ?_ | (refine l_split (fun hc => ?_) (fun hc => ?_) <;> (try simp at hc) <;> (try omega)) | (refine k_cond (fun hc => ?_) (fun hc => ?_) <;> (try simp at hc) <;> (try omega)))
    · have e : idq x wn nu tk = true := by simp_all [idq, tl_iff]
      rw [if_pos e] at he
      subst he
      exact k_rt (w_lq (w_ret () rfl trivial))
    all_goals (
      have e : idq x wn nu tk = false := by simp_all [idq, tl_iff]
      rw [e, if_neg (by simp)] at he
      rw [wrapi (z := (m : Int) - 1) (by omega) (by omega)]
      exact k_next ⟨(m, (m : Int) - 1), by dsimp only; omega, rfl, he⟩ (by show m < m + 1; omega) ⟨rfl, rfl, rfl, rfl, rfl, trivial⟩)

def lenc (x : Lf) : List UInt8 := venc x.e.who.size ++ x.e.who.data.toList ++ venc x.e.nu.toNat ++ venc x.e.tk.toNat ++ oenc x.e.o ++ venc x.tm.toNat ++ venc x.rd.toNat
def lencs (ls : List Lf) : List UInt8 := venc ls.length ++ ls.flatMap lenc
end Go.Proofs.YtijaglinajfplaaGreatDoor
