/-
  Entries as values, and their identities.
  The contracts of pdqsort at replevin/output.Entry, for windows of less than 50 elements.
  Pivots: median of three, choosePivot. (replevin/output.Entry)
  Reversal, sifting down. (replevin/output.Entry)
  Sorting by a heap. (replevin/output.Entry)
  Conditions: those that each theorem states.
-/
import Derived.Test.YtiggkcknmjgicaaGreatDoorME
import Derived.Test.YtiggkcknmjgicaaGreatDoorMP
import Derived.Test.YtiggkcknmjgicaaGreatDoorMB
set_option maxRecDepth 10000
namespace Go.Proofs.YtiggkcknmjgicaaGreatDoor
open Go.RowKit

def En.w (e : En) : Value := .agg #[.string e.who, .int .i64 e.nu, .int .i64 e.tk, .int .i64 e.o.ch, .string e.o.tg, .string e.o.tx, .int .i64 e.o.us]
/-- What tells an output apart. -/
structure Idn where
  who : ByteArray
  nu : Int
  tk : Int
  deriving DecidableEq
def Idn.v (i : Idn) : Value := .agg #[.string i.who, .int .i64 i.nu, .int .i64 i.tk]
def En.id (e : En) : Idn := ⟨e.who, e.nu, e.tk⟩
theorem beqSw (a b : ByteArray) : (a.toList == b.toList) = decide (a = b) := by
  rw [toList_data, toList_data, Bool.eq_iff_iff]
  simp only [beq_iff_eq, decide_eq_true_eq]
  exact ⟨fun h => ba_ext h, fun h => by rw [h]⟩
theorem beqIw (a b : Int) : (a == b) = decide (a = b) := by rw [Bool.eq_iff_iff]; simp
theorem key_id : KeyOK 157 Idn.v where
  eq a b w := by
    refine (equal_ok (t := 157) (x := Idn.v a) (y := Idn.v b) rfl w).trans ?_
    obtain ⟨a1, a2, a3⟩ := a
    obtain ⟨b1, b2, b3⟩ := b
    congr 1
    simp only [beqSw, beqIw, Idn.mk.injEq]
    rw [Bool.eq_iff_iff]
    simp
  chk a em w := ckC_ok eqS_ok em 20 10000 _ _ w (by omega) rfl
  bits a := by simp [Idn.v, Instr.sameBits, beq_toListBytes]
  now := ⟨_, rfl, fun a b => .inl rfl⟩
theorem identity_ok (e : En) : Enters 80 ∧ Spec Tryz.prog 80 #[e.w] [] [] (RetV e.id.v) := by
  refine ⟨enters_of Tryz.func80 (by kernel_rfl) rfl, spec_of (vs := [_]) Tryz.func80 rfl Tryz.ntmps80 rfl fun G w hp => ?_⟩
  repeat' (first | refine l_run ?_ | refine l_nil ?_ | refine l_one ?_ | refine k_reg ?_ | refine l_ld ?_ | refine l_ldF ?_ | refine l_st ?_ | refine l_al (fun b => ?_) | refine l_bs (fun b => ?_) | refine k_condT ?_ | refine k_condF ?_ | refine k_brk ?_ | (refine l_split (fun hc => ?_) (fun hc => ?_) <;> (try simp at hc)) | (refine k_cond (fun hc => ?_) (fun hc => ?_) <;> (try simp at hc)))
  exact k_ret () rfl trivial

def cmpT (a b : En) : Int := cmpI a.tk b.tk
theorem cmpT_a (a b : En) (h : cmpT a b < 0) : ¬ cmpT b a < 0 := by
  have := (ord_int.anti a.tk b.tk).1 h
  unfold cmpT; omega
theorem cmpT_t (a b d : En) (h1 : ¬ cmpT b a < 0) (h2 : ¬ cmpT d b < 0) : ¬ cmpT d a < 0 := by
  unfold cmpT cmpI at *
  repeat' split at h1
  all_goals (repeat' split at h2)
  all_goals (repeat' split)
  all_goals omega
end Go.Proofs.YtiggkcknmjgicaaGreatDoor

set_option maxRecDepth 10000
namespace Go.Proofs.YtiggkcknmjgicaaGreatDoor
open Go.RowKit

section
variable (b cap : Nat) (q : List Value × (Nat × Nat)) (fv : FuncId) (Fc : Pf) (c : En → En → Int) (W : Wk0 c) (U : En → Prop) (hcmp : ∀ x y, U x → U y → Enters fv ∧ Spec Tryz.prog fv #[x.w, y.w] [Fc] [] (RetV (.int .i64 (c x y))))

include hcmp in
set_option maxHeartbeats 4000000 in
/-- Insertion in a window, exactly. -/
theorem insWE_ok (A M B : List En) (n : Nat) (hn : n = A.length + (M.length + B.length)) (hn2 : n ≤ 1000000) (hq : AxOK (n * 7) q) (hU : ∀ x ∈ A ++ (M ++ B), U x) :
    Enters 130 ∧ Spec Tryz.prog 130 #[.slice (some ⟨b, 0, none⟩) n cap, .int .i64 (A.length : Int), .int .i64 ((A.length + M.length : Nat) : Int), .func (.func fv) #[] #[]] [Fc] [Ax 74 enf b (A ++ (M ++ B)) q]
      ⟨Unit, fun _ => .tuple #[], fun _ => True, fun _ => [], fun _ => [Ax 74 enf b (A ++ (isR c M ++ B)) q]⟩ := by
  have w0 : IntKind.i64.wrap ((A.length : Int) + 1) = ((A.length + 1 : Nat) : Int) := by rw [wrapi (by omega) (by omega)]; omega
  have h1 : M.take 1 ++ (M.drop 1 ++ B) = M ++ B := by rw [← List.append_assoc, List.take_append_drop]
  have h2 : isR c (M.take 1) = M.take 1 := by
    cases M with
    | nil => rfl
    | cons x M => simp [isR, inR]
  refine ⟨enters_of Tryz.func130 (by kernel_rfl) rfl, spec_of (vs := [_, _, _, _]) Tryz.func130 rfl Tryz.ntmps130 rfl fun G w hp => ?_⟩
  repeat' (first | refine l_run ?_ | refine l_nil ?_ | refine l_one ?_ | refine k_reg ?_ | refine l_ld ?_ | refine l_ldF ?_ | refine l_st ?_ | refine l_al (fun b => ?_) | refine l_bs (fun b => ?_) | refine k_condT ?_ | refine k_condF ?_ | refine k_brk ?_ | refine r_run ?_ | refine r_one ?_ | refine r_ld ?_ | refine r_ldF ?_ | refine r_ldN ?_ | refine r_al (fun b => ?_) | refine r_bs (fun b => ?_) | refine r_st ?_ | refine r_end ?_ | refine l_split (fun hc => ?_) (fun hc => ?_) | refine r_split (fun hc => ?_) (fun hc => ?_) | refine k_draw 4 [] [(0, 0), (1, 0), (2, 0), (3, 0), (4, 0), (5, 0), (6, 0), (7, 0), (8, 0), (9, 0), (10, 0), (11, 0), (12, 0), (13, 0), (14, 4), (15, 0), (16, 0)] [] ?_ | refine k_draw 6 [] [(0, 0), (1, 0), (2, 0), (3, 0), (4, 0), (5, 0), (6, 0), (7, 0), (8, 0), (9, 0), (10, 0), (11, 0), (12, 0), (13, 0), (14, 0), (15, 4), (16, 0)] [17] ?_ | refine k_cond (fun hc => ?_) (fun hc => ?_))
  rw [w0]
  refine k_lp (X := { i : Nat // 1 ≤ i ∧ i ≤ max 1 M.length }) (fun i => [(0, .slice (some ⟨b, 0, none⟩) n cap), (1, .int .i64 (A.length : Int)), (2, .int .i64 ((A.length + M.length : Nat) : Int)), (3, .func (.func fv) #[] #[]), (8, .int .i64 ((A.length + i.1 : Nat) : Int))]) (fun _ => [Fc]) (fun i => [Ax 74 enf b (A ++ (isR c (M.take i.1) ++ (M.drop i.1 ++ B))) q]) (fun i => M.length - i.1)
    ⟨1, by omega, by omega⟩ ⟨rfl, rfl, rfl, rfl, rfl, trivial⟩ ?_ (hr := by dsimp only; rw [h2, h1]; exact Sels.cons Sel.here Sels.nil)
  rintro ⟨i, hi1, hi2⟩
  dsimp only at hi1 hi2 ⊢
  by_cases hin : i < M.length
  · obtain ⟨x, hx⟩ : ∃ x, M[i]? = some x := ⟨_, List.getElem?_eq_getElem hin⟩
    have hd : M.drop i = x :: M.drop (i + 1) := by
      rw [List.getElem?_eq_getElem hin] at hx
      rw [← Option.some.inj hx, List.getElem_cons_drop]
    have ht : M.take (i + 1) = M.take i ++ [x] := by rw [List.take_add_one, hx]; rfl
    have hl0 : (isR c (M.take i)).length = i := by rw [isR_len, List.length_take]; omega
    have hUx : U x := hU x (by simp [List.mem_of_getElem? hx])
    have hUP : ∀ p ∈ isR c (M.take i), U p := fun p hp => hU p (by
      have := List.mem_of_mem_take ((isR_perm _).mem_iff.1 hp)
      simp [this])
    have hdl : (M.drop (i + 1)).length = M.length - (i + 1) := List.length_drop
    rw [hd]
    have hR : isR c (M.take (i + 1)) = inR c (isR c (M.take i)) x := by rw [ht, isR_snoc]
    generalize isR c (M.take i) = P0 at *
    generalize hDe : M.drop (i + 1) = D0 at *
    obtain ⟨D, hD⟩ : ∃ D, D = D0 ++ B := ⟨_, rfl⟩
    have hDl : D.length = D0.length + B.length := by rw [hD, List.length_append]
    rw [show (x :: D0 ++ B) = x :: ([] ++ D) by rw [hD]; rfl]
    repeat' (first | refine l_run ?_ | refine l_nil ?_ | refine l_one ?_ | refine k_reg ?_ | refine l_ld ?_ | refine l_ldF ?_ | refine l_st ?_ | refine l_al (fun b => ?_) | refine l_bs (fun b => ?_) | refine k_condT ?_ | refine k_condF ?_ | refine r_run ?_ | refine r_one ?_ | refine r_ld ?_ | refine r_ldF ?_ | refine r_ldN ?_ | refine r_al (fun b => ?_) | refine r_bs (fun b => ?_) | refine r_st ?_ | refine r_end ?_ | (refine l_split (fun hc => ?_) (fun hc => ?_) <;> (try simp at hc) <;> (try omega)) | (refine r_split (fun hc => ?_) (fun hc => ?_) <;> (try simp at hc) <;> (try omega)) | refine k_draw 4 [] [(0, 0), (1, 0), (2, 0), (3, 0), (4, 0), (5, 0), (6, 0), (7, 0), (8, 0), (9, 0), (10, 0), (11, 0), (12, 0), (13, 0), (14, 4), (15, 0), (16, 0)] [] ?_ | refine k_draw 6 [] [(0, 0), (1, 0), (2, 0), (3, 0), (4, 0), (5, 0), (6, 0), (7, 0), (8, 0), (9, 0), (10, 0), (11, 0), (12, 0), (13, 0), (14, 0), (15, 4), (16, 0)] [17] ?_ | (refine k_cond (fun hc => ?_) (fun hc => ?_) <;> (try simp at hc) <;> (try omega)))
    refine k_lp (X := { t : List En × List En // t.1 ++ t.2 = P0 ∧ ∀ s ∈ t.2, c x s < 0 }) (fun t => [(0, .slice (some ⟨b, 0, none⟩) n cap), (1, .int .i64 (A.length : Int)), (2, .int .i64 ((A.length + M.length : Nat) : Int)), (3, .func (.func fv) #[] #[]), (8, .int .i64 ((A.length + i : Nat) : Int)), (9, .int .i64 ((A.length + t.1.1.length : Nat) : Int))]) (fun _ => [Fc]) (fun t => [Ax 74 enf b (A ++ (t.1.1 ++ x :: (t.1.2 ++ D))) q]) (fun t => t.1.1.length)
      ⟨(P0, []), by simp, by simp⟩ ⟨rfl, rfl, rfl, rfl, rfl, (by show look _ _ = some (Value.int .i64 ((A.length + P0.length : Nat) : Int)); rw [hl0]; rfl), trivial⟩ ?_
    rintro ⟨⟨P, S⟩, hPS, hS⟩
    dsimp only at hPS hS ⊢
    have hout : (∀ p, P.getLast? = some p → ¬ c x p < 0) → A ++ (P ++ x :: (S ++ D)) = A ++ (isR c (M.take (i + 1)) ++ (M.drop (i + 1) ++ B)) := fun h2 => by
      rw [hR, hDe, inR_eq hPS hS h2, ← hD]; simp
    have wn : IntKind.i64.wrap (((A.length + i : Nat) : Int) + 1) = ((A.length + (i + 1) : Nat) : Int) := by rw [wrapi (by omega) (by omega)]; omega
    rcases List.eq_nil_or_concat P with hP | ⟨P', p, hP⟩
    · subst hP
      have h1 := hout (by simp)
      rw [h1]
      simp only [List.length_nil, Nat.add_zero]
      repeat' (first | refine l_run ?_ | refine l_nil ?_ | refine l_one ?_ | refine k_reg ?_ | refine l_ld ?_ | refine l_ldF ?_ | refine l_st ?_ | refine l_al (fun b => ?_) | refine l_bs (fun b => ?_) | refine k_condT ?_ | refine k_condF ?_ | refine k_brk ?_ | refine r_run ?_ | refine r_one ?_ | refine r_ld ?_ | refine r_ldF ?_ | refine r_ldN ?_ | refine r_al (fun b => ?_) | refine r_bs (fun b => ?_) | refine r_st ?_ | refine r_end ?_ | (refine l_split (fun hc => ?_) (fun hc => ?_) <;> (try simp at hc) <;> (try omega)) | (refine r_split (fun hc => ?_) (fun hc => ?_) <;> (try simp at hc) <;> (try omega)) | refine k_draw 4 [] [(0, 0), (1, 0), (2, 0), (3, 0), (4, 0), (5, 0), (6, 0), (7, 0), (8, 0), (9, 0), (10, 0), (11, 0), (12, 0), (13, 0), (14, 4), (15, 0), (16, 0)] [] ?_ | refine k_draw 6 [] [(0, 0), (1, 0), (2, 0), (3, 0), (4, 0), (5, 0), (6, 0), (7, 0), (8, 0), (9, 0), (10, 0), (11, 0), (12, 0), (13, 0), (14, 0), (15, 4), (16, 0)] [17] ?_ | (refine k_cond (fun hc => ?_) (fun hc => ?_) <;> (try simp at hc) <;> (try omega)))
      rw [wn]
      exact k_next ⟨i + 1, by omega, by omega⟩ (by show M.length - (i + 1) < M.length - i; omega) ⟨rfl, rfl, rfl, rfl, rfl, trivial⟩
    · rw [List.concat_eq_append] at hP
      subst hP
      have hPl := congrArg List.length hPS
      simp only [List.length_append, List.length_cons, List.length_nil] at hPl
      have hj : ((A.length + (P' ++ [p]).length : Nat) : Int) = (((A ++ P').length : Nat) : Int) + 1 := by simp; omega
      have hAP : (A ++ P').length = A.length + P'.length := List.length_append
      have w1 : IntKind.i64.wrap (((A ++ P').length : Int) + 1 - 1) = ((A ++ P').length : Int) := by
        rw [wrapi (by omega) (by omega)]; omega
      have e1 : A ++ (P' ++ [p] ++ x :: (S ++ D)) = (A ++ P') ++ p :: x :: (S ++ D) := by simp
      have hUp : U p := hUP p (by rw [← hPS]; simp)
      have e2 : A.length + P'.length = (A ++ P').length := hAP.symm
      have e3 : A ++ (P' ++ x :: (p :: S ++ D)) = (A ++ P') ++ x :: p :: (S ++ D) := by simp
      have hSD : (S ++ D).length = S.length + D.length := List.length_append
      rw [hj, e1]
      rw [e1] at hout
      have b0 : decide ((A.length : Int) < ((A ++ P').length : Int) + 1) = true := by simp <;> omega
      have hlen : n = (A ++ P').length + 1 + 1 + (S ++ D).length := by omega
      have hnx : ∀ t : { t : List En × List En // t.1 ++ t.2 = P0 ∧ ∀ s ∈ t.2, c x s < 0 }, True := fun _ => trivial
      clear hnx
      generalize hAPe : A ++ P' = AP at *
      generalize hSDe : S ++ D = SD at *
      have g1 : (AP ++ p :: x :: SD)[AP.length + 1]? = some x := by
        rw [List.getElem?_append_right (by omega)]; simp
      have g0 : (AP ++ p :: x :: SD)[AP.length]? = some p := by
        rw [List.getElem?_append_right (by omega)]; simp
      have g2 : ((AP ++ p :: x :: SD).set (AP.length + 1) p)[AP.length]? = some p := by
        rw [List.getElem?_set_ne (by omega)]; exact g0
      have hl2 : (AP ++ p :: x :: SD).length = n := by simp; omega
      have hq1 : AxOK ((AP ++ p :: x :: SD).length * 7) q := by rw [hl2]; exact hq
      have hq2 : AxOK (((AP ++ p :: x :: SD).set (AP.length + 1) p).length * 7) q := by rw [List.length_set, hl2]; exact hq
      have hj1 : AP.length + 1 < n := by omega
      have hj0 : AP.length < n := by omega
      have sp := hcmp x p hUx hUp
      repeat' (first | refine l_run ?_ | refine l_nil ?_ | refine l_one ?_ | refine k_reg ?_ | refine l_ld ?_ | refine l_ldF ?_ | refine l_st ?_ | refine l_al (fun b => ?_) | refine l_bs (fun b => ?_) | refine k_condT ?_ | refine k_condF ?_ | refine k_brk ?_ | refine r_run ?_ | refine r_one ?_ | refine r_ld ?_ | refine r_ldF ?_ | refine r_ldN ?_ | refine r_al (fun b => ?_) | refine r_bs (fun b => ?_) | refine r_st ?_ | refine r_end ?_ | rw [b0] | rw [w1] | refine r_ixP (m := n) (AP.length + 1) hj1 ?_ | refine r_ixP (m := n) AP.length hj0 ?_ | refine r_ldE 7 (AP.length + 1) 0 g1 ?_ | refine r_ldE 7 AP.length 0 g0 ?_ | refine r_ldEN 7 (AP.length + 1) 0 g1 ?_ | refine r_ldEN 7 AP.length 0 g0 ?_ | refine r_stE 7 (AP.length + 1) 0 p g1 hq1 ?_ | refine r_callF sp (fun _ _ => ?_) | refine l_ixS (m := n) (AP.length + 1) hj1 ?_ | refine l_ixS (m := n) AP.length hj0 ?_ | refine l_stE 7 (AP.length + 1) 0 p g1 hq1 ?_ | refine l_stE 7 AP.length 0 x g2 hq2 ?_ | refine r_up ?_ | (refine l_split (fun hc => ?_) (fun hc => ?_) <;> (try simp at hc) <;> (try omega)) | (refine r_split (fun hc => ?_) (fun hc => ?_) <;> (try simp at hc) <;> (try omega)) | refine k_draw 4 [] [(0, 0), (1, 0), (2, 0), (3, 0), (4, 0), (5, 0), (6, 0), (7, 0), (8, 0), (9, 0), (10, 0), (11, 0), (12, 0), (13, 0), (14, 4), (15, 0), (16, 0)] [] ?_ | refine k_draw 6 [Ax _ _ _ _ _] [(0, 0), (1, 0), (2, 0), (3, 0), (4, 0), (5, 0), (6, 0), (7, 0), (8, 0), (10, 0), (11, 0), (12, 0), (9, 3), (13, 3), (14, 0), (15, 4), (16, 0)] [17] ?_ | (refine k_cond (fun hc => ?_) (fun hc => ?_) <;> (try simp at hc) <;> (try omega)))
      · rw [swap_set, ← e3]
        refine k_next ⟨(P', p :: S), by simpa using hPS, by
          intro s hs
          rcases List.mem_cons.1 hs with rfl | hs
          · exact hc
          · exact hS s hs⟩ (by simp) ⟨rfl, rfl, rfl, rfl, rfl, (by show look _ _ = some (Value.int .i64 ((A.length + P'.length : Nat) : Int)); rw [e2]; rfl), trivial⟩
      · rw [hout (by simpa using hc), wn]
        exact k_next ⟨i + 1, by omega, by omega⟩ (by show M.length - (i + 1) < M.length - i; omega) ⟨rfl, rfl, rfl, rfl, rfl, trivial⟩
  · have e1 : isR c (M.take i) ++ (M.drop i ++ B) = isR c M ++ B := by
      rw [List.take_of_length_le (by omega), List.drop_eq_nil_of_le (by omega)]; rfl
    rw [e1]
    repeat' (first | refine l_run ?_ | refine l_nil ?_ | refine l_one ?_ | refine k_reg ?_ | refine l_ld ?_ | refine l_ldF ?_ | refine l_st ?_ | refine l_al (fun b => ?_) | refine l_bs (fun b => ?_) | refine k_condT ?_ | refine k_condF ?_ | refine k_brk ?_ | refine r_run ?_ | refine r_one ?_ | refine r_ld ?_ | refine r_ldF ?_ | refine r_ldN ?_ | refine r_al (fun b => ?_) | refine r_bs (fun b => ?_) | refine r_st ?_ | refine r_end ?_ | (refine l_split (fun hc => ?_) (fun hc => ?_) <;> (try simp at hc) <;> (try omega)) | (refine r_split (fun hc => ?_) (fun hc => ?_) <;> (try simp at hc) <;> (try omega)) | refine k_draw 4 [] [(0, 0), (1, 0), (2, 0), (3, 0), (4, 0), (5, 0), (6, 0), (7, 0), (8, 0), (9, 0), (10, 0), (11, 0), (12, 0), (13, 0), (14, 4), (15, 0), (16, 0)] [] ?_ | refine k_draw 6 [] [(0, 0), (1, 0), (2, 0), (3, 0), (4, 0), (5, 0), (6, 0), (7, 0), (8, 0), (9, 0), (10, 0), (11, 0), (12, 0), (13, 0), (14, 0), (15, 4), (16, 0)] [17] ?_ | (refine k_cond (fun hc => ?_) (fun hc => ?_) <;> (try simp at hc) <;> (try omega)))
    exact k_end () rfl trivial
end
end Go.Proofs.YtiggkcknmjgicaaGreatDoor

set_option maxRecDepth 10000
namespace Go.Proofs.YtiggkcknmjgicaaGreatDoor
open Go.RowKit

section
variable (bk cap : Nat) (q : List Value × (Nat × Nat)) (fv : FuncId) (Fc : Pf) (c : En → En → Int) (W : Wk0 c) (U : En → Prop) (hcmp : ∀ x y, U x → U y → Enters fv ∧ Spec Tryz.prog fv #[x.w, y.w] [Fc] [] (RetV (.int .i64 (c x y))))

instance inhE : Inhabited En := ⟨⟨⟨#[]⟩, 0, 0, ⟨0, ⟨#[]⟩, ⟨#[]⟩, 0⟩⟩⟩
include hcmp in
theorem ord2E_ok (l : List En) (n : Nat) (hn : n = l.length) (hU : ∀ x ∈ l, U x) (i j : Nat) (hi : i < n) (hj : j < n) (sb : Nat) (z : Int) :
    Enters 213 ∧ Spec Tryz.prog 213 #[.slice (some ⟨bk, 0, none⟩) n cap, .int .i64 (i : Int), .int .i64 (j : Int), .pointer (some ⟨sb, 0, none⟩), .func (.func fv) #[] #[]] [Fc] [Ax 74 enf bk l q, Pt sb (.cells #[.int .i64 z] 3)]
      ⟨{ t : Nat × Nat × Int // (t.1 = i ∧ t.2.1 = j) ∨ (t.1 = j ∧ t.2.1 = i) }, fun t => .tuple #[.int .i64 (t.1.1 : Int), .int .i64 (t.1.2.1 : Int)], fun _ => True, fun _ => [], fun t => [Ax 74 enf bk l q, Pt sb (.cells #[.int .i64 t.1.2.2] 3)]⟩ := by
  have ki : i < l.length := by omega
  have kj : j < l.length := by omega
  have sp := hcmp (gt l j) (gt l i) (hU _ (gt_mem kj)) (hU _ (gt_mem ki))
  refine ⟨enters_of Tryz.func213 (by kernel_rfl) rfl, spec_of (vs := [_, _, _, _, _]) Tryz.func213 rfl Tryz.ntmps213 rfl fun G w hp => ?_⟩
  repeat' (first | refine l_run ?_ | refine l_nil ?_ | refine l_one ?_ | refine k_reg ?_ | refine l_ld ?_ | refine l_ldF ?_ | refine l_st ?_ | refine l_al (fun b => ?_) | refine l_bs (fun b => ?_) | refine k_condT ?_ | refine k_condF ?_ | refine k_brk ?_ | refine r_run ?_ | refine r_one ?_ | refine r_ld ?_ | refine r_ldF ?_ | refine r_ldN ?_ | refine r_al (fun b => ?_) | refine r_bs (fun b => ?_) | refine r_st ?_ | refine r_end ?_ | refine r_ixW (m := n) (i) hi ?_ | refine l_ixW (m := n) (i) hi ?_ | refine r_ixW (m := n) (j) hj ?_ | refine l_ixW (m := n) (j) hj ?_ | refine r_ldE 7 (i) 0 (gt_some ki) ?_ | refine l_ldE 7 (i) 0 (gt_some ki) ?_ | refine r_ldE 7 (j) 0 (gt_some kj) ?_ | refine l_ldE 7 (j) 0 (gt_some kj) ?_ | refine r_callF sp (fun _ _ => ?_) | (refine l_split (fun hc => ?_) (fun hc => ?_) <;> (try simp at hc)) | (refine r_split (fun hc => ?_) (fun hc => ?_) <;> (try simp at hc)) | refine k_draw 1 [] [(0, 0), (1, 0), (2, 0), (3, 0), (4, 0), (5, 0), (6, 0), (7, 0), (8, 0), (9, 4), (10, 0)] [] ?_ | (refine k_cond (fun hc => ?_) (fun hc => ?_) <;> (try simp at hc)))
  · exact k_ret ⟨(j, i, _), .inr ⟨rfl, rfl⟩⟩ rfl trivial
  · exact k_ret ⟨(i, j, _), .inl ⟨rfl, rfl⟩⟩ rfl trivial
include hcmp in
theorem medE_ok (l : List En) (n : Nat) (hn : n = l.length) (hU : ∀ x ∈ l, U x) (i j k : Nat) (hi : i < n) (hj : j < n) (hk : k < n) (sb : Nat) (z : Int) :
    Enters 197 ∧ Spec Tryz.prog 197 #[.slice (some ⟨bk, 0, none⟩) n cap, .int .i64 (i : Int), .int .i64 (j : Int), .int .i64 (k : Int), .pointer (some ⟨sb, 0, none⟩), .func (.func fv) #[] #[]] [Fc] [Ax 74 enf bk l q, Pt sb (.cells #[.int .i64 z] 3)]
      ⟨{ t : Nat × Int // t.1 = i ∨ t.1 = j ∨ t.1 = k }, fun t => .int .i64 (t.1.1 : Int), fun _ => True, fun _ => [], fun t => [Ax 74 enf bk l q, Pt sb (.cells #[.int .i64 t.1.2] 3)]⟩ := by
  have s1 := ord2E_ok bk cap q fv Fc c U hcmp l n hn hU
  refine ⟨enters_of Tryz.func197 (by kernel_rfl) rfl, spec_of (vs := [_, _, _, _, _, _]) Tryz.func197 rfl Tryz.ntmps197 rfl fun G w hp => ?_⟩
  repeat' (first | refine l_run ?_ | refine l_nil ?_ | refine l_one ?_ | refine k_reg ?_ | refine l_ld ?_ | refine l_ldF ?_ | refine l_st ?_ | refine l_al (fun b => ?_) | refine l_bs (fun b => ?_) | refine k_condT ?_ | refine k_condF ?_ | refine k_brk ?_ | refine l_call (s1 i j hi hj _ _) (fun _ _ => ?_) | refine l_call0 (s1 i j hi hj _ _) (fun _ _ => ?_) | (refine l_split (fun hc => ?_) (fun hc => ?_) <;> (try simp at hc)) | (refine k_cond (fun hc => ?_) (fun hc => ?_) <;> (try simp at hc)))
  rename_i t1 _
  obtain ⟨⟨i1, j1, z1⟩, h1⟩ := t1
  dsimp only at h1 ⊢
  have hi1 : i1 < n := by omega
  have hj1 : j1 < n := by omega
  repeat' (first | refine l_run ?_ | refine l_nil ?_ | refine l_one ?_ | refine k_reg ?_ | refine l_ld ?_ | refine l_ldF ?_ | refine l_st ?_ | refine l_al (fun b => ?_) | refine l_bs (fun b => ?_) | refine k_condT ?_ | refine k_condF ?_ | refine k_brk ?_ | refine l_call (s1 j1 k hj1 hk _ _) (fun _ _ => ?_) | refine l_call0 (s1 j1 k hj1 hk _ _) (fun _ _ => ?_) | (refine l_split (fun hc => ?_) (fun hc => ?_) <;> (try simp at hc)) | (refine k_cond (fun hc => ?_) (fun hc => ?_) <;> (try simp at hc)))
  rename_i t2 _
  obtain ⟨⟨j2, k2, z2⟩, h2⟩ := t2
  dsimp only at h2 ⊢
  have hj2 : j2 < n := by omega
  repeat' (first | refine l_run ?_ | refine l_nil ?_ | refine l_one ?_ | refine k_reg ?_ | refine l_ld ?_ | refine l_ldF ?_ | refine l_st ?_ | refine l_al (fun b => ?_) | refine l_bs (fun b => ?_) | refine k_condT ?_ | refine k_condF ?_ | refine k_brk ?_ | refine l_call (s1 i1 j2 hi1 hj2 _ _) (fun _ _ => ?_) | refine l_call0 (s1 i1 j2 hi1 hj2 _ _) (fun _ _ => ?_) | (refine l_split (fun hc => ?_) (fun hc => ?_) <;> (try simp at hc)) | (refine k_cond (fun hc => ?_) (fun hc => ?_) <;> (try simp at hc)))
  rename_i t3 _
  obtain ⟨⟨i3, j3, z3⟩, h3⟩ := t3
  dsimp only at h3 ⊢
  repeat' (first | refine l_run ?_ | refine l_nil ?_ | refine l_one ?_ | refine k_reg ?_ | refine l_ld ?_ | refine l_ldF ?_ | refine l_st ?_ | refine l_al (fun b => ?_) | refine l_bs (fun b => ?_) | refine k_condT ?_ | refine k_condF ?_ | refine k_brk ?_ | (refine l_split (fun hc => ?_) (fun hc => ?_) <;> (try simp at hc)) | (refine k_cond (fun hc => ?_) (fun hc => ?_) <;> (try simp at hc)))
  exact k_ret ⟨(j3, z3), by show j3 = i ∨ j3 = j ∨ j3 = k; omega⟩ rfl trivial
include hcmp in
theorem medAE_ok (l : List En) (n : Nat) (hn : n = l.length) (hn2 : n ≤ 1000000) (hU : ∀ x ∈ l, U x) (j : Nat) (hj0 : 0 < j) (hj : j + 1 < n) (sb : Nat) (z : Int) :
    Enters 196 ∧ Spec Tryz.prog 196 #[.slice (some ⟨bk, 0, none⟩) n cap, .int .i64 (j : Int), .pointer (some ⟨sb, 0, none⟩), .func (.func fv) #[] #[]] [Fc] [Ax 74 enf bk l q, Pt sb (.cells #[.int .i64 z] 3)]
      ⟨{ t : Nat × Int // t.1 ≤ j + 1 ∧ j ≤ t.1 + 1 }, fun t => .int .i64 (t.1.1 : Int), fun _ => True, fun _ => [], fun t => [Ax 74 enf bk l q, Pt sb (.cells #[.int .i64 t.1.2] 3)]⟩ := by
  have s1 := medE_ok bk cap q fv Fc c U hcmp l n hn hU (j - 1) j (j + 1) (by omega) (by omega) hj sb z
  have w1 : IntKind.i64.wrap ((j : Int) - 1) = ((j - 1 : Nat) : Int) := by rw [wrapi (by omega) (by omega)]; omega
  have w2 : IntKind.i64.wrap ((j : Int) + 1) = ((j + 1 : Nat) : Int) := by rw [wrapi (by omega) (by omega)]; omega
  refine ⟨enters_of Tryz.func196 (by kernel_rfl) rfl, spec_of (vs := [_, _, _, _]) Tryz.func196 rfl Tryz.ntmps196 rfl fun G w hp => ?_⟩
  repeat' (first | refine l_run ?_ | refine l_nil ?_ | refine l_one ?_ | refine k_reg ?_ | refine l_ld ?_ | refine l_ldF ?_ | refine l_st ?_ | refine l_al (fun b => ?_) | refine l_bs (fun b => ?_) | refine k_condT ?_ | refine k_condF ?_ | refine k_brk ?_ | refine l_call (s1) (fun _ _ => ?_) | refine l_call0 (s1) (fun _ _ => ?_) | rw [w1] | rw [w2] | (refine l_split (fun hc => ?_) (fun hc => ?_) <;> (try simp at hc)) | (refine k_cond (fun hc => ?_) (fun hc => ?_) <;> (try simp at hc)))
  rename_i t _
  obtain ⟨⟨j1, z1⟩, h1⟩ := t
  exact k_ret ⟨(j1, z1), by omega⟩ rfl trivial
include hcmp in
theorem chpE_ok (l : List En) (n : Nat) (hn : n = l.length) (hn2 : n ≤ 1000000) (hU : ∀ x ∈ l, U x) (a bb : Nat) (hab : a + 12 < bb) (hb : bb ≤ n) :
    Enters 166 ∧ Spec Tryz.prog 166 #[.slice (some ⟨bk, 0, none⟩) n cap, .int .i64 (a : Int), .int .i64 (bb : Int), .func (.func fv) #[] #[]] [Fc] [Ax 74 enf bk l q]
      ⟨{ t : Nat × Int // a ≤ t.1 ∧ t.1 < bb ∧ (t.2 = 0 ∨ t.2 = 1 ∨ t.2 = 2) }, fun t => .tuple #[.int .i64 (t.1.1 : Int), .int .i64 t.1.2], fun _ => True, fun _ => [], fun _ => [Ax 74 enf bk l q]⟩ := by
  have s1 := medE_ok bk cap q fv Fc c U hcmp l n hn hU
  have s2 := medAE_ok bk cap q fv Fc c U hcmp l n hn hn2 hU
  obtain ⟨N, hN⟩ : ∃ N, N = bb - a := ⟨_, rfl⟩
  obtain ⟨p, hp⟩ : ∃ p, p = N / 4 := ⟨_, rfl⟩
  have w0 : IntKind.i64.wrap ((bb : Int) - (a : Int)) = (N : Int) := by rw [wrapi (by omega) (by omega)]; omega
  have w1 : IntKind.i64.wrap ((N : Int).tdiv 4) = (p : Int) := by
    have : (N : Int).tdiv 4 = (p : Int) := by rw [hp]; exact (Int.ofNat_tdiv _ _).symm
    rw [this, wrapi (by omega) (by omega)]
  have v1 : IntKind.i64.wrap ((a : Int) + IntKind.i64.wrap ((p : Int) * 1)) = ((a + p : Nat) : Int) := by simp (disch := omega) only [wrapi]; omega
  have v2 : IntKind.i64.wrap ((a : Int) + IntKind.i64.wrap ((p : Int) * 2)) = ((a + 2 * p : Nat) : Int) := by simp (disch := omega) only [wrapi]; omega
  have v3 : IntKind.i64.wrap ((a : Int) + IntKind.i64.wrap ((p : Int) * 3)) = ((a + 3 * p : Nat) : Int) := by simp (disch := omega) only [wrapi]; omega
  have r1 := s1 (a + p) (a + 2 * p) (a + 3 * p) (by omega) (by omega) (by omega)
  have r2 := s2 (a + p) (by omega) (by omega)
  have r3 := s2 (a + 2 * p) (by omega) (by omega)
  have r4 := s2 (a + 3 * p) (by omega) (by omega)
  refine ⟨enters_of Tryz.func166 (by kernel_rfl) rfl, spec_of (vs := [_, _, _, _]) Tryz.func166 rfl Tryz.ntmps166 rfl fun G w hp => ?_⟩
  refine k_cutd (Y := { t : Nat × Int × Nat // a ≤ t.1 ∧ t.1 < bb }) 7 (fun y => [(0, .slice (some ⟨bk, 0, none⟩) n cap), (3, .func (.func fv) #[] #[]), (13, .int .i64 (y.1.1 : Int)), (11, .pointer (some ⟨y.1.2.2, 0, none⟩))]) (fun _ => [Fc]) (fun y => [Ax 74 enf bk l q, Pt y.1.2.2 (.cells #[.int .i64 y.1.2.1] 3)]) ?_ ?_
  · rintro ⟨⟨j, z, sb⟩, h1, h2⟩
    dsimp only at h1 h2 ⊢
    repeat' (first | refine l_run ?_ | refine l_nil ?_ | refine l_one ?_ | refine k_reg ?_ | refine l_ld ?_ | refine l_ldF ?_ | refine l_st ?_ | refine l_al (fun b => ?_) | refine l_bs (fun b => ?_) | refine k_condT ?_ | refine k_condF ?_ | refine k_brk ?_ | (refine l_split (fun hc => ?_) (fun hc => ?_) <;> (try simp at hc)) | (refine k_cond (fun hc => ?_) (fun hc => ?_) <;> (try simp at hc)))
    · exact k_ret ⟨(j, 1), h1, h2, .inr (.inl rfl)⟩ rfl trivial
    · exact k_ret ⟨(j, 2), h1, h2, .inr (.inr rfl)⟩ rfl trivial
    · exact k_ret ⟨(j, 0), h1, h2, .inl rfl⟩ rfl trivial
  · intro hx
    repeat' (first | refine k_skp ?_ | refine k_to hx ⟨(_, _, _), ?_⟩ ⟨rfl, rfl, rfl, rfl, trivial⟩ | refine l_run ?_ | refine l_nil ?_ | refine l_one ?_ | refine k_reg ?_ | refine l_ld ?_ | refine l_ldF ?_ | refine l_st ?_ | refine l_al (fun b => ?_) | refine l_bs (fun b => ?_) | refine k_condT ?_ | refine k_condF ?_ | refine k_brk ?_ | refine l_call (r1 _ _) (fun _ _ => ?_) | refine l_call0 (r1 _ _) (fun _ _ => ?_) | refine l_call (r2 _ _) (fun _ _ => ?_) | refine l_call0 (r2 _ _) (fun _ _ => ?_) | refine l_call (r3 _ _) (fun _ _ => ?_) | refine l_call0 (r3 _ _) (fun _ _ => ?_) | refine l_call (r4 _ _) (fun _ _ => ?_) | refine l_call0 (r4 _ _) (fun _ _ => ?_) | rw [w0] | rw [w1] | rw [v1] | rw [v2] | rw [v3] | (refine l_split (fun hc => ?_) (fun hc => ?_) <;> (try simp at hc) <;> (try omega)) | (refine k_cond (fun hc => ?_) (fun hc => ?_) <;> (try simp at hc) <;> (try omega)))
    · rename_i t1 _ t2 _ t3 _
      obtain ⟨⟨i1, z1⟩, g1⟩ := t1
      obtain ⟨⟨i2, z2⟩, g2⟩ := t2
      obtain ⟨⟨i3, z3⟩, g3⟩ := t3
      dsimp only at g1 g2 g3 ⊢
      have r5 := s1 i1 i2 i3 (by omega) (by omega) (by omega)
      repeat' (first | refine k_skp ?_ | refine k_to hx ⟨(_, _, _), ?_⟩ ⟨rfl, rfl, rfl, rfl, trivial⟩ | refine l_run ?_ | refine l_nil ?_ | refine l_one ?_ | refine k_reg ?_ | refine l_ld ?_ | refine l_ldF ?_ | refine l_st ?_ | refine l_al (fun b => ?_) | refine l_bs (fun b => ?_) | refine k_condT ?_ | refine k_condF ?_ | refine k_brk ?_ | refine l_call (r5 _ _) (fun _ _ => ?_) | refine l_call0 (r5 _ _) (fun _ _ => ?_) | (refine l_split (fun hc => ?_) (fun hc => ?_) <;> (try simp at hc)) | (refine k_cond (fun hc => ?_) (fun hc => ?_) <;> (try simp at hc)))
      rename_i t4 _
      obtain ⟨⟨i4, z4⟩, g4⟩ := t4
      dsimp only at g4 ⊢
      omega
    · rename_i t4 _
      obtain ⟨⟨i4, z4⟩, g4⟩ := t4
      dsimp only at g4 ⊢
      omega
end
end Go.Proofs.YtiggkcknmjgicaaGreatDoor

set_option maxRecDepth 10000
namespace Go.Proofs.YtiggkcknmjgicaaGreatDoor
open Go.RowKit

section
variable (bk cap : Nat) (q : List Value × (Nat × Nat)) (fv : FuncId) (Fc : Pf) (c : En → En → Int) (W : Wk0 c) (U : En → Prop) (hcmp : ∀ x y, U x → U y → Enters fv ∧ Spec Tryz.prog fv #[x.w, y.w] [Fc] [] (RetV (.int .i64 (c x y))))

theorem revE_ok (l : List En) (n : Nat) (hn : n = l.length) (hn2 : n ≤ 1000000) (hq : AxOK (n * 7) q) (a b : Nat) (hab : a < b) (hb : b ≤ n) :
    Enters 167 ∧ Spec Tryz.prog 167 #[.slice (some ⟨bk, 0, none⟩) n cap, .int .i64 (a : Int), .int .i64 (b : Int), .func (.func fv) #[] #[]] [Fc] [Ax 74 enf bk l q]
      ⟨{ l' : List En // Win a b l l' }, fun _ => .tuple #[], fun _ => True, fun _ => [], fun l' => [Ax 74 enf bk l'.1 q]⟩ := by
  have w0 : IntKind.i64.wrap ((b : Int) - 1) = ((b - 1 : Nat) : Int) := by rw [wrapi (by omega) (by omega)]; omega
  refine ⟨enters_of Tryz.func167 (by kernel_rfl) rfl, spec_of (vs := [_, _, _, _]) Tryz.func167 rfl Tryz.ntmps167 rfl fun G w hp => ?_⟩
  repeat' (first | refine l_run ?_ | refine l_nil ?_ | refine l_one ?_ | refine k_reg ?_ | refine l_ld ?_ | refine l_ldF ?_ | refine l_st ?_ | refine l_al (fun b => ?_) | refine l_bs (fun b => ?_) | refine k_condT ?_ | refine k_condF ?_ | refine r_run ?_ | refine r_one ?_ | refine r_ld ?_ | refine r_ldF ?_ | refine r_ldN ?_ | refine r_al (fun b => ?_) | refine r_bs (fun b => ?_) | refine r_st ?_ | refine r_end ?_ | rw [w0] | (refine l_split (fun hc => ?_) (fun hc => ?_) <;> (try simp at hc)) | (refine r_split (fun hc => ?_) (fun hc => ?_) <;> (try simp at hc)) | refine k_draw 3 [] [(0, 0), (1, 0), (2, 0), (3, 0), (4, 0), (5, 0), (6, 0), (7, 0), (8, 0), (9, 0), (10, 0), (11, 0), (12, 0), (13, 4), (14, 0)] [15] ?_ | (refine k_cond (fun hc => ?_) (fun hc => ?_) <;> (try simp at hc)))
  refine k_lp (X := { t : Nat × Nat × List En // a ≤ t.1 ∧ t.2.1 < b ∧ t.1 ≤ t.2.1 + 1 ∧ Win a b l t.2.2 }) (fun t => [(0, .slice (some ⟨bk, 0, none⟩) n cap), (8, .int .i64 (t.1.1 : Int)), (9, .int .i64 (t.1.2.1 : Int))]) (fun _ => [Fc]) (fun t => [Ax 74 enf bk t.1.2.2 q]) (fun t => t.1.2.1 + 1 - t.1.1)
    ⟨(a, b - 1, l), by omega, by show b - 1 < b; omega, by show a ≤ b - 1 + 1; omega, Win.refl⟩ ⟨rfl, rfl, rfl, trivial⟩ ?_
  rintro ⟨⟨i, j, m⟩, h1, h2, h3, h4⟩
  dsimp only at h1 h2 h3 h4 ⊢
  have hl := h4.len
  by_cases hij : i < j
  · have hi : i < n := by omega
    have hj : j < n := by omega
    have ki : i < m.length := by omega
    have kj : j < m.length := by omega
    have kj2 : j < (m.set i (gt m j)).length := by rw [List.length_set]; exact kj
    have hq1 : AxOK (m.length * 7) q := by rw [hl, ← hn]; exact hq
    have hq2 : AxOK ((m.set i (gt m j)).length * 7) q := by rw [List.length_set]; exact hq1
    have w1 : IntKind.i64.wrap ((i : Int) + 1) = ((i + 1 : Nat) : Int) := by rw [wrapi (by omega) (by omega)]; omega
    have w2 : IntKind.i64.wrap ((j : Int) - 1) = ((j - 1 : Nat) : Int) := by rw [wrapi (by omega) (by omega)]; omega
    repeat' (first | refine l_run ?_ | refine l_nil ?_ | refine l_one ?_ | refine k_reg ?_ | refine l_ld ?_ | refine l_ldF ?_ | refine l_st ?_ | refine l_al (fun b => ?_) | refine l_bs (fun b => ?_) | refine k_condT ?_ | refine k_condF ?_ | refine k_brk ?_ | refine r_run ?_ | refine r_one ?_ | refine r_ld ?_ | refine r_ldF ?_ | refine r_ldN ?_ | refine r_al (fun b => ?_) | refine r_bs (fun b => ?_) | refine r_st ?_ | refine r_end ?_ | refine r_ixW (m := n) (i) hi ?_ | refine l_ixW (m := n) (i) hi ?_ | refine r_ixW (m := n) (j) hj ?_ | refine l_ixW (m := n) (j) hj ?_ | refine r_ldEN 7 (i) 0 (gt_some ki) ?_ | refine r_ldEN 7 (j) 0 (gt_some kj) ?_ | refine r_stE 7 (i) 0 (gt m (j)) (gt_some ki) hq1 ?_ | refine l_stE 7 (i) 0 (gt m (j)) (gt_some ki) hq1 ?_ | refine l_stE 7 (j) 0 (gt m (i)) (gt_some kj2) hq2 ?_ | rw [w1] | rw [w2] | refine r_up ?_ | (refine l_split (fun hc => ?_) (fun hc => ?_) <;> (try simp at hc) <;> (try omega)) | (refine r_split (fun hc => ?_) (fun hc => ?_) <;> (try simp at hc) <;> (try omega)) | refine k_draw 3 [Ax _ _ _ _ _] [(0, 0), (1, 0), (2, 0), (3, 0), (4, 0), (5, 0), (6, 0), (8, 0), (9, 0), (10, 0), (7, 3), (11, 3), (12, 0), (13, 4), (14, 0)] [15] ?_ | (refine k_cond (fun hc => ?_) (fun hc => ?_) <;> (try simp at hc) <;> (try omega)))
    exact k_next ⟨(i + 1, j - 1, sw m i j), by show a ≤ i + 1; omega, by show j - 1 < b; omega, by show i + 1 ≤ j - 1 + 1; omega, h4.trans (Win.sw h1 (by omega) (by omega) h2 (by omega))⟩ (by show j - 1 + 1 - (i + 1) < j + 1 - i; omega) ⟨rfl, rfl, rfl, trivial⟩
  · repeat' (first | refine l_run ?_ | refine l_nil ?_ | refine l_one ?_ | refine k_reg ?_ | refine l_ld ?_ | refine l_ldF ?_ | refine l_st ?_ | refine l_al (fun b => ?_) | refine l_bs (fun b => ?_) | refine k_condT ?_ | refine k_condF ?_ | refine k_brk ?_ | (refine l_split (fun hc => ?_) (fun hc => ?_) <;> (try simp at hc) <;> (try omega)) | (refine k_cond (fun hc => ?_) (fun hc => ?_) <;> (try simp at hc) <;> (try omega)))
    exact k_end ⟨m, h4⟩ rfl trivial

set_option maxHeartbeats 4000000 in
theorem brkE_ok (l : List En) (n : Nat) (hn : n = l.length) (hn2 : n < 256) (hq : AxOK (n * 7) q) (a bb : Nat) (hab : a + 12 < bb) (hb : bb ≤ n) :
    Enters 165 ∧ Spec Tryz.prog 165 #[.slice (some ⟨bk, 0, none⟩) n cap, .int .i64 (a : Int), .int .i64 (bb : Int), .func (.func fv) #[] #[]] [Fc] [Ax 74 enf bk l q]
      ⟨{ l' : List En // Win a bb l l' }, fun _ => .tuple #[], fun _ => True, fun _ => [], fun l' => [Ax 74 enf bk l'.1 q]⟩ := by
  obtain ⟨N, hN⟩ : ∃ N, N = bb - a := ⟨_, rfl⟩
  obtain ⟨p, hp⟩ : ∃ p, p = N / 4 := ⟨_, rfl⟩
  have w0 : IntKind.i64.wrap ((bb : Int) - (a : Int)) = (N : Int) := by rw [wrapi (by omega) (by omega)]; omega
  have w1 : IntKind.i64.wrap ((N : Int).tdiv 4) = (p : Int) := by
    have : (N : Int).tdiv 4 = (p : Int) := by rw [hp]; exact (Int.ofNat_tdiv _ _).symm
    rw [this, wrapi (by omega) (by omega)]
  have w2 : IntKind.i64.wrap (IntKind.i64.wrap ((a : Int) + IntKind.i64.wrap ((p : Int) * 2)) - 1) = ((a + 2 * p - 1 : Nat) : Int) := by simp (disch := omega) only [wrapi]; omega
  have w3 : IntKind.i64.wrap (IntKind.i64.wrap ((a : Int) + IntKind.i64.wrap ((p : Int) * 2)) + 1) = ((a + 2 * p + 1 : Nat) : Int) := by simp (disch := omega) only [wrapi]; omega
  have w4 : IntKind.u64.wrap (N : Int) = (N : Int) := wrap64 (by omega)
  have s1 := pow2_ok N (by omega)
  have s2 := xnext_ok
  refine ⟨enters_of Tryz.func165 (by kernel_rfl) rfl, spec_of (vs := [_, _, _, _]) Tryz.func165 rfl Tryz.ntmps165 rfl fun G w hp => ?_⟩
  repeat' (first | refine l_run ?_ | refine l_nil ?_ | refine l_one ?_ | refine k_reg ?_ | refine l_ld ?_ | refine l_ldF ?_ | refine l_st ?_ | refine l_al (fun b => ?_) | refine l_bs (fun b => ?_) | refine k_condT ?_ | refine k_condF ?_ | refine l_call (s1) (fun _ _ => ?_) | refine l_call0 (s1) (fun _ _ => ?_) | rw [w0] | rw [w1] | rw [w2] | rw [w4] | (refine l_split (fun hc => ?_) (fun hc => ?_) <;> (try simp at hc) <;> (try omega)) | (refine k_cond (fun hc => ?_) (fun hc => ?_) <;> (try simp at hc) <;> (try omega)))
  rename_i cc _
  obtain ⟨cc, hcc⟩ := cc
  dsimp only
  unfold LenP at hcc
  rw [Bool.and_eq_true, Bool.and_eq_true, Bool.or_eq_true] at hcc
  have hc8 : cc ≤ 8 := Nat.le_of_ble_eq_true hcc.1
  have hcN : N < 2 ^ cc := by
    have := hcc.2.1
    unfold Nat.blt at this
    exact Nat.le_of_ble_eq_true this
  have hcN2 : 2 ^ cc ≤ 2 * N := by
    rcases hcc.2.2 with h | h
    · exact Nat.le_of_ble_eq_true h
    · have := Nat.eq_of_beq_eq_true h; omega
  clear hcc
  generalize hM : 2 ^ cc = M at hcN hcN2
  refine k_lp (X := { t : Nat × Int × List En // a + 2 * p - 1 ≤ t.1 ∧ t.1 ≤ a + 2 * p + 2 ∧ Win a bb l t.2.2 }) (fun t => [(0, .slice (some ⟨bk, 0, none⟩) n cap), (1, .int .i64 (a : Int)), (8, .int .i64 (N : Int)), (9, .pointer (some ⟨b, 0, none⟩)), (10, .int .u64 (M : Int)), (11, .int .i64 (t.1.1 : Int))]) (fun _ => [Fc]) (fun t => [Ax 74 enf bk t.1.2.2 q, Pt b (.cells #[.int .u64 t.1.2.1] 276)]) (fun t => a + 2 * p + 2 - t.1.1)
    ⟨(a + 2 * p - 1, _, l), Nat.le_refl _, by show a + 2 * p - 1 ≤ _; omega, Win.refl⟩ ⟨rfl, rfl, rfl, rfl, rfl, rfl, trivial⟩ ?_
  rintro ⟨⟨i, z, m⟩, h1, h2, h3⟩
  dsimp only at h1 h2 h3 ⊢
  have hl := h3.len
  by_cases hi0 : i ≤ a + 2 * p + 1
  · have w5 : IntKind.i64.wrap ((i : Int) + 1) = ((i + 1 : Nat) : Int) := by simp (disch := omega) only [wrapi]; omega
    have b0 : decide ((i : Int) ≤ ((a + 2 * p + 1 : Nat) : Int)) = true := decide_eq_true (by omega)
    repeat' (first | refine l_run ?_ | refine l_nil ?_ | refine l_one ?_ | refine k_reg ?_ | refine l_ld ?_ | refine l_ldF ?_ | refine l_st ?_ | refine l_al (fun b => ?_) | refine l_bs (fun b => ?_) | refine k_condT ?_ | refine k_condF ?_ | refine k_brk ?_ | refine l_call (s2 _ _) (fun _ _ => ?_) | refine l_call0 (s2 _ _) (fun _ _ => ?_) | rw [w1] | rw [w3] | rw [b0] | (refine l_split (fun hc => ?_) (fun hc => ?_) <;> (try simp at hc)))
    rename_i z2 _
    obtain ⟨o, ho, he⟩ := and_low z2 (M : Int) cc hc8 (by rw [hM])
    rw [hM] at ho
    dsimp only
    rw [he]
    have hi : i < n := by omega
    have ki : i < m.length := by omega
    have hq1 : AxOK (m.length * 7) q := by rw [hl, ← hn]; exact hq
    have hq2 : ∀ y, AxOK ((m.set i y).length * 7) q := fun y => by rw [List.length_set]; exact hq1
    by_cases hoN : N ≤ o
    · have w6 : IntKind.i64.wrap ((o : Int) - (N : Int)) = ((o - N : Nat) : Int) := by simp (disch := omega) only [wrapi]; omega
      have hj : a + (o - N) < n := by omega
      have kj : a + (o - N) < m.length := by omega
      have kj2 : a + (o - N) < (m.set i (gt m (a + (o - N)))).length := by rw [List.length_set]; exact kj
      repeat' (first | refine l_run ?_ | refine l_nil ?_ | refine l_one ?_ | refine k_reg ?_ | refine l_ld ?_ | refine l_ldF ?_ | refine l_st ?_ | refine l_al (fun b => ?_) | refine l_bs (fun b => ?_) | refine k_condT ?_ | refine k_condF ?_ | refine k_brk ?_ | refine r_run ?_ | refine r_one ?_ | refine r_ld ?_ | refine r_ldF ?_ | refine r_ldN ?_ | refine r_al (fun b => ?_) | refine r_bs (fun b => ?_) | refine r_st ?_ | refine r_end ?_ | rw [w6] | rw [w5] | refine r_ixW (m := n) (i) hi ?_ | refine l_ixW (m := n) (i) hi ?_ | refine r_ixW (m := n) (a + (o - N)) hj ?_ | refine l_ixW (m := n) (a + (o - N)) hj ?_ | refine r_ldEN 7 (i) 0 (gt_some ki) ?_ | refine r_ldEN 7 (a + (o - N)) 0 (gt_some kj) ?_ | refine r_stE 7 (i) 0 (gt m (a + (o - N))) (gt_some ki) hq1 ?_ | refine l_stE 7 (i) 0 (gt m (a + (o - N))) (gt_some ki) hq1 ?_ | refine l_stE 7 (a + (o - N)) 0 (gt m (i)) (gt_some kj2) (hq2 _) ?_ | refine r_up ?_ | (refine l_split (fun hc => ?_) (fun hc => ?_) <;> (try simp at hc) <;> (try omega)) | (refine r_split (fun hc => ?_) (fun hc => ?_) <;> (try simp at hc) <;> (try omega)) | refine k_draw 10 [Ax _ _ _ _ _] [(0, 0), (1, 0), (2, 0), (3, 0), (4, 0), (5, 0), (6, 0), (7, 0), (8, 0), (9, 0), (10, 0), (12, 0), (13, 0), (14, 0), (11, 3), (15, 3), (16, 0), (17, 4), (18, 0)] [19] ?_ | (refine k_cond (fun hc => ?_) (fun hc => ?_) <;> (try simp at hc) <;> (try omega)))
      exact k_next ⟨(i + 1, z2, sw m i (a + (o - N))), by show _ ≤ i + 1; omega, by show i + 1 ≤ _; omega, h3.trans (Win.sw (by omega) (by omega) (by omega) (by omega) (by omega))⟩ (by show a + 2 * p + 2 - (i + 1) < a + 2 * p + 2 - i; omega) ⟨rfl, rfl, rfl, rfl, rfl, rfl, trivial⟩
    · have hj : a + o < n := by omega
      have kj : a + o < m.length := by omega
      have kj2 : a + o < (m.set i (gt m (a + o))).length := by rw [List.length_set]; exact kj
      repeat' (first | refine l_run ?_ | refine l_nil ?_ | refine l_one ?_ | refine k_reg ?_ | refine l_ld ?_ | refine l_ldF ?_ | refine l_st ?_ | refine l_al (fun b => ?_) | refine l_bs (fun b => ?_) | refine k_condT ?_ | refine k_condF ?_ | refine k_brk ?_ | refine r_run ?_ | refine r_one ?_ | refine r_ld ?_ | refine r_ldF ?_ | refine r_ldN ?_ | refine r_al (fun b => ?_) | refine r_bs (fun b => ?_) | refine r_st ?_ | refine r_end ?_ | rw [w5] | refine r_ixW (m := n) (i) hi ?_ | refine l_ixW (m := n) (i) hi ?_ | refine r_ixW (m := n) (a + o) hj ?_ | refine l_ixW (m := n) (a + o) hj ?_ | refine r_ldEN 7 (i) 0 (gt_some ki) ?_ | refine r_ldEN 7 (a + o) 0 (gt_some kj) ?_ | refine r_stE 7 (i) 0 (gt m (a + o)) (gt_some ki) hq1 ?_ | refine l_stE 7 (i) 0 (gt m (a + o)) (gt_some ki) hq1 ?_ | refine l_stE 7 (a + o) 0 (gt m (i)) (gt_some kj2) (hq2 _) ?_ | refine r_up ?_ | (refine l_split (fun hc => ?_) (fun hc => ?_) <;> (try simp at hc) <;> (try omega)) | (refine r_split (fun hc => ?_) (fun hc => ?_) <;> (try simp at hc) <;> (try omega)) | refine k_draw 10 [Ax _ _ _ _ _] [(0, 0), (1, 0), (2, 0), (3, 0), (4, 0), (5, 0), (6, 0), (7, 0), (8, 0), (9, 0), (10, 0), (12, 0), (13, 0), (14, 0), (11, 3), (15, 3), (16, 0), (17, 4), (18, 0)] [19] ?_ | (refine k_cond (fun hc => ?_) (fun hc => ?_) <;> (try simp at hc) <;> (try omega)))
      exact k_next ⟨(i + 1, z2, sw m i (a + o)), by show _ ≤ i + 1; omega, by show i + 1 ≤ _; omega, h3.trans (Win.sw (by omega) (by omega) (by omega) (by omega) (by omega))⟩ (by show a + 2 * p + 2 - (i + 1) < a + 2 * p + 2 - i; omega) ⟨rfl, rfl, rfl, rfl, rfl, rfl, trivial⟩
  · repeat' (first | refine l_run ?_ | refine l_nil ?_ | refine l_one ?_ | refine k_reg ?_ | refine l_ld ?_ | refine l_ldF ?_ | refine l_st ?_ | refine l_al (fun b => ?_) | refine l_bs (fun b => ?_) | refine k_condT ?_ | refine k_condF ?_ | refine k_brk ?_ | rw [w1] | rw [w3] | (refine l_split (fun hc => ?_) (fun hc => ?_) <;> (try simp at hc) <;> (try omega)) | (refine k_cond (fun hc => ?_) (fun hc => ?_) <;> (try simp at hc) <;> (try omega)))
    exact k_end ⟨m, h3⟩ rfl trivial

include hcmp W in
set_option maxHeartbeats 4000000 in
theorem siftE_ok (l : List En) (n : Nat) (hn : n = l.length) (hn2 : n ≤ 1000000) (hq : AxOK (n * 7) q) (hU : ∀ x ∈ l, U x) (lo hi f : Nat) (hlo : lo ≤ 1000000) (hf : f + hi ≤ n) (hpp : Hp c f lo hi lo l) :
    Enters 195 ∧ Spec Tryz.prog 195 #[.slice (some ⟨bk, 0, none⟩) n cap, .int .i64 (lo : Int), .int .i64 (hi : Int), .int .i64 (f : Int), .func (.func fv) #[] #[]] [Fc] [Ax 74 enf bk l q]
      ⟨{ l' : List En // Win f (f + hi) l l' ∧ He c f lo hi l' }, fun _ => .tuple #[], fun _ => True, fun _ => [], fun l' => [Ax 74 enf bk l'.1 q]⟩ := by
  refine ⟨enters_of Tryz.func195 (by kernel_rfl) rfl, spec_of (vs := [_, _, _, _, _]) Tryz.func195 rfl Tryz.ntmps195 rfl fun G w hp => ?_⟩
  repeat' (first | refine l_run ?_ | refine l_nil ?_ | refine l_one ?_ | refine k_reg ?_ | refine l_ld ?_ | refine l_ldF ?_ | refine l_st ?_ | refine l_al (fun b => ?_) | refine l_bs (fun b => ?_) | refine k_condT ?_ | refine k_condF ?_ | refine r_run ?_ | refine r_one ?_ | refine r_ld ?_ | refine r_ldF ?_ | refine r_ldN ?_ | refine r_al (fun b => ?_) | refine r_bs (fun b => ?_) | refine r_st ?_ | refine r_end ?_ | (refine l_split (fun hc => ?_) (fun hc => ?_) <;> (try simp at hc)) | (refine r_split (fun hc => ?_) (fun hc => ?_) <;> (try simp at hc)) | refine k_draw 3 [] [(0, 0), (1, 0), (2, 0), (3, 0), (4, 0), (5, 0), (6, 0), (7, 0), (8, 0), (9, 0), (10, 0), (11, 0), (12, 0), (13, 0), (14, 0), (15, 0), (16, 0), (17, 0), (18, 0), (19, 4), (20, 0), (21, 0)] [] ?_ | refine k_draw 5 [] [(0, 0), (1, 0), (2, 0), (3, 0), (4, 0), (5, 0), (6, 0), (7, 0), (8, 0), (9, 0), (10, 0), (11, 0), (12, 0), (13, 4), (14, 0), (15, 0)] [] ?_ | refine k_draw 6 [] [(0, 0), (1, 0), (2, 0), (3, 0), (4, 0), (5, 0), (6, 0), (7, 0), (8, 0), (9, 0), (10, 0), (11, 0), (12, 0), (13, 0), (14, 0), (15, 0), (16, 0), (17, 0), (18, 0), (19, 0), (20, 0), (21, 4), (22, 0)] [23] ?_ | (refine k_cond (fun hc => ?_) (fun hc => ?_) <;> (try simp at hc)))
  refine k_lp (X := { t : Nat × List En // lo ≤ t.1 ∧ t.1 ≤ 1000000 ∧ Win f (f + hi) l t.2 ∧ Hp c f lo hi t.1 t.2 ∧ Hq c f lo hi t.1 t.2 }) (fun t => [(0, .slice (some ⟨bk, 0, none⟩) n cap), (2, .int .i64 (hi : Int)), (3, .int .i64 (f : Int)), (4, .func (.func fv) #[] #[]), (10, .int .i64 (t.1.1 : Int))]) (fun _ => [Fc]) (fun t => [Ax 74 enf bk t.1.2 q]) (fun t => hi - t.1.1)
    ⟨(lo, l), Nat.le_refl _, hlo, Win.refl, hpp, fun i j h1 h2 h3 h4 => by omega⟩ ⟨rfl, rfl, rfl, rfl, rfl, trivial⟩ ?_
  rintro ⟨⟨x, m⟩, h1, h2, h3, h4, h5⟩
  dsimp only at h1 h2 h3 h4 h5 ⊢
  have hl := h3.len
  have w1 : IntKind.i64.wrap (IntKind.i64.wrap (2 * (x : Int)) + 1) = ((2 * x + 1 : Nat) : Int) := by simp (disch := omega) only [wrapi]; omega
  have w2 : IntKind.i64.wrap (((2 * x + 1 : Nat) : Int) + 1) = ((2 * x + 2 : Nat) : Int) := by simp (disch := omega) only [wrapi]; omega
  by_cases h0 : 2 * x + 1 < hi
  · have hi0 : f + x < n := by omega
    have hi1 : f + (2 * x + 1) < n := by omega
    have ki0 : f + x < m.length := by omega
    have ki1 : f + (2 * x + 1) < m.length := by omega
    have hq1 : AxOK (m.length * 7) q := by rw [hl, ← hn]; exact hq
    have hUm := h3.sub hU
    have hq2 : ∀ y, AxOK ((m.set (f + x) y).length * 7) q := fun y => by rw [List.length_set]; exact hq1
    have kx1 : ∀ y, f + (2 * x + 1) < (m.set (f + x) y).length := fun y => by rw [List.length_set]; exact ki1
    have sp1 := hcmp (gt m (f + x)) (gt m (f + (2 * x + 1))) (hUm _ (gt_mem ki0)) (hUm _ (gt_mem ki1))
    have fin : ∀ y, (y = 2 * x + 1 ∨ y = 2 * x + 2) → y < hi → (∀ z, (z = 2 * x + 1 ∨ z = 2 * x + 2) → z < hi → ¬ c (gt m (f + y)) (gt m (f + z)) < 0) →
        (¬ c (gt m (f + x)) (gt m (f + y)) < 0 → He c f lo hi m) ∧ (c (gt m (f + x)) (gt m (f + y)) < 0 → Win f (f + hi) l (sw m (f + x) (f + y)) ∧ Hp c f lo hi y (sw m (f + x) (f + y)) ∧ Hq c f lo hi y (sw m (f + x) (f + y))) := fun y hy hyh hmax =>
      ⟨fun hn => h4.stop fun z hz hzh => W.t _ _ _ (hmax z hz hzh) hn, fun hlt => ⟨h3.trans (Win.sw (by omega) (by omega) (by omega) (by omega) (by omega)), Hp.step W h4 h5 h1 hy hyh (by omega) hlt hmax⟩⟩
    by_cases h6 : 2 * x + 2 < hi
    · have hi2 : f + (2 * x + 2) < n := by omega
      have ki2 : f + (2 * x + 2) < m.length := by omega
      have kx2 : ∀ y, f + (2 * x + 2) < (m.set (f + x) y).length := fun y => by rw [List.length_set]; exact ki2
      have sp2 := hcmp (gt m (f + x)) (gt m (f + (2 * x + 2))) (hUm _ (gt_mem ki0)) (hUm _ (gt_mem ki2))
      have sp3 := hcmp (gt m (f + (2 * x + 1))) (gt m (f + (2 * x + 2))) (hUm _ (gt_mem ki1)) (hUm _ (gt_mem ki2))
      by_cases h7 : c (gt m (f + (2 * x + 1))) (gt m (f + (2 * x + 2))) < 0
      · obtain ⟨f1, f2⟩ := fin (2 * x + 2) (.inr rfl) h6 (fun z hz hzh => by
          rcases hz with rfl | rfl
          · exact W.a _ _ h7
          · exact W.i _)
        repeat' (first | refine l_run ?_ | refine l_nil ?_ | refine l_one ?_ | refine k_reg ?_ | refine l_ld ?_ | refine l_ldF ?_ | refine l_st ?_ | refine l_al (fun b => ?_) | refine l_bs (fun b => ?_) | refine k_condT ?_ | refine k_condF ?_ | refine k_brk ?_ | refine r_run ?_ | refine r_one ?_ | refine r_ld ?_ | refine r_ldF ?_ | refine r_ldN ?_ | refine r_al (fun b => ?_) | refine r_bs (fun b => ?_) | refine r_st ?_ | refine r_end ?_ | rw [w1] | rw [w2] | refine r_ixW (m := n) (f + x) hi0 ?_ | refine l_ixW (m := n) (f + x) hi0 ?_ | refine r_ixW (m := n) (f + (2 * x + 1)) hi1 ?_ | refine l_ixW (m := n) (f + (2 * x + 1)) hi1 ?_ | refine r_ixW (m := n) (f + (2 * x + 2)) hi2 ?_ | refine l_ixW (m := n) (f + (2 * x + 2)) hi2 ?_ | refine r_ldE 7 (f + x) 0 (gt_some ki0) ?_ | refine l_ldE 7 (f + x) 0 (gt_some ki0) ?_ | refine r_ldE 7 (f + (2 * x + 1)) 0 (gt_some ki1) ?_ | refine l_ldE 7 (f + (2 * x + 1)) 0 (gt_some ki1) ?_ | refine r_ldE 7 (f + (2 * x + 2)) 0 (gt_some ki2) ?_ | refine l_ldE 7 (f + (2 * x + 2)) 0 (gt_some ki2) ?_ | refine r_ldEN 7 (f + x) 0 (gt_some ki0) ?_ | refine r_ldEN 7 (f + (2 * x + 1)) 0 (gt_some ki1) ?_ | refine r_ldEN 7 (f + (2 * x + 2)) 0 (gt_some ki2) ?_ | refine r_stE 7 (f + x) 0 (gt m (f + (2 * x + 2))) (gt_some ki0) hq1 ?_ | refine l_stE 7 (f + x) 0 (gt m (f + (2 * x + 2))) (gt_some ki0) hq1 ?_ | refine l_stE 7 (f + (2 * x + 2)) 0 (gt m (f + x)) (gt_some (kx2 _)) (hq2 _) ?_ | refine r_callF sp3 (fun _ _ => ?_) | refine r_callF sp2 (fun _ _ => ?_) | refine r_up ?_ | (refine l_split (fun hc => ?_) (fun hc => ?_) <;> (try simp at hc) <;> (try omega)) | (refine r_split (fun hc => ?_) (fun hc => ?_) <;> (try simp at hc) <;> (try omega)) | refine k_draw 3 [] [(0, 0), (1, 0), (2, 0), (3, 0), (4, 0), (5, 0), (6, 0), (7, 0), (8, 0), (9, 0), (10, 0), (11, 0), (12, 0), (13, 0), (14, 0), (15, 0), (16, 0), (17, 0), (18, 0), (19, 4), (20, 0), (21, 0)] [] ?_ | refine k_draw 5 [] [(0, 0), (1, 0), (2, 0), (3, 0), (4, 0), (5, 0), (6, 0), (7, 0), (8, 0), (9, 0), (10, 0), (11, 0), (12, 0), (13, 4), (14, 0), (15, 0)] [] ?_ | refine k_draw 6 [Ax _ _ _ _ _] [(0, 0), (1, 0), (2, 0), (3, 0), (4, 0), (5, 0), (6, 0), (7, 0), (8, 0), (9, 0), (10, 0), (11, 0), (12, 0), (14, 0), (15, 0), (16, 0), (17, 0), (18, 0), (13, 3), (19, 3), (20, 0), (21, 4), (22, 0)] [23] ?_ | (refine k_cond (fun hc => ?_) (fun hc => ?_) <;> (try simp at hc) <;> (try omega)))
        · exact k_rt (w_lq (w_ret ⟨m, h3, f1 (by omega)⟩ rfl trivial))
        · obtain ⟨g1, g2, g3⟩ := f2 (by omega)
          exact k_next ⟨(2 * x + 2, sw m (f + x) (f + (2 * x + 2))), by show lo ≤ 2 * x + 2; omega, by show 2 * x + 2 ≤ _; omega, g1, g2, g3⟩ (by show hi - (2 * x + 2) < hi - x; omega) ⟨rfl, rfl, rfl, rfl, rfl, trivial⟩
      · obtain ⟨f1, f2⟩ := fin (2 * x + 1) (.inl rfl) h0 (fun z hz hzh => by
          rcases hz with rfl | rfl
          · exact W.i _
          · exact h7)
        repeat' (first | refine l_run ?_ | refine l_nil ?_ | refine l_one ?_ | refine k_reg ?_ | refine l_ld ?_ | refine l_ldF ?_ | refine l_st ?_ | refine l_al (fun b => ?_) | refine l_bs (fun b => ?_) | refine k_condT ?_ | refine k_condF ?_ | refine k_brk ?_ | refine r_run ?_ | refine r_one ?_ | refine r_ld ?_ | refine r_ldF ?_ | refine r_ldN ?_ | refine r_al (fun b => ?_) | refine r_bs (fun b => ?_) | refine r_st ?_ | refine r_end ?_ | rw [w1] | rw [w2] | refine r_ixW (m := n) (f + x) hi0 ?_ | refine l_ixW (m := n) (f + x) hi0 ?_ | refine r_ixW (m := n) (f + (2 * x + 1)) hi1 ?_ | refine l_ixW (m := n) (f + (2 * x + 1)) hi1 ?_ | refine r_ixW (m := n) (f + (2 * x + 2)) hi2 ?_ | refine l_ixW (m := n) (f + (2 * x + 2)) hi2 ?_ | refine r_ldE 7 (f + x) 0 (gt_some ki0) ?_ | refine l_ldE 7 (f + x) 0 (gt_some ki0) ?_ | refine r_ldE 7 (f + (2 * x + 1)) 0 (gt_some ki1) ?_ | refine l_ldE 7 (f + (2 * x + 1)) 0 (gt_some ki1) ?_ | refine r_ldE 7 (f + (2 * x + 2)) 0 (gt_some ki2) ?_ | refine l_ldE 7 (f + (2 * x + 2)) 0 (gt_some ki2) ?_ | refine r_ldEN 7 (f + x) 0 (gt_some ki0) ?_ | refine r_ldEN 7 (f + (2 * x + 1)) 0 (gt_some ki1) ?_ | refine r_ldEN 7 (f + (2 * x + 2)) 0 (gt_some ki2) ?_ | refine r_stE 7 (f + x) 0 (gt m (f + (2 * x + 1))) (gt_some ki0) hq1 ?_ | refine l_stE 7 (f + x) 0 (gt m (f + (2 * x + 1))) (gt_some ki0) hq1 ?_ | refine l_stE 7 (f + (2 * x + 1)) 0 (gt m (f + x)) (gt_some (kx1 _)) (hq2 _) ?_ | refine r_callF sp3 (fun _ _ => ?_) | refine r_callF sp1 (fun _ _ => ?_) | refine r_up ?_ | (refine l_split (fun hc => ?_) (fun hc => ?_) <;> (try simp at hc) <;> (try omega)) | (refine r_split (fun hc => ?_) (fun hc => ?_) <;> (try simp at hc) <;> (try omega)) | refine k_draw 3 [] [(0, 0), (1, 0), (2, 0), (3, 0), (4, 0), (5, 0), (6, 0), (7, 0), (8, 0), (9, 0), (10, 0), (11, 0), (12, 0), (13, 0), (14, 0), (15, 0), (16, 0), (17, 0), (18, 0), (19, 4), (20, 0), (21, 0)] [] ?_ | refine k_draw 5 [] [(0, 0), (1, 0), (2, 0), (3, 0), (4, 0), (5, 0), (6, 0), (7, 0), (8, 0), (9, 0), (10, 0), (11, 0), (12, 0), (13, 4), (14, 0), (15, 0)] [] ?_ | refine k_draw 6 [Ax _ _ _ _ _] [(0, 0), (1, 0), (2, 0), (3, 0), (4, 0), (5, 0), (6, 0), (7, 0), (8, 0), (9, 0), (10, 0), (11, 0), (12, 0), (14, 0), (15, 0), (16, 0), (17, 0), (18, 0), (13, 3), (19, 3), (20, 0), (21, 4), (22, 0)] [23] ?_ | (refine k_cond (fun hc => ?_) (fun hc => ?_) <;> (try simp at hc) <;> (try omega)))
        · exact k_rt (w_lq (w_ret ⟨m, h3, f1 (by omega)⟩ rfl trivial))
        · obtain ⟨g1, g2, g3⟩ := f2 (by omega)
          exact k_next ⟨(2 * x + 1, sw m (f + x) (f + (2 * x + 1))), by show lo ≤ 2 * x + 1; omega, by show 2 * x + 1 ≤ _; omega, g1, g2, g3⟩ (by show hi - (2 * x + 1) < hi - x; omega) ⟨rfl, rfl, rfl, rfl, rfl, trivial⟩
    · obtain ⟨f1, f2⟩ := fin (2 * x + 1) (.inl rfl) h0 (fun z hz hzh => by
        rcases hz with rfl | rfl
        · exact W.i _
        · omega)
      repeat' (first | refine l_run ?_ | refine l_nil ?_ | refine l_one ?_ | refine k_reg ?_ | refine l_ld ?_ | refine l_ldF ?_ | refine l_st ?_ | refine l_al (fun b => ?_) | refine l_bs (fun b => ?_) | refine k_condT ?_ | refine k_condF ?_ | refine k_brk ?_ | refine r_run ?_ | refine r_one ?_ | refine r_ld ?_ | refine r_ldF ?_ | refine r_ldN ?_ | refine r_al (fun b => ?_) | refine r_bs (fun b => ?_) | refine r_st ?_ | refine r_end ?_ | rw [w1] | rw [w2] | refine r_ixW (m := n) (f + x) hi0 ?_ | refine l_ixW (m := n) (f + x) hi0 ?_ | refine r_ixW (m := n) (f + (2 * x + 1)) hi1 ?_ | refine l_ixW (m := n) (f + (2 * x + 1)) hi1 ?_ | refine r_ldE 7 (f + x) 0 (gt_some ki0) ?_ | refine l_ldE 7 (f + x) 0 (gt_some ki0) ?_ | refine r_ldE 7 (f + (2 * x + 1)) 0 (gt_some ki1) ?_ | refine l_ldE 7 (f + (2 * x + 1)) 0 (gt_some ki1) ?_ | refine r_ldEN 7 (f + x) 0 (gt_some ki0) ?_ | refine r_ldEN 7 (f + (2 * x + 1)) 0 (gt_some ki1) ?_ | refine r_stE 7 (f + x) 0 (gt m (f + (2 * x + 1))) (gt_some ki0) hq1 ?_ | refine l_stE 7 (f + x) 0 (gt m (f + (2 * x + 1))) (gt_some ki0) hq1 ?_ | refine l_stE 7 (f + (2 * x + 1)) 0 (gt m (f + x)) (gt_some (kx1 _)) (hq2 _) ?_ | refine r_callF sp1 (fun _ _ => ?_) | refine r_up ?_ | (refine l_split (fun hc => ?_) (fun hc => ?_) <;> (try simp at hc) <;> (try omega)) | (refine r_split (fun hc => ?_) (fun hc => ?_) <;> (try simp at hc) <;> (try omega)) | refine k_draw 3 [] [(0, 0), (1, 0), (2, 0), (3, 0), (4, 0), (5, 0), (6, 0), (7, 0), (8, 0), (9, 0), (10, 0), (11, 0), (12, 0), (13, 0), (14, 0), (15, 0), (16, 0), (17, 0), (18, 0), (19, 4), (20, 0), (21, 0)] [] ?_ | refine k_draw 5 [] [(0, 0), (1, 0), (2, 0), (3, 0), (4, 0), (5, 0), (6, 0), (7, 0), (8, 0), (9, 0), (10, 0), (11, 0), (12, 0), (13, 4), (14, 0), (15, 0)] [] ?_ | refine k_draw 6 [Ax _ _ _ _ _] [(0, 0), (1, 0), (2, 0), (3, 0), (4, 0), (5, 0), (6, 0), (7, 0), (8, 0), (9, 0), (10, 0), (11, 0), (12, 0), (14, 0), (15, 0), (16, 0), (17, 0), (18, 0), (13, 3), (19, 3), (20, 0), (21, 4), (22, 0)] [23] ?_ | (refine k_cond (fun hc => ?_) (fun hc => ?_) <;> (try simp at hc) <;> (try omega)))
      · exact k_rt (w_lq (w_ret ⟨m, h3, f1 (by omega)⟩ rfl trivial))
      · obtain ⟨g1, g2, g3⟩ := f2 (by omega)
        exact k_next ⟨(2 * x + 1, sw m (f + x) (f + (2 * x + 1))), by show lo ≤ 2 * x + 1; omega, by show 2 * x + 1 ≤ _; omega, g1, g2, g3⟩ (by show hi - (2 * x + 1) < hi - x; omega) ⟨rfl, rfl, rfl, rfl, rfl, trivial⟩
  · repeat' (first | refine l_run ?_ | refine l_nil ?_ | refine l_one ?_ | refine k_reg ?_ | refine l_ld ?_ | refine l_ldF ?_ | refine l_st ?_ | refine l_al (fun b => ?_) | refine l_bs (fun b => ?_) | refine k_condT ?_ | refine k_condF ?_ | refine k_brk ?_ | rw [w1] | (refine l_split (fun hc => ?_) (fun hc => ?_) <;> (try simp at hc) <;> (try omega)) | (refine k_cond (fun hc => ?_) (fun hc => ?_) <;> (try simp at hc) <;> (try omega)))
    exact k_end ⟨m, h3, h4.stop fun j h1 h2 => by omega⟩ rfl trivial
end
end Go.Proofs.YtiggkcknmjgicaaGreatDoor

set_option maxRecDepth 10000
namespace Go.Proofs.YtiggkcknmjgicaaGreatDoor
open Go.RowKit

section
variable (bk cap : Nat) (q : List Value × (Nat × Nat)) (fv : FuncId) (Fc : Pf) (c : En → En → Int) (W : Wk0 c) (U : En → Prop) (hcmp : ∀ x y, U x → U y → Enters fv ∧ Spec Tryz.prog fv #[x.w, y.w] [Fc] [] (RetV (.int .i64 (c x y))))

include hcmp W in
set_option maxHeartbeats 4000000 in
theorem heapE_ok (l : List En) (n : Nat) (hn : n = l.length) (hn2 : n ≤ 1000000) (hq : AxOK (n * 7) q) (hU : ∀ x ∈ l, U x) (a b : Nat) (hab : a < b) (hb : b ≤ n) :
    Enters 164 ∧ Spec Tryz.prog 164 #[.slice (some ⟨bk, 0, none⟩) n cap, .int .i64 (a : Int), .int .i64 (b : Int), .func (.func fv) #[] #[]] [Fc] [Ax 74 enf bk l q]
      ⟨{ l' : List En // Win a b l l' ∧ Sw c a b l' }, fun _ => .tuple #[], fun _ => True, fun _ => [], fun l' => [Ax 74 enf bk l'.1 q]⟩ := by
  have w0 : IntKind.i64.wrap ((b : Int) - (a : Int)) = ((b - a : Nat) : Int) := by rw [wrapi (by omega) (by omega)]; omega
  obtain ⟨N, hN⟩ : ∃ N, N = b - a := ⟨_, rfl⟩
  rw [← hN] at w0
  have hbN : b = a + N := by omega
  obtain ⟨p, hp⟩ : ∃ p, p = (N - 1) / 2 := ⟨_, rfl⟩
  have w1 : IntKind.i64.wrap ((IntKind.i64.wrap ((N : Int) - 1)).tdiv 2) = (p : Int) := by
    rw [wrapi (z := (N : Int) - 1) (by omega) (by omega)]
    have : ((N : Int) - 1).tdiv 2 = (p : Int) := by
      rw [show (N : Int) - 1 = ((N - 1 : Nat) : Int) by omega, hp]; exact (Int.ofNat_tdiv _ _).symm
    rw [this, wrapi (by omega) (by omega)]
  refine ⟨enters_of Tryz.func164 (by kernel_rfl) rfl, spec_of (vs := [_, _, _, _]) Tryz.func164 rfl Tryz.ntmps164 rfl fun G w hp => ?_⟩
  repeat' (first | refine l_run ?_ | refine l_nil ?_ | refine l_one ?_ | refine k_reg ?_ | refine l_ld ?_ | refine l_ldF ?_ | refine l_st ?_ | refine l_al (fun b => ?_) | refine l_bs (fun b => ?_) | refine k_condT ?_ | refine k_condF ?_ | rw [w0] | rw [w1] | (refine l_split (fun hc => ?_) (fun hc => ?_) <;> (try simp at hc)) | (refine k_cond (fun hc => ?_) (fun hc => ?_) <;> (try simp at hc)))
  refine k_lpx (Y := { m : List En // Win a b l m ∧ He c a 0 N m }) (X := { t : Nat × List En // t.1 ≤ p + 1 ∧ Win a b l t.2 ∧ He c a t.1 N t.2 })
    (fun t => [(0, .slice (some ⟨bk, 0, none⟩) n cap), (3, .func (.func fv) #[] #[]), (8, .int .i64 (a : Int)), (9, .int .i64 0), (10, .int .i64 (N : Int)), (11, .int .i64 ((t.1.1 : Int) - 1))]) (fun _ => [Fc]) (fun t => [Ax 74 enf bk t.1.2 q]) (fun t => t.1.1)
    (fun _ => [(0, .slice (some ⟨bk, 0, none⟩) n cap), (3, .func (.func fv) #[] #[]), (8, .int .i64 (a : Int)), (9, .int .i64 0), (10, .int .i64 (N : Int))]) (fun _ => [Fc]) (fun m => [Ax 74 enf bk m.1 q])
    ⟨(p + 1, l), Nat.le_refl _, Win.refl, fun i j h1 h2 h3 => by omega⟩ ⟨rfl, rfl, rfl, rfl, rfl, (by show look _ _ = some (Value.int .i64 (((p + 1 : Nat) : Int) - 1)); rw [show ((p + 1 : Nat) : Int) - 1 = (p : Int) by omega]; rfl), trivial⟩ ?_ ?_
  rotate_left
  · intro hx
    rintro ⟨⟨t, m⟩, h1, h2, h3⟩
    dsimp only at h1 h2 h3 ⊢
    have hl := h2.len
    by_cases ht : t = 0
    · subst ht
      repeat' (first | refine l_run ?_ | refine l_nil ?_ | refine l_one ?_ | refine k_reg ?_ | refine l_ld ?_ | refine l_ldF ?_ | refine l_st ?_ | refine l_al (fun b => ?_) | refine l_bs (fun b => ?_) | refine k_condT ?_ | refine k_condF ?_ | (refine l_split (fun hc => ?_) (fun hc => ?_) <;> (try simp at hc) <;> (try omega)) | (refine k_cond (fun hc => ?_) (fun hc => ?_) <;> (try simp at hc) <;> (try omega)))
      exact k_out hx ⟨m, h2, h3⟩ ⟨rfl, rfl, rfl, rfl, rfl, trivial⟩
    · obtain ⟨i, rfl⟩ : ∃ i, t = i + 1 := ⟨t - 1, by omega⟩
      have e1 : ((i + 1 : Nat) : Int) - 1 = (i : Int) := by omega
      have w2 : IntKind.i64.wrap ((i : Int) - 1) = (i : Int) - 1 := wrapi (by omega) (by omega)
      have s1 := siftE_ok bk cap q fv Fc c W U hcmp m n (by omega) hn2 hq (h2.sub hU) i N a (by omega) (by omega) (fun i' j' g1 g2 g3 g4 => h3 i' j' (by omega) g2 g3)
      rw [e1]
      repeat' (first | refine l_run ?_ | refine l_nil ?_ | refine l_one ?_ | refine k_reg ?_ | refine l_ld ?_ | refine l_ldF ?_ | refine l_st ?_ | refine l_al (fun b => ?_) | refine l_bs (fun b => ?_) | refine k_condT ?_ | refine k_condF ?_ | refine k_brk ?_ | refine l_call (s1) (fun _ _ => ?_) | refine l_call0 (s1) (fun _ _ => ?_) | rw [w2] | (refine l_split (fun hc => ?_) (fun hc => ?_) <;> (try simp at hc) <;> (try omega)) | (refine k_cond (fun hc => ?_) (fun hc => ?_) <;> (try simp at hc) <;> (try omega)))
      rename_i l' _
      obtain ⟨l', g1, g2⟩ := l'
      exact k_next ⟨(i, l'), by show i ≤ p + 1; omega, h2.trans (by rw [hbN]; exact g1), g2⟩ (by show i < i + 1; omega) ⟨rfl, rfl, rfl, rfl, rfl, rfl, trivial⟩
  rintro ⟨m, hm1, hm2⟩
  have w3 : IntKind.i64.wrap ((N : Int) - 1) = (N : Int) - 1 := wrapi (by omega) (by omega)
  repeat' (first | refine l_run ?_ | refine l_nil ?_ | refine l_one ?_ | refine k_reg ?_ | refine l_ld ?_ | refine l_ldF ?_ | refine l_st ?_ | refine l_al (fun b => ?_) | refine l_bs (fun b => ?_) | refine k_condT ?_ | refine k_condF ?_ | rw [w3] | (refine l_split (fun hc => ?_) (fun hc => ?_) <;> (try simp at hc)) | (refine k_cond (fun hc => ?_) (fun hc => ?_) <;> (try simp at hc)))
  refine k_lp (X := { t : Nat × List En // t.1 ≤ N ∧ Win a b l t.2 ∧ Hs c a t.1 N t.2 })
    (fun t => [(0, .slice (some ⟨bk, 0, none⟩) n cap), (3, .func (.func fv) #[] #[]), (8, .int .i64 (a : Int)), (9, .int .i64 0), (12, .int .i64 ((t.1.1 : Int) - 1))]) (fun _ => [Fc]) (fun t => [Ax 74 enf bk t.1.2 q]) (fun t => t.1.1)
    ⟨(N, m), Nat.le_refl _, hm1, Hs.init hm2 (Nat.le_refl _)⟩ ⟨rfl, rfl, rfl, rfl, rfl, trivial⟩ ?_
  rintro ⟨⟨t, m'⟩, h1, h2, h3⟩
  dsimp only at h1 h2 h3 ⊢
  have hl := h2.len
  by_cases ht : t = 0
  · subst ht
    repeat' (first | refine l_run ?_ | refine l_nil ?_ | refine l_one ?_ | refine k_reg ?_ | refine l_ld ?_ | refine l_ldF ?_ | refine l_st ?_ | refine l_al (fun b => ?_) | refine l_bs (fun b => ?_) | refine k_condT ?_ | refine k_condF ?_ | refine k_brk ?_ | (refine l_split (fun hc => ?_) (fun hc => ?_) <;> (try simp at hc) <;> (try omega)) | (refine k_cond (fun hc => ?_) (fun hc => ?_) <;> (try simp at hc) <;> (try omega)))
    exact k_end ⟨m', h2, by rw [hbN]; exact h3.done⟩ rfl trivial
  · obtain ⟨i, rfl⟩ : ∃ i, t = i + 1 := ⟨t - 1, by omega⟩
    have e1 : ((i + 1 : Nat) : Int) - 1 = (i : Int) := by omega
    have w2 : IntKind.i64.wrap ((i : Int) - 1) = (i : Int) - 1 := wrapi (by omega) (by omega)
    have hi : a < n := by omega
    have hj : a + i < n := by omega
    have ki : a < m'.length := by omega
    have kj : a + i < m'.length := by omega
    have kj2 : a + i < (m'.set a (gt m' (a + i))).length := by rw [List.length_set]; exact kj
    have hq1 : AxOK (m'.length * 7) q := by rw [hl, ← hn]; exact hq
    have hq2 : AxOK ((m'.set a (gt m' (a + i))).length * 7) q := by rw [List.length_set]; exact hq1
    have hsw : Win a b l (sw m' a (a + i)) := h2.trans (Win.sw (by omega) hab (by omega) (by omega) (by omega))
    have s1 := siftE_ok bk cap q fv Fc c W U hcmp (sw m' a (a + i)) n (by rw [sw_len]; omega) hn2 hq (hsw.sub hU) 0 i a (by omega) (by omega) (fun i' j' g1 g2 g3 g4 => by
      rw [gt_sw ki kj, gt_sw ki kj, if_neg (by omega), if_neg (by omega), if_neg (by omega), if_neg (by omega)]
      exact h3.he i' j' g1 g2 (by omega))
    rw [e1]
    repeat' (first | refine l_run ?_ | refine l_nil ?_ | refine l_one ?_ | refine k_reg ?_ | refine l_ld ?_ | refine l_ldF ?_ | refine l_st ?_ | refine l_al (fun b => ?_) | refine l_bs (fun b => ?_) | refine k_condT ?_ | refine k_condF ?_ | refine k_brk ?_ | refine r_run ?_ | refine r_one ?_ | refine r_ld ?_ | refine r_ldF ?_ | refine r_ldN ?_ | refine r_al (fun b => ?_) | refine r_bs (fun b => ?_) | refine r_st ?_ | refine r_end ?_ | refine l_call (s1) (fun _ _ => ?_) | refine l_call0 (s1) (fun _ _ => ?_) | refine r_call (s1) (fun _ _ => ?_) | refine r_ixW (m := n) (a) hi ?_ | refine l_ixW (m := n) (a) hi ?_ | refine r_ixW (m := n) (a + i) hj ?_ | refine l_ixW (m := n) (a + i) hj ?_ | refine r_ldEN 7 (a) 0 (gt_some ki) ?_ | refine r_ldEN 7 (a + i) 0 (gt_some kj) ?_ | refine r_stE 7 (a) 0 (gt m' (a + i)) (gt_some ki) hq1 ?_ | refine l_stE 7 (a) 0 (gt m' (a + i)) (gt_some ki) hq1 ?_ | refine l_stE 7 (a + i) 0 (gt m' (a)) (gt_some kj2) hq2 ?_ | rw [w2] | refine r_up ?_ | (refine l_split (fun hc => ?_) (fun hc => ?_) <;> (try simp at hc) <;> (try omega)) | (refine r_split (fun hc => ?_) (fun hc => ?_) <;> (try simp at hc) <;> (try omega)) | refine k_draw 10 [Ax _ _ _ _ _] [(0, 0), (1, 0), (2, 0), (3, 0), (4, 0), (5, 0), (6, 0), (7, 0), (8, 0), (9, 0), (10, 0), (12, 0), (13, 0), (14, 0), (11, 3), (15, 3), (16, 0), (17, 4), (18, 0)] [19] ?_ | (refine k_cond (fun hc => ?_) (fun hc => ?_) <;> (try simp at hc) <;> (try omega)))
    rename_i l' _
    obtain ⟨l', g1, g2⟩ := l'
    exact k_next ⟨(i, l'), by show i ≤ N; omega, hsw.trans (g1.mono (Nat.le_refl _) (by omega)), h3.pop W (by omega) (by omega) g1 g2⟩ (by show i < i + 1; omega) ⟨rfl, rfl, rfl, rfl, rfl, trivial⟩
end
end Go.Proofs.YtiggkcknmjgicaaGreatDoor
