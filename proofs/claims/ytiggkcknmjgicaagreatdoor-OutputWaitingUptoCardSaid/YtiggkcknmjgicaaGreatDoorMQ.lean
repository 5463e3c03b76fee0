/-
  Partitions. (replevin/state.Change)
  Insertion that gives up. (replevin/state.Change)
  pdqsort, whole. (replevin/state.Change)
  The contract of slices.SortFunc at replevin/state.Change, for at most 200 elements.
  Conditions: those that each theorem states.
-/
import Derived.Test.YtiggkcknmjgicaaGreatDoorMP
import Derived.Test.YtiggkcknmjgicaaGreatDoorMD
set_option maxRecDepth 10000
namespace Go.Proofs.YtiggkcknmjgicaaGreatDoor
open Go.RowKit

section
variable (bk cap : Nat) (q : List Value × (Nat × Nat)) (fv : FuncId) (Fc : Pf) (c : Ch → Ch → Int) (W : Wk0 c) (U : Ch → Prop) (hcmp : ∀ x y, U x → U y → Enters fv ∧ Spec Tryz.prog fv #[x.v, y.v] [Fc] [] (RetV (.int .i64 (c x y))))

include hcmp in
set_option maxHeartbeats 8000000 in
theorem partC_ok (l : List Ch) (n : Nat) (hn : n = l.length) (hn2 : n ≤ 1000000) (hq : AxOK (n * 7) q) (hU : ∀ x ∈ l, U x) (a bb p : Nat) (hab : a + 12 < bb) (hb : bb ≤ n) (hp1 : a ≤ p) (hp2 : p < bb) :
    Enters 153 ∧ Spec Tryz.prog 153 #[.slice (some ⟨bk, 0, none⟩) n cap, .int .i64 (a : Int), .int .i64 (bb : Int), .int .i64 (p : Int), .func (.func fv) #[] #[]] [Fc] [Ax 119 chf bk l q]
      ⟨{ t : Nat × Bool × List Ch // Win a bb l t.2.2 ∧ Pt0 c a bb t.1 t.2.2 }, fun t => .tuple #[.int .i64 (t.1.1 : Int), .bool t.1.2.1], fun _ => True, fun _ => [], fun t => [Ax 119 chf bk t.1.2.2 q]⟩ := by
  have w0 : IntKind.i64.wrap ((a : Int) + 1) = ((a + 1 : Nat) : Int) := by simp (disch := omega) only [wrapi]; omega
  have w1 : IntKind.i64.wrap ((bb : Int) - 1) = ((bb - 1 : Nat) : Int) := by simp (disch := omega) only [wrapi]; omega
  have wi : ∀ i, i < n → IntKind.i64.wrap ((i : Int) + 1) = ((i + 1 : Nat) : Int) := fun i hi => by simp (disch := omega) only [wrapi]; omega
  have wj : ∀ j, 0 < j → j < n → IntKind.i64.wrap ((j : Int) - 1) = ((j - 1 : Nat) : Int) := fun j h0 hi => by simp (disch := omega) only [wrapi]; omega
  have hia : a < n := by omega
  have hip : p < n := by omega
  have kia : a < l.length := by omega
  have kip : p < l.length := by omega
  have kip2 : p < (l.set a (gt l p)).length := by rw [List.length_set]; exact kip
  have hql : AxOK (l.length * 7) q := by rw [← hn]; exact hq
  have hql2 : AxOK ((l.set a (gt l p)).length * 7) q := by rw [List.length_set]; exact hql
  have hUP : U (gt l p) := hU _ (gt_mem kip)
  have hin0 := fun A : Ch → Prop => Pin.init (A := A) (l := l) (a := a) (b := bb) hp1 hp2 (by omega) (by omega)
  obtain ⟨P, hP⟩ : ∃ P, P = gt l p := ⟨_, rfl⟩
  rw [← hP] at hUP hin0
  obtain ⟨m, hm0⟩ : ∃ m, m = sw l a p := ⟨_, rfl⟩
  rw [← hm0] at hin0
  have hin := hin0 (fun x => c x P < 0)
  clear hin0
  refine ⟨enters_of Tryz.func153 (by kernel_rfl) rfl, spec_of (vs := [_, _, _, _, _]) Tryz.func153 rfl Tryz.ntmps153 rfl fun G w hp => ?_⟩
  repeat' (first | refine l_run ?_ | refine l_nil ?_ | refine l_one ?_ | refine k_reg ?_ | refine l_ld ?_ | refine l_ldF ?_ | refine l_st ?_ | refine l_al (fun b => ?_) | refine l_bs (fun b => ?_) | refine k_condT ?_ | refine k_condF ?_ | refine r_run ?_ | refine r_one ?_ | refine r_ld ?_ | refine r_ldF ?_ | refine r_ldN ?_ | refine r_al (fun b => ?_) | refine r_bs (fun b => ?_) | refine r_st ?_ | refine r_end ?_ | refine r_ixW (m := n) (a) hia ?_ | refine l_ixW (m := n) (a) hia ?_ | refine r_ixW (m := n) (p) hip ?_ | refine l_ixW (m := n) (p) hip ?_ | refine r_ldEN 7 (a) 0 (gt_some kia) ?_ | refine r_ldEN 7 (p) 0 (gt_some kip) ?_ | refine r_stE 7 (a) 0 (gt l (p)) (gt_some kia) hql ?_ | refine l_stE 7 (a) 0 (gt l (p)) (gt_some kia) hql ?_ | refine l_stE 7 (p) 0 (gt l (a)) (gt_some kip2) hql2 ?_ | rw [w0] | rw [w1] | refine r_up ?_ | (refine l_split (fun hc => ?_) (fun hc => ?_) <;> (try simp at hc)) | (refine r_split (fun hc => ?_) (fun hc => ?_) <;> (try simp at hc)) | refine k_draw 1 [Ax _ _ _ _ _] [(0, 0), (1, 0), (2, 0), (3, 0), (4, 0), (5, 0), (6, 0), (8, 0), (9, 0), (10, 0), (7, 3), (11, 3), (12, 0), (13, 4), (14, 0)] [15] ?_ | (refine k_cond (fun hc => ?_) (fun hc => ?_) <;> (try simp at hc)))
  refine k_ax m hm0.symm ?_
  clear hm0 kip2 hql2
  obtain ⟨jz, hjz⟩ : ∃ jz, jz = (bb - 1) := ⟨_, rfl⟩
  rw [← hjz] at hin
  have hm := hin.w.len
  have ga : m[a]? = some P := by rw [← hin.pa]; exact gt_some (by omega)
  have hUm := hin.w.sub hU
  refine k_lpx (Y := { i : Nat // (a + 1) ≤ i ∧ Pin (fun x => c x P < 0) a bb i jz P l m ∧ (i ≤ jz → ¬ (fun x => c x P < 0) (gt m i)) }) (X := { i : Nat // (a + 1) ≤ i ∧ Pin (fun x => c x P < 0) a bb i jz P l m }) (fun i => [(0, .slice (some ⟨bk, 0, none⟩) n cap), (1, .int .i64 (a : Int)), (4, .func (.func fv) #[] #[]), (12, .int .i64 ((i.1 : Nat) : Int)), (13, .int .i64 ((jz : Nat) : Int))]) (fun _ => [Fc]) (fun _ => [Ax 119 chf bk m q]) (fun i => bb + 1 - i.1) (fun i => [(0, .slice (some ⟨bk, 0, none⟩) n cap), (1, .int .i64 (a : Int)), (4, .func (.func fv) #[] #[]), (12, .int .i64 ((i.1 : Nat) : Int)), (13, .int .i64 ((jz : Nat) : Int))]) (fun _ => [Fc]) (fun _ => [Ax 119 chf bk m q]) ⟨(a + 1), Nat.le_refl _, hin⟩ ⟨rfl, rfl, rfl, rfl, (by show look _ _ = some (Value.int .i64 ((jz : Nat) : Int)); rw [hjz]; rfl), trivial⟩ ?_ ?_
  rotate_left
  · intro hx
    rintro ⟨i, hi0, hp⟩
    dsimp only at hi0 hp ⊢
    have k1 := hp.h1
    have k2 := hp.h2
    have k3 := hp.h3
    generalize jz = j at *
    by_cases hij : i ≤ j
    · have hi : i < n := by omega
      have hj : j < n := by omega
      have ha : a < n := by omega
      have gi : m[i]? = some (gt m i) := gt_some (by omega)
      have gj : m[j]? = some (gt m j) := gt_some (by omega)
      have sp := hcmp (gt m i) P (hUm _ (gt_mem (by omega))) hUP
      by_cases hA : c (gt m i) P < 0
      · repeat' (first | refine l_run ?_ | refine l_nil ?_ | refine l_one ?_ | refine k_reg ?_ | refine l_ld ?_ | refine l_ldF ?_ | refine l_st ?_ | refine l_al (fun b => ?_) | refine l_bs (fun b => ?_) | refine k_condT ?_ | refine k_condF ?_ | refine r_run ?_ | refine r_one ?_ | refine r_ld ?_ | refine r_ldF ?_ | refine r_ldN ?_ | refine r_al (fun b => ?_) | refine r_bs (fun b => ?_) | refine r_st ?_ | refine r_end ?_ | rw [wi i hi] | rw [wj j (by omega) hj] | refine r_ixW (m := n) (i) hi ?_ | refine l_ixW (m := n) (i) hi ?_ | refine r_ixW (m := n) (a) ha ?_ | refine l_ixW (m := n) (a) ha ?_ | refine r_ldE 7 (i) 0 gi ?_ | refine l_ldE 7 (i) 0 gi ?_ | refine r_ldE 7 (a) 0 ga ?_ | refine l_ldE 7 (a) 0 ga ?_ | refine r_callF sp (fun _ _ => ?_) | (refine l_split (fun hc => ?_) (fun hc => ?_) <;> (try simp at hc) <;> (try omega)) | (refine r_split (fun hc => ?_) (fun hc => ?_) <;> (try simp at hc) <;> (try omega)) | refine k_draw 1 [] [(0, 0), (1, 0), (2, 0), (3, 0), (4, 0), (5, 0), (6, 0), (7, 0), (8, 0), (9, 0), (10, 0), (11, 0), (12, 0), (13, 4), (14, 0)] [15] ?_ | refine k_draw 3 [] [(0, 0), (1, 0), (2, 0), (3, 0), (4, 0), (5, 0), (6, 0), (7, 0), (8, 0), (9, 0), (10, 0), (11, 0), (12, 0), (13, 4), (14, 0), (15, 0)] [] ?_ | refine k_draw 5 [] [(0, 0), (1, 0), (2, 0), (3, 0), (4, 0), (5, 0), (6, 0), (7, 0), (8, 0), (9, 0), (10, 0), (11, 0), (12, 0), (13, 4), (14, 0), (15, 0), (16, 0)] [] ?_ | refine k_draw 8 [] [(0, 0), (1, 0), (2, 0), (3, 0), (4, 0), (5, 0), (6, 0), (7, 0), (8, 0), (9, 0), (10, 0), (11, 0), (12, 0), (13, 4), (14, 0)] [15] ?_ | refine k_draw 10 [] [(0, 0), (1, 0), (2, 0), (3, 0), (4, 0), (5, 0), (6, 0), (7, 0), (8, 0), (9, 0), (10, 0), (11, 0), (12, 0), (13, 4), (14, 0)] [15] ?_ | refine k_draw 13 [] [(0, 0), (1, 0), (2, 0), (3, 0), (4, 0), (5, 0), (6, 0), (7, 0), (8, 0), (9, 0), (10, 0), (11, 0), (12, 0), (13, 4), (14, 0), (15, 0)] [] ?_ | refine k_draw 15 [] [(0, 0), (1, 0), (2, 0), (3, 0), (4, 0), (5, 0), (6, 0), (7, 0), (8, 0), (9, 0), (10, 0), (11, 0), (12, 0), (13, 4), (14, 0), (15, 0), (16, 0)] [] ?_ | refine k_draw 18 [] [(0, 0), (1, 0), (2, 0), (3, 0), (4, 0), (5, 0), (6, 0), (7, 0), (8, 0), (9, 0), (10, 0), (11, 0), (12, 0), (13, 4), (14, 0)] [15] ?_ | refine k_draw 21 [] [(0, 0), (1, 0), (2, 0), (3, 0), (4, 0), (5, 0), (6, 0), (7, 0), (8, 0), (9, 0), (10, 0), (11, 0), (12, 0), (13, 4), (14, 0)] [15] ?_ | (refine k_cond (fun hc => ?_) (fun hc => ?_) <;> (try simp at hc) <;> (try omega)))
        exact k_next ⟨i + 1, by omega, hp.ii hij (hA)⟩ (by show bb + 1 - (i + 1) < bb + 1 - i; omega) ⟨rfl, rfl, rfl, rfl, rfl, trivial⟩
      · repeat' (first | refine l_run ?_ | refine l_nil ?_ | refine l_one ?_ | refine k_reg ?_ | refine l_ld ?_ | refine l_ldF ?_ | refine l_st ?_ | refine l_al (fun b => ?_) | refine l_bs (fun b => ?_) | refine k_condT ?_ | refine k_condF ?_ | refine r_run ?_ | refine r_one ?_ | refine r_ld ?_ | refine r_ldF ?_ | refine r_ldN ?_ | refine r_al (fun b => ?_) | refine r_bs (fun b => ?_) | refine r_st ?_ | refine r_end ?_ | rw [wi i hi] | rw [wj j (by omega) hj] | refine r_ixW (m := n) (i) hi ?_ | refine l_ixW (m := n) (i) hi ?_ | refine r_ixW (m := n) (a) ha ?_ | refine l_ixW (m := n) (a) ha ?_ | refine r_ldE 7 (i) 0 gi ?_ | refine l_ldE 7 (i) 0 gi ?_ | refine r_ldE 7 (a) 0 ga ?_ | refine l_ldE 7 (a) 0 ga ?_ | refine r_callF sp (fun _ _ => ?_) | (refine l_split (fun hc => ?_) (fun hc => ?_) <;> (try simp at hc) <;> (try omega)) | (refine r_split (fun hc => ?_) (fun hc => ?_) <;> (try simp at hc) <;> (try omega)) | refine k_draw 1 [] [(0, 0), (1, 0), (2, 0), (3, 0), (4, 0), (5, 0), (6, 0), (7, 0), (8, 0), (9, 0), (10, 0), (11, 0), (12, 0), (13, 4), (14, 0)] [15] ?_ | refine k_draw 3 [] [(0, 0), (1, 0), (2, 0), (3, 0), (4, 0), (5, 0), (6, 0), (7, 0), (8, 0), (9, 0), (10, 0), (11, 0), (12, 0), (13, 4), (14, 0), (15, 0)] [] ?_ | refine k_draw 5 [] [(0, 0), (1, 0), (2, 0), (3, 0), (4, 0), (5, 0), (6, 0), (7, 0), (8, 0), (9, 0), (10, 0), (11, 0), (12, 0), (13, 4), (14, 0), (15, 0), (16, 0)] [] ?_ | refine k_draw 8 [] [(0, 0), (1, 0), (2, 0), (3, 0), (4, 0), (5, 0), (6, 0), (7, 0), (8, 0), (9, 0), (10, 0), (11, 0), (12, 0), (13, 4), (14, 0)] [15] ?_ | refine k_draw 10 [] [(0, 0), (1, 0), (2, 0), (3, 0), (4, 0), (5, 0), (6, 0), (7, 0), (8, 0), (9, 0), (10, 0), (11, 0), (12, 0), (13, 4), (14, 0)] [15] ?_ | refine k_draw 13 [] [(0, 0), (1, 0), (2, 0), (3, 0), (4, 0), (5, 0), (6, 0), (7, 0), (8, 0), (9, 0), (10, 0), (11, 0), (12, 0), (13, 4), (14, 0), (15, 0)] [] ?_ | refine k_draw 15 [] [(0, 0), (1, 0), (2, 0), (3, 0), (4, 0), (5, 0), (6, 0), (7, 0), (8, 0), (9, 0), (10, 0), (11, 0), (12, 0), (13, 4), (14, 0), (15, 0), (16, 0)] [] ?_ | refine k_draw 18 [] [(0, 0), (1, 0), (2, 0), (3, 0), (4, 0), (5, 0), (6, 0), (7, 0), (8, 0), (9, 0), (10, 0), (11, 0), (12, 0), (13, 4), (14, 0)] [15] ?_ | refine k_draw 21 [] [(0, 0), (1, 0), (2, 0), (3, 0), (4, 0), (5, 0), (6, 0), (7, 0), (8, 0), (9, 0), (10, 0), (11, 0), (12, 0), (13, 4), (14, 0)] [15] ?_ | (refine k_cond (fun hc => ?_) (fun hc => ?_) <;> (try simp at hc) <;> (try omega)))
        exact k_out hx ⟨i, by omega, hp, fun _ => (hA)⟩ ⟨rfl, rfl, rfl, rfl, rfl, trivial⟩
    · repeat' (first | refine l_run ?_ | refine l_nil ?_ | refine l_one ?_ | refine k_reg ?_ | refine l_ld ?_ | refine l_ldF ?_ | refine l_st ?_ | refine l_al (fun b => ?_) | refine l_bs (fun b => ?_) | refine k_condT ?_ | refine k_condF ?_ | refine r_run ?_ | refine r_one ?_ | refine r_ld ?_ | refine r_ldF ?_ | refine r_ldN ?_ | refine r_al (fun b => ?_) | refine r_bs (fun b => ?_) | refine r_st ?_ | refine r_end ?_ | (refine l_split (fun hc => ?_) (fun hc => ?_) <;> (try simp at hc) <;> (try omega)) | (refine r_split (fun hc => ?_) (fun hc => ?_) <;> (try simp at hc) <;> (try omega)) | refine k_draw 1 [] [(0, 0), (1, 0), (2, 0), (3, 0), (4, 0), (5, 0), (6, 0), (7, 0), (8, 0), (9, 0), (10, 0), (11, 0), (12, 0), (13, 4), (14, 0)] [15] ?_ | refine k_draw 3 [] [(0, 0), (1, 0), (2, 0), (3, 0), (4, 0), (5, 0), (6, 0), (7, 0), (8, 0), (9, 0), (10, 0), (11, 0), (12, 0), (13, 4), (14, 0), (15, 0)] [] ?_ | refine k_draw 5 [] [(0, 0), (1, 0), (2, 0), (3, 0), (4, 0), (5, 0), (6, 0), (7, 0), (8, 0), (9, 0), (10, 0), (11, 0), (12, 0), (13, 4), (14, 0), (15, 0), (16, 0)] [] ?_ | refine k_draw 8 [] [(0, 0), (1, 0), (2, 0), (3, 0), (4, 0), (5, 0), (6, 0), (7, 0), (8, 0), (9, 0), (10, 0), (11, 0), (12, 0), (13, 4), (14, 0)] [15] ?_ | refine k_draw 10 [] [(0, 0), (1, 0), (2, 0), (3, 0), (4, 0), (5, 0), (6, 0), (7, 0), (8, 0), (9, 0), (10, 0), (11, 0), (12, 0), (13, 4), (14, 0)] [15] ?_ | refine k_draw 13 [] [(0, 0), (1, 0), (2, 0), (3, 0), (4, 0), (5, 0), (6, 0), (7, 0), (8, 0), (9, 0), (10, 0), (11, 0), (12, 0), (13, 4), (14, 0), (15, 0)] [] ?_ | refine k_draw 15 [] [(0, 0), (1, 0), (2, 0), (3, 0), (4, 0), (5, 0), (6, 0), (7, 0), (8, 0), (9, 0), (10, 0), (11, 0), (12, 0), (13, 4), (14, 0), (15, 0), (16, 0)] [] ?_ | refine k_draw 18 [] [(0, 0), (1, 0), (2, 0), (3, 0), (4, 0), (5, 0), (6, 0), (7, 0), (8, 0), (9, 0), (10, 0), (11, 0), (12, 0), (13, 4), (14, 0)] [15] ?_ | refine k_draw 21 [] [(0, 0), (1, 0), (2, 0), (3, 0), (4, 0), (5, 0), (6, 0), (7, 0), (8, 0), (9, 0), (10, 0), (11, 0), (12, 0), (13, 4), (14, 0)] [15] ?_ | (refine k_cond (fun hc => ?_) (fun hc => ?_) <;> (try simp at hc) <;> (try omega)))
      exact k_out hx ⟨i, by omega, hp, fun h => absurd h hij⟩ ⟨rfl, rfl, rfl, rfl, rfl, trivial⟩
  rintro ⟨i, hi0, hp0, hAi⟩
  dsimp only at hi0 hp0 hAi ⊢
  refine k_lpx (Y := { j : Nat // j ≤ jz ∧ Pin (fun x => c x P < 0) a bb i j P l m ∧ (i ≤ j → (fun x => c x P < 0) (gt m j)) }) (X := { j : Nat // j ≤ jz ∧ Pin (fun x => c x P < 0) a bb i j P l m }) (fun j => [(0, .slice (some ⟨bk, 0, none⟩) n cap), (1, .int .i64 (a : Int)), (4, .func (.func fv) #[] #[]), (12, .int .i64 ((i : Nat) : Int)), (13, .int .i64 ((j.1 : Nat) : Int))]) (fun _ => [Fc]) (fun _ => [Ax 119 chf bk m q]) (fun j => j.1) (fun j => [(0, .slice (some ⟨bk, 0, none⟩) n cap), (1, .int .i64 (a : Int)), (4, .func (.func fv) #[] #[]), (12, .int .i64 ((i : Nat) : Int)), (13, .int .i64 ((j.1 : Nat) : Int))]) (fun _ => [Fc]) (fun _ => [Ax 119 chf bk m q]) ⟨jz, Nat.le_refl _, hp0⟩ ⟨rfl, rfl, rfl, rfl, rfl, trivial⟩ ?_ ?_
  rotate_left
  · intro hx
    rintro ⟨j, hj0, hp⟩
    dsimp only at hj0 hp ⊢
    have k1 := hp.h1
    have k2 := hp.h2
    have k3 := hp.h3
    by_cases hij : i ≤ j
    · have hi : i < n := by omega
      have hj : j < n := by omega
      have ha : a < n := by omega
      have gi : m[i]? = some (gt m i) := gt_some (by omega)
      have gj : m[j]? = some (gt m j) := gt_some (by omega)
      have sp := hcmp (gt m j) P (hUm _ (gt_mem (by omega))) hUP
      by_cases hA : c (gt m j) P < 0
      · repeat' (first | refine l_run ?_ | refine l_nil ?_ | refine l_one ?_ | refine k_reg ?_ | refine l_ld ?_ | refine l_ldF ?_ | refine l_st ?_ | refine l_al (fun b => ?_) | refine l_bs (fun b => ?_) | refine k_condT ?_ | refine k_condF ?_ | refine r_run ?_ | refine r_one ?_ | refine r_ld ?_ | refine r_ldF ?_ | refine r_ldN ?_ | refine r_al (fun b => ?_) | refine r_bs (fun b => ?_) | refine r_st ?_ | refine r_end ?_ | rw [wi i hi] | rw [wj j (by omega) hj] | refine r_ixW (m := n) (j) hj ?_ | refine l_ixW (m := n) (j) hj ?_ | refine r_ixW (m := n) (a) ha ?_ | refine l_ixW (m := n) (a) ha ?_ | refine r_ldE 7 (j) 0 gj ?_ | refine l_ldE 7 (j) 0 gj ?_ | refine r_ldE 7 (a) 0 ga ?_ | refine l_ldE 7 (a) 0 ga ?_ | refine r_callF sp (fun _ _ => ?_) | (refine l_split (fun hc => ?_) (fun hc => ?_) <;> (try simp at hc) <;> (try omega)) | (refine r_split (fun hc => ?_) (fun hc => ?_) <;> (try simp at hc) <;> (try omega)) | refine k_draw 1 [] [(0, 0), (1, 0), (2, 0), (3, 0), (4, 0), (5, 0), (6, 0), (7, 0), (8, 0), (9, 0), (10, 0), (11, 0), (12, 0), (13, 4), (14, 0)] [15] ?_ | refine k_draw 3 [] [(0, 0), (1, 0), (2, 0), (3, 0), (4, 0), (5, 0), (6, 0), (7, 0), (8, 0), (9, 0), (10, 0), (11, 0), (12, 0), (13, 4), (14, 0), (15, 0)] [] ?_ | refine k_draw 5 [] [(0, 0), (1, 0), (2, 0), (3, 0), (4, 0), (5, 0), (6, 0), (7, 0), (8, 0), (9, 0), (10, 0), (11, 0), (12, 0), (13, 4), (14, 0), (15, 0), (16, 0)] [] ?_ | refine k_draw 8 [] [(0, 0), (1, 0), (2, 0), (3, 0), (4, 0), (5, 0), (6, 0), (7, 0), (8, 0), (9, 0), (10, 0), (11, 0), (12, 0), (13, 4), (14, 0)] [15] ?_ | refine k_draw 10 [] [(0, 0), (1, 0), (2, 0), (3, 0), (4, 0), (5, 0), (6, 0), (7, 0), (8, 0), (9, 0), (10, 0), (11, 0), (12, 0), (13, 4), (14, 0)] [15] ?_ | refine k_draw 13 [] [(0, 0), (1, 0), (2, 0), (3, 0), (4, 0), (5, 0), (6, 0), (7, 0), (8, 0), (9, 0), (10, 0), (11, 0), (12, 0), (13, 4), (14, 0), (15, 0)] [] ?_ | refine k_draw 15 [] [(0, 0), (1, 0), (2, 0), (3, 0), (4, 0), (5, 0), (6, 0), (7, 0), (8, 0), (9, 0), (10, 0), (11, 0), (12, 0), (13, 4), (14, 0), (15, 0), (16, 0)] [] ?_ | refine k_draw 18 [] [(0, 0), (1, 0), (2, 0), (3, 0), (4, 0), (5, 0), (6, 0), (7, 0), (8, 0), (9, 0), (10, 0), (11, 0), (12, 0), (13, 4), (14, 0)] [15] ?_ | refine k_draw 21 [] [(0, 0), (1, 0), (2, 0), (3, 0), (4, 0), (5, 0), (6, 0), (7, 0), (8, 0), (9, 0), (10, 0), (11, 0), (12, 0), (13, 4), (14, 0)] [15] ?_ | (refine k_cond (fun hc => ?_) (fun hc => ?_) <;> (try simp at hc) <;> (try omega)))
        exact k_out hx ⟨j, by omega, hp, fun _ => (hA)⟩ ⟨rfl, rfl, rfl, rfl, rfl, trivial⟩
      · repeat' (first | refine l_run ?_ | refine l_nil ?_ | refine l_one ?_ | refine k_reg ?_ | refine l_ld ?_ | refine l_ldF ?_ | refine l_st ?_ | refine l_al (fun b => ?_) | refine l_bs (fun b => ?_) | refine k_condT ?_ | refine k_condF ?_ | refine r_run ?_ | refine r_one ?_ | refine r_ld ?_ | refine r_ldF ?_ | refine r_ldN ?_ | refine r_al (fun b => ?_) | refine r_bs (fun b => ?_) | refine r_st ?_ | refine r_end ?_ | rw [wi i hi] | rw [wj j (by omega) hj] | refine r_ixW (m := n) (j) hj ?_ | refine l_ixW (m := n) (j) hj ?_ | refine r_ixW (m := n) (a) ha ?_ | refine l_ixW (m := n) (a) ha ?_ | refine r_ldE 7 (j) 0 gj ?_ | refine l_ldE 7 (j) 0 gj ?_ | refine r_ldE 7 (a) 0 ga ?_ | refine l_ldE 7 (a) 0 ga ?_ | refine r_callF sp (fun _ _ => ?_) | (refine l_split (fun hc => ?_) (fun hc => ?_) <;> (try simp at hc) <;> (try omega)) | (refine r_split (fun hc => ?_) (fun hc => ?_) <;> (try simp at hc) <;> (try omega)) | refine k_draw 1 [] [(0, 0), (1, 0), (2, 0), (3, 0), (4, 0), (5, 0), (6, 0), (7, 0), (8, 0), (9, 0), (10, 0), (11, 0), (12, 0), (13, 4), (14, 0)] [15] ?_ | refine k_draw 3 [] [(0, 0), (1, 0), (2, 0), (3, 0), (4, 0), (5, 0), (6, 0), (7, 0), (8, 0), (9, 0), (10, 0), (11, 0), (12, 0), (13, 4), (14, 0), (15, 0)] [] ?_ | refine k_draw 5 [] [(0, 0), (1, 0), (2, 0), (3, 0), (4, 0), (5, 0), (6, 0), (7, 0), (8, 0), (9, 0), (10, 0), (11, 0), (12, 0), (13, 4), (14, 0), (15, 0), (16, 0)] [] ?_ | refine k_draw 8 [] [(0, 0), (1, 0), (2, 0), (3, 0), (4, 0), (5, 0), (6, 0), (7, 0), (8, 0), (9, 0), (10, 0), (11, 0), (12, 0), (13, 4), (14, 0)] [15] ?_ | refine k_draw 10 [] [(0, 0), (1, 0), (2, 0), (3, 0), (4, 0), (5, 0), (6, 0), (7, 0), (8, 0), (9, 0), (10, 0), (11, 0), (12, 0), (13, 4), (14, 0)] [15] ?_ | refine k_draw 13 [] [(0, 0), (1, 0), (2, 0), (3, 0), (4, 0), (5, 0), (6, 0), (7, 0), (8, 0), (9, 0), (10, 0), (11, 0), (12, 0), (13, 4), (14, 0), (15, 0)] [] ?_ | refine k_draw 15 [] [(0, 0), (1, 0), (2, 0), (3, 0), (4, 0), (5, 0), (6, 0), (7, 0), (8, 0), (9, 0), (10, 0), (11, 0), (12, 0), (13, 4), (14, 0), (15, 0), (16, 0)] [] ?_ | refine k_draw 18 [] [(0, 0), (1, 0), (2, 0), (3, 0), (4, 0), (5, 0), (6, 0), (7, 0), (8, 0), (9, 0), (10, 0), (11, 0), (12, 0), (13, 4), (14, 0)] [15] ?_ | refine k_draw 21 [] [(0, 0), (1, 0), (2, 0), (3, 0), (4, 0), (5, 0), (6, 0), (7, 0), (8, 0), (9, 0), (10, 0), (11, 0), (12, 0), (13, 4), (14, 0)] [15] ?_ | (refine k_cond (fun hc => ?_) (fun hc => ?_) <;> (try simp at hc) <;> (try omega)))
        exact k_next ⟨j - 1, by omega, hp.jj hij (hA)⟩ (by show j - 1 < j; omega) ⟨rfl, rfl, rfl, rfl, rfl, trivial⟩
    · repeat' (first | refine l_run ?_ | refine l_nil ?_ | refine l_one ?_ | refine k_reg ?_ | refine l_ld ?_ | refine l_ldF ?_ | refine l_st ?_ | refine l_al (fun b => ?_) | refine l_bs (fun b => ?_) | refine k_condT ?_ | refine k_condF ?_ | refine r_run ?_ | refine r_one ?_ | refine r_ld ?_ | refine r_ldF ?_ | refine r_ldN ?_ | refine r_al (fun b => ?_) | refine r_bs (fun b => ?_) | refine r_st ?_ | refine r_end ?_ | (refine l_split (fun hc => ?_) (fun hc => ?_) <;> (try simp at hc) <;> (try omega)) | (refine r_split (fun hc => ?_) (fun hc => ?_) <;> (try simp at hc) <;> (try omega)) | refine k_draw 1 [] [(0, 0), (1, 0), (2, 0), (3, 0), (4, 0), (5, 0), (6, 0), (7, 0), (8, 0), (9, 0), (10, 0), (11, 0), (12, 0), (13, 4), (14, 0)] [15] ?_ | refine k_draw 3 [] [(0, 0), (1, 0), (2, 0), (3, 0), (4, 0), (5, 0), (6, 0), (7, 0), (8, 0), (9, 0), (10, 0), (11, 0), (12, 0), (13, 4), (14, 0), (15, 0)] [] ?_ | refine k_draw 5 [] [(0, 0), (1, 0), (2, 0), (3, 0), (4, 0), (5, 0), (6, 0), (7, 0), (8, 0), (9, 0), (10, 0), (11, 0), (12, 0), (13, 4), (14, 0), (15, 0), (16, 0)] [] ?_ | refine k_draw 8 [] [(0, 0), (1, 0), (2, 0), (3, 0), (4, 0), (5, 0), (6, 0), (7, 0), (8, 0), (9, 0), (10, 0), (11, 0), (12, 0), (13, 4), (14, 0)] [15] ?_ | refine k_draw 10 [] [(0, 0), (1, 0), (2, 0), (3, 0), (4, 0), (5, 0), (6, 0), (7, 0), (8, 0), (9, 0), (10, 0), (11, 0), (12, 0), (13, 4), (14, 0)] [15] ?_ | refine k_draw 13 [] [(0, 0), (1, 0), (2, 0), (3, 0), (4, 0), (5, 0), (6, 0), (7, 0), (8, 0), (9, 0), (10, 0), (11, 0), (12, 0), (13, 4), (14, 0), (15, 0)] [] ?_ | refine k_draw 15 [] [(0, 0), (1, 0), (2, 0), (3, 0), (4, 0), (5, 0), (6, 0), (7, 0), (8, 0), (9, 0), (10, 0), (11, 0), (12, 0), (13, 4), (14, 0), (15, 0), (16, 0)] [] ?_ | refine k_draw 18 [] [(0, 0), (1, 0), (2, 0), (3, 0), (4, 0), (5, 0), (6, 0), (7, 0), (8, 0), (9, 0), (10, 0), (11, 0), (12, 0), (13, 4), (14, 0)] [15] ?_ | refine k_draw 21 [] [(0, 0), (1, 0), (2, 0), (3, 0), (4, 0), (5, 0), (6, 0), (7, 0), (8, 0), (9, 0), (10, 0), (11, 0), (12, 0), (13, 4), (14, 0)] [15] ?_ | (refine k_cond (fun hc => ?_) (fun hc => ?_) <;> (try simp at hc) <;> (try omega)))
      exact k_out hx ⟨j, by omega, hp, fun h => absurd h hij⟩ ⟨rfl, rfl, rfl, rfl, rfl, trivial⟩
  rintro ⟨j, hj0, hp, hAj⟩
  dsimp only at hj0 hp hAj ⊢
  have k1 := hp.h1
  have k2 := hp.h2
  have k3 := hp.h3
  have hj : j < n := by omega
  have kj : j < m.length := by omega
  have hqm : AxOK (m.length * 7) q := by rw [hm, ← hn]; exact hq
  have hqm2 : ∀ k y, AxOK ((m.set k y).length * 7) q := fun k y => by rw [List.length_set]; exact hqm
  by_cases hij : i ≤ j
  · have hij2 := hp.ne hij (hAi (by omega)) (hAj hij)
    have hi : i < n := by omega
    have ki : i < m.length := by omega
    have kj2 : j < (m.set i (gt m j)).length := by rw [List.length_set]; exact kj
    repeat' (first | refine l_run ?_ | refine l_nil ?_ | refine l_one ?_ | refine k_reg ?_ | refine l_ld ?_ | refine l_ldF ?_ | refine l_st ?_ | refine l_al (fun b => ?_) | refine l_bs (fun b => ?_) | refine k_condT ?_ | refine k_condF ?_ | refine r_run ?_ | refine r_one ?_ | refine r_ld ?_ | refine r_ldF ?_ | refine r_ldN ?_ | refine r_al (fun b => ?_) | refine r_bs (fun b => ?_) | refine r_st ?_ | refine r_end ?_ | rw [wi i hi] | rw [wj j (by omega) hj] | refine r_ixW (m := n) (i) hi ?_ | refine l_ixW (m := n) (i) hi ?_ | refine r_ixW (m := n) (j) hj ?_ | refine l_ixW (m := n) (j) hj ?_ | refine r_ldEN 7 (i) 0 (gt_some ki) ?_ | refine r_ldEN 7 (j) 0 (gt_some kj) ?_ | refine r_stE 7 (i) 0 (gt m (j)) (gt_some ki) hqm ?_ | refine l_stE 7 (i) 0 (gt m (j)) (gt_some ki) hqm ?_ | refine l_stE 7 (j) 0 (gt m (i)) (gt_some kj2) (hqm2 _ _) ?_ | refine r_up ?_ | (refine l_split (fun hc => ?_) (fun hc => ?_) <;> (try simp at hc) <;> (try omega)) | (refine r_split (fun hc => ?_) (fun hc => ?_) <;> (try simp at hc) <;> (try omega)) | refine k_draw 1 [] [(0, 0), (1, 0), (2, 0), (3, 0), (4, 0), (5, 0), (6, 0), (7, 0), (8, 0), (9, 0), (10, 0), (11, 0), (12, 0), (13, 4), (14, 0)] [15] ?_ | refine k_draw 3 [] [(0, 0), (1, 0), (2, 0), (3, 0), (4, 0), (5, 0), (6, 0), (7, 0), (8, 0), (9, 0), (10, 0), (11, 0), (12, 0), (13, 4), (14, 0), (15, 0)] [] ?_ | refine k_draw 5 [] [(0, 0), (1, 0), (2, 0), (3, 0), (4, 0), (5, 0), (6, 0), (7, 0), (8, 0), (9, 0), (10, 0), (11, 0), (12, 0), (13, 4), (14, 0), (15, 0), (16, 0)] [] ?_ | refine k_draw 10 [Ax _ _ _ _ _] [(0, 0), (1, 0), (2, 0), (3, 0), (4, 0), (5, 0), (6, 0), (8, 0), (9, 0), (10, 0), (7, 3), (11, 3), (12, 0), (13, 4), (14, 0)] [15] ?_ | (refine k_cond (fun hc => ?_) (fun hc => ?_) <;> (try simp at hc) <;> (try omega)))
    refine k_lp (X := { t : Nat × Nat × List Ch // Pin (fun x => c x P < 0) a bb t.1 t.2.1 P l t.2.2 }) (fun t => [(0, .slice (some ⟨bk, 0, none⟩) n cap), (1, .int .i64 (a : Int)), (4, .func (.func fv) #[] #[]), (12, .int .i64 (t.1.1 : Int)), (13, .int .i64 (t.1.2.1 : Int))]) (fun _ => [Fc]) (fun t => [Ax 119 chf bk t.1.2.2 q]) (fun t => t.1.2.1 + 1 - t.1.1) ⟨(i + 1, j - 1, sw m i j), hp.sw (by omega) hij2 (hAi (by omega)) (hAj hij)⟩ ⟨rfl, rfl, rfl, rfl, rfl, trivial⟩ ?_
    clear hc hin ga hUm hi0 hp0 hAi hj0 hp hAj k1 k2 k3 hj kj hqm hqm2 hij hij2 hi ki kj2 hm hjz
    clear i j m jz
    rintro ⟨⟨i0, j0, m⟩, hin⟩
    dsimp only at hin ⊢
    have q1 := hin.h1
    have q2 := hin.h2
    have q3 := hin.h3
    repeat' (first | refine l_run ?_ | refine l_nil ?_ | refine l_one ?_ | refine k_reg ?_ | refine l_ld ?_ | refine l_ldF ?_ | refine l_st ?_ | refine l_al (fun b => ?_) | refine l_bs (fun b => ?_) | refine k_condT ?_ | refine k_condF ?_ | (refine l_split (fun hc => ?_) (fun hc => ?_) <;> (try simp at hc)) | (refine k_cond (fun hc => ?_) (fun hc => ?_) <;> (try simp at hc)))
    obtain ⟨jz, hjz⟩ : ∃ jz, jz = j0 := ⟨_, rfl⟩
    rw [← hjz] at hin
    have hm := hin.w.len
    have ga : m[a]? = some P := by rw [← hin.pa]; exact gt_some (by omega)
    have hUm := hin.w.sub hU
    refine k_lpx (Y := { i : Nat // i0 ≤ i ∧ Pin (fun x => c x P < 0) a bb i jz P l m ∧ (i ≤ jz → ¬ (fun x => c x P < 0) (gt m i)) }) (X := { i : Nat // i0 ≤ i ∧ Pin (fun x => c x P < 0) a bb i jz P l m }) (fun i => [(0, .slice (some ⟨bk, 0, none⟩) n cap), (1, .int .i64 (a : Int)), (4, .func (.func fv) #[] #[]), (12, .int .i64 ((i.1 : Nat) : Int)), (13, .int .i64 ((jz : Nat) : Int))]) (fun _ => [Fc]) (fun _ => [Ax 119 chf bk m q]) (fun i => bb + 1 - i.1) (fun i => [(0, .slice (some ⟨bk, 0, none⟩) n cap), (1, .int .i64 (a : Int)), (4, .func (.func fv) #[] #[]), (12, .int .i64 ((i.1 : Nat) : Int)), (13, .int .i64 ((jz : Nat) : Int))]) (fun _ => [Fc]) (fun _ => [Ax 119 chf bk m q]) ⟨i0, Nat.le_refl _, hin⟩ ⟨rfl, rfl, rfl, rfl, (by show look _ _ = some (Value.int .i64 ((jz : Nat) : Int)); rw [hjz]; rfl), trivial⟩ ?_ ?_
    rotate_left
    · intro hx
      rintro ⟨i, hi0, hp⟩
      dsimp only at hi0 hp ⊢
      have k1 := hp.h1
      have k2 := hp.h2
      have k3 := hp.h3
      generalize jz = j at *
      by_cases hij : i ≤ j
      · have hi : i < n := by omega
        have hj : j < n := by omega
        have ha : a < n := by omega
        have gi : m[i]? = some (gt m i) := gt_some (by omega)
        have gj : m[j]? = some (gt m j) := gt_some (by omega)
        have sp := hcmp (gt m i) P (hUm _ (gt_mem (by omega))) hUP
        by_cases hA : c (gt m i) P < 0
        · repeat' (first | refine l_run ?_ | refine l_nil ?_ | refine l_one ?_ | refine k_reg ?_ | refine l_ld ?_ | refine l_ldF ?_ | refine l_st ?_ | refine l_al (fun b => ?_) | refine l_bs (fun b => ?_) | refine k_condT ?_ | refine k_condF ?_ | refine r_run ?_ | refine r_one ?_ | refine r_ld ?_ | refine r_ldF ?_ | refine r_ldN ?_ | refine r_al (fun b => ?_) | refine r_bs (fun b => ?_) | refine r_st ?_ | refine r_end ?_ | rw [wi i hi] | rw [wj j (by omega) hj] | refine r_ixW (m := n) (i) hi ?_ | refine l_ixW (m := n) (i) hi ?_ | refine r_ixW (m := n) (a) ha ?_ | refine l_ixW (m := n) (a) ha ?_ | refine r_ldE 7 (i) 0 gi ?_ | refine l_ldE 7 (i) 0 gi ?_ | refine r_ldE 7 (a) 0 ga ?_ | refine l_ldE 7 (a) 0 ga ?_ | refine r_callF sp (fun _ _ => ?_) | (refine l_split (fun hc => ?_) (fun hc => ?_) <;> (try simp at hc) <;> (try omega)) | (refine r_split (fun hc => ?_) (fun hc => ?_) <;> (try simp at hc) <;> (try omega)) | refine k_draw 1 [] [(0, 0), (1, 0), (2, 0), (3, 0), (4, 0), (5, 0), (6, 0), (7, 0), (8, 0), (9, 0), (10, 0), (11, 0), (12, 0), (13, 4), (14, 0)] [15] ?_ | refine k_draw 3 [] [(0, 0), (1, 0), (2, 0), (3, 0), (4, 0), (5, 0), (6, 0), (7, 0), (8, 0), (9, 0), (10, 0), (11, 0), (12, 0), (13, 4), (14, 0), (15, 0)] [] ?_ | refine k_draw 5 [] [(0, 0), (1, 0), (2, 0), (3, 0), (4, 0), (5, 0), (6, 0), (7, 0), (8, 0), (9, 0), (10, 0), (11, 0), (12, 0), (13, 4), (14, 0), (15, 0), (16, 0)] [] ?_ | refine k_draw 8 [] [(0, 0), (1, 0), (2, 0), (3, 0), (4, 0), (5, 0), (6, 0), (7, 0), (8, 0), (9, 0), (10, 0), (11, 0), (12, 0), (13, 4), (14, 0)] [15] ?_ | refine k_draw 10 [] [(0, 0), (1, 0), (2, 0), (3, 0), (4, 0), (5, 0), (6, 0), (7, 0), (8, 0), (9, 0), (10, 0), (11, 0), (12, 0), (13, 4), (14, 0)] [15] ?_ | refine k_draw 13 [] [(0, 0), (1, 0), (2, 0), (3, 0), (4, 0), (5, 0), (6, 0), (7, 0), (8, 0), (9, 0), (10, 0), (11, 0), (12, 0), (13, 4), (14, 0), (15, 0)] [] ?_ | refine k_draw 15 [] [(0, 0), (1, 0), (2, 0), (3, 0), (4, 0), (5, 0), (6, 0), (7, 0), (8, 0), (9, 0), (10, 0), (11, 0), (12, 0), (13, 4), (14, 0), (15, 0), (16, 0)] [] ?_ | refine k_draw 18 [] [(0, 0), (1, 0), (2, 0), (3, 0), (4, 0), (5, 0), (6, 0), (7, 0), (8, 0), (9, 0), (10, 0), (11, 0), (12, 0), (13, 4), (14, 0)] [15] ?_ | refine k_draw 21 [] [(0, 0), (1, 0), (2, 0), (3, 0), (4, 0), (5, 0), (6, 0), (7, 0), (8, 0), (9, 0), (10, 0), (11, 0), (12, 0), (13, 4), (14, 0)] [15] ?_ | (refine k_cond (fun hc => ?_) (fun hc => ?_) <;> (try simp at hc) <;> (try omega)))
          exact k_next ⟨i + 1, by omega, hp.ii hij (hA)⟩ (by show bb + 1 - (i + 1) < bb + 1 - i; omega) ⟨rfl, rfl, rfl, rfl, rfl, trivial⟩
        · repeat' (first | refine l_run ?_ | refine l_nil ?_ | refine l_one ?_ | refine k_reg ?_ | refine l_ld ?_ | refine l_ldF ?_ | refine l_st ?_ | refine l_al (fun b => ?_) | refine l_bs (fun b => ?_) | refine k_condT ?_ | refine k_condF ?_ | refine r_run ?_ | refine r_one ?_ | refine r_ld ?_ | refine r_ldF ?_ | refine r_ldN ?_ | refine r_al (fun b => ?_) | refine r_bs (fun b => ?_) | refine r_st ?_ | refine r_end ?_ | rw [wi i hi] | rw [wj j (by omega) hj] | refine r_ixW (m := n) (i) hi ?_ | refine l_ixW (m := n) (i) hi ?_ | refine r_ixW (m := n) (a) ha ?_ | refine l_ixW (m := n) (a) ha ?_ | refine r_ldE 7 (i) 0 gi ?_ | refine l_ldE 7 (i) 0 gi ?_ | refine r_ldE 7 (a) 0 ga ?_ | refine l_ldE 7 (a) 0 ga ?_ | refine r_callF sp (fun _ _ => ?_) | (refine l_split (fun hc => ?_) (fun hc => ?_) <;> (try simp at hc) <;> (try omega)) | (refine r_split (fun hc => ?_) (fun hc => ?_) <;> (try simp at hc) <;> (try omega)) | refine k_draw 1 [] [(0, 0), (1, 0), (2, 0), (3, 0), (4, 0), (5, 0), (6, 0), (7, 0), (8, 0), (9, 0), (10, 0), (11, 0), (12, 0), (13, 4), (14, 0)] [15] ?_ | refine k_draw 3 [] [(0, 0), (1, 0), (2, 0), (3, 0), (4, 0), (5, 0), (6, 0), (7, 0), (8, 0), (9, 0), (10, 0), (11, 0), (12, 0), (13, 4), (14, 0), (15, 0)] [] ?_ | refine k_draw 5 [] [(0, 0), (1, 0), (2, 0), (3, 0), (4, 0), (5, 0), (6, 0), (7, 0), (8, 0), (9, 0), (10, 0), (11, 0), (12, 0), (13, 4), (14, 0), (15, 0), (16, 0)] [] ?_ | refine k_draw 8 [] [(0, 0), (1, 0), (2, 0), (3, 0), (4, 0), (5, 0), (6, 0), (7, 0), (8, 0), (9, 0), (10, 0), (11, 0), (12, 0), (13, 4), (14, 0)] [15] ?_ | refine k_draw 10 [] [(0, 0), (1, 0), (2, 0), (3, 0), (4, 0), (5, 0), (6, 0), (7, 0), (8, 0), (9, 0), (10, 0), (11, 0), (12, 0), (13, 4), (14, 0)] [15] ?_ | refine k_draw 13 [] [(0, 0), (1, 0), (2, 0), (3, 0), (4, 0), (5, 0), (6, 0), (7, 0), (8, 0), (9, 0), (10, 0), (11, 0), (12, 0), (13, 4), (14, 0), (15, 0)] [] ?_ | refine k_draw 15 [] [(0, 0), (1, 0), (2, 0), (3, 0), (4, 0), (5, 0), (6, 0), (7, 0), (8, 0), (9, 0), (10, 0), (11, 0), (12, 0), (13, 4), (14, 0), (15, 0), (16, 0)] [] ?_ | refine k_draw 18 [] [(0, 0), (1, 0), (2, 0), (3, 0), (4, 0), (5, 0), (6, 0), (7, 0), (8, 0), (9, 0), (10, 0), (11, 0), (12, 0), (13, 4), (14, 0)] [15] ?_ | refine k_draw 21 [] [(0, 0), (1, 0), (2, 0), (3, 0), (4, 0), (5, 0), (6, 0), (7, 0), (8, 0), (9, 0), (10, 0), (11, 0), (12, 0), (13, 4), (14, 0)] [15] ?_ | (refine k_cond (fun hc => ?_) (fun hc => ?_) <;> (try simp at hc) <;> (try omega)))
          exact k_out hx ⟨i, by omega, hp, fun _ => (hA)⟩ ⟨rfl, rfl, rfl, rfl, rfl, trivial⟩
      · repeat' (first | refine l_run ?_ | refine l_nil ?_ | refine l_one ?_ | refine k_reg ?_ | refine l_ld ?_ | refine l_ldF ?_ | refine l_st ?_ | refine l_al (fun b => ?_) | refine l_bs (fun b => ?_) | refine k_condT ?_ | refine k_condF ?_ | refine r_run ?_ | refine r_one ?_ | refine r_ld ?_ | refine r_ldF ?_ | refine r_ldN ?_ | refine r_al (fun b => ?_) | refine r_bs (fun b => ?_) | refine r_st ?_ | refine r_end ?_ | (refine l_split (fun hc => ?_) (fun hc => ?_) <;> (try simp at hc) <;> (try omega)) | (refine r_split (fun hc => ?_) (fun hc => ?_) <;> (try simp at hc) <;> (try omega)) | refine k_draw 1 [] [(0, 0), (1, 0), (2, 0), (3, 0), (4, 0), (5, 0), (6, 0), (7, 0), (8, 0), (9, 0), (10, 0), (11, 0), (12, 0), (13, 4), (14, 0)] [15] ?_ | refine k_draw 3 [] [(0, 0), (1, 0), (2, 0), (3, 0), (4, 0), (5, 0), (6, 0), (7, 0), (8, 0), (9, 0), (10, 0), (11, 0), (12, 0), (13, 4), (14, 0), (15, 0)] [] ?_ | refine k_draw 5 [] [(0, 0), (1, 0), (2, 0), (3, 0), (4, 0), (5, 0), (6, 0), (7, 0), (8, 0), (9, 0), (10, 0), (11, 0), (12, 0), (13, 4), (14, 0), (15, 0), (16, 0)] [] ?_ | refine k_draw 8 [] [(0, 0), (1, 0), (2, 0), (3, 0), (4, 0), (5, 0), (6, 0), (7, 0), (8, 0), (9, 0), (10, 0), (11, 0), (12, 0), (13, 4), (14, 0)] [15] ?_ | refine k_draw 10 [] [(0, 0), (1, 0), (2, 0), (3, 0), (4, 0), (5, 0), (6, 0), (7, 0), (8, 0), (9, 0), (10, 0), (11, 0), (12, 0), (13, 4), (14, 0)] [15] ?_ | refine k_draw 13 [] [(0, 0), (1, 0), (2, 0), (3, 0), (4, 0), (5, 0), (6, 0), (7, 0), (8, 0), (9, 0), (10, 0), (11, 0), (12, 0), (13, 4), (14, 0), (15, 0)] [] ?_ | refine k_draw 15 [] [(0, 0), (1, 0), (2, 0), (3, 0), (4, 0), (5, 0), (6, 0), (7, 0), (8, 0), (9, 0), (10, 0), (11, 0), (12, 0), (13, 4), (14, 0), (15, 0), (16, 0)] [] ?_ | refine k_draw 18 [] [(0, 0), (1, 0), (2, 0), (3, 0), (4, 0), (5, 0), (6, 0), (7, 0), (8, 0), (9, 0), (10, 0), (11, 0), (12, 0), (13, 4), (14, 0)] [15] ?_ | refine k_draw 21 [] [(0, 0), (1, 0), (2, 0), (3, 0), (4, 0), (5, 0), (6, 0), (7, 0), (8, 0), (9, 0), (10, 0), (11, 0), (12, 0), (13, 4), (14, 0)] [15] ?_ | (refine k_cond (fun hc => ?_) (fun hc => ?_) <;> (try simp at hc) <;> (try omega)))
        exact k_out hx ⟨i, by omega, hp, fun h => absurd h hij⟩ ⟨rfl, rfl, rfl, rfl, rfl, trivial⟩
    rintro ⟨i, hi0, hp0, hAi⟩
    dsimp only at hi0 hp0 hAi ⊢
    refine k_lpx (Y := { j : Nat // j ≤ jz ∧ Pin (fun x => c x P < 0) a bb i j P l m ∧ (i ≤ j → (fun x => c x P < 0) (gt m j)) }) (X := { j : Nat // j ≤ jz ∧ Pin (fun x => c x P < 0) a bb i j P l m }) (fun j => [(0, .slice (some ⟨bk, 0, none⟩) n cap), (1, .int .i64 (a : Int)), (4, .func (.func fv) #[] #[]), (12, .int .i64 ((i : Nat) : Int)), (13, .int .i64 ((j.1 : Nat) : Int))]) (fun _ => [Fc]) (fun _ => [Ax 119 chf bk m q]) (fun j => j.1) (fun j => [(0, .slice (some ⟨bk, 0, none⟩) n cap), (1, .int .i64 (a : Int)), (4, .func (.func fv) #[] #[]), (12, .int .i64 ((i : Nat) : Int)), (13, .int .i64 ((j.1 : Nat) : Int))]) (fun _ => [Fc]) (fun _ => [Ax 119 chf bk m q]) ⟨jz, Nat.le_refl _, hp0⟩ ⟨rfl, rfl, rfl, rfl, rfl, trivial⟩ ?_ ?_
    rotate_left
    · intro hx
      rintro ⟨j, hj0, hp⟩
      dsimp only at hj0 hp ⊢
      have k1 := hp.h1
      have k2 := hp.h2
      have k3 := hp.h3
      by_cases hij : i ≤ j
      · have hi : i < n := by omega
        have hj : j < n := by omega
        have ha : a < n := by omega
        have gi : m[i]? = some (gt m i) := gt_some (by omega)
        have gj : m[j]? = some (gt m j) := gt_some (by omega)
        have sp := hcmp (gt m j) P (hUm _ (gt_mem (by omega))) hUP
        by_cases hA : c (gt m j) P < 0
        · repeat' (first | refine l_run ?_ | refine l_nil ?_ | refine l_one ?_ | refine k_reg ?_ | refine l_ld ?_ | refine l_ldF ?_ | refine l_st ?_ | refine l_al (fun b => ?_) | refine l_bs (fun b => ?_) | refine k_condT ?_ | refine k_condF ?_ | refine r_run ?_ | refine r_one ?_ | refine r_ld ?_ | refine r_ldF ?_ | refine r_ldN ?_ | refine r_al (fun b => ?_) | refine r_bs (fun b => ?_) | refine r_st ?_ | refine r_end ?_ | rw [wi i hi] | rw [wj j (by omega) hj] | refine r_ixW (m := n) (j) hj ?_ | refine l_ixW (m := n) (j) hj ?_ | refine r_ixW (m := n) (a) ha ?_ | refine l_ixW (m := n) (a) ha ?_ | refine r_ldE 7 (j) 0 gj ?_ | refine l_ldE 7 (j) 0 gj ?_ | refine r_ldE 7 (a) 0 ga ?_ | refine l_ldE 7 (a) 0 ga ?_ | refine r_callF sp (fun _ _ => ?_) | (refine l_split (fun hc => ?_) (fun hc => ?_) <;> (try simp at hc) <;> (try omega)) | (refine r_split (fun hc => ?_) (fun hc => ?_) <;> (try simp at hc) <;> (try omega)) | refine k_draw 1 [] [(0, 0), (1, 0), (2, 0), (3, 0), (4, 0), (5, 0), (6, 0), (7, 0), (8, 0), (9, 0), (10, 0), (11, 0), (12, 0), (13, 4), (14, 0)] [15] ?_ | refine k_draw 3 [] [(0, 0), (1, 0), (2, 0), (3, 0), (4, 0), (5, 0), (6, 0), (7, 0), (8, 0), (9, 0), (10, 0), (11, 0), (12, 0), (13, 4), (14, 0), (15, 0)] [] ?_ | refine k_draw 5 [] [(0, 0), (1, 0), (2, 0), (3, 0), (4, 0), (5, 0), (6, 0), (7, 0), (8, 0), (9, 0), (10, 0), (11, 0), (12, 0), (13, 4), (14, 0), (15, 0), (16, 0)] [] ?_ | refine k_draw 8 [] [(0, 0), (1, 0), (2, 0), (3, 0), (4, 0), (5, 0), (6, 0), (7, 0), (8, 0), (9, 0), (10, 0), (11, 0), (12, 0), (13, 4), (14, 0)] [15] ?_ | refine k_draw 10 [] [(0, 0), (1, 0), (2, 0), (3, 0), (4, 0), (5, 0), (6, 0), (7, 0), (8, 0), (9, 0), (10, 0), (11, 0), (12, 0), (13, 4), (14, 0)] [15] ?_ | refine k_draw 13 [] [(0, 0), (1, 0), (2, 0), (3, 0), (4, 0), (5, 0), (6, 0), (7, 0), (8, 0), (9, 0), (10, 0), (11, 0), (12, 0), (13, 4), (14, 0), (15, 0)] [] ?_ | refine k_draw 15 [] [(0, 0), (1, 0), (2, 0), (3, 0), (4, 0), (5, 0), (6, 0), (7, 0), (8, 0), (9, 0), (10, 0), (11, 0), (12, 0), (13, 4), (14, 0), (15, 0), (16, 0)] [] ?_ | refine k_draw 18 [] [(0, 0), (1, 0), (2, 0), (3, 0), (4, 0), (5, 0), (6, 0), (7, 0), (8, 0), (9, 0), (10, 0), (11, 0), (12, 0), (13, 4), (14, 0)] [15] ?_ | refine k_draw 21 [] [(0, 0), (1, 0), (2, 0), (3, 0), (4, 0), (5, 0), (6, 0), (7, 0), (8, 0), (9, 0), (10, 0), (11, 0), (12, 0), (13, 4), (14, 0)] [15] ?_ | (refine k_cond (fun hc => ?_) (fun hc => ?_) <;> (try simp at hc) <;> (try omega)))
          exact k_out hx ⟨j, by omega, hp, fun _ => (hA)⟩ ⟨rfl, rfl, rfl, rfl, rfl, trivial⟩
        · repeat' (first | refine l_run ?_ | refine l_nil ?_ | refine l_one ?_ | refine k_reg ?_ | refine l_ld ?_ | refine l_ldF ?_ | refine l_st ?_ | refine l_al (fun b => ?_) | refine l_bs (fun b => ?_) | refine k_condT ?_ | refine k_condF ?_ | refine r_run ?_ | refine r_one ?_ | refine r_ld ?_ | refine r_ldF ?_ | refine r_ldN ?_ | refine r_al (fun b => ?_) | refine r_bs (fun b => ?_) | refine r_st ?_ | refine r_end ?_ | rw [wi i hi] | rw [wj j (by omega) hj] | refine r_ixW (m := n) (j) hj ?_ | refine l_ixW (m := n) (j) hj ?_ | refine r_ixW (m := n) (a) ha ?_ | refine l_ixW (m := n) (a) ha ?_ | refine r_ldE 7 (j) 0 gj ?_ | refine l_ldE 7 (j) 0 gj ?_ | refine r_ldE 7 (a) 0 ga ?_ | refine l_ldE 7 (a) 0 ga ?_ | refine r_callF sp (fun _ _ => ?_) | (refine l_split (fun hc => ?_) (fun hc => ?_) <;> (try simp at hc) <;> (try omega)) | (refine r_split (fun hc => ?_) (fun hc => ?_) <;> (try simp at hc) <;> (try omega)) | refine k_draw 1 [] [(0, 0), (1, 0), (2, 0), (3, 0), (4, 0), (5, 0), (6, 0), (7, 0), (8, 0), (9, 0), (10, 0), (11, 0), (12, 0), (13, 4), (14, 0)] [15] ?_ | refine k_draw 3 [] [(0, 0), (1, 0), (2, 0), (3, 0), (4, 0), (5, 0), (6, 0), (7, 0), (8, 0), (9, 0), (10, 0), (11, 0), (12, 0), (13, 4), (14, 0), (15, 0)] [] ?_ | refine k_draw 5 [] [(0, 0), (1, 0), (2, 0), (3, 0), (4, 0), (5, 0), (6, 0), (7, 0), (8, 0), (9, 0), (10, 0), (11, 0), (12, 0), (13, 4), (14, 0), (15, 0), (16, 0)] [] ?_ | refine k_draw 8 [] [(0, 0), (1, 0), (2, 0), (3, 0), (4, 0), (5, 0), (6, 0), (7, 0), (8, 0), (9, 0), (10, 0), (11, 0), (12, 0), (13, 4), (14, 0)] [15] ?_ | refine k_draw 10 [] [(0, 0), (1, 0), (2, 0), (3, 0), (4, 0), (5, 0), (6, 0), (7, 0), (8, 0), (9, 0), (10, 0), (11, 0), (12, 0), (13, 4), (14, 0)] [15] ?_ | refine k_draw 13 [] [(0, 0), (1, 0), (2, 0), (3, 0), (4, 0), (5, 0), (6, 0), (7, 0), (8, 0), (9, 0), (10, 0), (11, 0), (12, 0), (13, 4), (14, 0), (15, 0)] [] ?_ | refine k_draw 15 [] [(0, 0), (1, 0), (2, 0), (3, 0), (4, 0), (5, 0), (6, 0), (7, 0), (8, 0), (9, 0), (10, 0), (11, 0), (12, 0), (13, 4), (14, 0), (15, 0), (16, 0)] [] ?_ | refine k_draw 18 [] [(0, 0), (1, 0), (2, 0), (3, 0), (4, 0), (5, 0), (6, 0), (7, 0), (8, 0), (9, 0), (10, 0), (11, 0), (12, 0), (13, 4), (14, 0)] [15] ?_ | refine k_draw 21 [] [(0, 0), (1, 0), (2, 0), (3, 0), (4, 0), (5, 0), (6, 0), (7, 0), (8, 0), (9, 0), (10, 0), (11, 0), (12, 0), (13, 4), (14, 0)] [15] ?_ | (refine k_cond (fun hc => ?_) (fun hc => ?_) <;> (try simp at hc) <;> (try omega)))
          exact k_next ⟨j - 1, by omega, hp.jj hij (hA)⟩ (by show j - 1 < j; omega) ⟨rfl, rfl, rfl, rfl, rfl, trivial⟩
      · repeat' (first | refine l_run ?_ | refine l_nil ?_ | refine l_one ?_ | refine k_reg ?_ | refine l_ld ?_ | refine l_ldF ?_ | refine l_st ?_ | refine l_al (fun b => ?_) | refine l_bs (fun b => ?_) | refine k_condT ?_ | refine k_condF ?_ | refine r_run ?_ | refine r_one ?_ | refine r_ld ?_ | refine r_ldF ?_ | refine r_ldN ?_ | refine r_al (fun b => ?_) | refine r_bs (fun b => ?_) | refine r_st ?_ | refine r_end ?_ | (refine l_split (fun hc => ?_) (fun hc => ?_) <;> (try simp at hc) <;> (try omega)) | (refine r_split (fun hc => ?_) (fun hc => ?_) <;> (try simp at hc) <;> (try omega)) | refine k_draw 1 [] [(0, 0), (1, 0), (2, 0), (3, 0), (4, 0), (5, 0), (6, 0), (7, 0), (8, 0), (9, 0), (10, 0), (11, 0), (12, 0), (13, 4), (14, 0)] [15] ?_ | refine k_draw 3 [] [(0, 0), (1, 0), (2, 0), (3, 0), (4, 0), (5, 0), (6, 0), (7, 0), (8, 0), (9, 0), (10, 0), (11, 0), (12, 0), (13, 4), (14, 0), (15, 0)] [] ?_ | refine k_draw 5 [] [(0, 0), (1, 0), (2, 0), (3, 0), (4, 0), (5, 0), (6, 0), (7, 0), (8, 0), (9, 0), (10, 0), (11, 0), (12, 0), (13, 4), (14, 0), (15, 0), (16, 0)] [] ?_ | refine k_draw 8 [] [(0, 0), (1, 0), (2, 0), (3, 0), (4, 0), (5, 0), (6, 0), (7, 0), (8, 0), (9, 0), (10, 0), (11, 0), (12, 0), (13, 4), (14, 0)] [15] ?_ | refine k_draw 10 [] [(0, 0), (1, 0), (2, 0), (3, 0), (4, 0), (5, 0), (6, 0), (7, 0), (8, 0), (9, 0), (10, 0), (11, 0), (12, 0), (13, 4), (14, 0)] [15] ?_ | refine k_draw 13 [] [(0, 0), (1, 0), (2, 0), (3, 0), (4, 0), (5, 0), (6, 0), (7, 0), (8, 0), (9, 0), (10, 0), (11, 0), (12, 0), (13, 4), (14, 0), (15, 0)] [] ?_ | refine k_draw 15 [] [(0, 0), (1, 0), (2, 0), (3, 0), (4, 0), (5, 0), (6, 0), (7, 0), (8, 0), (9, 0), (10, 0), (11, 0), (12, 0), (13, 4), (14, 0), (15, 0), (16, 0)] [] ?_ | refine k_draw 18 [] [(0, 0), (1, 0), (2, 0), (3, 0), (4, 0), (5, 0), (6, 0), (7, 0), (8, 0), (9, 0), (10, 0), (11, 0), (12, 0), (13, 4), (14, 0)] [15] ?_ | refine k_draw 21 [] [(0, 0), (1, 0), (2, 0), (3, 0), (4, 0), (5, 0), (6, 0), (7, 0), (8, 0), (9, 0), (10, 0), (11, 0), (12, 0), (13, 4), (14, 0)] [15] ?_ | (refine k_cond (fun hc => ?_) (fun hc => ?_) <;> (try simp at hc) <;> (try omega)))
        exact k_out hx ⟨j, by omega, hp, fun h => absurd h hij⟩ ⟨rfl, rfl, rfl, rfl, rfl, trivial⟩
    rintro ⟨j, hj0, hp, hAj⟩
    dsimp only at hj0 hp hAj ⊢
    have k1 := hp.h1
    have k2 := hp.h2
    have k3 := hp.h3
    have hj : j < n := by omega
    have kj : j < m.length := by omega
    have hqm : AxOK (m.length * 7) q := by rw [hm, ← hn]; exact hq
    have hqm2 : ∀ k y, AxOK ((m.set k y).length * 7) q := fun k y => by rw [List.length_set]; exact hqm
    by_cases hij : i ≤ j
    · have hij2 := hp.ne hij (hAi (by omega)) (hAj hij)
      have hi : i < n := by omega
      have ki : i < m.length := by omega
      have kj2 : j < (m.set i (gt m j)).length := by rw [List.length_set]; exact kj
      repeat' (first | refine l_run ?_ | refine l_nil ?_ | refine l_one ?_ | refine k_reg ?_ | refine l_ld ?_ | refine l_ldF ?_ | refine l_st ?_ | refine l_al (fun b => ?_) | refine l_bs (fun b => ?_) | refine k_condT ?_ | refine k_condF ?_ | refine r_run ?_ | refine r_one ?_ | refine r_ld ?_ | refine r_ldF ?_ | refine r_ldN ?_ | refine r_al (fun b => ?_) | refine r_bs (fun b => ?_) | refine r_st ?_ | refine r_end ?_ | rw [wi i hi] | rw [wj j (by omega) hj] | refine r_ixW (m := n) (i) hi ?_ | refine l_ixW (m := n) (i) hi ?_ | refine r_ixW (m := n) (j) hj ?_ | refine l_ixW (m := n) (j) hj ?_ | refine r_ldEN 7 (i) 0 (gt_some ki) ?_ | refine r_ldEN 7 (j) 0 (gt_some kj) ?_ | refine r_stE 7 (i) 0 (gt m (j)) (gt_some ki) hqm ?_ | refine l_stE 7 (i) 0 (gt m (j)) (gt_some ki) hqm ?_ | refine l_stE 7 (j) 0 (gt m (i)) (gt_some kj2) (hqm2 _ _) ?_ | refine r_up ?_ | (refine l_split (fun hc => ?_) (fun hc => ?_) <;> (try simp at hc) <;> (try omega)) | (refine r_split (fun hc => ?_) (fun hc => ?_) <;> (try simp at hc) <;> (try omega)) | refine k_draw 1 [] [(0, 0), (1, 0), (2, 0), (3, 0), (4, 0), (5, 0), (6, 0), (7, 0), (8, 0), (9, 0), (10, 0), (11, 0), (12, 0), (13, 4), (14, 0)] [15] ?_ | refine k_draw 3 [] [(0, 0), (1, 0), (2, 0), (3, 0), (4, 0), (5, 0), (6, 0), (7, 0), (8, 0), (9, 0), (10, 0), (11, 0), (12, 0), (13, 4), (14, 0), (15, 0)] [] ?_ | refine k_draw 5 [] [(0, 0), (1, 0), (2, 0), (3, 0), (4, 0), (5, 0), (6, 0), (7, 0), (8, 0), (9, 0), (10, 0), (11, 0), (12, 0), (13, 4), (14, 0), (15, 0), (16, 0)] [] ?_ | refine k_draw 8 [] [(0, 0), (1, 0), (2, 0), (3, 0), (4, 0), (5, 0), (6, 0), (7, 0), (8, 0), (9, 0), (10, 0), (11, 0), (12, 0), (13, 4), (14, 0)] [15] ?_ | refine k_draw 10 [] [(0, 0), (1, 0), (2, 0), (3, 0), (4, 0), (5, 0), (6, 0), (7, 0), (8, 0), (9, 0), (10, 0), (11, 0), (12, 0), (13, 4), (14, 0)] [15] ?_ | refine k_draw 13 [] [(0, 0), (1, 0), (2, 0), (3, 0), (4, 0), (5, 0), (6, 0), (7, 0), (8, 0), (9, 0), (10, 0), (11, 0), (12, 0), (13, 4), (14, 0), (15, 0)] [] ?_ | refine k_draw 15 [] [(0, 0), (1, 0), (2, 0), (3, 0), (4, 0), (5, 0), (6, 0), (7, 0), (8, 0), (9, 0), (10, 0), (11, 0), (12, 0), (13, 4), (14, 0), (15, 0), (16, 0)] [] ?_ | refine k_draw 18 [Ax _ _ _ _ _] [(0, 0), (1, 0), (2, 0), (3, 0), (4, 0), (5, 0), (6, 0), (8, 0), (9, 0), (10, 0), (7, 3), (11, 3), (12, 0), (13, 4), (14, 0)] [15] ?_ | (refine k_cond (fun hc => ?_) (fun hc => ?_) <;> (try simp at hc) <;> (try omega)))
      exact k_next ⟨(i + 1, j - 1, sw m i j), hp.sw (by omega) hij2 (hAi (by omega)) (hAj hij)⟩ (by show j - 1 + 1 - (i + 1) < j0 + 1 - i0; omega) ⟨rfl, rfl, rfl, rfl, rfl, trivial⟩
    · obtain ⟨f1, f2⟩ := hp.part (by omega) (by omega)
      have ka : a < m.length := by omega
      have ka2 : a < (m.set j (gt m a)).length := by rw [List.length_set]; exact ka
      repeat' (first | refine l_run ?_ | refine l_nil ?_ | refine l_one ?_ | refine k_reg ?_ | refine l_ld ?_ | refine l_ldF ?_ | refine l_st ?_ | refine l_al (fun b => ?_) | refine l_bs (fun b => ?_) | refine k_condT ?_ | refine k_condF ?_ | refine k_brk ?_ | refine r_run ?_ | refine r_one ?_ | refine r_ld ?_ | refine r_ldF ?_ | refine r_ldN ?_ | refine r_al (fun b => ?_) | refine r_bs (fun b => ?_) | refine r_st ?_ | refine r_end ?_ | refine r_ixW (m := n) (j) hj ?_ | refine l_ixW (m := n) (j) hj ?_ | refine r_ixW (m := n) (a) hia ?_ | refine l_ixW (m := n) (a) hia ?_ | refine r_ldEN 7 (j) 0 (gt_some kj) ?_ | refine r_ldEN 7 (a) 0 (gt_some ka) ?_ | refine r_stE 7 (j) 0 (gt m (a)) (gt_some kj) hqm ?_ | refine l_stE 7 (j) 0 (gt m (a)) (gt_some kj) hqm ?_ | refine l_stE 7 (a) 0 (gt m (j)) (gt_some ka2) (hqm2 _ _) ?_ | refine r_up ?_ | (refine l_split (fun hc => ?_) (fun hc => ?_) <;> (try simp at hc) <;> (try omega)) | (refine r_split (fun hc => ?_) (fun hc => ?_) <;> (try simp at hc) <;> (try omega)) | refine k_draw 1 [] [(0, 0), (1, 0), (2, 0), (3, 0), (4, 0), (5, 0), (6, 0), (7, 0), (8, 0), (9, 0), (10, 0), (11, 0), (12, 0), (13, 4), (14, 0)] [15] ?_ | refine k_draw 3 [] [(0, 0), (1, 0), (2, 0), (3, 0), (4, 0), (5, 0), (6, 0), (7, 0), (8, 0), (9, 0), (10, 0), (11, 0), (12, 0), (13, 4), (14, 0), (15, 0)] [] ?_ | refine k_draw 5 [] [(0, 0), (1, 0), (2, 0), (3, 0), (4, 0), (5, 0), (6, 0), (7, 0), (8, 0), (9, 0), (10, 0), (11, 0), (12, 0), (13, 4), (14, 0), (15, 0), (16, 0)] [] ?_ | refine k_draw 8 [] [(0, 0), (1, 0), (2, 0), (3, 0), (4, 0), (5, 0), (6, 0), (7, 0), (8, 0), (9, 0), (10, 0), (11, 0), (12, 0), (13, 4), (14, 0)] [15] ?_ | refine k_draw 10 [] [(0, 0), (1, 0), (2, 0), (3, 0), (4, 0), (5, 0), (6, 0), (7, 0), (8, 0), (9, 0), (10, 0), (11, 0), (12, 0), (13, 4), (14, 0)] [15] ?_ | refine k_draw 13 [] [(0, 0), (1, 0), (2, 0), (3, 0), (4, 0), (5, 0), (6, 0), (7, 0), (8, 0), (9, 0), (10, 0), (11, 0), (12, 0), (13, 4), (14, 0), (15, 0)] [] ?_ | refine k_draw 15 [] [(0, 0), (1, 0), (2, 0), (3, 0), (4, 0), (5, 0), (6, 0), (7, 0), (8, 0), (9, 0), (10, 0), (11, 0), (12, 0), (13, 4), (14, 0), (15, 0), (16, 0)] [] ?_ | refine k_draw 21 [Ax _ _ _ _ _] [(0, 0), (1, 0), (2, 0), (3, 0), (4, 0), (5, 0), (6, 0), (8, 0), (9, 0), (10, 0), (7, 3), (11, 3), (12, 0), (13, 4), (14, 0)] [15] ?_ | (refine k_cond (fun hc => ?_) (fun hc => ?_) <;> (try simp at hc) <;> (try omega)))
      exact k_ret ⟨(j, false, sw m j a), f1, f2⟩ rfl trivial
  · obtain ⟨f1, f2⟩ := hp.part (by omega) (by omega)
    have ka : a < m.length := by omega
    have ka2 : a < (m.set j (gt m a)).length := by rw [List.length_set]; exact ka
    repeat' (first | refine l_run ?_ | refine l_nil ?_ | refine l_one ?_ | refine k_reg ?_ | refine l_ld ?_ | refine l_ldF ?_ | refine l_st ?_ | refine l_al (fun b => ?_) | refine l_bs (fun b => ?_) | refine k_condT ?_ | refine k_condF ?_ | refine k_brk ?_ | refine r_run ?_ | refine r_one ?_ | refine r_ld ?_ | refine r_ldF ?_ | refine r_ldN ?_ | refine r_al (fun b => ?_) | refine r_bs (fun b => ?_) | refine r_st ?_ | refine r_end ?_ | refine r_ixW (m := n) (j) hj ?_ | refine l_ixW (m := n) (j) hj ?_ | refine r_ixW (m := n) (a) hia ?_ | refine l_ixW (m := n) (a) hia ?_ | refine r_ldEN 7 (j) 0 (gt_some kj) ?_ | refine r_ldEN 7 (a) 0 (gt_some ka) ?_ | refine r_stE 7 (j) 0 (gt m (a)) (gt_some kj) hqm ?_ | refine l_stE 7 (j) 0 (gt m (a)) (gt_some kj) hqm ?_ | refine l_stE 7 (a) 0 (gt m (j)) (gt_some ka2) (hqm2 _ _) ?_ | refine r_up ?_ | (refine l_split (fun hc => ?_) (fun hc => ?_) <;> (try simp at hc) <;> (try omega)) | (refine r_split (fun hc => ?_) (fun hc => ?_) <;> (try simp at hc) <;> (try omega)) | refine k_draw 1 [] [(0, 0), (1, 0), (2, 0), (3, 0), (4, 0), (5, 0), (6, 0), (7, 0), (8, 0), (9, 0), (10, 0), (11, 0), (12, 0), (13, 4), (14, 0)] [15] ?_ | refine k_draw 3 [] [(0, 0), (1, 0), (2, 0), (3, 0), (4, 0), (5, 0), (6, 0), (7, 0), (8, 0), (9, 0), (10, 0), (11, 0), (12, 0), (13, 4), (14, 0), (15, 0)] [] ?_ | refine k_draw 5 [] [(0, 0), (1, 0), (2, 0), (3, 0), (4, 0), (5, 0), (6, 0), (7, 0), (8, 0), (9, 0), (10, 0), (11, 0), (12, 0), (13, 4), (14, 0), (15, 0), (16, 0)] [] ?_ | refine k_draw 8 [Ax _ _ _ _ _] [(0, 0), (1, 0), (2, 0), (3, 0), (4, 0), (5, 0), (6, 0), (8, 0), (9, 0), (10, 0), (7, 3), (11, 3), (12, 0), (13, 4), (14, 0)] [15] ?_ | (refine k_cond (fun hc => ?_) (fun hc => ?_) <;> (try simp at hc) <;> (try omega)))
    exact k_ret ⟨(j, true, sw m j a), f1, f2⟩ rfl trivial

include hcmp W in
set_option maxHeartbeats 8000000 in
theorem parEC_ok (l : List Ch) (n : Nat) (hn : n = l.length) (hn2 : n ≤ 1000000) (hq : AxOK (n * 7) q) (hU : ∀ x ∈ l, U x) (a bb p : Nat) (hab : a + 12 < bb) (hb : bb ≤ n) (hp1 : a ≤ p) (hp2 : p < bb) :
    Enters 152 ∧ Spec Tryz.prog 152 #[.slice (some ⟨bk, 0, none⟩) n cap, .int .i64 (a : Int), .int .i64 (bb : Int), .int .i64 (p : Int), .func (.func fv) #[] #[]] [Fc] [Ax 119 chf bk l q]
      ⟨{ t : Nat × List Ch // Win a bb l t.2 ∧ a < t.1 ∧ t.1 ≤ bb ∧ gt t.2 a = gt l p ∧ ∀ k, a ≤ k → k < t.1 → ¬ c (gt t.2 a) (gt t.2 k) < 0 }, fun t => .int .i64 (t.1.1 : Int), fun _ => True, fun _ => [], fun t => [Ax 119 chf bk t.1.2 q]⟩ := by
  have w0 : IntKind.i64.wrap ((a : Int) + 1) = ((a + 1 : Nat) : Int) := by simp (disch := omega) only [wrapi]; omega
  have w1 : IntKind.i64.wrap ((bb : Int) - 1) = ((bb - 1 : Nat) : Int) := by simp (disch := omega) only [wrapi]; omega
  have wi : ∀ i, i < n → IntKind.i64.wrap ((i : Int) + 1) = ((i + 1 : Nat) : Int) := fun i hi => by simp (disch := omega) only [wrapi]; omega
  have wj : ∀ j, 0 < j → j < n → IntKind.i64.wrap ((j : Int) - 1) = ((j - 1 : Nat) : Int) := fun j h0 hi => by simp (disch := omega) only [wrapi]; omega
  have hia : a < n := by omega
  have hip : p < n := by omega
  have kia : a < l.length := by omega
  have kip : p < l.length := by omega
  have kip2 : p < (l.set a (gt l p)).length := by rw [List.length_set]; exact kip
  have hql : AxOK (l.length * 7) q := by rw [← hn]; exact hq
  have hql2 : AxOK ((l.set a (gt l p)).length * 7) q := by rw [List.length_set]; exact hql
  have hUP : U (gt l p) := hU _ (gt_mem kip)
  have hin0 := fun A : Ch → Prop => Pin.init (A := A) (l := l) (a := a) (b := bb) hp1 hp2 (by omega) (by omega)
  obtain ⟨P, hP⟩ : ∃ P, P = gt l p := ⟨_, rfl⟩
  rw [← hP] at hUP hin0
  obtain ⟨m, hm0⟩ : ∃ m, m = sw l a p := ⟨_, rfl⟩
  rw [← hm0] at hin0
  have hin := hin0 (fun x => ¬ c P x < 0)
  clear hin0
  refine ⟨enters_of Tryz.func152 (by kernel_rfl) rfl, spec_of (vs := [_, _, _, _, _]) Tryz.func152 rfl Tryz.ntmps152 rfl fun G w hp => ?_⟩
  repeat' (first | refine l_run ?_ | refine l_nil ?_ | refine l_one ?_ | refine k_reg ?_ | refine l_ld ?_ | refine l_ldF ?_ | refine l_st ?_ | refine l_al (fun b => ?_) | refine l_bs (fun b => ?_) | refine k_condT ?_ | refine k_condF ?_ | refine r_run ?_ | refine r_one ?_ | refine r_ld ?_ | refine r_ldF ?_ | refine r_ldN ?_ | refine r_al (fun b => ?_) | refine r_bs (fun b => ?_) | refine r_st ?_ | refine r_end ?_ | refine r_ixW (m := n) (a) hia ?_ | refine l_ixW (m := n) (a) hia ?_ | refine r_ixW (m := n) (p) hip ?_ | refine l_ixW (m := n) (p) hip ?_ | refine r_ldEN 7 (a) 0 (gt_some kia) ?_ | refine r_ldEN 7 (p) 0 (gt_some kip) ?_ | refine r_stE 7 (a) 0 (gt l (p)) (gt_some kia) hql ?_ | refine l_stE 7 (a) 0 (gt l (p)) (gt_some kia) hql ?_ | refine l_stE 7 (p) 0 (gt l (a)) (gt_some kip2) hql2 ?_ | rw [w0] | rw [w1] | refine r_up ?_ | (refine l_split (fun hc => ?_) (fun hc => ?_) <;> (try simp at hc)) | (refine r_split (fun hc => ?_) (fun hc => ?_) <;> (try simp at hc)) | refine k_draw 1 [Ax _ _ _ _ _] [(0, 0), (1, 0), (2, 0), (3, 0), (4, 0), (5, 0), (6, 0), (8, 0), (9, 0), (10, 0), (7, 3), (11, 3), (12, 0), (13, 4), (14, 0)] [15] ?_ | (refine k_cond (fun hc => ?_) (fun hc => ?_) <;> (try simp at hc)))
  refine k_ax m hm0.symm ?_
  clear hm0 kip2 hql2
  refine k_lp (X := { t : Nat × Nat × List Ch // Pin (fun x => ¬ c P x < 0) a bb t.1 t.2.1 P l t.2.2 }) (fun t => [(0, .slice (some ⟨bk, 0, none⟩) n cap), (1, .int .i64 (a : Int)), (4, .func (.func fv) #[] #[]), (11, .int .i64 (t.1.1 : Int)), (12, .int .i64 (t.1.2.1 : Int))]) (fun _ => [Fc]) (fun t => [Ax 119 chf bk t.1.2.2 q]) (fun t => t.1.2.1 + 1 - t.1.1) ⟨(a + 1, bb - 1, m), hin⟩ ⟨rfl, rfl, rfl, rfl, rfl, trivial⟩ ?_
  clear hin
  clear m
  rintro ⟨⟨i0, j0, m⟩, hin⟩
  dsimp only at hin ⊢
  have q1 := hin.h1
  have q2 := hin.h2
  have q3 := hin.h3
  repeat' (first | refine l_run ?_ | refine l_nil ?_ | refine l_one ?_ | refine k_reg ?_ | refine l_ld ?_ | refine l_ldF ?_ | refine l_st ?_ | refine l_al (fun b => ?_) | refine l_bs (fun b => ?_) | refine k_condT ?_ | refine k_condF ?_ | (refine l_split (fun hc => ?_) (fun hc => ?_) <;> (try simp at hc)) | (refine k_cond (fun hc => ?_) (fun hc => ?_) <;> (try simp at hc)))
  obtain ⟨jz, hjz⟩ : ∃ jz, jz = j0 := ⟨_, rfl⟩
  rw [← hjz] at hin
  have hm := hin.w.len
  have ga : m[a]? = some P := by rw [← hin.pa]; exact gt_some (by omega)
  have hUm := hin.w.sub hU
  refine k_lpx (Y := { i : Nat // i0 ≤ i ∧ Pin (fun x => ¬ c P x < 0) a bb i jz P l m ∧ (i ≤ jz → ¬ (fun x => ¬ c P x < 0) (gt m i)) }) (X := { i : Nat // i0 ≤ i ∧ Pin (fun x => ¬ c P x < 0) a bb i jz P l m }) (fun i => [(0, .slice (some ⟨bk, 0, none⟩) n cap), (1, .int .i64 (a : Int)), (4, .func (.func fv) #[] #[]), (11, .int .i64 ((i.1 : Nat) : Int)), (12, .int .i64 ((jz : Nat) : Int))]) (fun _ => [Fc]) (fun _ => [Ax 119 chf bk m q]) (fun i => bb + 1 - i.1) (fun i => [(0, .slice (some ⟨bk, 0, none⟩) n cap), (1, .int .i64 (a : Int)), (4, .func (.func fv) #[] #[]), (11, .int .i64 ((i.1 : Nat) : Int)), (12, .int .i64 ((jz : Nat) : Int))]) (fun _ => [Fc]) (fun _ => [Ax 119 chf bk m q]) ⟨i0, Nat.le_refl _, hin⟩ ⟨rfl, rfl, rfl, rfl, (by show look _ _ = some (Value.int .i64 ((jz : Nat) : Int)); rw [hjz]; rfl), trivial⟩ ?_ ?_
  rotate_left
  · intro hx
    rintro ⟨i, hi0, hp⟩
    dsimp only at hi0 hp ⊢
    have k1 := hp.h1
    have k2 := hp.h2
    have k3 := hp.h3
    generalize jz = j at *
    by_cases hij : i ≤ j
    · have hi : i < n := by omega
      have hj : j < n := by omega
      have ha : a < n := by omega
      have gi : m[i]? = some (gt m i) := gt_some (by omega)
      have gj : m[j]? = some (gt m j) := gt_some (by omega)
      have sp := hcmp P (gt m i) hUP (hUm _ (gt_mem (by omega)))
      by_cases hA : c P (gt m i) < 0
      · repeat' (first | refine l_run ?_ | refine l_nil ?_ | refine l_one ?_ | refine k_reg ?_ | refine l_ld ?_ | refine l_ldF ?_ | refine l_st ?_ | refine l_al (fun b => ?_) | refine l_bs (fun b => ?_) | refine k_condT ?_ | refine k_condF ?_ | refine r_run ?_ | refine r_one ?_ | refine r_ld ?_ | refine r_ldF ?_ | refine r_ldN ?_ | refine r_al (fun b => ?_) | refine r_bs (fun b => ?_) | refine r_st ?_ | refine r_end ?_ | rw [wi i hi] | rw [wj j (by omega) hj] | refine r_ixW (m := n) (i) hi ?_ | refine l_ixW (m := n) (i) hi ?_ | refine r_ixW (m := n) (a) ha ?_ | refine l_ixW (m := n) (a) ha ?_ | refine r_ldE 7 (i) 0 gi ?_ | refine l_ldE 7 (i) 0 gi ?_ | refine r_ldE 7 (a) 0 ga ?_ | refine l_ldE 7 (a) 0 ga ?_ | refine r_callF sp (fun _ _ => ?_) | (refine l_split (fun hc => ?_) (fun hc => ?_) <;> (try simp at hc) <;> (try omega)) | (refine r_split (fun hc => ?_) (fun hc => ?_) <;> (try simp at hc) <;> (try omega)) | refine k_draw 1 [] [(0, 0), (1, 0), (2, 0), (3, 0), (4, 0), (5, 0), (6, 0), (7, 0), (8, 0), (9, 0), (10, 0), (11, 0), (12, 0), (13, 4), (14, 0)] [15] ?_ | refine k_draw 3 [] [(0, 0), (1, 0), (2, 0), (3, 0), (4, 0), (5, 0), (6, 0), (7, 0), (8, 0), (9, 0), (10, 0), (11, 0), (12, 0), (13, 4), (14, 0), (15, 0), (16, 0)] [] ?_ | refine k_draw 5 [] [(0, 0), (1, 0), (2, 0), (3, 0), (4, 0), (5, 0), (6, 0), (7, 0), (8, 0), (9, 0), (10, 0), (11, 0), (12, 0), (13, 4), (14, 0), (15, 0)] [] ?_ | refine k_draw 8 [] [(0, 0), (1, 0), (2, 0), (3, 0), (4, 0), (5, 0), (6, 0), (7, 0), (8, 0), (9, 0), (10, 0), (11, 0), (12, 0), (13, 4), (14, 0)] [15] ?_ | (refine k_cond (fun hc => ?_) (fun hc => ?_) <;> (try simp at hc) <;> (try omega)))
        exact k_out hx ⟨i, by omega, hp, fun _ => (fun h => h hA)⟩ ⟨rfl, rfl, rfl, rfl, rfl, trivial⟩
      · repeat' (first | refine l_run ?_ | refine l_nil ?_ | refine l_one ?_ | refine k_reg ?_ | refine l_ld ?_ | refine l_ldF ?_ | refine l_st ?_ | refine l_al (fun b => ?_) | refine l_bs (fun b => ?_) | refine k_condT ?_ | refine k_condF ?_ | refine r_run ?_ | refine r_one ?_ | refine r_ld ?_ | refine r_ldF ?_ | refine r_ldN ?_ | refine r_al (fun b => ?_) | refine r_bs (fun b => ?_) | refine r_st ?_ | refine r_end ?_ | rw [wi i hi] | rw [wj j (by omega) hj] | refine r_ixW (m := n) (i) hi ?_ | refine l_ixW (m := n) (i) hi ?_ | refine r_ixW (m := n) (a) ha ?_ | refine l_ixW (m := n) (a) ha ?_ | refine r_ldE 7 (i) 0 gi ?_ | refine l_ldE 7 (i) 0 gi ?_ | refine r_ldE 7 (a) 0 ga ?_ | refine l_ldE 7 (a) 0 ga ?_ | refine r_callF sp (fun _ _ => ?_) | (refine l_split (fun hc => ?_) (fun hc => ?_) <;> (try simp at hc) <;> (try omega)) | (refine r_split (fun hc => ?_) (fun hc => ?_) <;> (try simp at hc) <;> (try omega)) | refine k_draw 1 [] [(0, 0), (1, 0), (2, 0), (3, 0), (4, 0), (5, 0), (6, 0), (7, 0), (8, 0), (9, 0), (10, 0), (11, 0), (12, 0), (13, 4), (14, 0)] [15] ?_ | refine k_draw 3 [] [(0, 0), (1, 0), (2, 0), (3, 0), (4, 0), (5, 0), (6, 0), (7, 0), (8, 0), (9, 0), (10, 0), (11, 0), (12, 0), (13, 4), (14, 0), (15, 0), (16, 0)] [] ?_ | refine k_draw 5 [] [(0, 0), (1, 0), (2, 0), (3, 0), (4, 0), (5, 0), (6, 0), (7, 0), (8, 0), (9, 0), (10, 0), (11, 0), (12, 0), (13, 4), (14, 0), (15, 0)] [] ?_ | refine k_draw 8 [] [(0, 0), (1, 0), (2, 0), (3, 0), (4, 0), (5, 0), (6, 0), (7, 0), (8, 0), (9, 0), (10, 0), (11, 0), (12, 0), (13, 4), (14, 0)] [15] ?_ | (refine k_cond (fun hc => ?_) (fun hc => ?_) <;> (try simp at hc) <;> (try omega)))
        exact k_next ⟨i + 1, by omega, hp.ii hij (hA)⟩ (by show bb + 1 - (i + 1) < bb + 1 - i; omega) ⟨rfl, rfl, rfl, rfl, rfl, trivial⟩
    · repeat' (first | refine l_run ?_ | refine l_nil ?_ | refine l_one ?_ | refine k_reg ?_ | refine l_ld ?_ | refine l_ldF ?_ | refine l_st ?_ | refine l_al (fun b => ?_) | refine l_bs (fun b => ?_) | refine k_condT ?_ | refine k_condF ?_ | refine r_run ?_ | refine r_one ?_ | refine r_ld ?_ | refine r_ldF ?_ | refine r_ldN ?_ | refine r_al (fun b => ?_) | refine r_bs (fun b => ?_) | refine r_st ?_ | refine r_end ?_ | (refine l_split (fun hc => ?_) (fun hc => ?_) <;> (try simp at hc) <;> (try omega)) | (refine r_split (fun hc => ?_) (fun hc => ?_) <;> (try simp at hc) <;> (try omega)) | refine k_draw 1 [] [(0, 0), (1, 0), (2, 0), (3, 0), (4, 0), (5, 0), (6, 0), (7, 0), (8, 0), (9, 0), (10, 0), (11, 0), (12, 0), (13, 4), (14, 0)] [15] ?_ | refine k_draw 3 [] [(0, 0), (1, 0), (2, 0), (3, 0), (4, 0), (5, 0), (6, 0), (7, 0), (8, 0), (9, 0), (10, 0), (11, 0), (12, 0), (13, 4), (14, 0), (15, 0), (16, 0)] [] ?_ | refine k_draw 5 [] [(0, 0), (1, 0), (2, 0), (3, 0), (4, 0), (5, 0), (6, 0), (7, 0), (8, 0), (9, 0), (10, 0), (11, 0), (12, 0), (13, 4), (14, 0), (15, 0)] [] ?_ | refine k_draw 8 [] [(0, 0), (1, 0), (2, 0), (3, 0), (4, 0), (5, 0), (6, 0), (7, 0), (8, 0), (9, 0), (10, 0), (11, 0), (12, 0), (13, 4), (14, 0)] [15] ?_ | (refine k_cond (fun hc => ?_) (fun hc => ?_) <;> (try simp at hc) <;> (try omega)))
      exact k_out hx ⟨i, by omega, hp, fun h => absurd h hij⟩ ⟨rfl, rfl, rfl, rfl, rfl, trivial⟩
  rintro ⟨i, hi0, hp0, hAi⟩
  dsimp only at hi0 hp0 hAi ⊢
  refine k_lpx (Y := { j : Nat // j ≤ jz ∧ Pin (fun x => ¬ c P x < 0) a bb i j P l m ∧ (i ≤ j → (fun x => ¬ c P x < 0) (gt m j)) }) (X := { j : Nat // j ≤ jz ∧ Pin (fun x => ¬ c P x < 0) a bb i j P l m }) (fun j => [(0, .slice (some ⟨bk, 0, none⟩) n cap), (1, .int .i64 (a : Int)), (4, .func (.func fv) #[] #[]), (11, .int .i64 ((i : Nat) : Int)), (12, .int .i64 ((j.1 : Nat) : Int))]) (fun _ => [Fc]) (fun _ => [Ax 119 chf bk m q]) (fun j => j.1) (fun j => [(0, .slice (some ⟨bk, 0, none⟩) n cap), (1, .int .i64 (a : Int)), (4, .func (.func fv) #[] #[]), (11, .int .i64 ((i : Nat) : Int)), (12, .int .i64 ((j.1 : Nat) : Int))]) (fun _ => [Fc]) (fun _ => [Ax 119 chf bk m q]) ⟨jz, Nat.le_refl _, hp0⟩ ⟨rfl, rfl, rfl, rfl, rfl, trivial⟩ ?_ ?_
  rotate_left
  · intro hx
    rintro ⟨j, hj0, hp⟩
    dsimp only at hj0 hp ⊢
    have k1 := hp.h1
    have k2 := hp.h2
    have k3 := hp.h3
    by_cases hij : i ≤ j
    · have hi : i < n := by omega
      have hj : j < n := by omega
      have ha : a < n := by omega
      have gi : m[i]? = some (gt m i) := gt_some (by omega)
      have gj : m[j]? = some (gt m j) := gt_some (by omega)
      have sp := hcmp P (gt m j) hUP (hUm _ (gt_mem (by omega)))
      by_cases hA : c P (gt m j) < 0
      · repeat' (first | refine l_run ?_ | refine l_nil ?_ | refine l_one ?_ | refine k_reg ?_ | refine l_ld ?_ | refine l_ldF ?_ | refine l_st ?_ | refine l_al (fun b => ?_) | refine l_bs (fun b => ?_) | refine k_condT ?_ | refine k_condF ?_ | refine r_run ?_ | refine r_one ?_ | refine r_ld ?_ | refine r_ldF ?_ | refine r_ldN ?_ | refine r_al (fun b => ?_) | refine r_bs (fun b => ?_) | refine r_st ?_ | refine r_end ?_ | rw [wi i hi] | rw [wj j (by omega) hj] | refine r_ixW (m := n) (j) hj ?_ | refine l_ixW (m := n) (j) hj ?_ | refine r_ixW (m := n) (a) ha ?_ | refine l_ixW (m := n) (a) ha ?_ | refine r_ldE 7 (j) 0 gj ?_ | refine l_ldE 7 (j) 0 gj ?_ | refine r_ldE 7 (a) 0 ga ?_ | refine l_ldE 7 (a) 0 ga ?_ | refine r_callF sp (fun _ _ => ?_) | (refine l_split (fun hc => ?_) (fun hc => ?_) <;> (try simp at hc) <;> (try omega)) | (refine r_split (fun hc => ?_) (fun hc => ?_) <;> (try simp at hc) <;> (try omega)) | refine k_draw 1 [] [(0, 0), (1, 0), (2, 0), (3, 0), (4, 0), (5, 0), (6, 0), (7, 0), (8, 0), (9, 0), (10, 0), (11, 0), (12, 0), (13, 4), (14, 0)] [15] ?_ | refine k_draw 3 [] [(0, 0), (1, 0), (2, 0), (3, 0), (4, 0), (5, 0), (6, 0), (7, 0), (8, 0), (9, 0), (10, 0), (11, 0), (12, 0), (13, 4), (14, 0), (15, 0), (16, 0)] [] ?_ | refine k_draw 5 [] [(0, 0), (1, 0), (2, 0), (3, 0), (4, 0), (5, 0), (6, 0), (7, 0), (8, 0), (9, 0), (10, 0), (11, 0), (12, 0), (13, 4), (14, 0), (15, 0)] [] ?_ | refine k_draw 8 [] [(0, 0), (1, 0), (2, 0), (3, 0), (4, 0), (5, 0), (6, 0), (7, 0), (8, 0), (9, 0), (10, 0), (11, 0), (12, 0), (13, 4), (14, 0)] [15] ?_ | (refine k_cond (fun hc => ?_) (fun hc => ?_) <;> (try simp at hc) <;> (try omega)))
        exact k_next ⟨j - 1, by omega, hp.jj hij (fun h => h hA)⟩ (by show j - 1 < j; omega) ⟨rfl, rfl, rfl, rfl, rfl, trivial⟩
      · repeat' (first | refine l_run ?_ | refine l_nil ?_ | refine l_one ?_ | refine k_reg ?_ | refine l_ld ?_ | refine l_ldF ?_ | refine l_st ?_ | refine l_al (fun b => ?_) | refine l_bs (fun b => ?_) | refine k_condT ?_ | refine k_condF ?_ | refine r_run ?_ | refine r_one ?_ | refine r_ld ?_ | refine r_ldF ?_ | refine r_ldN ?_ | refine r_al (fun b => ?_) | refine r_bs (fun b => ?_) | refine r_st ?_ | refine r_end ?_ | rw [wi i hi] | rw [wj j (by omega) hj] | refine r_ixW (m := n) (j) hj ?_ | refine l_ixW (m := n) (j) hj ?_ | refine r_ixW (m := n) (a) ha ?_ | refine l_ixW (m := n) (a) ha ?_ | refine r_ldE 7 (j) 0 gj ?_ | refine l_ldE 7 (j) 0 gj ?_ | refine r_ldE 7 (a) 0 ga ?_ | refine l_ldE 7 (a) 0 ga ?_ | refine r_callF sp (fun _ _ => ?_) | (refine l_split (fun hc => ?_) (fun hc => ?_) <;> (try simp at hc) <;> (try omega)) | (refine r_split (fun hc => ?_) (fun hc => ?_) <;> (try simp at hc) <;> (try omega)) | refine k_draw 1 [] [(0, 0), (1, 0), (2, 0), (3, 0), (4, 0), (5, 0), (6, 0), (7, 0), (8, 0), (9, 0), (10, 0), (11, 0), (12, 0), (13, 4), (14, 0)] [15] ?_ | refine k_draw 3 [] [(0, 0), (1, 0), (2, 0), (3, 0), (4, 0), (5, 0), (6, 0), (7, 0), (8, 0), (9, 0), (10, 0), (11, 0), (12, 0), (13, 4), (14, 0), (15, 0), (16, 0)] [] ?_ | refine k_draw 5 [] [(0, 0), (1, 0), (2, 0), (3, 0), (4, 0), (5, 0), (6, 0), (7, 0), (8, 0), (9, 0), (10, 0), (11, 0), (12, 0), (13, 4), (14, 0), (15, 0)] [] ?_ | refine k_draw 8 [] [(0, 0), (1, 0), (2, 0), (3, 0), (4, 0), (5, 0), (6, 0), (7, 0), (8, 0), (9, 0), (10, 0), (11, 0), (12, 0), (13, 4), (14, 0)] [15] ?_ | (refine k_cond (fun hc => ?_) (fun hc => ?_) <;> (try simp at hc) <;> (try omega)))
        exact k_out hx ⟨j, by omega, hp, fun _ => (hA)⟩ ⟨rfl, rfl, rfl, rfl, rfl, trivial⟩
    · repeat' (first | refine l_run ?_ | refine l_nil ?_ | refine l_one ?_ | refine k_reg ?_ | refine l_ld ?_ | refine l_ldF ?_ | refine l_st ?_ | refine l_al (fun b => ?_) | refine l_bs (fun b => ?_) | refine k_condT ?_ | refine k_condF ?_ | refine r_run ?_ | refine r_one ?_ | refine r_ld ?_ | refine r_ldF ?_ | refine r_ldN ?_ | refine r_al (fun b => ?_) | refine r_bs (fun b => ?_) | refine r_st ?_ | refine r_end ?_ | (refine l_split (fun hc => ?_) (fun hc => ?_) <;> (try simp at hc) <;> (try omega)) | (refine r_split (fun hc => ?_) (fun hc => ?_) <;> (try simp at hc) <;> (try omega)) | refine k_draw 1 [] [(0, 0), (1, 0), (2, 0), (3, 0), (4, 0), (5, 0), (6, 0), (7, 0), (8, 0), (9, 0), (10, 0), (11, 0), (12, 0), (13, 4), (14, 0)] [15] ?_ | refine k_draw 3 [] [(0, 0), (1, 0), (2, 0), (3, 0), (4, 0), (5, 0), (6, 0), (7, 0), (8, 0), (9, 0), (10, 0), (11, 0), (12, 0), (13, 4), (14, 0), (15, 0), (16, 0)] [] ?_ | refine k_draw 5 [] [(0, 0), (1, 0), (2, 0), (3, 0), (4, 0), (5, 0), (6, 0), (7, 0), (8, 0), (9, 0), (10, 0), (11, 0), (12, 0), (13, 4), (14, 0), (15, 0)] [] ?_ | refine k_draw 8 [] [(0, 0), (1, 0), (2, 0), (3, 0), (4, 0), (5, 0), (6, 0), (7, 0), (8, 0), (9, 0), (10, 0), (11, 0), (12, 0), (13, 4), (14, 0)] [15] ?_ | (refine k_cond (fun hc => ?_) (fun hc => ?_) <;> (try simp at hc) <;> (try omega)))
      exact k_out hx ⟨j, by omega, hp, fun h => absurd h hij⟩ ⟨rfl, rfl, rfl, rfl, rfl, trivial⟩
  rintro ⟨j, hj0, hp, hAj⟩
  dsimp only at hj0 hp hAj ⊢
  have k1 := hp.h1
  have k2 := hp.h2
  have k3 := hp.h3
  have hj : j < n := by omega
  have kj : j < m.length := by omega
  have hqm : AxOK (m.length * 7) q := by rw [hm, ← hn]; exact hq
  have hqm2 : ∀ k y, AxOK ((m.set k y).length * 7) q := fun k y => by rw [List.length_set]; exact hqm
  by_cases hij : i ≤ j
  · have hij2 := hp.ne hij (hAi (by omega)) (hAj hij)
    have hi : i < n := by omega
    have ki : i < m.length := by omega
    have kj2 : j < (m.set i (gt m j)).length := by rw [List.length_set]; exact kj
    repeat' (first | refine l_run ?_ | refine l_nil ?_ | refine l_one ?_ | refine k_reg ?_ | refine l_ld ?_ | refine l_ldF ?_ | refine l_st ?_ | refine l_al (fun b => ?_) | refine l_bs (fun b => ?_) | refine k_condT ?_ | refine k_condF ?_ | refine r_run ?_ | refine r_one ?_ | refine r_ld ?_ | refine r_ldF ?_ | refine r_ldN ?_ | refine r_al (fun b => ?_) | refine r_bs (fun b => ?_) | refine r_st ?_ | refine r_end ?_ | rw [wi i hi] | rw [wj j (by omega) hj] | refine r_ixW (m := n) (i) hi ?_ | refine l_ixW (m := n) (i) hi ?_ | refine r_ixW (m := n) (j) hj ?_ | refine l_ixW (m := n) (j) hj ?_ | refine r_ldEN 7 (i) 0 (gt_some ki) ?_ | refine r_ldEN 7 (j) 0 (gt_some kj) ?_ | refine r_stE 7 (i) 0 (gt m (j)) (gt_some ki) hqm ?_ | refine l_stE 7 (i) 0 (gt m (j)) (gt_some ki) hqm ?_ | refine l_stE 7 (j) 0 (gt m (i)) (gt_some kj2) (hqm2 _ _) ?_ | refine r_up ?_ | (refine l_split (fun hc => ?_) (fun hc => ?_) <;> (try simp at hc) <;> (try omega)) | (refine r_split (fun hc => ?_) (fun hc => ?_) <;> (try simp at hc) <;> (try omega)) | refine k_draw 1 [] [(0, 0), (1, 0), (2, 0), (3, 0), (4, 0), (5, 0), (6, 0), (7, 0), (8, 0), (9, 0), (10, 0), (11, 0), (12, 0), (13, 4), (14, 0)] [15] ?_ | refine k_draw 8 [Ax _ _ _ _ _] [(0, 0), (1, 0), (2, 0), (3, 0), (4, 0), (5, 0), (6, 0), (8, 0), (9, 0), (10, 0), (7, 3), (11, 3), (12, 0), (13, 4), (14, 0)] [15] ?_ | (refine k_cond (fun hc => ?_) (fun hc => ?_) <;> (try simp at hc) <;> (try omega)))
    exact k_next ⟨(i + 1, j - 1, sw m i j), hp.sw (by omega) hij2 (hAi (by omega)) (hAj hij)⟩ (by show j - 1 + 1 - (i + 1) < j0 + 1 - i0; omega) ⟨rfl, rfl, rfl, rfl, rfl, trivial⟩
  · repeat' (first | refine l_run ?_ | refine l_nil ?_ | refine l_one ?_ | refine k_reg ?_ | refine l_ld ?_ | refine l_ldF ?_ | refine l_st ?_ | refine l_al (fun b => ?_) | refine l_bs (fun b => ?_) | refine k_condT ?_ | refine k_condF ?_ | refine k_brk ?_ | (refine l_split (fun hc => ?_) (fun hc => ?_) <;> (try simp at hc) <;> (try omega)) | (refine k_cond (fun hc => ?_) (fun hc => ?_) <;> (try simp at hc) <;> (try omega)))
    exact k_ret ⟨(i, m), hp.w, by omega, by omega, by rw [← hP]; exact hp.pa, fun k h1 h2 => by
      by_cases hk : k = a
      · rw [hk, hp.pa]; exact W.i _
      · rw [hp.pa]; exact hp.lo k (by omega) h2⟩ rfl trivial
end
end Go.Proofs.YtiggkcknmjgicaaGreatDoor

set_option maxRecDepth 10000
namespace Go.Proofs.YtiggkcknmjgicaaGreatDoor
open Go.RowKit

section
variable (bk cap : Nat) (q : List Value × (Nat × Nat)) (fv : FuncId) (Fc : Pf) (c : Ch → Ch → Int) (W : Wk0 c) (U : Ch → Prop) (hcmp : ∀ x y, U x → U y → Enters fv ∧ Spec Tryz.prog fv #[x.v, y.v] [Fc] [] (RetV (.int .i64 (c x y))))

include hcmp W in
set_option maxHeartbeats 8000000 in
theorem pinsC_ok (l : List Ch) (n : Nat) (hn : n = l.length) (hn2 : n ≤ 1000000) (hq : AxOK (n * 7) q) (hU : ∀ x ∈ l, U x) (a bb : Nat) (hab : a < bb) (hb : bb ≤ n) (hlw : Lw c a bb l) :
    Enters 151 ∧ Spec Tryz.prog 151 #[.slice (some ⟨bk, 0, none⟩) n cap, .int .i64 (a : Int), .int .i64 (bb : Int), .func (.func fv) #[] #[]] [Fc] [Ax 119 chf bk l q]
      ⟨{ t : Bool × List Ch // Win a bb l t.2 ∧ (t.1 = true → Sw c a bb t.2) }, fun t => .bool t.1.1, fun _ => True, fun _ => [], fun t => [Ax 119 chf bk t.1.2 q]⟩ := by
  have w0 : IntKind.i64.wrap ((a : Int) + 1) = ((a + 1 : Nat) : Int) := by simp (disch := omega) only [wrapi]; omega
  have wi : ∀ i, i < n → IntKind.i64.wrap ((i : Int) + 1) = ((i + 1 : Nat) : Int) := fun i hi => by simp (disch := omega) only [wrapi]; omega
  have wj : ∀ j, 0 < j → j < n → IntKind.i64.wrap ((j : Int) - 1) = ((j - 1 : Nat) : Int) := fun j h0 hi => by simp (disch := omega) only [wrapi]; omega
  have wba : IntKind.i64.wrap ((bb : Int) - (a : Int)) = ((bb - a : Nat) : Int) := by simp (disch := omega) only [wrapi]; omega
  refine ⟨enters_of Tryz.func151 (by kernel_rfl) rfl, spec_of (vs := [_, _, _, _]) Tryz.func151 rfl Tryz.ntmps151 rfl fun G w hp => ?_⟩
  repeat' (first | refine l_run ?_ | refine l_nil ?_ | refine l_one ?_ | refine k_reg ?_ | refine l_ld ?_ | refine l_ldF ?_ | refine l_st ?_ | refine l_al (fun b => ?_) | refine l_bs (fun b => ?_) | refine k_condT ?_ | refine k_condF ?_ | rw [w0] | (refine l_split (fun hc => ?_) (fun hc => ?_) <;> (try simp at hc)) | (refine k_cond (fun hc => ?_) (fun hc => ?_) <;> (try simp at hc)))
  refine k_lp (X := { t : Nat × Nat × List Ch // t.1 ≤ 5 ∧ a < t.2.1 ∧ t.2.1 ≤ bb ∧ Win a bb l t.2.2 ∧ Sw c a t.2.1 t.2.2 }) (fun t => [(0, .slice (some ⟨bk, 0, none⟩) n cap), (1, .int .i64 (a : Int)), (2, .int .i64 (bb : Int)), (3, .func (.func fv) #[] #[]), (9, .int .i64 (t.1.2.1 : Int)), (10, .int .i64 (t.1.1 : Int))]) (fun _ => [Fc]) (fun t => [Ax 119 chf bk t.1.2.2 q]) (fun t => 5 - t.1.1)
    ⟨(0, a + 1, l), by omega, by show a < a + 1; omega, by show a + 1 ≤ bb; omega, Win.refl, Sw.nil (Nat.le_refl _)⟩ ⟨rfl, rfl, rfl, rfl, rfl, rfl, trivial⟩ ?_
  rintro ⟨⟨r, i0, m⟩, hr, h1, h2, h3, h4⟩
  dsimp only at hr h1 h2 h3 h4 ⊢
  have hm := h3.len
  have hUm := h3.sub hU
  by_cases hr5 : r < 5
  rotate_left
  · repeat' (first | refine l_run ?_ | refine l_nil ?_ | refine l_one ?_ | refine k_reg ?_ | refine l_ld ?_ | refine l_ldF ?_ | refine l_st ?_ | refine l_al (fun b => ?_) | refine l_bs (fun b => ?_) | refine k_condT ?_ | refine k_condF ?_ | refine k_brk ?_ | (refine l_split (fun hc => ?_) (fun hc => ?_) <;> (try simp at hc) <;> (try omega)) | (refine k_cond (fun hc => ?_) (fun hc => ?_) <;> (try simp at hc) <;> (try omega)))
    exact k_ret ⟨(false, m), h3, fun h => by cases h⟩ rfl trivial
  have wr : IntKind.i64.wrap ((r : Int) + 1) = ((r + 1 : Nat) : Int) := by simp (disch := omega) only [wrapi]; omega
  repeat' (first | refine l_run ?_ | refine l_nil ?_ | refine l_one ?_ | refine k_reg ?_ | refine l_ld ?_ | refine l_ldF ?_ | refine l_st ?_ | refine l_al (fun b => ?_) | refine l_bs (fun b => ?_) | refine k_condT ?_ | refine k_condF ?_ | (refine l_split (fun hc => ?_) (fun hc => ?_) <;> (try simp at hc) <;> (try omega)) | (refine k_cond (fun hc => ?_) (fun hc => ?_) <;> (try simp at hc) <;> (try omega)))
  refine k_lpx (Y := { i : Nat // a < i ∧ i ≤ bb ∧ Sw c a i m ∧ (i < bb → c (gt m i) (gt m (i - 1)) < 0) }) (X := { i : Nat // a < i ∧ i ≤ bb ∧ Sw c a i m }) (fun i => [(0, .slice (some ⟨bk, 0, none⟩) n cap), (1, .int .i64 (a : Int)), (2, .int .i64 (bb : Int)), (3, .func (.func fv) #[] #[]), (9, .int .i64 (i.1 : Int)), (10, .int .i64 (r : Int))]) (fun _ => [Fc]) (fun _ => [Ax 119 chf bk m q]) (fun i => bb - i.1)
    (fun i => [(0, .slice (some ⟨bk, 0, none⟩) n cap), (1, .int .i64 (a : Int)), (2, .int .i64 (bb : Int)), (3, .func (.func fv) #[] #[]), (9, .int .i64 (i.1 : Int)), (10, .int .i64 (r : Int))]) (fun _ => [Fc]) (fun _ => [Ax 119 chf bk m q]) ⟨i0, h1, h2, h4⟩ ⟨rfl, rfl, rfl, rfl, rfl, rfl, trivial⟩ ?_ ?_
  rotate_left
  · intro hx
    rintro ⟨i, g1, g2, g3⟩
    dsimp only at g1 g2 g3 ⊢
    by_cases hib : i < bb
    · have hi : i < n := by omega
      have hj : i - 1 < n := by omega
      have ki : i < m.length := by omega
      have kj : i - 1 < m.length := by omega
      have sp := hcmp (gt m i) (gt m (i - 1)) (hUm _ (gt_mem ki)) (hUm _ (gt_mem kj))
      by_cases hc0 : c (gt m i) (gt m (i - 1)) < 0
      · repeat' (first | refine l_run ?_ | refine l_nil ?_ | refine l_one ?_ | refine k_reg ?_ | refine l_ld ?_ | refine l_ldF ?_ | refine l_st ?_ | refine l_al (fun b => ?_) | refine l_bs (fun b => ?_) | refine k_condT ?_ | refine k_condF ?_ | refine r_run ?_ | refine r_one ?_ | refine r_ld ?_ | refine r_ldF ?_ | refine r_ldN ?_ | refine r_al (fun b => ?_) | refine r_bs (fun b => ?_) | refine r_st ?_ | refine r_end ?_ | refine r_ixW (m := n) (i) hi ?_ | refine l_ixW (m := n) (i) hi ?_ | refine r_ixW (m := n) (i - 1) hj ?_ | refine l_ixW (m := n) (i - 1) hj ?_ | refine r_ldE 7 (i) 0 (gt_some ki) ?_ | refine l_ldE 7 (i) 0 (gt_some ki) ?_ | refine r_ldE 7 (i - 1) 0 (gt_some kj) ?_ | refine l_ldE 7 (i - 1) 0 (gt_some kj) ?_ | refine r_callF sp (fun _ _ => ?_) | (refine l_split (fun hc => ?_) (fun hc => ?_) <;> (try simp at hc) <;> (try omega)) | (refine r_split (fun hc => ?_) (fun hc => ?_) <;> (try simp at hc) <;> (try omega)) | refine k_draw 5 [] [(0, 0), (1, 0), (2, 0), (3, 0), (4, 0), (5, 0), (6, 0), (7, 0), (8, 0), (9, 0), (10, 0), (11, 0), (12, 0), (13, 0), (14, 4), (15, 0), (16, 0), (17, 0)] [] ?_ | refine k_draw 11 [] [(0, 0), (1, 0), (2, 0), (3, 0), (4, 0), (5, 0), (6, 0), (7, 0), (8, 0), (9, 0), (10, 0), (11, 0), (12, 0), (13, 0), (14, 0), (15, 4), (16, 0)] [17] ?_ | refine k_draw 16 [] [(0, 0), (1, 0), (2, 0), (3, 0), (4, 0), (5, 0), (6, 0), (7, 0), (8, 0), (9, 0), (10, 4), (11, 0), (12, 0)] [] ?_ | refine k_draw 17 [] [(0, 0), (1, 0), (2, 0), (3, 0), (4, 0), (5, 0), (6, 0), (7, 0), (8, 0), (9, 0), (10, 0), (11, 0), (12, 0), (13, 0), (14, 0), (15, 4), (16, 0)] [17] ?_ | refine k_draw 22 [] [(0, 0), (1, 0), (2, 0), (3, 0), (4, 0), (5, 0), (6, 0), (7, 0), (8, 0), (9, 0), (10, 4), (11, 0), (12, 0)] [] ?_ | refine k_draw 23 [] [(0, 0), (1, 0), (2, 0), (3, 0), (4, 0), (5, 0), (6, 0), (7, 0), (8, 0), (9, 0), (10, 0), (11, 0), (12, 0), (13, 0), (14, 0), (15, 4), (16, 0)] [17] ?_ | (refine k_cond (fun hc => ?_) (fun hc => ?_) <;> (try simp at hc) <;> (try omega)))
        exact k_out hx ⟨i, g1, g2, g3, fun _ => hc0⟩ ⟨rfl, rfl, rfl, rfl, rfl, rfl, trivial⟩
      · repeat' (first | refine l_run ?_ | refine l_nil ?_ | refine l_one ?_ | refine k_reg ?_ | refine l_ld ?_ | refine l_ldF ?_ | refine l_st ?_ | refine l_al (fun b => ?_) | refine l_bs (fun b => ?_) | refine k_condT ?_ | refine k_condF ?_ | refine r_run ?_ | refine r_one ?_ | refine r_ld ?_ | refine r_ldF ?_ | refine r_ldN ?_ | refine r_al (fun b => ?_) | refine r_bs (fun b => ?_) | refine r_st ?_ | refine r_end ?_ | refine r_ixW (m := n) (i) hi ?_ | refine l_ixW (m := n) (i) hi ?_ | refine r_ixW (m := n) (i - 1) hj ?_ | refine l_ixW (m := n) (i - 1) hj ?_ | refine r_ldE 7 (i) 0 (gt_some ki) ?_ | refine l_ldE 7 (i) 0 (gt_some ki) ?_ | refine r_ldE 7 (i - 1) 0 (gt_some kj) ?_ | refine l_ldE 7 (i - 1) 0 (gt_some kj) ?_ | refine r_callF sp (fun _ _ => ?_) | rw [wi i hi] | (refine l_split (fun hc => ?_) (fun hc => ?_) <;> (try simp at hc) <;> (try omega)) | (refine r_split (fun hc => ?_) (fun hc => ?_) <;> (try simp at hc) <;> (try omega)) | refine k_draw 5 [] [(0, 0), (1, 0), (2, 0), (3, 0), (4, 0), (5, 0), (6, 0), (7, 0), (8, 0), (9, 0), (10, 0), (11, 0), (12, 0), (13, 0), (14, 4), (15, 0), (16, 0), (17, 0)] [] ?_ | refine k_draw 11 [] [(0, 0), (1, 0), (2, 0), (3, 0), (4, 0), (5, 0), (6, 0), (7, 0), (8, 0), (9, 0), (10, 0), (11, 0), (12, 0), (13, 0), (14, 0), (15, 4), (16, 0)] [17] ?_ | refine k_draw 16 [] [(0, 0), (1, 0), (2, 0), (3, 0), (4, 0), (5, 0), (6, 0), (7, 0), (8, 0), (9, 0), (10, 4), (11, 0), (12, 0)] [] ?_ | refine k_draw 17 [] [(0, 0), (1, 0), (2, 0), (3, 0), (4, 0), (5, 0), (6, 0), (7, 0), (8, 0), (9, 0), (10, 0), (11, 0), (12, 0), (13, 0), (14, 0), (15, 4), (16, 0)] [17] ?_ | refine k_draw 22 [] [(0, 0), (1, 0), (2, 0), (3, 0), (4, 0), (5, 0), (6, 0), (7, 0), (8, 0), (9, 0), (10, 4), (11, 0), (12, 0)] [] ?_ | refine k_draw 23 [] [(0, 0), (1, 0), (2, 0), (3, 0), (4, 0), (5, 0), (6, 0), (7, 0), (8, 0), (9, 0), (10, 0), (11, 0), (12, 0), (13, 0), (14, 0), (15, 4), (16, 0)] [17] ?_ | (refine k_cond (fun hc => ?_) (fun hc => ?_) <;> (try simp at hc) <;> (try omega)))
        exact k_next ⟨i + 1, by omega, by omega, g3.snoc W g1 hc0⟩ (by show bb - (i + 1) < bb - i; omega) ⟨rfl, rfl, rfl, rfl, rfl, rfl, trivial⟩
    · repeat' (first | refine l_run ?_ | refine l_nil ?_ | refine l_one ?_ | refine k_reg ?_ | refine l_ld ?_ | refine l_ldF ?_ | refine l_st ?_ | refine l_al (fun b => ?_) | refine l_bs (fun b => ?_) | refine k_condT ?_ | refine k_condF ?_ | refine r_run ?_ | refine r_one ?_ | refine r_ld ?_ | refine r_ldF ?_ | refine r_ldN ?_ | refine r_al (fun b => ?_) | refine r_bs (fun b => ?_) | refine r_st ?_ | refine r_end ?_ | (refine l_split (fun hc => ?_) (fun hc => ?_) <;> (try simp at hc) <;> (try omega)) | (refine r_split (fun hc => ?_) (fun hc => ?_) <;> (try simp at hc) <;> (try omega)) | refine k_draw 5 [] [(0, 0), (1, 0), (2, 0), (3, 0), (4, 0), (5, 0), (6, 0), (7, 0), (8, 0), (9, 0), (10, 0), (11, 0), (12, 0), (13, 0), (14, 4), (15, 0), (16, 0), (17, 0)] [] ?_ | refine k_draw 11 [] [(0, 0), (1, 0), (2, 0), (3, 0), (4, 0), (5, 0), (6, 0), (7, 0), (8, 0), (9, 0), (10, 0), (11, 0), (12, 0), (13, 0), (14, 0), (15, 4), (16, 0)] [17] ?_ | refine k_draw 16 [] [(0, 0), (1, 0), (2, 0), (3, 0), (4, 0), (5, 0), (6, 0), (7, 0), (8, 0), (9, 0), (10, 4), (11, 0), (12, 0)] [] ?_ | refine k_draw 17 [] [(0, 0), (1, 0), (2, 0), (3, 0), (4, 0), (5, 0), (6, 0), (7, 0), (8, 0), (9, 0), (10, 0), (11, 0), (12, 0), (13, 0), (14, 0), (15, 4), (16, 0)] [17] ?_ | refine k_draw 22 [] [(0, 0), (1, 0), (2, 0), (3, 0), (4, 0), (5, 0), (6, 0), (7, 0), (8, 0), (9, 0), (10, 4), (11, 0), (12, 0)] [] ?_ | refine k_draw 23 [] [(0, 0), (1, 0), (2, 0), (3, 0), (4, 0), (5, 0), (6, 0), (7, 0), (8, 0), (9, 0), (10, 0), (11, 0), (12, 0), (13, 0), (14, 0), (15, 4), (16, 0)] [17] ?_ | (refine k_cond (fun hc => ?_) (fun hc => ?_) <;> (try simp at hc) <;> (try omega)))
      exact k_out hx ⟨i, g1, g2, g3, fun h => absurd h hib⟩ ⟨rfl, rfl, rfl, rfl, rfl, rfl, trivial⟩
  rintro ⟨i, g1, g2, g3, g4⟩
  dsimp only at g1 g2 g3 g4 ⊢
  by_cases hib : i = bb
  · subst hib
    have e0 : decide ((i : Int) = (i : Int)) = true := decide_eq_true rfl
    repeat' (first | refine l_run ?_ | refine l_nil ?_ | refine l_one ?_ | refine k_reg ?_ | refine l_ld ?_ | refine l_ldF ?_ | refine l_st ?_ | refine l_al (fun b => ?_) | refine l_bs (fun b => ?_) | refine k_condT ?_ | refine k_condF ?_ | (refine l_split (fun hc => ?_) (fun hc => ?_) <;> (try simp at hc) <;> (try omega)) | (refine k_cond (fun hc => ?_) (fun hc => ?_) <;> (try simp at hc) <;> (try omega)))
    exact k_rt (w_lq (w_ret ⟨(true, m), h3, fun _ => g3⟩ rfl trivial))
  by_cases h50 : bb - a < 50
  · repeat' (first | refine l_run ?_ | refine l_nil ?_ | refine l_one ?_ | refine k_reg ?_ | refine l_ld ?_ | refine l_ldF ?_ | refine l_st ?_ | refine l_al (fun b => ?_) | refine l_bs (fun b => ?_) | refine k_condT ?_ | refine k_condF ?_ | rw [wba] | (refine l_split (fun hc => ?_) (fun hc => ?_) <;> (try simp at hc) <;> (try omega)) | (refine k_cond (fun hc => ?_) (fun hc => ?_) <;> (try simp at hc) <;> (try omega)))
    exact k_rt (w_lq (w_ret ⟨(false, m), h3, fun h => by cases h⟩ rfl trivial))
  have hc0 := g4 (by omega)
  have hi : i < n := by omega
  have hj : i - 1 < n := by omega
  have ki : i < m.length := by omega
  have kj : i - 1 < m.length := by omega
  have kj2 : i - 1 < (m.set i (gt m (i - 1))).length := by rw [List.length_set]; exact kj
  have hqm : AxOK (m.length * 7) q := by rw [hm, ← hn]; exact hq
  have hqm2 : ∀ k y, AxOK ((m.set k y).length * 7) q := fun k y => by rw [List.length_set]; exact hqm
  have wia : IntKind.i64.wrap ((i : Int) - (a : Int)) = ((i - a : Nat) : Int) := by simp (disch := omega) only [wrapi]; omega
  have wbi : IntKind.i64.wrap ((bb : Int) - (i : Int)) = ((bb - i : Nat) : Int) := by simp (disch := omega) only [wrapi]; omega
  have b1 : ((i : Int) == (bb : Int)) = false := by rw [beq_eq_false_iff_ne]; omega
  have b2 : decide (((bb - a : Nat) : Int) < 50) = false := decide_eq_false (by omega)
  repeat' (first | refine l_run ?_ | refine l_nil ?_ | refine l_one ?_ | refine k_reg ?_ | refine l_ld ?_ | refine l_ldF ?_ | refine l_st ?_ | refine l_al (fun b => ?_) | refine l_bs (fun b => ?_) | refine k_condT ?_ | refine k_condF ?_ | refine r_run ?_ | refine r_one ?_ | refine r_ld ?_ | refine r_ldF ?_ | refine r_ldN ?_ | refine r_al (fun b => ?_) | refine r_bs (fun b => ?_) | refine r_st ?_ | refine r_end ?_ | refine r_ixW (m := n) (i) hi ?_ | refine l_ixW (m := n) (i) hi ?_ | refine r_ixW (m := n) (i - 1) hj ?_ | refine l_ixW (m := n) (i - 1) hj ?_ | refine r_ldEN 7 (i) 0 (gt_some ki) ?_ | refine r_ldEN 7 (i - 1) 0 (gt_some kj) ?_ | refine r_stE 7 (i) 0 (gt m (i - 1)) (gt_some ki) hqm ?_ | refine l_stE 7 (i) 0 (gt m (i - 1)) (gt_some ki) hqm ?_ | refine l_stE 7 (i - 1) 0 (gt m (i)) (gt_some kj2) (hqm2 _ _) ?_ | rw [wba] | rw [wia] | rw [b1] | rw [b2] | refine r_up ?_ | (refine l_split (fun hc => ?_) (fun hc => ?_) <;> (try simp at hc)) | (refine r_split (fun hc => ?_) (fun hc => ?_) <;> (try simp at hc)) | refine k_draw 5 [] [(0, 0), (1, 0), (2, 0), (3, 0), (4, 0), (5, 0), (6, 0), (7, 0), (8, 0), (9, 0), (10, 0), (11, 0), (12, 0), (13, 0), (14, 4), (15, 0), (16, 0), (17, 0)] [] ?_ | refine k_draw 11 [Ax _ _ _ _ _] [(0, 0), (1, 0), (2, 0), (3, 0), (4, 0), (5, 0), (6, 0), (7, 0), (8, 0), (10, 0), (11, 0), (12, 0), (9, 3), (13, 3), (14, 0), (15, 4), (16, 0)] [17] ?_)
  obtain ⟨m1, hm1⟩ : ∃ m1, m1 = sw m i (i - 1) := ⟨_, rfl⟩
  have hw1 : Win a bb l m1 := by rw [hm1]; exact h3.trans (Win.sw (by omega) (by omega) (by omega) (by omega) (by omega))
  have hl1 : Lsh c a i (i - 1) m1 := by rw [hm1]; exact Lsh.init g3 (by omega) g1
  have hm1l := hw1.len
  refine k_ax m1 hm1.symm ?_
  refine k_cut (Y := { m2 : List Ch // Win a bb l m2 ∧ Sw c a i m2 }) (fun _ => [(0, .slice (some ⟨bk, 0, none⟩) n cap), (1, .int .i64 (a : Int)), (2, .int .i64 (bb : Int)), (3, .func (.func fv) #[] #[]), (9, .int .i64 (i : Int)), (10, .int .i64 (r : Int))]) (fun _ => [Fc]) (fun m2 => [Ax 119 chf bk m2.1 q]) ?_ ?_
  · rintro ⟨m2, hw2, hs2⟩
    dsimp only at hw2 hs2 ⊢
    have hm2l := hw2.len
    by_cases hbi : bb - i < 2
    · repeat' (first | refine l_run ?_ | refine l_nil ?_ | refine l_one ?_ | refine k_reg ?_ | refine l_ld ?_ | refine l_ldF ?_ | refine l_st ?_ | refine l_al (fun b => ?_) | refine l_bs (fun b => ?_) | refine k_condT ?_ | refine k_condF ?_ | rw [wbi] | rw [wr] | (refine l_split (fun hc => ?_) (fun hc => ?_) <;> (try simp at hc) <;> (try omega)) | (refine k_cond (fun hc => ?_) (fun hc => ?_) <;> (try simp at hc) <;> (try omega)))
      exact k_next ⟨(r + 1, i, m2), by show r + 1 ≤ 5; omega, g1, g2, hw2, hs2⟩ (by show 5 - (r + 1) < 5 - r; omega) ⟨rfl, rfl, rfl, rfl, rfl, rfl, trivial⟩
    · repeat' (first | refine l_run ?_ | refine l_nil ?_ | refine l_one ?_ | refine k_reg ?_ | refine l_ld ?_ | refine l_ldF ?_ | refine l_st ?_ | refine l_al (fun b => ?_) | refine l_bs (fun b => ?_) | refine k_condT ?_ | refine k_condF ?_ | rw [wbi] | rw [wi i hi] | (refine l_split (fun hc => ?_) (fun hc => ?_) <;> (try simp at hc) <;> (try omega)) | (refine k_cond (fun hc => ?_) (fun hc => ?_) <;> (try simp at hc) <;> (try omega)))
      refine k_lpx (Y := { m3 : List Ch // Win i bb m2 m3 }) (X := { t : Nat × List Ch // i < t.1 ∧ t.1 ≤ bb ∧ Win i bb m2 t.2 }) (fun t => [(0, .slice (some ⟨bk, 0, none⟩) n cap), (1, .int .i64 (a : Int)), (2, .int .i64 (bb : Int)), (3, .func (.func fv) #[] #[]), (9, .int .i64 (i : Int)), (10, .int .i64 (r : Int)), (12, .int .i64 (t.1.1 : Int))]) (fun _ => [Fc]) (fun t => [Ax 119 chf bk t.1.2 q]) (fun t => bb - t.1.1)
        (fun _ => [(0, .slice (some ⟨bk, 0, none⟩) n cap), (1, .int .i64 (a : Int)), (2, .int .i64 (bb : Int)), (3, .func (.func fv) #[] #[]), (9, .int .i64 (i : Int)), (10, .int .i64 (r : Int))]) (fun _ => [Fc]) (fun m3 => [Ax 119 chf bk m3.1 q]) ⟨(i + 1, m2), by show i < i + 1; omega, by show i + 1 ≤ bb; omega, Win.refl⟩ ⟨rfl, rfl, rfl, rfl, rfl, rfl, rfl, trivial⟩ ?_ ?_
      rotate_left
      · intro hx
        rintro ⟨⟨j, m3⟩, j1, j2, j3⟩
        dsimp only at j1 j2 j3 ⊢
        have hm3l := j3.len
        by_cases hjb : j < bb
        · have hja : j < n := by omega
          have hjb2 : j - 1 < n := by omega
          have kja : j < m3.length := by omega
          have kjb : j - 1 < m3.length := by omega
          have kjb2 : j - 1 < (m3.set j (gt m3 (j - 1))).length := by rw [List.length_set]; exact kjb
          have hU3 := (hw2.trans (j3.mono (by omega) (Nat.le_refl _))).sub hU
          have hq3 : AxOK (m3.length * 7) q := by rw [hm3l, hm2l, ← hn]; exact hq
          have hq32 : ∀ k y, AxOK ((m3.set k y).length * 7) q := fun k y => by rw [List.length_set]; exact hq3
          have sp := hcmp (gt m3 j) (gt m3 (j - 1)) (hU3 _ (gt_mem kja)) (hU3 _ (gt_mem kjb))
          by_cases hc1 : c (gt m3 j) (gt m3 (j - 1)) < 0
          · repeat' (first | refine l_run ?_ | refine l_nil ?_ | refine l_one ?_ | refine k_reg ?_ | refine l_ld ?_ | refine l_ldF ?_ | refine l_st ?_ | refine l_al (fun b => ?_) | refine l_bs (fun b => ?_) | refine k_condT ?_ | refine k_condF ?_ | refine r_run ?_ | refine r_one ?_ | refine r_ld ?_ | refine r_ldF ?_ | refine r_ldN ?_ | refine r_al (fun b => ?_) | refine r_bs (fun b => ?_) | refine r_st ?_ | refine r_end ?_ | refine r_ixW (m := n) (j) hja ?_ | refine l_ixW (m := n) (j) hja ?_ | refine r_ixW (m := n) (j - 1) hjb2 ?_ | refine l_ixW (m := n) (j - 1) hjb2 ?_ | refine r_ldEN 7 (j) 0 (gt_some kja) ?_ | refine r_ldEN 7 (j - 1) 0 (gt_some kjb) ?_ | refine r_stE 7 (j) 0 (gt m3 (j - 1)) (gt_some kja) hq3 ?_ | refine l_stE 7 (j) 0 (gt m3 (j - 1)) (gt_some kja) hq3 ?_ | refine l_stE 7 (j - 1) 0 (gt m3 (j)) (gt_some kjb2) (hq32 _ _) ?_ | refine r_ixW (m := n) (j) hja ?_ | refine l_ixW (m := n) (j) hja ?_ | refine r_ixW (m := n) (j - 1) hjb2 ?_ | refine l_ixW (m := n) (j - 1) hjb2 ?_ | refine r_ldE 7 (j) 0 (gt_some kja) ?_ | refine l_ldE 7 (j) 0 (gt_some kja) ?_ | refine r_ldE 7 (j - 1) 0 (gt_some kjb) ?_ | refine l_ldE 7 (j - 1) 0 (gt_some kjb) ?_ | refine r_callF sp (fun _ _ => ?_) | rw [wi j hja] | refine r_up ?_ | (refine l_split (fun hc => ?_) (fun hc => ?_) <;> (try simp at hc) <;> (try omega)) | (refine r_split (fun hc => ?_) (fun hc => ?_) <;> (try simp at hc) <;> (try omega)) | refine k_draw 5 [] [(0, 0), (1, 0), (2, 0), (3, 0), (4, 0), (5, 0), (6, 0), (7, 0), (8, 0), (9, 0), (10, 0), (11, 0), (12, 0), (13, 0), (14, 4), (15, 0), (16, 0), (17, 0)] [] ?_ | refine k_draw 11 [] [(0, 0), (1, 0), (2, 0), (3, 0), (4, 0), (5, 0), (6, 0), (7, 0), (8, 0), (9, 0), (10, 0), (11, 0), (12, 0), (13, 0), (14, 0), (15, 4), (16, 0)] [17] ?_ | refine k_draw 16 [] [(0, 0), (1, 0), (2, 0), (3, 0), (4, 0), (5, 0), (6, 0), (7, 0), (8, 0), (9, 0), (10, 4), (11, 0), (12, 0)] [] ?_ | refine k_draw 17 [] [(0, 0), (1, 0), (2, 0), (3, 0), (4, 0), (5, 0), (6, 0), (7, 0), (8, 0), (9, 0), (10, 0), (11, 0), (12, 0), (13, 0), (14, 0), (15, 4), (16, 0)] [17] ?_ | refine k_draw 22 [] [(0, 0), (1, 0), (2, 0), (3, 0), (4, 0), (5, 0), (6, 0), (7, 0), (8, 0), (9, 0), (10, 4), (11, 0), (12, 0)] [] ?_ | refine k_draw 23 [Ax _ _ _ _ _] [(0, 0), (1, 0), (2, 0), (3, 0), (4, 0), (5, 0), (6, 0), (7, 0), (8, 0), (10, 0), (11, 0), (12, 0), (9, 3), (13, 3), (14, 0), (15, 4), (16, 0)] [17] ?_ | (refine k_cond (fun hc => ?_) (fun hc => ?_) <;> (try simp at hc) <;> (try omega)))
            exact k_next ⟨(j + 1, sw m3 j (j - 1)), by show i < j + 1; omega, by show j + 1 ≤ bb; omega, j3.trans (Win.sw (by omega) hjb (by omega) (by omega) (by omega))⟩ (by show bb - (j + 1) < bb - j; omega) ⟨rfl, rfl, rfl, rfl, rfl, rfl, rfl, trivial⟩
          · repeat' (first | refine l_run ?_ | refine l_nil ?_ | refine l_one ?_ | refine k_reg ?_ | refine l_ld ?_ | refine l_ldF ?_ | refine l_st ?_ | refine l_al (fun b => ?_) | refine l_bs (fun b => ?_) | refine k_condT ?_ | refine k_condF ?_ | refine r_run ?_ | refine r_one ?_ | refine r_ld ?_ | refine r_ldF ?_ | refine r_ldN ?_ | refine r_al (fun b => ?_) | refine r_bs (fun b => ?_) | refine r_st ?_ | refine r_end ?_ | refine r_ixW (m := n) (j) hja ?_ | refine l_ixW (m := n) (j) hja ?_ | refine r_ixW (m := n) (j - 1) hjb2 ?_ | refine l_ixW (m := n) (j - 1) hjb2 ?_ | refine r_ldE 7 (j) 0 (gt_some kja) ?_ | refine l_ldE 7 (j) 0 (gt_some kja) ?_ | refine r_ldE 7 (j - 1) 0 (gt_some kjb) ?_ | refine l_ldE 7 (j - 1) 0 (gt_some kjb) ?_ | refine r_callF sp (fun _ _ => ?_) | (refine l_split (fun hc => ?_) (fun hc => ?_) <;> (try simp at hc) <;> (try omega)) | (refine r_split (fun hc => ?_) (fun hc => ?_) <;> (try simp at hc) <;> (try omega)) | refine k_draw 5 [] [(0, 0), (1, 0), (2, 0), (3, 0), (4, 0), (5, 0), (6, 0), (7, 0), (8, 0), (9, 0), (10, 0), (11, 0), (12, 0), (13, 0), (14, 4), (15, 0), (16, 0), (17, 0)] [] ?_ | refine k_draw 11 [] [(0, 0), (1, 0), (2, 0), (3, 0), (4, 0), (5, 0), (6, 0), (7, 0), (8, 0), (9, 0), (10, 0), (11, 0), (12, 0), (13, 0), (14, 0), (15, 4), (16, 0)] [17] ?_ | refine k_draw 16 [] [(0, 0), (1, 0), (2, 0), (3, 0), (4, 0), (5, 0), (6, 0), (7, 0), (8, 0), (9, 0), (10, 4), (11, 0), (12, 0)] [] ?_ | refine k_draw 17 [] [(0, 0), (1, 0), (2, 0), (3, 0), (4, 0), (5, 0), (6, 0), (7, 0), (8, 0), (9, 0), (10, 0), (11, 0), (12, 0), (13, 0), (14, 0), (15, 4), (16, 0)] [17] ?_ | refine k_draw 22 [] [(0, 0), (1, 0), (2, 0), (3, 0), (4, 0), (5, 0), (6, 0), (7, 0), (8, 0), (9, 0), (10, 4), (11, 0), (12, 0)] [] ?_ | refine k_draw 23 [] [(0, 0), (1, 0), (2, 0), (3, 0), (4, 0), (5, 0), (6, 0), (7, 0), (8, 0), (9, 0), (10, 0), (11, 0), (12, 0), (13, 0), (14, 0), (15, 4), (16, 0)] [17] ?_ | (refine k_cond (fun hc => ?_) (fun hc => ?_) <;> (try simp at hc) <;> (try omega)))
            exact k_out hx ⟨m3, j3⟩ ⟨rfl, rfl, rfl, rfl, rfl, rfl, trivial⟩
        · repeat' (first | refine l_run ?_ | refine l_nil ?_ | refine l_one ?_ | refine k_reg ?_ | refine l_ld ?_ | refine l_ldF ?_ | refine l_st ?_ | refine l_al (fun b => ?_) | refine l_bs (fun b => ?_) | refine k_condT ?_ | refine k_condF ?_ | (refine l_split (fun hc => ?_) (fun hc => ?_) <;> (try simp at hc) <;> (try omega)) | (refine k_cond (fun hc => ?_) (fun hc => ?_) <;> (try simp at hc) <;> (try omega)))
          exact k_out hx ⟨m3, j3⟩ ⟨rfl, rfl, rfl, rfl, rfl, rfl, trivial⟩
      rintro ⟨m3, j3⟩
      repeat' (first | refine l_run ?_ | refine l_nil ?_ | refine l_one ?_ | refine k_reg ?_ | refine l_ld ?_ | refine l_ldF ?_ | refine l_st ?_ | refine l_al (fun b => ?_) | refine l_bs (fun b => ?_) | refine k_condT ?_ | refine k_condF ?_ | rw [wr] | (refine l_split (fun hc => ?_) (fun hc => ?_) <;> (try simp at hc) <;> (try omega)) | (refine k_cond (fun hc => ?_) (fun hc => ?_) <;> (try simp at hc) <;> (try omega)))
      exact k_next ⟨(r + 1, i, m3), by show r + 1 ≤ 5; omega, g1, g2, hw2.trans (j3.mono (by omega) (Nat.le_refl _)), hs2.out j3⟩ (by show 5 - (r + 1) < 5 - r; omega) ⟨rfl, rfl, rfl, rfl, rfl, rfl, trivial⟩
  · intro hcut
    by_cases hia : i - a < 2
    · repeat' (first | refine k_skp ?_ | refine k_to hcut ⟨m1, hw1, Sw.nil (by omega)⟩ ⟨rfl, rfl, rfl, rfl, rfl, rfl, trivial⟩ | refine l_run ?_ | refine l_nil ?_ | refine l_one ?_ | refine k_reg ?_ | refine l_ld ?_ | refine l_ldF ?_ | refine l_st ?_ | refine l_al (fun b => ?_) | refine l_bs (fun b => ?_) | refine k_condT ?_ | refine k_condF ?_ | (refine l_split (fun hc => ?_) (fun hc => ?_) <;> (try simp at hc) <;> (try omega)) | (refine k_cond (fun hc => ?_) (fun hc => ?_) <;> (try simp at hc) <;> (try omega)))
    · repeat' (first | refine l_run ?_ | refine l_nil ?_ | refine l_one ?_ | refine k_reg ?_ | refine l_ld ?_ | refine l_ldF ?_ | refine l_st ?_ | refine l_al (fun b => ?_) | refine l_bs (fun b => ?_) | refine k_condT ?_ | refine k_condF ?_ | rw [wj i (by omega) hi] | (refine l_split (fun hc => ?_) (fun hc => ?_) <;> (try simp at hc) <;> (try omega)) | (refine k_cond (fun hc => ?_) (fun hc => ?_) <;> (try simp at hc) <;> (try omega)))
      refine k_lpx (Y := { m3 : List Ch // Win a i m1 m3 ∧ Sw c a i m3 }) (X := { t : Nat × List Ch // a ≤ t.1 ∧ t.1 < i ∧ Win a i m1 t.2 ∧ Lsh c a i t.1 t.2 }) (fun t => [(0, .slice (some ⟨bk, 0, none⟩) n cap), (1, .int .i64 (a : Int)), (2, .int .i64 (bb : Int)), (3, .func (.func fv) #[] #[]), (9, .int .i64 (i : Int)), (10, .int .i64 (r : Int)), (11, .int .i64 (t.1.1 : Int))]) (fun _ => [Fc]) (fun t => [Ax 119 chf bk t.1.2 q]) (fun t => t.1.1)
        (fun _ => [(0, .slice (some ⟨bk, 0, none⟩) n cap), (1, .int .i64 (a : Int)), (2, .int .i64 (bb : Int)), (3, .func (.func fv) #[] #[]), (9, .int .i64 (i : Int)), (10, .int .i64 (r : Int))]) (fun _ => [Fc]) (fun m3 => [Ax 119 chf bk m3.1 q]) ⟨(i - 1, m1), by show a ≤ i - 1; omega, by show i - 1 < i; omega, Win.refl, hl1⟩ ⟨rfl, rfl, rfl, rfl, rfl, rfl, rfl, trivial⟩ ?_ ?_
      rotate_left
      · intro hx
        rintro ⟨⟨j, m3⟩, j1, j2, j3, j4⟩
        dsimp only at j1 j2 j3 j4 ⊢
        have hm3l := j3.len
        have hw3 := hw1.trans (j3.mono (Nat.le_refl _) g2)
        by_cases hj0 : 1 ≤ j
        · have hja : j < n := by omega
          have hjb2 : j - 1 < n := by omega
          have kja : j < m3.length := by omega
          have kjb : j - 1 < m3.length := by omega
          have kjb2 : j - 1 < (m3.set j (gt m3 (j - 1))).length := by rw [List.length_set]; exact kjb
          have hU3 := hw3.sub hU
          have hq3 : AxOK (m3.length * 7) q := by rw [hm3l, hm1l, ← hn]; exact hq
          have hq32 : ∀ k y, AxOK ((m3.set k y).length * 7) q := fun k y => by rw [List.length_set]; exact hq3
          have sp := hcmp (gt m3 j) (gt m3 (j - 1)) (hU3 _ (gt_mem kja)) (hU3 _ (gt_mem kjb))
          by_cases hc1 : c (gt m3 j) (gt m3 (j - 1)) < 0
          · have haj : a < j := by
              by_cases hj : j = a
              · subst hj
                exact absurd hc1 (hlw.win hw3 (by omega) (by omega) j (Nat.le_refl _) hab)
              · omega
            repeat' (first | refine l_run ?_ | refine l_nil ?_ | refine l_one ?_ | refine k_reg ?_ | refine l_ld ?_ | refine l_ldF ?_ | refine l_st ?_ | refine l_al (fun b => ?_) | refine l_bs (fun b => ?_) | refine k_condT ?_ | refine k_condF ?_ | refine r_run ?_ | refine r_one ?_ | refine r_ld ?_ | refine r_ldF ?_ | refine r_ldN ?_ | refine r_al (fun b => ?_) | refine r_bs (fun b => ?_) | refine r_st ?_ | refine r_end ?_ | refine r_ixW (m := n) (j) hja ?_ | refine l_ixW (m := n) (j) hja ?_ | refine r_ixW (m := n) (j - 1) hjb2 ?_ | refine l_ixW (m := n) (j - 1) hjb2 ?_ | refine r_ldEN 7 (j) 0 (gt_some kja) ?_ | refine r_ldEN 7 (j - 1) 0 (gt_some kjb) ?_ | refine r_stE 7 (j) 0 (gt m3 (j - 1)) (gt_some kja) hq3 ?_ | refine l_stE 7 (j) 0 (gt m3 (j - 1)) (gt_some kja) hq3 ?_ | refine l_stE 7 (j - 1) 0 (gt m3 (j)) (gt_some kjb2) (hq32 _ _) ?_ | refine r_ixW (m := n) (j) hja ?_ | refine l_ixW (m := n) (j) hja ?_ | refine r_ixW (m := n) (j - 1) hjb2 ?_ | refine l_ixW (m := n) (j - 1) hjb2 ?_ | refine r_ldE 7 (j) 0 (gt_some kja) ?_ | refine l_ldE 7 (j) 0 (gt_some kja) ?_ | refine r_ldE 7 (j - 1) 0 (gt_some kjb) ?_ | refine l_ldE 7 (j - 1) 0 (gt_some kjb) ?_ | refine r_callF sp (fun _ _ => ?_) | rw [wj j hj0 hja] | refine r_up ?_ | (refine l_split (fun hc => ?_) (fun hc => ?_) <;> (try simp at hc) <;> (try omega)) | (refine r_split (fun hc => ?_) (fun hc => ?_) <;> (try simp at hc) <;> (try omega)) | refine k_draw 5 [] [(0, 0), (1, 0), (2, 0), (3, 0), (4, 0), (5, 0), (6, 0), (7, 0), (8, 0), (9, 0), (10, 0), (11, 0), (12, 0), (13, 0), (14, 4), (15, 0), (16, 0), (17, 0)] [] ?_ | refine k_draw 11 [] [(0, 0), (1, 0), (2, 0), (3, 0), (4, 0), (5, 0), (6, 0), (7, 0), (8, 0), (9, 0), (10, 0), (11, 0), (12, 0), (13, 0), (14, 0), (15, 4), (16, 0)] [17] ?_ | refine k_draw 16 [] [(0, 0), (1, 0), (2, 0), (3, 0), (4, 0), (5, 0), (6, 0), (7, 0), (8, 0), (9, 0), (10, 4), (11, 0), (12, 0)] [] ?_ | refine k_draw 17 [Ax _ _ _ _ _] [(0, 0), (1, 0), (2, 0), (3, 0), (4, 0), (5, 0), (6, 0), (7, 0), (8, 0), (10, 0), (11, 0), (12, 0), (9, 3), (13, 3), (14, 0), (15, 4), (16, 0)] [17] ?_ | refine k_draw 22 [] [(0, 0), (1, 0), (2, 0), (3, 0), (4, 0), (5, 0), (6, 0), (7, 0), (8, 0), (9, 0), (10, 4), (11, 0), (12, 0)] [] ?_ | refine k_draw 23 [] [(0, 0), (1, 0), (2, 0), (3, 0), (4, 0), (5, 0), (6, 0), (7, 0), (8, 0), (9, 0), (10, 0), (11, 0), (12, 0), (13, 0), (14, 0), (15, 4), (16, 0)] [17] ?_ | (refine k_cond (fun hc => ?_) (fun hc => ?_) <;> (try simp at hc) <;> (try omega)))
            exact k_next ⟨(j - 1, sw m3 j (j - 1)), by show a ≤ j - 1; omega, by show j - 1 < i; omega, j3.trans (Win.sw j1 j2 (by omega) (by omega) (by omega)), j4.step W haj j2 (by omega) hc1⟩ (by show j - 1 < j; omega) ⟨rfl, rfl, rfl, rfl, rfl, rfl, rfl, trivial⟩
          · repeat' (first | refine l_run ?_ | refine l_nil ?_ | refine l_one ?_ | refine k_reg ?_ | refine l_ld ?_ | refine l_ldF ?_ | refine l_st ?_ | refine l_al (fun b => ?_) | refine l_bs (fun b => ?_) | refine k_condT ?_ | refine k_condF ?_ | refine r_run ?_ | refine r_one ?_ | refine r_ld ?_ | refine r_ldF ?_ | refine r_ldN ?_ | refine r_al (fun b => ?_) | refine r_bs (fun b => ?_) | refine r_st ?_ | refine r_end ?_ | refine r_ixW (m := n) (j) hja ?_ | refine l_ixW (m := n) (j) hja ?_ | refine r_ixW (m := n) (j - 1) hjb2 ?_ | refine l_ixW (m := n) (j - 1) hjb2 ?_ | refine r_ldE 7 (j) 0 (gt_some kja) ?_ | refine l_ldE 7 (j) 0 (gt_some kja) ?_ | refine r_ldE 7 (j - 1) 0 (gt_some kjb) ?_ | refine l_ldE 7 (j - 1) 0 (gt_some kjb) ?_ | refine r_callF sp (fun _ _ => ?_) | (refine l_split (fun hc => ?_) (fun hc => ?_) <;> (try simp at hc) <;> (try omega)) | (refine r_split (fun hc => ?_) (fun hc => ?_) <;> (try simp at hc) <;> (try omega)) | refine k_draw 5 [] [(0, 0), (1, 0), (2, 0), (3, 0), (4, 0), (5, 0), (6, 0), (7, 0), (8, 0), (9, 0), (10, 0), (11, 0), (12, 0), (13, 0), (14, 4), (15, 0), (16, 0), (17, 0)] [] ?_ | refine k_draw 11 [] [(0, 0), (1, 0), (2, 0), (3, 0), (4, 0), (5, 0), (6, 0), (7, 0), (8, 0), (9, 0), (10, 0), (11, 0), (12, 0), (13, 0), (14, 0), (15, 4), (16, 0)] [17] ?_ | refine k_draw 16 [] [(0, 0), (1, 0), (2, 0), (3, 0), (4, 0), (5, 0), (6, 0), (7, 0), (8, 0), (9, 0), (10, 4), (11, 0), (12, 0)] [] ?_ | refine k_draw 17 [] [(0, 0), (1, 0), (2, 0), (3, 0), (4, 0), (5, 0), (6, 0), (7, 0), (8, 0), (9, 0), (10, 0), (11, 0), (12, 0), (13, 0), (14, 0), (15, 4), (16, 0)] [17] ?_ | refine k_draw 22 [] [(0, 0), (1, 0), (2, 0), (3, 0), (4, 0), (5, 0), (6, 0), (7, 0), (8, 0), (9, 0), (10, 4), (11, 0), (12, 0)] [] ?_ | refine k_draw 23 [] [(0, 0), (1, 0), (2, 0), (3, 0), (4, 0), (5, 0), (6, 0), (7, 0), (8, 0), (9, 0), (10, 0), (11, 0), (12, 0), (13, 0), (14, 0), (15, 4), (16, 0)] [17] ?_ | (refine k_cond (fun hc => ?_) (fun hc => ?_) <;> (try simp at hc) <;> (try omega)))
            exact k_out hx ⟨m3, j3, j4.stop W fun _ => hc1⟩ ⟨rfl, rfl, rfl, rfl, rfl, rfl, trivial⟩
        · repeat' (first | refine l_run ?_ | refine l_nil ?_ | refine l_one ?_ | refine k_reg ?_ | refine l_ld ?_ | refine l_ldF ?_ | refine l_st ?_ | refine l_al (fun b => ?_) | refine l_bs (fun b => ?_) | refine k_condT ?_ | refine k_condF ?_ | (refine l_split (fun hc => ?_) (fun hc => ?_) <;> (try simp at hc) <;> (try omega)) | (refine k_cond (fun hc => ?_) (fun hc => ?_) <;> (try simp at hc) <;> (try omega)))
          exact k_out hx ⟨m3, j3, j4.stop W fun h => by omega⟩ ⟨rfl, rfl, rfl, rfl, rfl, rfl, trivial⟩
      rintro ⟨m3, j3, j4⟩
      dsimp only at j3 j4 ⊢
      exact k_to hcut ⟨m3, hw1.trans (j3.mono (Nat.le_refl _) g2), j4⟩ ⟨rfl, rfl, rfl, rfl, rfl, rfl, trivial⟩
end
end Go.Proofs.YtiggkcknmjgicaaGreatDoor

set_option maxRecDepth 10000
namespace Go.Proofs.YtiggkcknmjgicaaGreatDoor
open Go.RowKit

section
variable (bk cap : Nat) (q : List Value × (Nat × Nat)) (fv : FuncId) (Fc : Pf) (c : Ch → Ch → Int) (W : Wk0 c) (U : Ch → Prop) (hcmp : ∀ x y, U x → U y → Enters fv ∧ Spec Tryz.prog fv #[x.v, y.v] [Fc] [] (RetV (.int .i64 (c x y))))

include hcmp W in
theorem insSC_ok (l : List Ch) (n : Nat) (hn : n = l.length) (hn2 : n ≤ 1000000) (hq : AxOK (n * 7) q) (hU : ∀ x ∈ l, U x) (a bb : Nat) (hab : a ≤ bb) (hb : bb ≤ n) :
    Enters 146 ∧ Spec Tryz.prog 146 #[.slice (some ⟨bk, 0, none⟩) n cap, .int .i64 (a : Int), .int .i64 (bb : Int), .func (.func fv) #[] #[]] [Fc] [Ax 119 chf bk l q]
      ⟨{ l' : List Ch // Win a bb l l' ∧ Sw c a bb l' }, fun _ => .tuple #[], fun _ => True, fun _ => [], fun l' => [Ax 119 chf bk l'.1 q]⟩ := by
  obtain ⟨A, M, B, hl, hA, hM⟩ : ∃ A M B, l = A ++ (M ++ B) ∧ A.length = a ∧ M.length = bb - a := ⟨l.take a, (l.drop a).take (bb - a), (l.drop a).drop (bb - a), by rw [List.take_append_drop, List.take_append_drop], by rw [List.length_take]; omega, by rw [List.length_take, List.length_drop]; omega⟩
  subst hl hA
  have e : bb = A.length + M.length := by omega
  subst e
  have s := insWC_ok bk cap q fv Fc c U hcmp A M B n (by rw [hn]; simp) hn2 hq hU
  have h := sw_of (A := A) (B := B) (isR_srd W M)
  rw [isR_len] at h
  exact ⟨s.1, s.2.imp fun G w hp x w' hx hs => ⟨⟨A ++ (isR c M ++ B), win_of (isR_perm M), h⟩, rfl, trivial, hs⟩⟩
include hcmp W in
set_option maxHeartbeats 8000000 in
theorem pdqWC_ok : ∀ (N : Nat) (l : List Ch) (n : Nat) (_ : n = l.length) (_ : n < 256) (_ : AxOK (n * 7) q) (_ : ∀ x ∈ l, U x) (a bb : Nat) (_ : a ≤ bb) (_ : bb ≤ n) (_ : bb - a ≤ N) (_ : Lw c a bb l) (lim : Int),
    Enters 109 ∧ Spec Tryz.prog 109 #[.slice (some ⟨bk, 0, none⟩) n cap, .int .i64 (a : Int), .int .i64 (bb : Int), .int .i64 lim, .func (.func fv) #[] #[]] [Fc] [Ax 119 chf bk l q]
      ⟨{ l' : List Ch // Win a bb l l' ∧ Sw c a bb l' }, fun _ => .tuple #[], fun _ => True, fun _ => [], fun l' => [Ax 119 chf bk l'.1 q]⟩ := by
  intro N
  induction N using Nat.strongRecOn with
  | ind N ih =>
  intro l n hn hn2 hq hU a bb hab hb hN hlw lim
  have ih2 := fun (m : List Ch) (hm : n = m.length) (hUm : ∀ x ∈ m, U x) (a' b' : Nat) (h1 : a' ≤ b') (h2 : b' ≤ n) (h3 : b' - a' < bb - a) (h4 : Lw c a' b' m) lim => ih (b' - a') (by omega) m n hm hn2 hq hUm a' b' h1 h2 (Nat.le_refl _) h4 lim
  clear ih
  refine ⟨enters_of Tryz.func109 (by kernel_rfl) rfl, spec_of (vs := [_, _, _, _, _]) Tryz.func109 rfl Tryz.ntmps109 rfl fun G w hp => ?_⟩
  repeat' (first | refine l_run ?_ | refine l_nil ?_ | refine l_one ?_ | refine k_reg ?_ | refine l_ld ?_ | refine l_ldF ?_ | refine l_st ?_ | refine l_al (fun b => ?_) | refine l_bs (fun b => ?_) | refine k_condT ?_ | refine k_condF ?_ | (refine l_split (fun hc => ?_) (fun hc => ?_) <;> (try simp at hc)) | (refine k_cond (fun hc => ?_) (fun hc => ?_) <;> (try simp at hc)))
  refine k_lp (X := { t : Nat × Nat × Int × Bool × Bool × List Ch // t.1 ≤ t.2.1 ∧ Jw c a bb t.1 t.2.1 l t.2.2.2.2.2 }) (fun t => [(0, .slice (some ⟨bk, 0, none⟩) n cap), (1, .int .i64 (t.1.1 : Int)), (2, .int .i64 (t.1.2.1 : Int)), (3, .int .i64 t.1.2.2.1), (4, .func (.func fv) #[] #[]), (10, .bool t.1.2.2.2.1), (11, .bool t.1.2.2.2.2.1)]) (fun _ => [Fc]) (fun t => [Ax 119 chf bk t.1.2.2.2.2.2 q]) (fun t => t.1.2.1 - t.1.1)
    ⟨(a, bb, lim, true, true, l), hab, Jw.init⟩ ⟨rfl, rfl, rfl, rfl, rfl, rfl, rfl, trivial⟩ ?_
  rintro ⟨⟨a1, b1, li, wb, wp, m⟩, h1, hJ⟩
  dsimp only at h1 hJ ⊢
  have hm := hJ.w.len
  have ha1 := hJ.h1
  have hb1 := hJ.h2
  have hUm := hJ.w.sub hU
  have hbl : bb ≤ l.length := by omega
  obtain ⟨L, hL⟩ : ∃ L, L = b1 - a1 := ⟨_, rfl⟩
  have w0 : IntKind.i64.wrap ((b1 : Int) - (a1 : Int)) = (L : Int) := by simp (disch := omega) only [wrapi]; omega
  by_cases h12 : L ≤ 12
  · have s1 := insSC_ok bk cap q fv Fc c W U hcmp m n (by omega) (by omega) hq hUm a1 b1 h1 (by omega)
    repeat' (first | refine l_run ?_ | refine l_nil ?_ | refine l_one ?_ | refine k_reg ?_ | refine l_ld ?_ | refine l_ldF ?_ | refine l_st ?_ | refine l_al (fun b => ?_) | refine l_bs (fun b => ?_) | refine k_condT ?_ | refine k_condF ?_ | refine l_call (s1) (fun _ _ => ?_) | refine l_call0 (s1) (fun _ _ => ?_) | rw [w0] | (refine l_split (fun hc => ?_) (fun hc => ?_) <;> (try simp at hc) <;> (try omega)) | (refine k_cond (fun hc => ?_) (fun hc => ?_) <;> (try simp at hc) <;> (try omega)))
    rename_i l' _
    obtain ⟨l', g1, g2⟩ := l'
    exact k_rt (w_lq (w_ret ⟨l', (hJ.win hbl g1).done g2⟩ rfl trivial))
  by_cases hli : li = 0
  · have s1 := heapC_ok bk cap q fv Fc c W U hcmp m n (by omega) (by omega) hq hUm a1 b1 (by omega) (by omega)
    repeat' (first | refine l_run ?_ | refine l_nil ?_ | refine l_one ?_ | refine k_reg ?_ | refine l_ld ?_ | refine l_ldF ?_ | refine l_st ?_ | refine l_al (fun b => ?_) | refine l_bs (fun b => ?_) | refine k_condT ?_ | refine k_condF ?_ | refine l_call (s1) (fun _ _ => ?_) | refine l_call0 (s1) (fun _ _ => ?_) | rw [w0] | (refine l_split (fun hc => ?_) (fun hc => ?_) <;> (try simp at hc) <;> (try omega)) | (refine k_cond (fun hc => ?_) (fun hc => ?_) <;> (try simp at hc) <;> (try omega)))
    rename_i l' _
    obtain ⟨l', g1, g2⟩ := l'
    exact k_rt (w_lq (w_ret ⟨l', (hJ.win hbl g1).done g2⟩ rfl trivial))
  have e12 : decide ((L : Int) ≤ 12) = false := decide_eq_false (by omega)
  have eli : (li == 0) = false := by rw [beq_eq_false_iff_ne]; exact hli
  repeat' (first | refine l_run ?_ | refine l_nil ?_ | refine l_one ?_ | refine k_reg ?_ | refine l_ld ?_ | refine l_ldF ?_ | refine l_st ?_ | refine l_al (fun b => ?_) | refine l_bs (fun b => ?_) | refine k_condT ?_ | refine k_condF ?_ | rw [w0] | rw [e12] | rw [eli] | (refine l_split (fun hc => ?_) (fun hc => ?_) <;> (try simp at hc)))
  refine k_cut (Y := { t : Int × List Ch // Win a1 b1 m t.2 }) (fun t => [(0, .slice (some ⟨bk, 0, none⟩) n cap), (1, .int .i64 (a1 : Int)), (2, .int .i64 (b1 : Int)), (3, .int .i64 t.1.1), (4, .func (.func fv) #[] #[]), (10, .bool wb), (11, .bool wp), (12, .int .i64 (L : Int))]) (fun _ => [Fc]) (fun t => [Ax 119 chf bk t.1.2 q]) ?_ ?_
  rotate_left
  · intro hcut
    cases wb with
    | true =>
      repeat' (first | refine k_skp ?_ | refine k_to hcut ⟨(li, m), Win.refl⟩ ⟨rfl, rfl, rfl, rfl, rfl, rfl, rfl, rfl, trivial⟩ | refine l_run ?_ | refine l_nil ?_ | refine l_one ?_ | refine k_reg ?_ | refine l_ld ?_ | refine l_ldF ?_ | refine l_st ?_ | refine l_al (fun b => ?_) | refine l_bs (fun b => ?_) | refine k_condT ?_ | refine k_condF ?_ | (refine l_split (fun hc => ?_) (fun hc => ?_) <;> (try simp at hc)) | (refine k_cond (fun hc => ?_) (fun hc => ?_) <;> (try simp at hc)))
    | false =>
      have s1 := brkC_ok bk cap q fv Fc m n (by omega) hn2 hq a1 b1 (by omega) (by omega)
      repeat' (first | refine k_skp ?_ | refine k_to hcut ⟨(_, _), ?_⟩ ⟨rfl, rfl, rfl, rfl, rfl, rfl, rfl, rfl, trivial⟩ | refine l_run ?_ | refine l_nil ?_ | refine l_one ?_ | refine k_reg ?_ | refine l_ld ?_ | refine l_ldF ?_ | refine l_st ?_ | refine l_al (fun b => ?_) | refine l_bs (fun b => ?_) | refine k_condT ?_ | refine k_condF ?_ | refine l_call (s1) (fun _ _ => ?_) | refine l_call0 (s1) (fun _ _ => ?_) | (refine l_split (fun hc => ?_) (fun hc => ?_) <;> (try simp at hc)) | (refine k_cond (fun hc => ?_) (fun hc => ?_) <;> (try simp at hc)))
      rename_i l' _
      exact l'.2
  rintro ⟨⟨li1, m1⟩, hw1⟩
  dsimp only at hw1 ⊢
  have hm1 := hw1.len
  have hJ1 := hJ.win hbl hw1
  have sp := chpC_ok bk cap q fv Fc c U hcmp m1 n (by omega) (by omega) (hJ1.w.sub hU) a1 b1 (by omega) (by omega)
  repeat' (first | refine l_run ?_ | refine l_nil ?_ | refine l_one ?_ | refine k_reg ?_ | refine l_ld ?_ | refine l_ldF ?_ | refine l_st ?_ | refine l_al (fun b => ?_) | refine l_bs (fun b => ?_) | refine k_condT ?_ | refine k_condF ?_ | refine l_call (sp) (fun _ _ => ?_) | refine l_call0 (sp) (fun _ _ => ?_) | (refine l_split (fun hc => ?_) (fun hc => ?_) <;> (try simp at hc)))
  rename_i p _
  obtain ⟨⟨p, z⟩, hp1, hp2, hz⟩ := p
  dsimp only at hp1 hp2 hz ⊢
  refine k_cut (Y := { t : Nat × Int × List Ch // a1 ≤ t.1 ∧ t.1 < b1 ∧ Win a1 b1 m1 t.2.2 }) (fun t => [(0, .slice (some ⟨bk, 0, none⟩) n cap), (1, .int .i64 (a1 : Int)), (2, .int .i64 (b1 : Int)), (3, .int .i64 li1), (4, .func (.func fv) #[] #[]), (10, .bool wb), (11, .bool wp), (12, .int .i64 (L : Int)), (13, .int .i64 (t.1.1 : Int)), (14, .int .i64 t.1.2.1)]) (fun _ => [Fc]) (fun t => [Ax 119 chf bk t.1.2.2 q]) ?_ ?_
  rotate_left
  · intro hcut
    by_cases hz2 : z = 2
    · subst hz2
      have s1 := revC_ok bk cap q fv Fc m1 n (by omega) (by omega) hq a1 b1 (by omega) (by omega)
      have w1 : IntKind.i64.wrap (IntKind.i64.wrap ((b1 : Int) - 1) - IntKind.i64.wrap ((p : Int) - (a1 : Int))) = ((b1 - 1 - (p - a1) : Nat) : Int) := by simp (disch := omega) only [wrapi]; omega
      refine k_condT ?_
      refine k_reg ?_
      repeat' (first | refine l_run ?_ | refine l_call0 s1 (fun _ _ => ?_) | refine l_call s1 (fun _ _ => ?_))
      refine l_nil ?_
      refine k_reg ?_
      repeat' (first | refine l_run ?_)
      rw [w1]
      refine l_nil ?_
      refine k_reg ?_
      repeat' (first | refine l_run ?_)
      refine l_nil ?_
      rename_i l' _
      refine k_to hcut ⟨(b1 - 1 - (p - a1), _, _), ?_⟩ ⟨rfl, rfl, rfl, rfl, rfl, rfl, rfl, rfl, rfl, rfl, trivial⟩
      exact ⟨by show a1 ≤ b1 - 1 - (p - a1); omega, by show b1 - 1 - (p - a1) < b1; omega, l'.2⟩
    · have ez : (z == 2) = false := by rw [beq_eq_false_iff_ne]; exact hz2
      rw [ez]
      repeat' (first | refine k_skp ?_ | refine k_to hcut ⟨(p, z, m1), hp1, hp2, Win.refl⟩ ⟨rfl, rfl, rfl, rfl, rfl, rfl, rfl, rfl, rfl, rfl, trivial⟩ | refine l_run ?_ | refine l_nil ?_ | refine l_one ?_ | refine k_reg ?_ | refine l_ld ?_ | refine l_ldF ?_ | refine l_st ?_ | refine l_al (fun b => ?_) | refine l_bs (fun b => ?_) | refine k_condT ?_ | refine k_condF ?_ | (refine l_split (fun hc => ?_) (fun hc => ?_) <;> (try simp at hc)) | (refine k_cond (fun hc => ?_) (fun hc => ?_) <;> (try simp at hc)))
  rintro ⟨⟨p, z, m2⟩, hp1, hp2, hw2⟩
  dsimp only at hp1 hp2 hw2 ⊢
  have hm2 := hw2.len
  have hJ2 := hJ1.win hbl hw2
  have hlw2 := hJ2.low hbl hlw
  have sp := pinsC_ok bk cap q fv Fc c W U hcmp m2 n (by omega) (by omega) hq (hJ2.w.sub hU) a1 b1 (by omega) (by omega) hlw2
  refine k_cutd (Y := { m3 : List Ch // Win a1 b1 m2 m3 }) 1 (fun _ => [(0, .slice (some ⟨bk, 0, none⟩) n cap), (1, .int .i64 (a1 : Int)), (2, .int .i64 (b1 : Int)), (3, .int .i64 li1), (4, .func (.func fv) #[] #[]), (10, .bool wb), (11, .bool wp), (12, .int .i64 (L : Int)), (13, .int .i64 (p : Int))]) (fun _ => [Fc]) (fun m3 => [Ax 119 chf bk m3.1 q]) ?_ ?_
  rotate_left
  · intro hcut
    repeat' (first | refine k_skp ?_ | refine k_to hcut ⟨_, ?_⟩ ⟨rfl, rfl, rfl, rfl, rfl, rfl, rfl, rfl, rfl, trivial⟩ | refine l_run ?_ | refine l_nil ?_ | refine l_one ?_ | refine k_reg ?_ | refine l_ld ?_ | refine l_ldF ?_ | refine l_st ?_ | refine l_al (fun b => ?_) | refine l_bs (fun b => ?_) | refine k_condT ?_ | refine k_condF ?_ | refine l_call (sp) (fun _ _ => ?_) | refine l_call0 (sp) (fun _ _ => ?_) | (refine l_split (fun hc => ?_) (fun hc => ?_) <;> (try simp at hc)) | (refine k_cond (fun hc => ?_) (fun hc => ?_) <;> (try simp at hc)))
    · rename_i x _
      obtain ⟨⟨f, m3⟩, g1, g2⟩ := x
      obtain rfl : f = true := hc
      exact k_rt (w_lq (w_ret ⟨m3, (hJ2.win hbl g1).done (g2 rfl)⟩ rfl trivial))
    · rename_i x _
      exact x.2.1
    all_goals exact Win.refl
  rintro ⟨m3, hw3⟩
  dsimp only at hw3 ⊢
  have hm3 := hw3.len
  have hJ3 := hJ2.win hbl hw3
  have hlw3 := hJ3.low hbl hlw
  have hU3 := hJ3.w.sub hU
  have hn3 : n = m3.length := by omega
  have hp : p < n := by omega
  have kp : p < m3.length := by omega
  have ga := fun (h : 0 < a1) => gt_some (l := m3) (i := a1 - 1) (by omega)
  have wa1 : 0 < a1 → IntKind.i64.wrap ((a1 : Int) - 1) = ((a1 - 1 : Nat) : Int) := fun h => by simp (disch := omega) only [wrapi]; omega
  by_cases h0 : 0 < a1 ∧ ¬ c (gt m3 (a1 - 1)) (gt m3 p) < 0
  · have g1 := ga h0.1
    have hh1 : a1 - 1 < n := by omega
    have sp2 := hcmp (gt m3 (a1 - 1)) (gt m3 p) (hU3 _ (gt_mem (by omega))) (hU3 _ (gt_mem kp))
    have s1 := parEC_ok bk cap q fv Fc c W U hcmp m3 n hn3 (by omega) hq hU3 a1 b1 p (by omega) (by omega) hp1 hp2
    have h01 := h0.1
    have h02 := h0.2
    repeat' (first | refine l_run ?_ | refine l_nil ?_ | refine l_one ?_ | refine k_reg ?_ | refine l_ld ?_ | refine l_ldF ?_ | refine l_st ?_ | refine l_al (fun b => ?_) | refine l_bs (fun b => ?_) | refine k_condT ?_ | refine k_condF ?_ | refine r_run ?_ | refine r_one ?_ | refine r_ld ?_ | refine r_ldF ?_ | refine r_ldN ?_ | refine r_al (fun b => ?_) | refine r_bs (fun b => ?_) | refine r_st ?_ | refine r_end ?_ | refine l_call (s1) (fun _ _ => ?_) | refine l_call0 (s1) (fun _ _ => ?_) | refine r_call (s1) (fun _ _ => ?_) | rw [wa1 h01] | refine r_ixW (m := n) (a1 - 1) hh1 ?_ | refine r_ixW (m := n) p hp ?_ | refine r_ldE 7 (a1 - 1) 0 g1 ?_ | refine r_ldE 7 p 0 (gt_some kp) ?_ | refine r_callF sp2 (fun _ _ => ?_) | (refine l_split (fun hc => ?_) (fun hc => ?_) <;> (try simp at hc) <;> (try omega)) | (refine r_split (fun hc => ?_) (fun hc => ?_) <;> (try simp at hc) <;> (try omega)) | refine k_draw 17 [] [(0, 0), (1, 0), (2, 0), (3, 0), (4, 0), (5, 0), (6, 0), (7, 0), (8, 0), (9, 0), (10, 0), (11, 0), (12, 0), (13, 4), (14, 0), (15, 0), (16, 0)] [] ?_ | (refine k_cond (fun hc => ?_) (fun hc => ?_) <;> (try simp at hc) <;> (try omega)))
    rename_i x _
    obtain ⟨⟨mid, m4⟩, f1, f2, f3, f4, f5⟩ := x
    dsimp only at f1 f2 f3 f4 f5 ⊢
    have hlow : ∀ k, a1 ≤ k → k < b1 → ¬ c (gt m4 k) (gt m4 a1) < 0 := fun k k1 k2 => by
      rw [f4]
      exact f1.all (by omega) (P := fun x => ¬ c x (gt m3 p) < 0) (fun k k1 k2 => W.t _ _ _ h02 (hlw3 h01 k k1 k2)) k k1 k2
    exact k_next ⟨(mid, b1, li1, wb, wp, m4), f3, (hJ3.win hbl f1).shrink (by omega) (Nat.le_refl _) (eq_shrink W hlow f5)⟩ (by show b1 - mid < b1 - a1; omega) ⟨rfl, rfl, rfl, rfl, rfl, rfl, rfl, trivial⟩
  · have s1 := partC_ok bk cap q fv Fc c U hcmp m3 n hn3 (by omega) hq hU3 a1 b1 p (by omega) (by omega) hp1 hp2
    have w8 : IntKind.i64.wrap ((L : Int).tdiv 8) = ((L / 8 : Nat) : Int) := by
      have : (L : Int).tdiv 8 = ((L / 8 : Nat) : Int) := (Int.ofNat_tdiv _ _).symm
      rw [this, wrapi (by omega) (by omega)]
    have key : ∀ (mid : Nat) (ap : Bool) (m4 : List Ch), Win a1 b1 m3 m4 → Pt0 c a1 b1 mid m4 → True := fun _ _ _ _ _ => trivial
    clear key
    refine k_cutd (Y := { t : Nat × Bool × List Ch // Win a1 b1 m3 t.2.2 ∧ Pt0 c a1 b1 t.1 t.2.2 }) 2 (fun t => [(0, .slice (some ⟨bk, 0, none⟩) n cap), (1, .int .i64 (a1 : Int)), (2, .int .i64 (b1 : Int)), (3, .int .i64 li1), (4, .func (.func fv) #[] #[]), (12, .int .i64 (L : Int)), (16, .int .i64 (t.1.1 : Int)), (17, .bool t.1.2.1)]) (fun _ => [Fc]) (fun t => [Ax 119 chf bk t.1.2.2 q]) ?_ ?_
    rotate_left
    · intro hcut
      by_cases h01 : 0 < a1
      · have g1 := ga h01
        have hh1 : a1 - 1 < n := by omega
        have sp2 := hcmp (gt m3 (a1 - 1)) (gt m3 p) (hU3 _ (gt_mem (by omega))) (hU3 _ (gt_mem kp))
        have h02 : c (gt m3 (a1 - 1)) (gt m3 p) < 0 := Classical.byContradiction fun h => h0 ⟨h01, h⟩
        repeat' (first | refine k_skp ?_ | refine k_to hcut ⟨(_, _, _), ?_⟩ ⟨rfl, rfl, rfl, rfl, rfl, rfl, rfl, rfl, trivial⟩ | refine l_run ?_ | refine l_nil ?_ | refine l_one ?_ | refine k_reg ?_ | refine l_ld ?_ | refine l_ldF ?_ | refine l_st ?_ | refine l_al (fun b => ?_) | refine l_bs (fun b => ?_) | refine k_condT ?_ | refine k_condF ?_ | refine r_run ?_ | refine r_one ?_ | refine r_ld ?_ | refine r_ldF ?_ | refine r_ldN ?_ | refine r_al (fun b => ?_) | refine r_bs (fun b => ?_) | refine r_st ?_ | refine r_end ?_ | refine l_call (s1) (fun _ _ => ?_) | refine l_call0 (s1) (fun _ _ => ?_) | refine r_call (s1) (fun _ _ => ?_) | rw [wa1 h01] | refine r_ixW (m := n) (a1 - 1) hh1 ?_ | refine r_ixW (m := n) p hp ?_ | refine r_ldE 7 (a1 - 1) 0 g1 ?_ | refine r_ldE 7 p 0 (gt_some kp) ?_ | refine r_callF sp2 (fun _ _ => ?_) | (refine l_split (fun hc => ?_) (fun hc => ?_) <;> (try simp at hc) <;> (try omega)) | (refine r_split (fun hc => ?_) (fun hc => ?_) <;> (try simp at hc) <;> (try omega)) | refine k_draw 17 [] [(0, 0), (1, 0), (2, 0), (3, 0), (4, 0), (5, 0), (6, 0), (7, 0), (8, 0), (9, 0), (10, 0), (11, 0), (12, 0), (13, 4), (14, 0), (15, 0), (16, 0)] [] ?_ | (refine k_cond (fun hc => ?_) (fun hc => ?_) <;> (try simp at hc) <;> (try omega)))
      · repeat' (first | refine k_skp ?_ | refine k_to hcut ⟨(_, _, _), ?_⟩ ⟨rfl, rfl, rfl, rfl, rfl, rfl, rfl, rfl, trivial⟩ | refine l_run ?_ | refine l_nil ?_ | refine l_one ?_ | refine k_reg ?_ | refine l_ld ?_ | refine l_ldF ?_ | refine l_st ?_ | refine l_al (fun b => ?_) | refine l_bs (fun b => ?_) | refine k_condT ?_ | refine k_condF ?_ | refine r_run ?_ | refine r_one ?_ | refine r_ld ?_ | refine r_ldF ?_ | refine r_ldN ?_ | refine r_al (fun b => ?_) | refine r_bs (fun b => ?_) | refine r_st ?_ | refine r_end ?_ | refine l_call (s1) (fun _ _ => ?_) | refine l_call0 (s1) (fun _ _ => ?_) | refine r_call (s1) (fun _ _ => ?_) | (refine l_split (fun hc => ?_) (fun hc => ?_) <;> (try simp at hc) <;> (try omega)) | (refine r_split (fun hc => ?_) (fun hc => ?_) <;> (try simp at hc) <;> (try omega)) | refine k_draw 17 [] [(0, 0), (1, 0), (2, 0), (3, 0), (4, 0), (5, 0), (6, 0), (7, 0), (8, 0), (9, 0), (10, 0), (11, 0), (12, 0), (13, 4), (14, 0), (15, 0), (16, 0)] [] ?_ | (refine k_cond (fun hc => ?_) (fun hc => ?_) <;> (try simp at hc) <;> (try omega)))
    clear s1
    rintro ⟨⟨mid, ap, m4⟩, f1, f2⟩
    dsimp only at f1 f2 ⊢
    have f3 := f2.h1
    have f4 := f2.h2
    have hJ4 := hJ3.win hbl f1
    have hlw4 := hJ4.low hbl hlw
    have hm4 := f1.len
    have hU4 := hJ4.w.sub hU
    have w1 : IntKind.i64.wrap ((mid : Int) - (a1 : Int)) = ((mid - a1 : Nat) : Int) := by simp (disch := omega) only [wrapi]; omega
    have w2 : IntKind.i64.wrap ((b1 : Int) - (mid : Int)) = ((b1 - mid : Nat) : Int) := by simp (disch := omega) only [wrapi]; omega
    have w3 : IntKind.i64.wrap ((mid : Int) + 1) = ((mid + 1 : Nat) : Int) := by simp (disch := omega) only [wrapi]; omega
    by_cases hlr : mid - a1 < b1 - mid
    · have s1 := ih2 m4 (by omega) hU4 a1 mid f3 (by omega) (by omega) (hlw4.sub (by omega)) li1
      repeat' (first | refine l_run ?_ | refine l_nil ?_ | refine l_one ?_ | refine k_reg ?_ | refine l_ld ?_ | refine l_ldF ?_ | refine l_st ?_ | refine l_al (fun b => ?_) | refine l_bs (fun b => ?_) | refine k_condT ?_ | refine k_condF ?_ | refine l_call (s1) (fun _ _ => ?_) | refine l_call0 (s1) (fun _ _ => ?_) | rw [w1] | rw [w2] | rw [w3] | rw [w8] | (refine l_split (fun hc => ?_) (fun hc => ?_) <;> (try simp at hc) <;> (try omega)) | (refine k_cond (fun hc => ?_) (fun hc => ?_) <;> (try simp at hc) <;> (try omega)))
      rename_i x _
      obtain ⟨m5, k1, k2⟩ := x
      exact k_next ⟨(mid + 1, b1, li1, _, ap, m5), by show mid + 1 ≤ b1; omega, (hJ4.win hbl (k1.mono (Nat.le_refl _) (by omega))).shrink (by omega) (Nat.le_refl _) (f2.left W (by omega) k1 k2)⟩ (by show b1 - (mid + 1) < b1 - a1; omega) ⟨rfl, rfl, rfl, rfl, rfl, rfl, rfl, trivial⟩
    · have s1 := ih2 m4 (by omega) hU4 (mid + 1) b1 (by omega) (by omega) (by omega) f2.lw li1
      repeat' (first | refine l_run ?_ | refine l_nil ?_ | refine l_one ?_ | refine k_reg ?_ | refine l_ld ?_ | refine l_ldF ?_ | refine l_st ?_ | refine l_al (fun b => ?_) | refine l_bs (fun b => ?_) | refine k_condT ?_ | refine k_condF ?_ | refine l_call (s1) (fun _ _ => ?_) | refine l_call0 (s1) (fun _ _ => ?_) | rw [w1] | rw [w2] | rw [w3] | rw [w8] | (refine l_split (fun hc => ?_) (fun hc => ?_) <;> (try simp at hc) <;> (try omega)) | (refine k_cond (fun hc => ?_) (fun hc => ?_) <;> (try simp at hc) <;> (try omega)))
      rename_i x _
      obtain ⟨m5, k1, k2⟩ := x
      exact k_next ⟨(a1, mid, li1, _, ap, m5), f3, (hJ4.win hbl (k1.mono (by omega) (Nat.le_refl _))).shrink (Nat.le_refl _) (by show mid ≤ b1; omega) (f2.right W (by omega) k1 k2)⟩ (by show mid - a1 < b1 - a1; omega) ⟨rfl, rfl, rfl, rfl, rfl, rfl, rfl, trivial⟩
end
end Go.Proofs.YtiggkcknmjgicaaGreatDoor

set_option maxRecDepth 10000
namespace Go.Proofs.YtiggkcknmjgicaaGreatDoor
open Go.RowKit

theorem insC0_ok (o : Option Addr) (cap : Nat) (fv : FuncId) :
    Enters 146 ∧ Spec Tryz.prog 146 #[.slice o 0 cap, .int .i64 0, .int .i64 0, .func (.func fv) #[] #[]] [] [] ⟨Unit, fun _ => .tuple #[], fun _ => True, fun _ => [], fun _ => []⟩ := by
  refine ⟨enters_of Tryz.func146 (by kernel_rfl) rfl, spec_of (vs := [_, _, _, _]) Tryz.func146 rfl Tryz.ntmps146 rfl fun G w hp => ?_⟩
  repeat' (first | refine l_run ?_ | refine l_nil ?_ | refine l_one ?_ | refine k_reg ?_ | refine l_ld ?_ | refine l_ldF ?_ | refine l_st ?_ | refine l_al (fun b => ?_) | refine l_bs (fun b => ?_) | refine k_condT ?_ | refine k_condF ?_ | refine k_brk ?_ | refine r_run ?_ | refine r_one ?_ | refine r_ld ?_ | refine r_ldF ?_ | refine r_ldN ?_ | refine r_al (fun b => ?_) | refine r_bs (fun b => ?_) | refine r_st ?_ | refine r_end ?_ | refine l_split (fun hc => ?_) (fun hc => ?_) | refine r_split (fun hc => ?_) (fun hc => ?_) | refine k_draw 4 [] [(0, 0), (1, 0), (2, 0), (3, 0), (4, 0), (5, 0), (6, 0), (7, 0), (8, 0), (9, 0), (10, 0), (11, 0), (12, 0), (13, 0), (14, 4), (15, 0), (16, 0)] [] ?_ | refine k_draw 6 [] [(0, 0), (1, 0), (2, 0), (3, 0), (4, 0), (5, 0), (6, 0), (7, 0), (8, 0), (9, 0), (10, 0), (11, 0), (12, 0), (13, 0), (14, 0), (15, 4), (16, 0)] [17] ?_ | refine k_cond (fun hc => ?_) (fun hc => ?_))
  refine k_lp (X := Unit) (fun _ => [(2, .int .i64 0), (8, .int .i64 1)]) (fun _ => []) (fun _ => []) (fun _ => 0) () ⟨rfl, rfl, trivial⟩ ?_
  rintro ⟨⟩
  repeat' (first | refine l_run ?_ | refine l_nil ?_ | refine l_one ?_ | refine k_reg ?_ | refine l_ld ?_ | refine l_ldF ?_ | refine l_st ?_ | refine l_al (fun b => ?_) | refine l_bs (fun b => ?_) | refine k_condT ?_ | refine k_condF ?_ | refine k_brk ?_ | (refine l_split (fun hc => ?_) (fun hc => ?_) <;> (try simp at hc) <;> (try omega)) | (refine k_cond (fun hc => ?_) (fun hc => ?_) <;> (try simp at hc) <;> (try omega)))
  exact k_end () rfl trivial
theorem pdqC0_ok (o : Option Addr) (cap : Nat) (lim : Int) (fv : FuncId) :
    Enters 109 ∧ Spec Tryz.prog 109 #[.slice o 0 cap, .int .i64 0, .int .i64 0, .int .i64 lim, .func (.func fv) #[] #[]] [] [] ⟨Unit, fun _ => .tuple #[], fun _ => True, fun _ => [], fun _ => []⟩ := by
  have s1 := insC0_ok o cap fv
  refine ⟨enters_of Tryz.func109 (by kernel_rfl) rfl, spec_of (vs := [_, _, _, _, _]) Tryz.func109 rfl Tryz.ntmps109 rfl fun G w hp => ?_⟩
  repeat' (first | refine l_run ?_ | refine l_nil ?_ | refine l_one ?_ | refine k_reg ?_ | refine l_ld ?_ | refine l_ldF ?_ | refine l_st ?_ | refine l_al (fun b => ?_) | refine l_bs (fun b => ?_) | refine k_condT ?_ | refine k_condF ?_ | refine k_brk ?_ | refine l_split (fun hc => ?_) (fun hc => ?_) | refine k_cond (fun hc => ?_) (fun hc => ?_))
  refine k_lp (X := Unit) (fun _ => [(0, .slice o 0 cap), (1, .int .i64 0), (2, .int .i64 0), (3, .int .i64 lim), (4, .func (.func fv) #[] #[])]) (fun _ => []) (fun _ => []) (fun _ => 0) () ⟨rfl, rfl, rfl, rfl, rfl, trivial⟩ ?_
  rintro ⟨⟩
  repeat' (first | refine l_run ?_ | refine l_nil ?_ | refine l_one ?_ | refine k_reg ?_ | refine l_ld ?_ | refine l_ldF ?_ | refine l_st ?_ | refine l_al (fun b => ?_) | refine l_bs (fun b => ?_) | refine k_condT ?_ | refine k_condF ?_ | refine k_brk ?_ | refine l_call (s1) (fun _ _ => ?_) | refine l_call0 (s1) (fun _ _ => ?_) | (refine l_split (fun hc => ?_) (fun hc => ?_) <;> (try simp at hc) <;> (try omega)) | (refine k_cond (fun hc => ?_) (fun hc => ?_) <;> (try simp at hc) <;> (try omega)))
  exact k_rt (w_lq (w_ret () rfl trivial))

theorem sortC_ok (o : Option Addr) (cap : Nat) (es : List Ch) (fv : FuncId) (Fc : Pf) (c : Ch → Ch → Int) (hn : es.length ≤ 200)
    (ha : ∀ a b, c a b < 0 → ¬ c b a < 0) (ht : ∀ a b d, ¬ c b a < 0 → ¬ c d b < 0 → ¬ c d a < 0) (hcmp : ∀ x y, x ∈ es → y ∈ es → Enters fv ∧ Spec Tryz.prog fv #[x.v, y.v] [Fc] [] (RetV (.int .i64 (c x y)))) :
    Enters 53 ∧ Spec Tryz.prog 53 #[.slice o es.length cap, .func (.func fv) #[] #[]] [Fc] [Row 119 7 o es.length cap (es.flatMap chf)]
      ⟨List Ch, fun _ => .tuple #[], fun l => l.Perm es ∧ Srd c l, fun _ => [], fun l => [Row 119 7 o es.length cap (l.flatMap chf)]⟩ := by
  have hu : IntKind.u64.wrap ((es.length : Nat) : Int) = (es.length : Int) := wrap64 (by omega)
  have s2 := bitsLen_ok es.length (by omega)
  by_cases h0 : es = []
  · subst h0
    refine ⟨enters_of Tryz.func53 (by kernel_rfl) rfl, spec_of (vs := [_, _]) Tryz.func53 rfl Tryz.ntmps53 rfl fun G w hp => ?_⟩
    have s3 := fun lim => pdqC0_ok o cap lim fv
    repeat' (first | refine l_run ?_ | refine l_nil ?_ | refine l_one ?_ | refine k_reg ?_ | refine l_ld ?_ | refine l_ldF ?_ | refine l_st ?_ | refine l_al (fun b => ?_) | refine l_bs (fun b => ?_) | refine k_condT ?_ | refine k_condF ?_ | refine k_brk ?_ | refine l_call (s2) (fun _ _ => ?_) | refine l_call0 (s2) (fun _ _ => ?_) | refine l_call (s3 _) (fun _ _ => ?_) | refine l_call0 (s3 _) (fun _ _ => ?_) | rw [hu] | (refine l_split (fun hc => ?_) (fun hc => ?_) <;> (try simp at hc)) | (refine k_cond (fun hc => ?_) (fun hc => ?_) <;> (try simp at hc)))
    exact k_end [] rfl ⟨List.Perm.refl _, List.Pairwise.nil⟩
  · have hlen : 0 < es.length := List.length_pos_iff.2 h0
    refine ⟨enters_of Tryz.func53 (by kernel_rfl) rfl, spec_of (vs := [_, _]) Tryz.func53 rfl Tryz.ntmps53 rfl fun G w hp => ?_⟩
    refine k_row hlen fun p hp => ?_
    have hq : AxOK (es.length * 7) p.2 := by
      rcases hp.f with h | h
      · exact .inl h
      · exact .inr (by rw [List.length_append, hp.l] at h; exact h)
    have ho := hp.o
    subst ho
    have s4 := fun lim => pdqWC_ok p.1 cap p.2 fv Fc c ⟨ha, fun x y z => ht x y z⟩ (fun x => x ∈ es) (fun x y hx hy => hcmp x y hx hy) es.length es es.length rfl (by omega) hq (fun x hx => hx) 0 es.length (Nat.zero_le _) (Nat.le_refl _) (Nat.le_refl _) (fun h => absurd h (Nat.lt_irrefl _)) lim
    have s3 : ∀ lim, Enters 109 ∧ Spec Tryz.prog 109 #[.slice (some ⟨p.1, 0, none⟩) es.length cap, .int .i64 0, .int .i64 (es.length : Int), .int .i64 lim, .func (.func fv) #[] #[]] [Fc] [Ax 119 chf p.1 es p.2]
        ⟨List Ch, fun _ => .tuple #[], fun l => l.Perm es ∧ Srd c l, fun _ => [], fun l => [Ax 119 chf p.1 l p.2]⟩ := fun lim => ⟨(s4 lim).1, (s4 lim).2.imp fun G w hp x w' hx hs => ⟨x.1, rfl, ⟨x.2.1.perm, Sw.srdn x.2.1.len x.2.2⟩, hs⟩⟩
    repeat' (first | refine l_run ?_ | refine l_nil ?_ | refine l_one ?_ | refine k_reg ?_ | refine l_ld ?_ | refine l_ldF ?_ | refine l_st ?_ | refine l_al (fun b => ?_) | refine l_bs (fun b => ?_) | refine k_condT ?_ | refine k_condF ?_ | refine k_brk ?_ | refine l_call (s2) (fun _ _ => ?_) | refine l_call0 (s2) (fun _ _ => ?_) | refine l_call (s3 _) (fun _ _ => ?_) | refine l_call0 (s3 _) (fun _ _ => ?_) | rw [hu] | (refine l_split (fun hc => ?_) (fun hc => ?_) <;> (try simp at hc)) | (refine k_cond (fun hc => ?_) (fun hc => ?_) <;> (try simp at hc)))
    rename_i l hl
    have hll := hl.1.length_eq
    refine k_shut (r := Row 119 7 (some ⟨p.1, 0, none⟩) es.length cap (l.flatMap chf)) (Lx := [Ax 119 chf p.1 l p.2]) (fun h hh => row_shut (q := p) ⟨rfl, by rw [flat_len (f := chf) (sz := 7) (fun _ => rfl), hll], by rw [← hp.c, List.length_append, List.length_append, flat_len (f := chf) (sz := 7) (fun _ => rfl), flat_len (f := chf) (sz := 7) (fun _ => rfl), hll], hp.m, by rw [List.length_append, flat_len (f := chf) (sz := 7) (fun _ => rfl), hll]; rcases hp.f with h | h; exact .inl h; exact .inr (by rw [List.length_append, hp.l] at h; exact h)⟩ h hh) ?_
    exact k_end l rfl hl
end Go.Proofs.YtiggkcknmjgicaaGreatDoor
