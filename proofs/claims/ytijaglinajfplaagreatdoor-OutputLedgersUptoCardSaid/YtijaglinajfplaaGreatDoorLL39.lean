/-
  The law OutputLedgers, walked.
  Conditions: those that each theorem states.
-/
import Derived.Test.YtijaglinajfplaaGreatDoorMI
import Derived.Test.YtijaglinajfplaaGreatDoorMG
set_option maxRecDepth 10000
namespace Go.Proofs.YtijaglinajfplaaGreatDoor
open Go.RowKit

theorem lfind_has {ls : List Lf} {x : Lf} {i : Nat} (hx : ls[i]? = some x) : ∀ m, i < m → ∃ j, lfind ls x.e.who x.e.nu x.e.tk m = some j
  | 0, h => by omega
  | m + 1, h => by
    rw [lfind]
    by_cases him : i = m
    · subst him
      rw [hx]
      dsimp only
      rw [if_pos (by simp [idq])]
      exact ⟨_, rfl⟩
    · obtain ⟨j, hj⟩ := lfind_has hx m (by omega)
      split
      · split
        · exact ⟨_, rfl⟩
        · exact ⟨j, hj⟩
      · exact ⟨j, hj⟩
theorem lfind_lt {ls : List Lf} {w : ByteArray} {nu tk : Int} {j : Nat} : ∀ m, lfind ls w nu tk m = some j → j < m
  | 0, h => by cases h
  | m + 1, h => by
    rw [lfind] at h
    split at h
    · split at h
      · obtain rfl := Option.some.inj h; omega
      · have := lfind_lt m h; omega
    · have := lfind_lt m h; omega
def Lf.z : Lf := ⟨⟨⟨#[]⟩, 0, 0, Ou.z⟩, 0, 0⟩

set_option maxHeartbeats 4000000 in
theorem lawOLedgers_ok (o1 : Option Addr) (c1 : Nat) (l : List Lf) (x : Lf) (z : Int) (hl : l.length ≤ 1099511627776) :
    Enters 8 ∧ Spec Tryz.prog 8 #[.slice o1 l.length c1, x.v, .int .i64 z] [Sl 80 lff o1 c1 l, Usg] [] (RetV (.bool true)) := by
  have n1 := build39_ok o1 c1 l hl
  obtain ⟨h1, h2, h3⟩ := bldL_ok (l.take 30)
  have h4 : (l.take 30).length ≤ 30 := by simp; omega
  unfold B39P at n1
  generalize bldL (l.take 30) = ls at *
  have n2 := fun b => lgLen_ok b ls
  refine ⟨enters_of Tryz.func8 (by kernel_rfl) rfl, spec_of (vs := [_, _, _]) Tryz.func8 rfl Tryz.ntmps8 rfl fun G w hp => ?_⟩
  repeat' (first | refine k_frz (T := 80) (sz := 9) (f := lff) ls ?_ rfl rfl | refine k_lgz ?_ | refine l_run ?_ | refine l_nil ?_ | refine l_one ?_ | refine k_reg ?_ | refine l_ld ?_ | refine l_ldF ?_ | refine l_st ?_ | refine l_al (fun b => ?_) | refine l_bs (fun b => ?_) | refine k_condT ?_ | refine k_condF ?_ | refine k_brk ?_ | refine r_run ?_ | refine r_one ?_ | refine r_ld ?_ | refine r_ldF ?_ | refine r_ldN ?_ | refine r_al (fun b => ?_) | refine r_bs (fun b => ?_) | refine r_st ?_ | refine r_end ?_ | refine l_call (n1) (fun _ _ => ?_) | refine l_call0 (n1) (fun _ _ => ?_) | refine r_call (n1) (fun _ _ => ?_) | refine l_call (n2 _) (fun _ _ => ?_) | refine l_call0 (n2 _) (fun _ _ => ?_) | refine r_call (n2 _) (fun _ _ => ?_) | refine l_call (known39_ok) (fun _ _ => ?_) | refine l_call0 (known39_ok) (fun _ _ => ?_) | refine r_call (known39_ok) (fun _ _ => ?_) | (refine l_split (fun hc => ?_) (fun hc => ?_) <;> (try simp at hc)) | (refine r_split (fun hc => ?_) (fun hc => ?_) <;> (try simp at hc)) | refine k_draw 8 [] [(0, 0), (1, 0), (2, 0), (3, 0), (4, 0), (5, 0), (6, 0), (7, 0), (8, 0), (9, 0), (10, 0), (11, 0), (12, 0), (13, 0), (14, 0), (15, 0), (16, 0), (17, 0), (18, 0), (19, 4), (20, 0), (21, 0), (22, 0), (23, 0), (24, 0)] [] ?_ | refine k_draw 9 [] [(0, 0), (1, 0), (2, 0), (3, 0), (4, 0), (5, 0), (6, 0), (7, 0), (8, 0), (9, 0), (10, 0), (11, 0), (12, 0), (13, 0), (14, 0), (15, 0), (16, 0), (17, 0), (18, 0), (19, 0), (20, 0), (21, 0), (22, 0), (23, 0), (24, 0), (25, 0), (26, 0), (27, 0), (28, 0), (29, 0), (30, 0), (31, 0), (32, 0), (33, 0), (34, 0), (35, 4), (36, 0), (37, 0)] [] ?_ | (refine k_cond (fun hc => ?_) (fun hc => ?_) <;> (try simp at hc)))
  rename_i q _ _ _ _ _
  obtain ⟨bl, o, cap⟩ := q
  refine k_lpx (X := { i : Nat // i ≤ ls.length }) (Y := Unit) (fun i => [(2, .int .i64 z), (4, .pointer (some ⟨b, 0, none⟩)), (7, .pointer (some ⟨bl, 0, none⟩)), (8, .slice o ls.length cap), (10, .int .i64 (i.1 : Int))]) (fun _ => [LgF bl ls, Sl 80 lff o cap ls]) (fun _ => [Pt b (.cells (lff x).toArray 80)]) (fun i => ls.length - i.1)
    (fun _ => [(2, .int .i64 z), (4, .pointer (some ⟨b, 0, none⟩)), (7, .pointer (some ⟨bl, 0, none⟩)), (8, .slice o ls.length cap)]) (fun _ => [LgF bl ls, Sl 80 lff o cap ls]) (fun _ => [Pt b (.cells (lff x).toArray 80)]) ⟨0, by omega⟩ ⟨rfl, rfl, rfl, rfl, rfl, trivial⟩ ?_ ?_
  · rintro ⟨⟩
    have m1 := lgFind_ok bl ls x.e.who x.e.nu x.e.tk (by omega)
    have m2 := lfind_ok o cap ls x.e.who x.e.nu x.e.tk (by omega)
    have hget : (∃ (i : Nat) (y : Lf), z = (i : Int) ∧ ls[i]? = some y) ∨ (z < 0 ∨ (ls.length : Int) ≤ z) := by
      by_cases h : z < 0 ∨ (ls.length : Int) ≤ z
      · exact .inr h
      · exact .inl ⟨z.toNat, ls[z.toNat], by omega, List.getElem?_eq_getElem (by omega)⟩
    rcases hget with ⟨i, y, rfl, hy⟩ | hz
    · have m3 := lgGet_ok bl ls i y hy
      have hlt : i < ls.length := (List.getElem?_eq_some_iff.1 hy).1
      cases hf : lfind ls x.e.who x.e.nu x.e.tk ls.length with
      | none =>
        rw [hf, show fndP none = .tuple #[.int .i64 0, .bool false] from rfl] at m1
        rw [hf, show fndv none = -1 from rfl] at m2
        repeat' (first | refine l_run ?_ | refine l_nil ?_ | refine l_one ?_ | refine k_reg ?_ | refine l_ld ?_ | refine l_ldF ?_ | refine l_st ?_ | refine l_al (fun b => ?_) | refine l_bs (fun b => ?_) | refine k_condT ?_ | refine k_condF ?_ | refine k_brk ?_ | refine r_run ?_ | refine r_one ?_ | refine r_ld ?_ | refine r_ldF ?_ | refine r_ldN ?_ | refine r_al (fun b => ?_) | refine r_bs (fun b => ?_) | refine r_st ?_ | refine r_end ?_ | refine l_call (m1) (fun _ _ => ?_) | refine l_call0 (m1) (fun _ _ => ?_) | refine r_call (m1) (fun _ _ => ?_) | refine l_call (m2) (fun _ _ => ?_) | refine l_call0 (m2) (fun _ _ => ?_) | refine r_call (m2) (fun _ _ => ?_) | refine l_call (m3) (fun _ _ => ?_) | refine l_call0 (m3) (fun _ _ => ?_) | refine r_call (m3) (fun _ _ => ?_) | (refine l_split (fun hc => ?_) (fun hc => ?_) <;> (try simp at hc) <;> (try omega)) | (refine r_split (fun hc => ?_) (fun hc => ?_) <;> (try simp at hc) <;> (try omega)) | refine k_draw 8 [] [(0, 0), (1, 0), (2, 0), (3, 0), (4, 0), (5, 0), (6, 0), (7, 0), (8, 0), (9, 0), (10, 0), (11, 0), (12, 0), (13, 0), (14, 0), (15, 0), (16, 0), (17, 0), (18, 0), (19, 4), (20, 0), (21, 0), (22, 0), (23, 0), (24, 0)] [] ?_ | refine k_draw 9 [] [(0, 0), (1, 0), (2, 0), (3, 0), (4, 0), (5, 0), (6, 0), (7, 0), (8, 0), (9, 0), (10, 0), (11, 0), (12, 0), (13, 0), (14, 0), (15, 0), (16, 0), (17, 0), (18, 0), (19, 0), (20, 0), (21, 0), (22, 0), (23, 0), (24, 0), (25, 0), (26, 0), (27, 0), (28, 0), (29, 0), (30, 0), (31, 0), (32, 0), (33, 0), (34, 0), (35, 4), (36, 0), (37, 0)] [] ?_ | (refine k_cond (fun hc => ?_) (fun hc => ?_) <;> (try simp at hc) <;> (try omega)))
        all_goals refine k_ret () ?_ trivial
        all_goals simp_all [RetV, resV]
      | some j =>
        rw [hf, show fndP (some j) = .tuple #[.int .i64 (j : Int), .bool true] from rfl] at m1
        rw [hf, show fndv (some j) = (j : Int) from rfl] at m2
        repeat' (first | refine l_run ?_ | refine l_nil ?_ | refine l_one ?_ | refine k_reg ?_ | refine l_ld ?_ | refine l_ldF ?_ | refine l_st ?_ | refine l_al (fun b => ?_) | refine l_bs (fun b => ?_) | refine k_condT ?_ | refine k_condF ?_ | refine k_brk ?_ | refine r_run ?_ | refine r_one ?_ | refine r_ld ?_ | refine r_ldF ?_ | refine r_ldN ?_ | refine r_al (fun b => ?_) | refine r_bs (fun b => ?_) | refine r_st ?_ | refine r_end ?_ | refine l_call (m1) (fun _ _ => ?_) | refine l_call0 (m1) (fun _ _ => ?_) | refine r_call (m1) (fun _ _ => ?_) | refine l_call (m2) (fun _ _ => ?_) | refine l_call0 (m2) (fun _ _ => ?_) | refine r_call (m2) (fun _ _ => ?_) | refine l_call (m3) (fun _ _ => ?_) | refine l_call0 (m3) (fun _ _ => ?_) | refine r_call (m3) (fun _ _ => ?_) | (refine l_split (fun hc => ?_) (fun hc => ?_) <;> (try simp at hc) <;> (try omega)) | (refine r_split (fun hc => ?_) (fun hc => ?_) <;> (try simp at hc) <;> (try omega)) | refine k_draw 8 [] [(0, 0), (1, 0), (2, 0), (3, 0), (4, 0), (5, 0), (6, 0), (7, 0), (8, 0), (9, 0), (10, 0), (11, 0), (12, 0), (13, 0), (14, 0), (15, 0), (16, 0), (17, 0), (18, 0), (19, 4), (20, 0), (21, 0), (22, 0), (23, 0), (24, 0)] [] ?_ | refine k_draw 9 [] [(0, 0), (1, 0), (2, 0), (3, 0), (4, 0), (5, 0), (6, 0), (7, 0), (8, 0), (9, 0), (10, 0), (11, 0), (12, 0), (13, 0), (14, 0), (15, 0), (16, 0), (17, 0), (18, 0), (19, 0), (20, 0), (21, 0), (22, 0), (23, 0), (24, 0), (25, 0), (26, 0), (27, 0), (28, 0), (29, 0), (30, 0), (31, 0), (32, 0), (33, 0), (34, 0), (35, 4), (36, 0), (37, 0)] [] ?_ | (refine k_cond (fun hc => ?_) (fun hc => ?_) <;> (try simp at hc) <;> (try omega)))
        all_goals refine k_ret () ?_ trivial
        all_goals simp_all [RetV, resV]
    · have m3 := lgGet_bad bl ls z hz
      cases hf : lfind ls x.e.who x.e.nu x.e.tk ls.length with
      | none =>
        rw [hf, show fndP none = .tuple #[.int .i64 0, .bool false] from rfl] at m1
        rw [hf, show fndv none = -1 from rfl] at m2
        repeat' (first | refine l_seq (b := true) ?_ (he := (eqL Lf.z Lf.z).trans (by simp)) | refine l_run ?_ | refine l_nil ?_ | refine l_one ?_ | refine k_reg ?_ | refine l_ld ?_ | refine l_ldF ?_ | refine l_st ?_ | refine l_al (fun b => ?_) | refine l_bs (fun b => ?_) | refine k_condT ?_ | refine k_condF ?_ | refine k_brk ?_ | refine r_run ?_ | refine r_one ?_ | refine r_ld ?_ | refine r_ldF ?_ | refine r_ldN ?_ | refine r_al (fun b => ?_) | refine r_bs (fun b => ?_) | refine r_st ?_ | refine r_end ?_ | refine l_call (m1) (fun _ _ => ?_) | refine l_call0 (m1) (fun _ _ => ?_) | refine r_call (m1) (fun _ _ => ?_) | refine l_call (m2) (fun _ _ => ?_) | refine l_call0 (m2) (fun _ _ => ?_) | refine r_call (m2) (fun _ _ => ?_) | refine l_call (m3) (fun _ _ => ?_) | refine l_call0 (m3) (fun _ _ => ?_) | refine r_call (m3) (fun _ _ => ?_) | (refine l_split (fun hc => ?_) (fun hc => ?_) <;> (try simp at hc) <;> (try omega)) | (refine r_split (fun hc => ?_) (fun hc => ?_) <;> (try simp at hc) <;> (try omega)) | refine k_draw 8 [] [(0, 0), (1, 0), (2, 0), (3, 0), (4, 0), (5, 0), (6, 0), (7, 0), (8, 0), (9, 0), (10, 0), (11, 0), (12, 0), (13, 0), (14, 0), (15, 0), (16, 0), (17, 0), (18, 0), (19, 4), (20, 0), (21, 0), (22, 0), (23, 0), (24, 0)] [] ?_ | refine k_draw 9 [] [(0, 0), (1, 0), (2, 0), (3, 0), (4, 0), (5, 0), (6, 0), (7, 0), (8, 0), (9, 0), (10, 0), (11, 0), (12, 0), (13, 0), (14, 0), (15, 0), (16, 0), (17, 0), (18, 0), (19, 0), (20, 0), (21, 0), (22, 0), (23, 0), (24, 0), (25, 0), (26, 0), (27, 0), (28, 0), (29, 0), (30, 0), (31, 0), (32, 0), (33, 0), (34, 0), (35, 4), (36, 0), (37, 0)] [] ?_ | (refine k_cond (fun hc => ?_) (fun hc => ?_) <;> (try simp at hc) <;> (try omega)))
        all_goals refine k_ret () ?_ trivial
        all_goals simp_all [RetV, resV]
      | some j =>
        rw [hf, show fndP (some j) = .tuple #[.int .i64 (j : Int), .bool true] from rfl] at m1
        rw [hf, show fndv (some j) = (j : Int) from rfl] at m2
        repeat' (first | refine l_seq (b := true) ?_ (he := (eqL Lf.z Lf.z).trans (by simp)) | refine l_run ?_ | refine l_nil ?_ | refine l_one ?_ | refine k_reg ?_ | refine l_ld ?_ | refine l_ldF ?_ | refine l_st ?_ | refine l_al (fun b => ?_) | refine l_bs (fun b => ?_) | refine k_condT ?_ | refine k_condF ?_ | refine k_brk ?_ | refine r_run ?_ | refine r_one ?_ | refine r_ld ?_ | refine r_ldF ?_ | refine r_ldN ?_ | refine r_al (fun b => ?_) | refine r_bs (fun b => ?_) | refine r_st ?_ | refine r_end ?_ | refine l_call (m1) (fun _ _ => ?_) | refine l_call0 (m1) (fun _ _ => ?_) | refine r_call (m1) (fun _ _ => ?_) | refine l_call (m2) (fun _ _ => ?_) | refine l_call0 (m2) (fun _ _ => ?_) | refine r_call (m2) (fun _ _ => ?_) | refine l_call (m3) (fun _ _ => ?_) | refine l_call0 (m3) (fun _ _ => ?_) | refine r_call (m3) (fun _ _ => ?_) | (refine l_split (fun hc => ?_) (fun hc => ?_) <;> (try simp at hc) <;> (try omega)) | (refine r_split (fun hc => ?_) (fun hc => ?_) <;> (try simp at hc) <;> (try omega)) | refine k_draw 8 [] [(0, 0), (1, 0), (2, 0), (3, 0), (4, 0), (5, 0), (6, 0), (7, 0), (8, 0), (9, 0), (10, 0), (11, 0), (12, 0), (13, 0), (14, 0), (15, 0), (16, 0), (17, 0), (18, 0), (19, 4), (20, 0), (21, 0), (22, 0), (23, 0), (24, 0)] [] ?_ | refine k_draw 9 [] [(0, 0), (1, 0), (2, 0), (3, 0), (4, 0), (5, 0), (6, 0), (7, 0), (8, 0), (9, 0), (10, 0), (11, 0), (12, 0), (13, 0), (14, 0), (15, 0), (16, 0), (17, 0), (18, 0), (19, 0), (20, 0), (21, 0), (22, 0), (23, 0), (24, 0), (25, 0), (26, 0), (27, 0), (28, 0), (29, 0), (30, 0), (31, 0), (32, 0), (33, 0), (34, 0), (35, 4), (36, 0), (37, 0)] [] ?_ | (refine k_cond (fun hc => ?_) (fun hc => ?_) <;> (try simp at hc) <;> (try omega)))
        all_goals refine k_ret () ?_ trivial
        all_goals simp_all [RetV, resV]
  · rintro hxx ⟨i, hi⟩
    dsimp only
    by_cases hlt : i < ls.length
    · obtain ⟨y, hy⟩ : ∃ y, ls[i]? = some y := ⟨_, List.getElem?_eq_getElem hlt⟩
      obtain ⟨j, hj⟩ := lfind_has hy ls.length hlt
      have m1 := lgFind_ok bl ls y.e.who y.e.nu y.e.tk (by omega)
      have m2 := lfind_ok o cap ls y.e.who y.e.nu y.e.tk (by omega)
      rw [hj, show fndP (some j) = .tuple #[.int .i64 (j : Int), .bool true] from rfl] at m1
      rw [hj, show fndv (some j) = (j : Int) from rfl] at m2
      have m3 := lgGet_ok bl ls i y hy
      repeat' (first | refine r_sneq (b := true) ?_ (he := (eqL _ _).trans (by simp)) | refine l_run ?_ | refine l_nil ?_ | refine l_one ?_ | refine k_reg ?_ | refine l_ld ?_ | refine l_ldF ?_ | refine l_st ?_ | refine l_al (fun b => ?_) | refine l_bs (fun b => ?_) | refine k_condT ?_ | refine k_condF ?_ | refine r_run ?_ | refine r_one ?_ | refine r_ld ?_ | refine r_ldF ?_ | refine r_ldN ?_ | refine r_al (fun b => ?_) | refine r_bs (fun b => ?_) | refine r_st ?_ | refine r_end ?_ | refine l_call (m1) (fun _ _ => ?_) | refine l_call0 (m1) (fun _ _ => ?_) | refine r_call (m1) (fun _ _ => ?_) | refine l_call (m2) (fun _ _ => ?_) | refine l_call0 (m2) (fun _ _ => ?_) | refine r_call (m2) (fun _ _ => ?_) | refine l_call (m3) (fun _ _ => ?_) | refine l_call0 (m3) (fun _ _ => ?_) | refine r_call (m3) (fun _ _ => ?_) | refine r_ixe (es := ls) i y hy (fun b off => ?_) | refine r_ldC ?_ | (refine l_split (fun hc => ?_) (fun hc => ?_) <;> (try simp at hc) <;> (try omega)) | (refine r_split (fun hc => ?_) (fun hc => ?_) <;> (try simp at hc) <;> (try omega)) | refine k_draw 8 [] [(0, 0), (1, 0), (2, 0), (3, 0), (4, 0), (5, 0), (6, 0), (7, 0), (8, 0), (9, 0), (10, 0), (11, 0), (12, 0), (13, 0), (14, 0), (15, 0), (16, 0), (17, 0), (18, 0), (19, 4), (20, 0), (21, 0), (22, 0), (23, 0), (24, 0)] [] ?_ | refine k_draw 9 [] [(0, 0), (1, 0), (2, 0), (3, 0), (4, 0), (5, 0), (6, 0), (7, 0), (8, 0), (9, 0), (10, 0), (11, 0), (12, 0), (13, 0), (14, 0), (15, 0), (16, 0), (17, 0), (18, 0), (19, 0), (20, 0), (21, 0), (22, 0), (23, 0), (24, 0), (25, 0), (26, 0), (27, 0), (28, 0), (29, 0), (30, 0), (31, 0), (32, 0), (33, 0), (34, 0), (35, 4), (36, 0), (37, 0)] [] ?_ | (refine k_cond (fun hc => ?_) (fun hc => ?_) <;> (try simp at hc) <;> (try omega)))
      rw [wrapi (z := (i : Int) + 1) (by omega) (by omega)]
      exact k_next ⟨i + 1, by omega⟩ (by show ls.length - (i + 1) < ls.length - i; omega) ⟨rfl, rfl, rfl, rfl, rfl, trivial⟩
    · obtain rfl : i = ls.length := by omega
      repeat' (first | refine l_run ?_ | refine l_nil ?_ | refine l_one ?_ | refine k_reg ?_ | refine l_ld ?_ | refine l_ldF ?_ | refine l_st ?_ | refine l_al (fun b => ?_) | refine l_bs (fun b => ?_) | refine k_condT ?_ | refine k_condF ?_ | refine r_run ?_ | refine r_one ?_ | refine r_ld ?_ | refine r_ldF ?_ | refine r_ldN ?_ | refine r_al (fun b => ?_) | refine r_bs (fun b => ?_) | refine r_st ?_ | refine r_end ?_ | (refine l_split (fun hc => ?_) (fun hc => ?_) <;> (try simp at hc) <;> (try omega)) | (refine r_split (fun hc => ?_) (fun hc => ?_) <;> (try simp at hc) <;> (try omega)) | refine k_draw 8 [] [(0, 0), (1, 0), (2, 0), (3, 0), (4, 0), (5, 0), (6, 0), (7, 0), (8, 0), (9, 0), (10, 0), (11, 0), (12, 0), (13, 0), (14, 0), (15, 0), (16, 0), (17, 0), (18, 0), (19, 4), (20, 0), (21, 0), (22, 0), (23, 0), (24, 0)] [] ?_ | refine k_draw 9 [] [(0, 0), (1, 0), (2, 0), (3, 0), (4, 0), (5, 0), (6, 0), (7, 0), (8, 0), (9, 0), (10, 0), (11, 0), (12, 0), (13, 0), (14, 0), (15, 0), (16, 0), (17, 0), (18, 0), (19, 0), (20, 0), (21, 0), (22, 0), (23, 0), (24, 0), (25, 0), (26, 0), (27, 0), (28, 0), (29, 0), (30, 0), (31, 0), (32, 0), (33, 0), (34, 0), (35, 4), (36, 0), (37, 0)] [] ?_ | (refine k_cond (fun hc => ?_) (fun hc => ?_) <;> (try simp at hc) <;> (try omega)))
      exact k_out hxx () ⟨rfl, rfl, rfl, rfl, trivial⟩
end Go.Proofs.YtijaglinajfplaaGreatDoor
