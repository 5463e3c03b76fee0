/-
  The law OutputGrows, walked.
  Conditions: those that each theorem states.
-/
import Derived.Test.YtijaglinajfplaaGreatDoorMI
import Derived.Test.YtijaglinajfplaaGreatDoorMG
set_option maxRecDepth 10000
namespace Go.Proofs.YtijaglinajfplaaGreatDoor
open Go.RowKit

section
variable {n : Nat} {C : Cx} {Q : Exit → Act → World → Prop} {E : List (Nat × Value)} {F : List Pf} {R R0 : List HP} {k : List Fr} {ops l : List Oper}
theorem l_fz {b : Nat} {o : Obj} (t : Wl n C ops.toArray k Q l E (Blk b o :: F) R0) (hs : Sel (Pt b o) R R0 := by (repeat (first | exact Sel.here | apply Sel.there)); first | done | fail) : Wl n C ops.toArray k Q l E F R := fun a w ha hsat => t a w ha (hsat.sel hs).freeze
/-- A ledger is no more written. -/
theorem l_lgz {b : Nat} {ls : List Lf} (t : Wl n C ops.toArray k Q l E (LgF b ls :: F) R0) (hs : Sel (Lg b ls) R R0 := by (repeat (first | exact Sel.here | apply Sel.there)); first | done | fail) : Wl n C ops.toArray k Q l E F R := by
  refine l_open (X := Option Addr × Nat) (Lx := fun q => LgL b ls q) (p := fun _ => True) (r := Lg b ls) hs (fun h hh => hh) (fun q _ => ?_)
  refine l_fz (b := b) (o := .cells #[.slice q.1 ls.length q.2] 119) ?_
  refine l_frz (T := 80) (sz := 9) (f := lff) (o := q.1) (cap := q.2) ls ?_ rfl rfl
  refine l_mk (F1 := [Blk b (.cells #[.slice q.1 ls.length q.2] 119), Sl 80 lff q.1 q.2 ls]) (f := LgF b ls) (fun hp hF => ⟨q, hF _ (by simp), hF _ (by simp)⟩) ?_
  intro a w ha hs
  exact t a w ha (hs.facts fun hp hF x hx => by
    rcases List.mem_cons.1 hx with rfl | hx
    · exact hF _ (by simp)
    · exact hF _ (by simp [hx]))
end

section
variable {n : Nat} {C : Cx} {Q : Exit → Act → World → Prop} {E : List (Nat × Value)} {F : List Pf} {R R0 : List HP} {k : List Fr}
theorem k_lgc {b : Nat} {ls ls' : List Lf} (h : ls = ls') (t : Wk n C k Q E F (Lg b ls' :: R0)) (hs : Sel (Lg b ls) R R0 := by (repeat (first | exact Sel.here | apply Sel.there)); first | done | fail) : Wk n C k Q E F R := by
  subst h; exact fun a w ha hsat => t a w ha (hsat.sel hs)
end
theorem gr_snoc (ls m : List Lf) (x : Lf) : (m ++ [x]).foldl stepL ls = stepL (m.foldl stepL ls) x := by simp
theorem gr_ext (ls : List Lf) : ∀ m : List Lf, ∃ ext, m.foldl stepL ls = ls ++ ext ∧ ext.length ≤ m.length := fun m => by
  induction m generalizing ls with
  | nil => exact ⟨[], by simp, Nat.le_refl _⟩
  | cons x m ih =>
    obtain ⟨e, he, hl⟩ := ih (stepL ls x)
    rw [List.foldl_cons, he]
    unfold stepL
    split
    · exact ⟨shL x :: e, by simp, by simpa using hl⟩
    · exact ⟨e, rfl, by simp only [List.length_cons]; omega⟩

structure G1 (ls more : List Lf) where
  i : Nat
  ext : List Lf
  h1 : i ≤ more.length ∧ i ≤ 10
  h2 : ext.length ≤ i
structure G2 (us vs : List Lf) where
  i : Nat
  p : Bool
  h1 : i ≤ us.length
  h2 : p = true → us.length ≤ vs.length ∧ pre_eq us vs i
  h3 : p = false → ¬ us <+: vs
theorem g2_end {us vs : List Lf} {p : Bool} (h2 : p = true → us.length ≤ vs.length ∧ pre_eq us vs us.length) (h3 : p = false → ¬ us <+: vs) : p = decide (us <+: vs) := by
  cases p with
  | false => exact (decide_eq_false (h3 rfl)).symm
  | true =>
    obtain ⟨hl, hp⟩ := h2 rfl
    refine (decide_eq_true ?_).symm
    rw [List.prefix_iff_eq_take]
    refine eq_of_pre (by simp; omega) fun j hj => ?_
    rw [hp j hj, List.getElem?_take, if_pos hj]

set_option maxHeartbeats 4000000 in
theorem lawOGrows_ok (o1 : Option Addr) (c1 : Nat) (l : List Lf) (o2 : Option Addr) (c2 : Nat) (more : List Lf) (hl : l.length ≤ 1099511627776) (hm : more.length ≤ 1099511627776) :
    Enters 9 ∧ Spec Tryz.prog 9 #[.slice o1 l.length c1, .slice o2 more.length c2] [Sl 80 lff o1 c1 l, Sl 80 lff o2 c2 more, Usg] [] (RetV (.bool true)) := by
  have n1 := build39_ok o1 c1 l hl
  obtain ⟨h1, h2, h3⟩ := bldL_ok (l.take 30)
  have h4 : (l.take 30).length ≤ 30 := by simp; omega
  have n7 := build39_ok o2 c2 more hm
  obtain ⟨_, _, h5⟩ := bldL_ok (more.take 30)
  have h6 : (more.take 30).length ≤ 30 := by simp; omega
  unfold B39P at n1 n7
  generalize bldL (l.take 30) = us at *
  generalize bldL (more.take 30) = vs at *
  have n2 := fun b => lgClone_ok b us (by omega)
  refine ⟨enters_of Tryz.func9 (by kernel_rfl) rfl, spec_of (vs := [_, _]) Tryz.func9 rfl Tryz.ntmps9 rfl fun G w hp => ?_⟩
  repeat' (first | refine l_run ?_ | refine l_nil ?_ | refine l_one ?_ | refine k_reg ?_ | refine l_ld ?_ | refine l_ldF ?_ | refine l_st ?_ | refine l_al (fun b => ?_) | refine l_bs (fun b => ?_) | refine k_condT ?_ | refine k_condF ?_ | refine k_brk ?_ | refine l_call (n1) (fun _ _ => ?_) | refine l_call0 (n1) (fun _ _ => ?_) | refine l_call (known39_ok) (fun _ _ => ?_) | refine l_call0 (known39_ok) (fun _ _ => ?_) | (refine l_split (fun hc => ?_) (fun hc => ?_) <;> (try simp at hc)) | (refine k_cond (fun hc => ?_) (fun hc => ?_) <;> (try simp at hc)))
  rename_i q _ _ _
  obtain ⟨bl, o, cap⟩ := q
  refine l_lgz (b := bl) ?_
  repeat' (first | refine l_run ?_ | refine l_nil ?_ | refine l_one ?_ | refine k_reg ?_ | refine l_ld ?_ | refine l_ldF ?_ | refine l_st ?_ | refine l_al (fun b => ?_) | refine l_bs (fun b => ?_) | refine k_condT ?_ | refine k_condF ?_ | refine k_brk ?_ | refine l_call (n2 _) (fun _ _ => ?_) | refine l_call0 (n2 _) (fun _ _ => ?_) | (refine l_split (fun hc => ?_) (fun hc => ?_) <;> (try simp at hc)) | (refine k_cond (fun hc => ?_) (fun hc => ?_) <;> (try simp at hc)))
  rename_i bc _ bw _
  refine k_lgz (b := bw) ?_
  refine k_lgc (b := bc) (ls := us) (ls' := us ++ []) (by simp) ?_
  refine k_lpx (X := G1 us more) (Y := { e : List Lf // e.length ≤ 10 }) (fun x => [(1, .slice o2 more.length c2), (5, .pointer (some ⟨bl, 0, none⟩)), (6, .slice o us.length cap), (8, .pointer (some ⟨bc, 0, none⟩)), (9, .pointer (some ⟨bw, 0, none⟩)), (10, .int .i64 (x.ext.length : Int)), (11, .int .i64 (x.i : Int))]) (fun _ => [LgF bl us, LgF bw us, Sl 80 lff o2 c2 more, Usg]) (fun x => [Lg bc (us ++ x.ext)]) (fun x => 10 - x.i)
    (fun x => [(1, .slice o2 more.length c2), (5, .pointer (some ⟨bl, 0, none⟩)), (6, .slice o us.length cap), (8, .pointer (some ⟨bc, 0, none⟩)), (9, .pointer (some ⟨bw, 0, none⟩)), (10, .int .i64 (x.1.length : Int))]) (fun _ => [LgF bl us, LgF bw us, Sl 80 lff o2 c2 more, Usg]) (fun x => [Lg bc (us ++ x.1)])
    ⟨0, [], by omega, by simp⟩ ⟨rfl, rfl, rfl, rfl, rfl, rfl, rfl, trivial⟩ ?_ ?_
  · rintro ⟨e, he⟩
    dsimp only
    refine k_lgz (b := bc) ?_
    have m1 := lgLen_ok bl us
    have m2 := lgLen_ok bc (us ++ e)
    have m3 := lgEqual_ok bl bw us us (by omega) (by omega)
    rw [decide_eq_true (show us = us from rfl)] at m3
    have m4 := lgPrefix_ok bl bc us (us ++ e) (by omega) (by simp; omega)
    rw [decide_eq_true (List.prefix_append us e)] at m4
    have m5 := lgPrefix_ok bc bl (us ++ e) us (by simp; omega) (by omega)
    have m6 := lgEqual_ok bc bl (us ++ e) us (by simp; omega) (by omega)
    have g1 : decide (us ++ e <+: us) = ((e.length : Int) == 0) := by
      rw [Bool.eq_iff_iff]
      simp only [decide_eq_true_eq, beq_iff_eq]
      constructor
      · intro h; have := h.length_le; rw [List.length_append] at this; omega
      · intro h
        have : e = [] := List.length_eq_zero_iff.1 (by omega)
        simp [this]
    have g2 : decide (us ++ e = us) = ((e.length : Int) == 0) := by
      rw [Bool.eq_iff_iff]
      simp only [decide_eq_true_eq, beq_iff_eq]
      constructor
      · intro h; have := congrArg List.length h; rw [List.length_append] at this; omega
      · intro h
        have : e = [] := List.length_eq_zero_iff.1 (by omega)
        simp [this]
    rw [g1] at m5
    rw [g2] at m6
    have m7 := fun b => lgLen_ok b vs
    have w1 : IntKind.i64.wrap ((us.length : Int) + (e.length : Int)) = ((us ++ e).length : Int) := by rw [wrapi (by omega) (by omega)]; simp
    have hq : ((e.length : Int) == 0) = decide (e.length = 0) := by rw [Bool.eq_iff_iff]; simp
    rw [hq] at m5 m6
    refine k_cut (Y := Unit) (fun _ => [(1, .slice o2 more.length c2), (5, .pointer (some ⟨bl, 0, none⟩)), (104, .bool false)]) (fun _ => [LgF bl us, Sl 80 lff o2 c2 more, Usg]) (fun _ => []) ?_ ?_
    · rintro ⟨⟩
      repeat' (first | refine k_lgz ?_ | refine l_run ?_ | refine l_nil ?_ | refine l_one ?_ | refine k_reg ?_ | refine l_ld ?_ | refine l_ldF ?_ | refine l_st ?_ | refine l_al (fun b => ?_) | refine l_bs (fun b => ?_) | refine k_condT ?_ | refine k_condF ?_ | refine k_brk ?_ | refine l_call (m1) (fun _ _ => ?_) | refine l_call0 (m1) (fun _ _ => ?_) | refine l_call (m7 _) (fun _ _ => ?_) | refine l_call0 (m7 _) (fun _ _ => ?_) | refine l_call (n7) (fun _ _ => ?_) | refine l_call0 (n7) (fun _ _ => ?_) | (refine l_split (fun hc => ?_) (fun hc => ?_) <;> (try simp at hc)) | (refine k_cond (fun hc => ?_) (fun hc => ?_) <;> (try simp at hc)))
      rename_i q7 _ _ _ _ _
      obtain ⟨bh, oh, ch⟩ := q7
      have i2 : decide ((us.length : Int) ≤ (vs.length : Int)) = true → us.length ≤ vs.length ∧ pre_eq us vs 0 := fun h => ⟨by simpa using h, fun j hj => by omega⟩
      have i3 : decide ((us.length : Int) ≤ (vs.length : Int)) = false → ¬ us <+: vs := fun h hp => by have := hp.length_le; simp at h; omega
      refine k_lpx (X := G2 us vs) (Y := Unit) (fun x => [(5, .pointer (some ⟨bl, 0, none⟩)), (14, .pointer (some ⟨bh, 0, none⟩)), (17, .bool x.p), (18, .int .i64 (x.i : Int))]) (fun _ => [LgF bl us, LgF bh vs]) (fun _ => []) (fun x => us.length - x.i)
        (fun _ => [(5, .pointer (some ⟨bl, 0, none⟩)), (14, .pointer (some ⟨bh, 0, none⟩)), (17, .bool (decide (us <+: vs)))]) (fun _ => [LgF bl us, LgF bh vs]) (fun _ => []) ⟨0, _, by omega, i2, i3⟩ ⟨rfl, rfl, rfl, rfl, trivial⟩ ?_ ?_
      · rintro ⟨⟩
        have p1 := lgPrefix_ok bl bh us vs (by omega) (by omega)
        have p2 := lgEqual_ok bl bh us vs (by omega) (by omega)
        by_cases hp : us <+: vs
        · rw [decide_eq_true hp] at p1
          have he2 : decide (us = vs) = ((us.length : Int) == (vs.length : Int)) := by
            rw [Bool.eq_iff_iff]
            simp only [decide_eq_true_eq, beq_iff_eq]
            exact ⟨fun h => by rw [h], fun h => List.IsPrefix.eq_of_length hp (by omega)⟩
          rw [he2] at p2
          rw [decide_eq_true hp]
          repeat' (first | refine l_run ?_ | refine l_nil ?_ | refine l_one ?_ | refine k_reg ?_ | refine l_ld ?_ | refine l_ldF ?_ | refine l_st ?_ | refine l_al (fun b => ?_) | refine l_bs (fun b => ?_) | refine k_condT ?_ | refine k_condF ?_ | refine k_brk ?_ | refine l_call (p1) (fun _ _ => ?_) | refine l_call0 (p1) (fun _ _ => ?_) | refine l_call (p2) (fun _ _ => ?_) | refine l_call0 (p2) (fun _ _ => ?_) | refine l_call (m1) (fun _ _ => ?_) | refine l_call0 (m1) (fun _ _ => ?_) | refine l_call (m7 _) (fun _ _ => ?_) | refine l_call0 (m7 _) (fun _ _ => ?_) | (refine l_split (fun hc => ?_) (fun hc => ?_) <;> (try simp at hc)) | (refine k_cond (fun hc => ?_) (fun hc => ?_) <;> (try simp at hc)))
          all_goals refine k_ret () ?_ trivial
          all_goals simp_all [RetV, resV]
        · rw [decide_eq_false hp] at p1
          rw [decide_eq_false (fun h => hp (by rw [h]; exact List.prefix_refl _))] at p2
          rw [decide_eq_false hp]
          repeat' (first | refine l_run ?_ | refine l_nil ?_ | refine l_one ?_ | refine k_reg ?_ | refine l_ld ?_ | refine l_ldF ?_ | refine l_st ?_ | refine l_al (fun b => ?_) | refine l_bs (fun b => ?_) | refine k_condT ?_ | refine k_condF ?_ | refine k_brk ?_ | refine l_call (p1) (fun _ _ => ?_) | refine l_call0 (p1) (fun _ _ => ?_) | refine l_call (p2) (fun _ _ => ?_) | refine l_call0 (p2) (fun _ _ => ?_) | refine l_call (m1) (fun _ _ => ?_) | refine l_call0 (m1) (fun _ _ => ?_) | refine l_call (m7 _) (fun _ _ => ?_) | refine l_call0 (m7 _) (fun _ _ => ?_) | (refine l_split (fun hc => ?_) (fun hc => ?_) <;> (try simp at hc)) | (refine k_cond (fun hc => ?_) (fun hc => ?_) <;> (try simp at hc)))
          all_goals refine k_ret () ?_ trivial
          all_goals simp_all [RetV, resV]
      · rintro hy ⟨i, p, hi, hp2, hp3⟩
        dsimp only
        have m8 := lgLen_ok bl us
        by_cases hlt : i < us.length
        · cases p with
          | false =>
            have hpn : decide (us <+: vs) = false := decide_eq_false (hp3 rfl)
            repeat' (first | refine l_run ?_ | refine l_nil ?_ | refine l_one ?_ | refine k_reg ?_ | refine l_ld ?_ | refine l_ldF ?_ | refine l_st ?_ | refine l_al (fun b => ?_) | refine l_bs (fun b => ?_) | refine k_condT ?_ | refine k_condF ?_ | refine l_call (m8) (fun _ _ => ?_) | refine l_call0 (m8) (fun _ _ => ?_) | (refine l_split (fun hc => ?_) (fun hc => ?_) <;> (try simp at hc) <;> (try omega)) | (refine k_cond (fun hc => ?_) (fun hc => ?_) <;> (try simp at hc) <;> (try omega)))
            exact k_out hy () ⟨rfl, rfl, by rw [hpn]; rfl, trivial⟩
          | true =>
            obtain ⟨g3, g4⟩ := hp2 rfl
            obtain ⟨x, hx⟩ : ∃ x, us[i]? = some x := ⟨_, List.getElem?_eq_getElem hlt⟩
            obtain ⟨y, hyy⟩ : ∃ y, vs[i]? = some y := ⟨_, List.getElem?_eq_getElem (by omega)⟩
            have p1 := lgGet_ok bl us i x hx
            have p2 := lgGet_ok bh vs i y hyy
            repeat' (first | refine l_seq (b := decide (x = y)) ?_ (he := eqL _ _) | refine l_run ?_ | refine l_nil ?_ | refine l_one ?_ | refine k_reg ?_ | refine l_ld ?_ | refine l_ldF ?_ | refine l_st ?_ | refine l_al (fun b => ?_) | refine l_bs (fun b => ?_) | refine k_condT ?_ | refine k_condF ?_ | refine l_call (m8) (fun _ _ => ?_) | refine l_call0 (m8) (fun _ _ => ?_) | refine l_call (p1) (fun _ _ => ?_) | refine l_call0 (p1) (fun _ _ => ?_) | refine l_call (p2) (fun _ _ => ?_) | refine l_call0 (p2) (fun _ _ => ?_) | (refine l_split (fun hc => ?_) (fun hc => ?_) <;> (try simp at hc) <;> (try omega)) | (refine k_cond (fun hc => ?_) (fun hc => ?_) <;> (try simp at hc) <;> (try omega)))
            rw [wrapi (z := (i : Int) + 1) (by omega) (by omega)]
            exact k_next ⟨i + 1, decide (x = y), by omega, fun h => ⟨g3, fun j hj => by
              by_cases hji : j = i
              · subst hji; rw [hx, hyy, of_decide_eq_true h]
              · exact g4 j (by omega)⟩, fun h hp => by
              have h2 := List.prefix_iff_eq_take.1 hp
              have h3 := congrArg (fun l => l[i]?) h2
              simp only [List.getElem?_take, if_pos hlt] at h3
              rw [hx, hyy] at h3
              exact (of_decide_eq_false h) (Option.some.inj h3)⟩ (by show us.length - (i + 1) < us.length - i; omega) ⟨rfl, rfl, rfl, rfl, trivial⟩
        · obtain rfl : i = us.length := by omega
          have hpe := g2_end hp2 hp3
          repeat' (first | refine l_run ?_ | refine l_nil ?_ | refine l_one ?_ | refine k_reg ?_ | refine l_ld ?_ | refine l_ldF ?_ | refine l_st ?_ | refine l_al (fun b => ?_) | refine l_bs (fun b => ?_) | refine k_condT ?_ | refine k_condF ?_ | refine l_call (m8) (fun _ _ => ?_) | refine l_call0 (m8) (fun _ _ => ?_) | (refine l_split (fun hc => ?_) (fun hc => ?_) <;> (try simp at hc) <;> (try omega)) | (refine k_cond (fun hc => ?_) (fun hc => ?_) <;> (try simp at hc) <;> (try omega)))
          exact k_out hy () ⟨rfl, rfl, by rw [← hpe]; rfl, trivial⟩
    · intro hx2
      by_cases h0 : e.length = 0
      · rw [decide_eq_true h0] at m5 m6
        repeat' (first | refine k_to hx2 () ⟨rfl, rfl, ?_, trivial⟩ | refine l_run ?_ | refine l_nil ?_ | refine l_one ?_ | refine k_reg ?_ | refine l_ld ?_ | refine l_ldF ?_ | refine l_st ?_ | refine l_al (fun b => ?_) | refine l_bs (fun b => ?_) | refine k_condT ?_ | refine k_condF ?_ | refine k_brk ?_ | refine l_call (m1) (fun _ _ => ?_) | refine l_call0 (m1) (fun _ _ => ?_) | refine l_call (m2) (fun _ _ => ?_) | refine l_call0 (m2) (fun _ _ => ?_) | refine l_call (m3) (fun _ _ => ?_) | refine l_call0 (m3) (fun _ _ => ?_) | refine l_call (m4) (fun _ _ => ?_) | refine l_call0 (m4) (fun _ _ => ?_) | refine l_call (m5) (fun _ _ => ?_) | refine l_call0 (m5) (fun _ _ => ?_) | refine l_call (m6) (fun _ _ => ?_) | refine l_call0 (m6) (fun _ _ => ?_) | rw [w1] | (refine l_split (fun hc => ?_) (fun hc => ?_) <;> (try simp at hc) <;> (try omega)) | (refine k_cond (fun hc => ?_) (fun hc => ?_) <;> (try simp at hc) <;> (try omega)))
        all_goals (show some (Value.bool _) = some (.bool false); simp_all)
      · rw [decide_eq_false h0] at m5 m6
        repeat' (first | refine k_to hx2 () ⟨rfl, rfl, ?_, trivial⟩ | refine l_run ?_ | refine l_nil ?_ | refine l_one ?_ | refine k_reg ?_ | refine l_ld ?_ | refine l_ldF ?_ | refine l_st ?_ | refine l_al (fun b => ?_) | refine l_bs (fun b => ?_) | refine k_condT ?_ | refine k_condF ?_ | refine k_brk ?_ | refine l_call (m1) (fun _ _ => ?_) | refine l_call0 (m1) (fun _ _ => ?_) | refine l_call (m2) (fun _ _ => ?_) | refine l_call0 (m2) (fun _ _ => ?_) | refine l_call (m3) (fun _ _ => ?_) | refine l_call0 (m3) (fun _ _ => ?_) | refine l_call (m4) (fun _ _ => ?_) | refine l_call0 (m4) (fun _ _ => ?_) | refine l_call (m5) (fun _ _ => ?_) | refine l_call0 (m5) (fun _ _ => ?_) | refine l_call (m6) (fun _ _ => ?_) | refine l_call0 (m6) (fun _ _ => ?_) | rw [w1] | (refine l_split (fun hc => ?_) (fun hc => ?_) <;> (try simp at hc) <;> (try omega)) | (refine k_cond (fun hc => ?_) (fun hc => ?_) <;> (try simp at hc) <;> (try omega)))
        all_goals (show some (Value.bool _) = some (.bool false); simp_all)
  · rintro hxx ⟨i, e, hi, he⟩
    dsimp only
    by_cases hlt : i < more.length ∧ i < 10
    · obtain ⟨x, hx⟩ : ∃ x, more[i]? = some x := ⟨_, List.getElem?_eq_getElem hlt.1⟩
      have m1 := short_ok x
      have hw : (shL x).e.who.size ≤ 80 := cutS_size x.e.who 80
      have m2 := leave_ok bc (us ++ e) (shL x) (by omega) (by simp; omega)
      by_cases h0 : leaveE (us ++ e) (shL x) = 0
      · rw [lvPost_ok h0, List.append_assoc] at m2
        repeat' (first | refine l_run ?_ | refine l_nil ?_ | refine l_one ?_ | refine k_reg ?_ | refine l_ld ?_ | refine l_ldF ?_ | refine l_st ?_ | refine l_al (fun b => ?_) | refine l_bs (fun b => ?_) | refine k_condT ?_ | refine k_condF ?_ | refine l_call (m1) (fun _ _ => ?_) | refine l_call0 (m1) (fun _ _ => ?_) | refine l_call (m2) (fun _ _ => ?_) | refine l_call0 (m2) (fun _ _ => ?_) | refine l_ixe (es := more) i x hx (fun b off => ?_) | refine l_ldC ?_ | (refine l_split (fun hc => ?_) (fun hc => ?_) <;> (try simp at hc) <;> (try omega)) | (refine k_cond (fun hc => ?_) (fun hc => ?_) <;> (try simp at hc) <;> (try omega)))
        rw [wrapi (z := (i : Int) + 1) (by omega) (by omega), wrapi (z := (e.length : Int) + 1) (by omega) (by omega)]
        exact k_next ⟨i + 1, e ++ [shL x], by omega, by simp; omega⟩ (by show 10 - (i + 1) < 10 - i; omega) ⟨rfl, rfl, rfl, rfl, rfl, by (show some (Value.int .i64 ((e.length : Int) + 1)) = some (.int .i64 ((e ++ [shL x]).length : Int))); simp, rfl, trivial⟩
      · rw [lvPost_no rfl h0] at m2
        generalize leaveE (us ++ e) (shL x) = er at *
        repeat' (first | refine l_run ?_ | refine l_nil ?_ | refine l_one ?_ | refine k_reg ?_ | refine l_ld ?_ | refine l_ldF ?_ | refine l_st ?_ | refine l_al (fun b => ?_) | refine l_bs (fun b => ?_) | refine k_condT ?_ | refine k_condF ?_ | refine l_call (m1) (fun _ _ => ?_) | refine l_call0 (m1) (fun _ _ => ?_) | refine l_call (m2) (fun _ _ => ?_) | refine l_call0 (m2) (fun _ _ => ?_) | refine l_ixe (es := more) i x hx (fun b off => ?_) | refine l_ldC ?_ | (refine l_split (fun hc => ?_) (fun hc => ?_) <;> (try simp at hc) <;> (try omega)) | (refine k_cond (fun hc => ?_) (fun hc => ?_) <;> (try simp at hc) <;> (try omega)))
        rw [wrapi (z := (i : Int) + 1) (by omega) (by omega)]
        exact k_next ⟨i + 1, e, by omega, by omega⟩ (by show 10 - (i + 1) < 10 - i; omega) ⟨rfl, rfl, rfl, rfl, rfl, rfl, rfl, trivial⟩
    · repeat' (first | refine l_run ?_ | refine l_nil ?_ | refine l_one ?_ | refine k_reg ?_ | refine l_ld ?_ | refine l_ldF ?_ | refine l_st ?_ | refine l_al (fun b => ?_) | refine l_bs (fun b => ?_) | refine k_condT ?_ | refine k_condF ?_ | (refine l_split (fun hc => ?_) (fun hc => ?_) <;> (try simp at hc) <;> (try omega)) | (refine k_cond (fun hc => ?_) (fun hc => ?_) <;> (try simp at hc) <;> (try omega)))
      all_goals exact k_out hxx ⟨e, by omega⟩ ⟨rfl, rfl, rfl, rfl, rfl, rfl, trivial⟩
end Go.Proofs.YtijaglinajfplaaGreatDoor
