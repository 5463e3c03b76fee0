/-
  The law ProcessThreads, walked.
  Conditions: those that each theorem states.
-/
import Derived.Test.YtgaipgbgppdfeaaGreatDoorMT
set_option maxRecDepth 10000
namespace Go.Proofs.YtgaipgbgppdfeaaGreatDoor
open Go.RowKit

def nmL : Nat → List ByteArray
  | 0 => [o1]
  | 1 => [o1, c11]
  | 2 => [o1, c11, c111]
  | _ => [o1, c11, c111, c12]
def csT : Nat → List Ch
  | 0 => tA
  | 1 => tB
  | 2 => tC
  | _ => tD
theorem zeros35_ok : Enters 21 ∧ Spec Tryz.prog 21 #[] [] [] (RetV (.string z64B)) := by
  refine ⟨enters_of Tryz.func21 (by kernel_rfl) rfl, spec_of (vs := []) Tryz.func21 rfl Tryz.ntmps21 rfl fun G w hp => ?_⟩
  repeat' (first | refine l_run ?_ | refine l_nil ?_ | refine l_one ?_ | refine k_reg ?_ | refine l_ld ?_ | refine l_ldF ?_ | refine l_st ?_ | refine l_al (fun b => ?_) | refine l_bs (fun b => ?_) | refine k_condT ?_ | refine k_condF ?_ | refine k_brk ?_ | refine l_mks bf (0 : UInt8) 64 1 (by decide) (by decide) (fun b6 => ?_) | refine l_b2sH (es := z64) (q := ([], (0, 0))) ?_ rfl | (refine l_split (fun hc => ?_) (fun hc => ?_) <;> (try simp at hc)) | (refine k_cond (fun hc => ?_) (fun hc => ?_) <;> (try simp at hc)))
  exact k_ret () rfl trivial
/-- Who is asked, in a turn. -/
theorem TJ.who {i : Nat} {g e : Bool} {cs : List Ch} {w : ByteArray} (h : TJ i g e cs w) (j : Nat) (hj : j < 4) : ∃ who p, (nmL 3)[j]? = some who ∧ PrAt [] cs who p ∧ Own [] cs who p (fstP g e) ∧ p.sp = o1 := by
  have ho : ∀ who, who ≠ o1 → Own [] cs who thr35 (fstP g e) := fun who hw => by
    unfold Own
    rw [if_neg (show ¬ thr35.sp = who from fun e => hw e.symm)]
    exact h.p1
  rcases (show j = 0 ∨ j = 1 ∨ j = 2 ∨ j = 3 by omega) with rfl | rfl | rfl | rfl
  · exact ⟨o1, fstP g e, rfl, h.p1, by unfold Own; rw [if_pos (show (fstP g e).sp = o1 from rfl)], rfl⟩
  · exact ⟨c11, thr35, rfl, h.p2, ho _ d1, rfl⟩
  · exact ⟨c111, thr35, rfl, h.p3, ho _ e1, rfl⟩
  · exact ⟨c12, thr35, rfl, h.p4, ho _ d2, rfl⟩
theorem tj0 : TJ 0 false false tD (z64B ++ z64B) :=
  ⟨fst_at tD_1.g tD_1.n, tD_2, tD_3, tD_4, by
    have h : ∀ i : Int, (vget [] tD (gnm o1 i)).1 = ⟨#[]⟩ := fun i => by rw [(t_g o1 i).2.2.2]
    show ((⟨#[]⟩ : ByteArray) ++ (⟨(padS (vget [] tD (gnm o1 ((0 : Nat) : Int))).1).toArray⟩ : ByteArray)) ++ (⟨(padS (vget [] tD (gnm o1 ((1 : Nat) : Int))).1).toArray⟩ : ByteArray) = z64B ++ z64B
    rw [h, h, show padS ⟨#[]⟩ = z64 by decide +kernel]
    rfl, by decide⟩


theorem pgN_le (g : Bool) : pgN g ≤ 64 := by cases g <;> decide
theorem pgN_ge (g : Bool) : 2 ≤ pgN g := by cases g <;> decide
set_option maxHeartbeats 8000000 in
theorem lawPThreads_ok (o : Option Addr) (cap : Nat) (es : List UInt8) (gr en : UInt8) :
    Enters 4 ∧ Spec Tryz.prog 4 #[.slice o es.length cap, .int .u8 gr.toNat, .int .u8 en.toNat] [Sl 5 bf o cap es, Usg, P10] [] (RetV (.bool true)) := by
  have n0 := begun_ok
  have n1 := known35_ok
  have m1 := th1_ok
  have m2 := th2_ok
  have m3 := th3_ok
  have hT := tj0
  obtain ⟨f, hf⟩ : ∃ f, f = csT := ⟨_, rfl⟩
  rw [show cA = csT 0 from rfl, ← hf] at n0
  rw [show tA = csT 0 from rfl, show tB = csT 1 from rfl, ← hf] at m1
  rw [show tB = csT 1 from rfl, show tC = csT 2 from rfl, ← hf] at m2
  rw [show tC = csT 2 from rfl, show tD = csT 3 from rfl, ← hf] at m3
  rw [show tD = csT 3 from rfl, ← hf] at hT
  have hl3 : (f 3).length ≤ 50 := by rw [hf]; decide
  clear hf
  refine ⟨enters_of Tryz.func4 (by kernel_rfl) rfl, spec_of (vs := [_, _, _]) Tryz.func4 rfl Tryz.ntmps4 rfl fun G w hp => ?_⟩
  repeat' (first | refine l_run ?_ | refine l_nil ?_ | refine l_one ?_ | refine k_reg ?_ | refine l_ld ?_ | refine l_ldF ?_ | refine l_st ?_ | refine l_al (fun b => ?_) | refine l_bs (fun b => ?_) | refine k_condT ?_ | refine k_condF ?_ | refine l_call (n0) (fun _ _ => ?_) | refine l_call0 (n0) (fun _ _ => ?_) | refine l_call (n1) (fun _ _ => ?_) | refine l_call0 (n1) (fun _ _ => ?_) | (refine l_split (fun hc => ?_) (fun hc => ?_) <;> (try simp at hc) <;> (try omega)) | (refine k_cond (fun hc => ?_) (fun hc => ?_) <;> (try simp at hc) <;> (try omega)))
  rename Nat × Nat × List (Nm × Ch) => q
  obtain ⟨v, s, rs0⟩ := q
  dsimp only
  refine k_shut (r := Row 33 1 (some ⟨b, 0, none⟩) (nmL 0).length 1 ((nmL 0).flatMap sf1)) (Lx := [Pt b (.cells #[.string ⟨#[49]⟩] 33)]) (fun h hh => by
    obtain ⟨h1, h2, _, s1, _, hx, _⟩ := hh
    exact .inr ⟨b, [], (0, 0), rfl, s1 _ _ hx, rfl, rfl, Nat.le_refl _, .inl rfl⟩) ?_
  refine k_lp (X := { t : Nat × (Option Addr × Nat) × List (Nm × Ch) // t.1 ≤ 3 }) (fun t => [(0, .slice o es.length cap), (1, .int .u8 gr.toNat), (2, .int .u8 en.toNat), (7, .pointer (some ⟨v, 0, none⟩)), (9, .slice t.1.2.1.1 (nmL t.1.1).length t.1.2.1.2), (10, .int .i64 (t.1.1 : Int))]) (fun _ => [Sl 5 bf o cap es, St (some ⟨s, 0, none⟩) [], Usg, P10])
    (fun t => [Vw v (some ⟨s, 0, none⟩) t.1.2.2 (f t.1.1), Row 33 1 t.1.2.1.1 (nmL t.1.1).length t.1.2.1.2 ((nmL t.1.1).flatMap sf1)]) (fun t => 3 - t.1.1) ⟨(0, (some ⟨b, 0, none⟩, 1), rs0), Nat.zero_le _⟩ ⟨rfl, rfl, rfl, rfl, rfl, rfl, trivial⟩ ?_
  rintro ⟨⟨i, ⟨ro, rc⟩, rs⟩, hi⟩
  dsimp only at hi ⊢
  by_cases hlt : i < 3
  · rcases (show i = 0 ∨ i = 1 ∨ i = 2 by omega) with rfl | rfl | rfl
    · have w9 : IntKind.i64.wrap (((0 : Nat) : Int) + 1) = ((1 : Nat) : Int) := by rw [wrapi (by omega) (by omega)]; omega
      refine k_rowo (by decide) (fun rb hrb => ?_) (hs := Sel.there Sel.here)
      subst hrb
      rw [show (nmL 0).length = 1 from rfl]
      have m1' := m1 v s rs
      repeat' (first | refine l_run ?_ | refine l_nil ?_ | refine l_one ?_ | refine k_reg ?_ | refine l_ld ?_ | refine l_ldF ?_ | refine l_st ?_ | refine l_al (fun b => ?_) | refine l_bs (fun b => ?_) | refine k_condT ?_ | refine k_condF ?_ | refine l_call (m1') (fun _ _ => ?_) | refine l_call0 (m1') (fun _ _ => ?_) | rw [w9] | refine l_ixP5 (m := 1) (sz := 1) 0 (by decide) ?_ | refine l_ldR ?_ | refine l_app1 (fun o' cap' => ?_) | (refine l_split (fun hc => ?_) (fun hc => ?_) <;> (try simp at hc) <;> (try omega)) | (refine k_cond (fun hc => ?_) (fun hc => ?_) <;> (try simp at hc) <;> (try omega)))
      rename List (Nm × Ch) => rs2
      refine k_rowc (T := 33) (sz := 1) (o := o') (cap := cap') (m := 1 + 1) (m' := (nmL 1).length) ((nmL 0).flatMap sf1 ++ sf1 c11) ((nmL 1).flatMap sf1) rfl rfl ?_
      exact k_next ⟨(1, (o', cap'), rs2), by omega⟩ (by show 3 - 1 < 3 - 0; decide) ⟨rfl, rfl, rfl, rfl, rfl, rfl, trivial⟩
    · have w9 : IntKind.i64.wrap (((1 : Nat) : Int) + 1) = ((2 : Nat) : Int) := by rw [wrapi (by omega) (by omega)]; omega
      refine k_rowo (by decide) (fun rb hrb => ?_) (hs := Sel.there Sel.here)
      subst hrb
      rw [show (nmL 1).length = 2 from rfl]
      have m1' := m2 v s rs
      repeat' (first | refine l_run ?_ | refine l_nil ?_ | refine l_one ?_ | refine k_reg ?_ | refine l_ld ?_ | refine l_ldF ?_ | refine l_st ?_ | refine l_al (fun b => ?_) | refine l_bs (fun b => ?_) | refine k_condT ?_ | refine k_condF ?_ | refine l_call (m1') (fun _ _ => ?_) | refine l_call0 (m1') (fun _ _ => ?_) | rw [w9] | refine l_ixP5 (m := 2) (sz := 1) 1 (by decide) ?_ | refine l_ldR ?_ | refine l_app1 (fun o' cap' => ?_) | (refine l_split (fun hc => ?_) (fun hc => ?_) <;> (try simp at hc) <;> (try omega)) | (refine k_cond (fun hc => ?_) (fun hc => ?_) <;> (try simp at hc) <;> (try omega)))
      rename List (Nm × Ch) => rs2
      refine k_rowc (T := 33) (sz := 1) (o := o') (cap := cap') (m := 2 + 1) (m' := (nmL 2).length) ((nmL 1).flatMap sf1 ++ sf1 c111) ((nmL 2).flatMap sf1) rfl rfl ?_
      exact k_next ⟨(2, (o', cap'), rs2), by omega⟩ (by show 3 - 2 < 3 - 1; decide) ⟨rfl, rfl, rfl, rfl, rfl, rfl, trivial⟩
    · have w9 : IntKind.i64.wrap (((2 : Nat) : Int) + 1) = ((3 : Nat) : Int) := by rw [wrapi (by omega) (by omega)]; omega
      refine k_rowo (by decide) (fun rb hrb => ?_) (hs := Sel.there Sel.here)
      subst hrb
      rw [show (nmL 2).length = 3 from rfl]
      have m1' := m3 v s rs
      repeat' (first | refine l_run ?_ | refine l_nil ?_ | refine l_one ?_ | refine k_reg ?_ | refine l_ld ?_ | refine l_ldF ?_ | refine l_st ?_ | refine l_al (fun b => ?_) | refine l_bs (fun b => ?_) | refine k_condT ?_ | refine k_condF ?_ | refine l_call (m1') (fun _ _ => ?_) | refine l_call0 (m1') (fun _ _ => ?_) | rw [w9] | refine l_ixP5 (m := 3) (sz := 1) 0 (by decide) ?_ | refine l_ldR ?_ | refine l_app1 (fun o' cap' => ?_) | (refine l_split (fun hc => ?_) (fun hc => ?_) <;> (try simp at hc) <;> (try omega)) | (refine k_cond (fun hc => ?_) (fun hc => ?_) <;> (try simp at hc) <;> (try omega)))
      rename List (Nm × Ch) => rs2
      refine k_rowc (T := 33) (sz := 1) (o := o') (cap := cap') (m := 3 + 1) (m' := (nmL 3).length) ((nmL 2).flatMap sf1 ++ sf1 c12) ((nmL 3).flatMap sf1) rfl rfl ?_
      exact k_next ⟨(3, (o', cap'), rs2), by omega⟩ (by show 3 - 3 < 3 - 2; decide) ⟨rfl, rfl, rfl, rfl, rfl, rfl, trivial⟩
  · obtain rfl : i = 3 := by omega
    obtain ⟨Z, hZ⟩ : ∃ Z, Z = z64B := ⟨_, rfl⟩
    have hZs : Z.size = 64 := by rw [hZ]; decide
    have n4 := zeros35_ok
    rw [← hZ] at n4 hT
    have hcz : Z.size + Z.size ≤ 9223372036854775807 := by omega
    refine k_frz (T := 33) (sz := 1) (f := sf1) (o := ro) (cap := rc) (nmL 3) ?_ rfl rfl
    repeat' (first | refine l_run ?_ | refine l_nil ?_ | refine l_one ?_ | refine k_reg ?_ | refine l_ld ?_ | refine l_ldF ?_ | refine l_st ?_ | refine l_al (fun b => ?_) | refine l_bs (fun b => ?_) | refine k_condT ?_ | refine k_condF ?_ | refine k_brk ?_ | refine l_call (n4) (fun _ _ => ?_) | refine l_call0 (n4) (fun _ _ => ?_) | refine l_cat ?_ (h := hcz) | (refine l_split (fun hc => ?_) (fun hc => ?_) <;> (try simp at hc) <;> (try omega)) | (refine k_cond (fun hc => ?_) (fun hc => ?_) <;> (try simp at hc) <;> (try omega)))
    obtain ⟨G, hG⟩ : ∃ G, G = gr.toNat % 10 := ⟨_, rfl⟩
    obtain ⟨H, hH⟩ : ∃ H, H = en.toNat % 10 := ⟨_, rfl⟩
    have hG10 : G < 10 := by omega
    have hH10 : H < 10 := by omega
    have tg : (gr.toNat : Int).tmod 10 = (G : Int) := by rw [Int.tmod_eq_emod_of_nonneg (Int.natCast_nonneg _), hG]; exact (Int.natCast_emod _ 10).symm
    have te : (en.toNat : Int).tmod 10 = (H : Int) := by rw [Int.tmod_eq_emod_of_nonneg (Int.natCast_nonneg _), hH]; exact (Int.natCast_emod _ 10).symm
    have wG : IntKind.i64.wrap (G : Int) = (G : Int) := wrapi (by omega) (by omega)
    have wH : IntKind.i64.wrap (H : Int) = (H : Int) := wrapi (by omega) (by omega)
    clear hG hH
    refine k_lp (X := { t : Nat × List (Nm × Ch) × List Ch × ByteArray // t.1 ≤ es.length ∧ t.1 ≤ 10 ∧ TJ t.1 (decide (G < t.1)) (decide (H < t.1)) t.2.2.1 t.2.2.2 ∧ t.2.2.1.length ≤ 50 + 68 * t.1 }) (fun t => [(0, .slice o es.length cap), (1, .int .u8 gr.toNat), (2, .int .u8 en.toNat), (7, .pointer (some ⟨v, 0, none⟩)), (9, .slice ro (nmL 3).length rc), (13, .string t.1.2.2.2), (14, .int .i64 (t.1.1 : Int))]) (fun _ => [Sl 5 bf o cap es, Sl 33 sf1 ro rc (nmL 3), St (some ⟨s, 0, none⟩) [], Usg]) (fun t => [Vw v (some ⟨s, 0, none⟩) t.1.2.1 t.1.2.2.1]) (fun t => es.length - t.1.1) ⟨(0, rs, f 3, Z ++ Z), Nat.zero_le _, Nat.zero_le _, by rw [show decide (G < 0) = false by simp, show decide (H < 0) = false by simp]; exact hT, by omega⟩ ⟨rfl, rfl, rfl, rfl, rfl, rfl, rfl, trivial⟩ ?_
    clear hT hl3 m1 m2 m3 n0 n1 hi hlt
    rintro ⟨⟨i, rs, cs, w⟩, hi1, hi2, hJ, hlc⟩
    dsimp only at hi1 hi2 hJ hlc ⊢
    by_cases hgo : i < es.length ∧ i < 10
    · obtain ⟨hgo1, hgo2⟩ := hgo
      obtain ⟨c, hgt⟩ : ∃ c, es[i]? = some c := ⟨_, List.getElem?_eq_getElem hgo1⟩
      have hcl := c.toNat_lt
      obtain ⟨j, hj0⟩ : ∃ j, j = c.toNat % 4 := ⟨_, rfl⟩
      obtain ⟨q, hq0⟩ : ∃ q, q = c.toNat / 4 := ⟨_, rfl⟩
      obtain ⟨k, hk0⟩ : ∃ k, k = q % 128 := ⟨_, rfl⟩
      have hj : j < 4 := by omega
      have hk7 : k < 128 := by omega
      have hq7 : q < 64 := by omega
      have t1 : (c.toNat : Int).tmod 4 = (j : Int) := by rw [Int.tmod_eq_emod_of_nonneg (Int.natCast_nonneg _), hj0]; exact (Int.natCast_emod _ 4).symm
      have td : (c.toNat : Int).tdiv 4 = (q : Int) := by rw [Int.tdiv_eq_ediv_of_nonneg (Int.natCast_nonneg _), hq0]; exact (Int.natCast_ediv _ 4).symm
      have tk : (q : Int).tmod 128 = (k : Int) := by rw [Int.tmod_eq_emod_of_nonneg (Int.natCast_nonneg _), hk0]; exact (Int.natCast_emod _ 128).symm
      have wc : IntKind.i64.wrap (c.toNat : Int) = (c.toNat : Int) := wrapi (by omega) (by omega)
      have wj : IntKind.i64.wrap (j : Int) = (j : Int) := wrapi (by omega) (by omega)
      have wq : IntKind.i64.wrap (q : Int) = (q : Int) := wrapi (by omega) (by omega)
      have wk0 : IntKind.i64.wrap (k : Int) = (k : Int) := wrapi (by omega) (by omega)
      have w9 : IntKind.i64.wrap ((i : Int) + 1) = ((i + 1 : Nat) : Int) := by rw [wrapi (by omega) (by omega)]; omega
      have wk : IntKind.i64.wrap ((k : Int) + 1) = ((k + 1 : Nat) : Int) := by rw [wrapi (by omega) (by omega)]; omega
      clear hj0 hq0 hk0
      have hw0 := hJ.size
      have hwle := pgN_le (decide (G < i))
      obtain ⟨g0, hg0⟩ : ∃ g0, g0 = decide (G < i) := ⟨_, rfl⟩
      obtain ⟨e0, he0⟩ : ∃ e0, e0 = decide (H < i) := ⟨_, rfl⟩
      rw [← hg0, ← he0] at hJ
      rw [← hg0] at hw0 hwle
      by_cases hgi : i = G
      · obtain rfl : g0 = false := by rw [hg0]; simp; omega
        by_cases hei : i = H
        · obtain rfl : e0 = false := by rw [he0]; simp; omega
          obtain ⟨who, p, hwho, hp, ho, hsp⟩ := hJ.who j hj
          have nG := grow1_ok v (some ⟨s, 0, none⟩) [] rs cs who p (fstP false false) hp ho (by rw [hsp]; exact o1_valid) 2 rfl (by decide) (fstP_chk true false) (by show o1.size ≤ 1000; decide) (by show (0 : Nat) ≤ 1000; decide) (by omega)
          rw [hsp, show grP (fstP false false) = fstP true false from rfl, ← hZ] at nG
          have hJ1 := hJ.gr (by omega)
          rw [← hZ] at hJ1
          have hcat : w.size + Z.size ≤ 9223372036854775807 := by omega
          have hl1 : (cs ++ [Ch.mk (pnm o1) (pencS (fstP true false)) false] ++ [Ch.mk (gnm o1 ((2 : Nat) : Int)) Z false]).length ≤ 52 + 68 * i := by rw [List.length_append, List.length_append]; show cs.length + 1 + 1 ≤ _; omega
          generalize cs ++ [Ch.mk (pnm o1) (pencS (fstP true false)) false] ++ [Ch.mk (gnm o1 ((2 : Nat) : Int)) Z false] = cs1 at *
          generalize hrs1 : mmR [] rs cs who p = rs1 at *
          have nE := proExit_ok v (some ⟨s, 0, none⟩) [] rs1 cs1 o1 (fstP true false) hJ1.p1 rfl 0 ⟨by decide, by decide⟩ (fstP_chk true true) (by omega)
          rw [show ({ fstP true false with st := 2, cd := 0 } : Pr) = fstP true true from rfl] at nE
          have hJ2 := hJ1.end_ (by omega)
          have hl2 : (cs1 ++ [Ch.mk (pnm o1) (pencS (fstP true true)) false]).length ≤ 53 + 68 * i := by rw [List.length_append]; show cs1.length + 1 ≤ _; omega
          generalize cs1 ++ [Ch.mk (pnm o1) (pencS (fstP true true)) false] = cs2 at *
          generalize hrs2 : pgR [] rs1 cs1 o1 = rs3 at *
          obtain ⟨who', p', hwho', hp', ho', hsp'⟩ := hJ2.who j hj
          obtain rfl : who' = who := Option.some.inj (hwho'.symm.trans hwho)
          have hop := fst_pg true true
          have hl4 := putS_len (es := []) (cs := cs2) (sp := o1) (pg := pgN true) (k := k) (tx := ⟨#[35]⟩)
          have hJ3 := hJ2.st (k := k) (tx := ⟨#[35]⟩) (by show k + 1 ≤ _; have := pgN_ge true; omega)
          have hw2 := hJ2.size
          have hp64 : pgN true ≤ 64 := pgN_le _
          have hpg2 := pgN_ge true
          generalize hfst : fstP true true = oP at *
          have hpk : k + (⟨#[35]⟩ : ByteArray).size ≤ 64 * pgN true := by show k + 1 ≤ _; omega
          have m1 := fun rs => memory_ok v (some ⟨s, 0, none⟩) [] rs cs2 who' p' oP hp' ho'
          have m2 := fun (x : Mb) q => storeN_ok (x.s v p' oP) (some ⟨s, 0, none⟩) [] cs2 hp'.s (pgN true) hop hp64 k ⟨#[35]⟩ hpk x.bk q (k : Int) rfl
          have m3 := fun (x : Mb) q => pstoreN_ok (x.s v p' oP) (some ⟨s, 0, none⟩) [] cs2 (pgN true) hp64 k ⟨#[35]⟩ hpk who' p' oP hp' ho' hop rfl (by rw [hsp']; exact o1_valid) x.bk q (by omega)
          rw [hsp'] at m3
          generalize putS [] cs2 o1 (pgN true) k ⟨#[35]⟩ = cs3 at *
          have hk8 : k ≤ ((w ++ Z)).size := by omega
          have hk9 : k + 1 ≤ ((w ++ Z)).size := by omega
          generalize hwv : (w ++ Z) = wv at *
          have hc1 : (wv.extract 0 k).size + (⟨#[35]⟩ : ByteArray).size ≤ 9223372036854775807 := by rw [ByteArray.size_extract]; show _ + 1 ≤ _; omega
          have hc2 : (wv.extract 0 k ++ (⟨#[35]⟩ : ByteArray)).size + (wv.extract (k + 1) wv.size).size ≤ 9223372036854775807 := by rw [ByteArray.size_append, ByteArray.size_extract, ByteArray.size_extract]; show _ + 1 + _ ≤ _; omega
          repeat' (first | refine l_run ?_ | refine l_nil ?_ | refine l_one ?_ | refine k_reg ?_ | refine l_ld ?_ | refine l_ldF ?_ | refine l_st ?_ | refine l_al (fun b => ?_) | refine l_bs (fun b => ?_) | refine k_condT ?_ | refine k_condF ?_ | refine r_run ?_ | refine r_one ?_ | refine r_ld ?_ | refine r_ldF ?_ | refine r_ldN ?_ | refine r_al (fun b => ?_) | refine r_bs (fun b => ?_) | refine r_st ?_ | refine r_end ?_ | refine l_call (nG) (fun _ _ => ?_) | refine l_call0 (nG) (fun _ _ => ?_) | refine r_call (nG) (fun _ _ => ?_) | refine l_call (n4) (fun _ _ => ?_) | refine l_call0 (n4) (fun _ _ => ?_) | refine r_call (n4) (fun _ _ => ?_) | refine l_call (nE) (fun _ _ => ?_) | refine l_call0 (nE) (fun _ _ => ?_) | refine r_call (nE) (fun _ _ => ?_) | refine l_call (m1 _) (fun _ _ => ?_) | refine l_call0 (m1 _) (fun _ _ => ?_) | refine r_call (m1 _) (fun _ _ => ?_) | refine l_call (m2 _ _) (fun _ _ => ?_) | refine l_call0 (m2 _ _) (fun _ _ => ?_) | refine r_call (m2 _ _) (fun _ _ => ?_) | refine l_call (m3 _ _) (fun _ _ => ?_) | refine l_call0 (m3 _ _) (fun _ _ => ?_) | refine r_call (m3 _ _) (fun _ _ => ?_) | rw [t1] | rw [tg] | rw [te] | rw [td] | rw [tk] | rw [wc] | rw [wj] | rw [wG] | rw [wH] | rw [wq] | rw [wk0] | rw [w9] | rw [wk] | refine l_ixe (es := es) i c hgt (fun b off => ?_) | refine l_ixe (es := nmL 3) (f := sf1) j who' hwho (fun b off => ?_) | refine l_ldC ?_ | refine r_sH k hk8 ?_ | refine r_send (k + 1) hk9 ?_ | refine r_cat ?_ (h := hc1) | refine r_cat ?_ (h := hc2) | refine l_cat ?_ (h := hcat) | rw [hwv] | (refine l_split (fun hc => ?_) (fun hc => ?_) <;> (try simp at hc) <;> (try omega)) | (refine r_split (fun hc => ?_) (fun hc => ?_) <;> (try simp at hc) <;> (try omega)) | refine k_draw 28 [] [(0, 0), (1, 0), (2, 0), (3, 0), (4, 0), (5, 0), (6, 0), (7, 0), (8, 0), (9, 0)] [] ?_ | (refine k_cond (fun hc => ?_) (fun hc => ?_) <;> (try simp at hc) <;> (try omega)))
          rename List (Nm × Ch) => rs2
          exact k_next ⟨(i + 1, rs2, cs3, spl wv k ⟨#[35]⟩), by omega, by omega, by rw [show decide (G < i + 1) = true from by simp; omega, show decide (H < i + 1) = true from by simp; omega]; exact hJ3, by show cs3.length ≤ 50 + 68 * (i + 1); omega⟩ (by show es.length - (i + 1) < es.length - i; omega) ⟨rfl, rfl, rfl, rfl, rfl, rfl, rfl, trivial⟩ 
        · have he1 : decide (H < i + 1) = e0 := by rw [he0, Bool.eq_iff_iff]; simp; omega
          obtain ⟨who, p, hwho, hp, ho, hsp⟩ := hJ.who j hj
          have nG := grow1_ok v (some ⟨s, 0, none⟩) [] rs cs who p (fstP false e0) hp ho (by rw [hsp]; exact o1_valid) 2 rfl (by decide) (fstP_chk true e0) (by show o1.size ≤ 1000; decide) (by show (0 : Nat) ≤ 1000; decide) (by omega)
          rw [hsp, show grP (fstP false e0) = fstP true e0 from rfl, ← hZ] at nG
          have hJ1 := hJ.gr (by omega)
          rw [← hZ] at hJ1
          have hcat : w.size + Z.size ≤ 9223372036854775807 := by omega
          have hl1 : (cs ++ [Ch.mk (pnm o1) (pencS (fstP true e0)) false] ++ [Ch.mk (gnm o1 ((2 : Nat) : Int)) Z false]).length ≤ 52 + 68 * i := by rw [List.length_append, List.length_append]; show cs.length + 1 + 1 ≤ _; omega
          generalize cs ++ [Ch.mk (pnm o1) (pencS (fstP true e0)) false] ++ [Ch.mk (gnm o1 ((2 : Nat) : Int)) Z false] = cs1 at *
          generalize hrs1 : mmR [] rs cs who p = rs1 at *
          have hJ2 := hJ1
          have hl2 : cs1.length ≤ 53 + 68 * i := by omega
          obtain ⟨who', p', hwho', hp', ho', hsp'⟩ := hJ2.who j hj
          obtain rfl : who' = who := Option.some.inj (hwho'.symm.trans hwho)
          have hop := fst_pg true e0
          have hl4 := putS_len (es := []) (cs := cs1) (sp := o1) (pg := pgN true) (k := k) (tx := ⟨#[35]⟩)
          have hJ3 := hJ2.st (k := k) (tx := ⟨#[35]⟩) (by show k + 1 ≤ _; have := pgN_ge true; omega)
          have hw2 := hJ2.size
          have hp64 : pgN true ≤ 64 := pgN_le _
          have hpg2 := pgN_ge true
          generalize hfst : fstP true e0 = oP at *
          have hpk : k + (⟨#[35]⟩ : ByteArray).size ≤ 64 * pgN true := by show k + 1 ≤ _; omega
          have m1 := fun rs => memory_ok v (some ⟨s, 0, none⟩) [] rs cs1 who' p' oP hp' ho'
          have m2 := fun (x : Mb) q => storeN_ok (x.s v p' oP) (some ⟨s, 0, none⟩) [] cs1 hp'.s (pgN true) hop hp64 k ⟨#[35]⟩ hpk x.bk q (k : Int) rfl
          have m3 := fun (x : Mb) q => pstoreN_ok (x.s v p' oP) (some ⟨s, 0, none⟩) [] cs1 (pgN true) hp64 k ⟨#[35]⟩ hpk who' p' oP hp' ho' hop rfl (by rw [hsp']; exact o1_valid) x.bk q (by omega)
          rw [hsp'] at m3
          generalize putS [] cs1 o1 (pgN true) k ⟨#[35]⟩ = cs3 at *
          have hk8 : k ≤ ((w ++ Z)).size := by omega
          have hk9 : k + 1 ≤ ((w ++ Z)).size := by omega
          generalize hwv : (w ++ Z) = wv at *
          have hc1 : (wv.extract 0 k).size + (⟨#[35]⟩ : ByteArray).size ≤ 9223372036854775807 := by rw [ByteArray.size_extract]; show _ + 1 ≤ _; omega
          have hc2 : (wv.extract 0 k ++ (⟨#[35]⟩ : ByteArray)).size + (wv.extract (k + 1) wv.size).size ≤ 9223372036854775807 := by rw [ByteArray.size_append, ByteArray.size_extract, ByteArray.size_extract]; show _ + 1 + _ ≤ _; omega
          repeat' (first | refine l_run ?_ | refine l_nil ?_ | refine l_one ?_ | refine k_reg ?_ | refine l_ld ?_ | refine l_ldF ?_ | refine l_st ?_ | refine l_al (fun b => ?_) | refine l_bs (fun b => ?_) | refine k_condT ?_ | refine k_condF ?_ | refine r_run ?_ | refine r_one ?_ | refine r_ld ?_ | refine r_ldF ?_ | refine r_ldN ?_ | refine r_al (fun b => ?_) | refine r_bs (fun b => ?_) | refine r_st ?_ | refine r_end ?_ | refine l_call (nG) (fun _ _ => ?_) | refine l_call0 (nG) (fun _ _ => ?_) | refine r_call (nG) (fun _ _ => ?_) | refine l_call (n4) (fun _ _ => ?_) | refine l_call0 (n4) (fun _ _ => ?_) | refine r_call (n4) (fun _ _ => ?_) | refine l_call (m1 _) (fun _ _ => ?_) | refine l_call0 (m1 _) (fun _ _ => ?_) | refine r_call (m1 _) (fun _ _ => ?_) | refine l_call (m2 _ _) (fun _ _ => ?_) | refine l_call0 (m2 _ _) (fun _ _ => ?_) | refine r_call (m2 _ _) (fun _ _ => ?_) | refine l_call (m3 _ _) (fun _ _ => ?_) | refine l_call0 (m3 _ _) (fun _ _ => ?_) | refine r_call (m3 _ _) (fun _ _ => ?_) | rw [t1] | rw [tg] | rw [te] | rw [td] | rw [tk] | rw [wc] | rw [wj] | rw [wG] | rw [wH] | rw [wq] | rw [wk0] | rw [w9] | rw [wk] | refine l_ixe (es := es) i c hgt (fun b off => ?_) | refine l_ixe (es := nmL 3) (f := sf1) j who' hwho (fun b off => ?_) | refine l_ldC ?_ | refine r_sH k hk8 ?_ | refine r_send (k + 1) hk9 ?_ | refine r_cat ?_ (h := hc1) | refine r_cat ?_ (h := hc2) | refine l_cat ?_ (h := hcat) | rw [hwv] | (refine l_split (fun hc => ?_) (fun hc => ?_) <;> (try simp at hc) <;> (try omega)) | (refine r_split (fun hc => ?_) (fun hc => ?_) <;> (try simp at hc) <;> (try omega)) | refine k_draw 28 [] [(0, 0), (1, 0), (2, 0), (3, 0), (4, 0), (5, 0), (6, 0), (7, 0), (8, 0), (9, 0)] [] ?_ | (refine k_cond (fun hc => ?_) (fun hc => ?_) <;> (try simp at hc) <;> (try omega)))
          rename List (Nm × Ch) => rs2
          exact k_next ⟨(i + 1, rs2, cs3, spl wv k ⟨#[35]⟩), by omega, by omega, by rw [show decide (G < i + 1) = true from by simp; omega, show decide (H < i + 1) = e0 from he1]; exact hJ3, by show cs3.length ≤ 50 + 68 * (i + 1); omega⟩ (by show es.length - (i + 1) < es.length - i; omega) ⟨rfl, rfl, rfl, rfl, rfl, rfl, rfl, trivial⟩ 
      · have hg1 : decide (G < i + 1) = g0 := by rw [hg0, Bool.eq_iff_iff]; simp; omega
        by_cases hei : i = H
        · obtain rfl : e0 = false := by rw [he0]; simp; omega
          obtain ⟨who, p, hwho, hp, ho, hsp⟩ := hJ.who j hj
          have hl1 : cs.length ≤ 52 + 68 * i := by omega
          have nE := proExit_ok v (some ⟨s, 0, none⟩) [] rs cs o1 (fstP g0 false) hJ.p1 rfl 0 ⟨by decide, by decide⟩ (fstP_chk g0 true) (by omega)
          rw [show ({ fstP g0 false with st := 2, cd := 0 } : Pr) = fstP g0 true from rfl] at nE
          have hJ2 := hJ.end_ (by omega)
          have hl2 : (cs ++ [Ch.mk (pnm o1) (pencS (fstP g0 true)) false]).length ≤ 53 + 68 * i := by rw [List.length_append]; show cs.length + 1 ≤ _; omega
          generalize cs ++ [Ch.mk (pnm o1) (pencS (fstP g0 true)) false] = cs2 at *
          generalize hrs2 : pgR [] rs cs o1 = rs3 at *
          obtain ⟨who', p', hwho', hp', ho', hsp'⟩ := hJ2.who j hj
          obtain rfl : who' = who := Option.some.inj (hwho'.symm.trans hwho)
          have hop := fst_pg g0 true
          have hl4 := putS_len (es := []) (cs := cs2) (sp := o1) (pg := pgN g0) (k := k) (tx := ⟨#[35]⟩)
          have hJ3 := hJ2.st (k := k) (tx := ⟨#[35]⟩) (by show k + 1 ≤ _; have := pgN_ge g0; omega)
          have hw2 := hJ2.size
          have hp64 : pgN g0 ≤ 64 := pgN_le _
          have hpg2 := pgN_ge g0
          generalize hfst : fstP g0 true = oP at *
          have hpk : k + (⟨#[35]⟩ : ByteArray).size ≤ 64 * pgN g0 := by show k + 1 ≤ _; omega
          have m1 := fun rs => memory_ok v (some ⟨s, 0, none⟩) [] rs cs2 who' p' oP hp' ho'
          have m2 := fun (x : Mb) q => storeN_ok (x.s v p' oP) (some ⟨s, 0, none⟩) [] cs2 hp'.s (pgN g0) hop hp64 k ⟨#[35]⟩ hpk x.bk q (k : Int) rfl
          have m3 := fun (x : Mb) q => pstoreN_ok (x.s v p' oP) (some ⟨s, 0, none⟩) [] cs2 (pgN g0) hp64 k ⟨#[35]⟩ hpk who' p' oP hp' ho' hop rfl (by rw [hsp']; exact o1_valid) x.bk q (by omega)
          rw [hsp'] at m3
          generalize putS [] cs2 o1 (pgN g0) k ⟨#[35]⟩ = cs3 at *
          have hk8 : k ≤ (w).size := by omega
          have hk9 : k + 1 ≤ (w).size := by omega
          have hc1 : (w.extract 0 k).size + (⟨#[35]⟩ : ByteArray).size ≤ 9223372036854775807 := by rw [ByteArray.size_extract]; show _ + 1 ≤ _; omega
          have hc2 : (w.extract 0 k ++ (⟨#[35]⟩ : ByteArray)).size + (w.extract (k + 1) w.size).size ≤ 9223372036854775807 := by rw [ByteArray.size_append, ByteArray.size_extract, ByteArray.size_extract]; show _ + 1 + _ ≤ _; omega
          repeat' (first | refine l_run ?_ | refine l_nil ?_ | refine l_one ?_ | refine k_reg ?_ | refine l_ld ?_ | refine l_ldF ?_ | refine l_st ?_ | refine l_al (fun b => ?_) | refine l_bs (fun b => ?_) | refine k_condT ?_ | refine k_condF ?_ | refine r_run ?_ | refine r_one ?_ | refine r_ld ?_ | refine r_ldF ?_ | refine r_ldN ?_ | refine r_al (fun b => ?_) | refine r_bs (fun b => ?_) | refine r_st ?_ | refine r_end ?_ | refine l_call (nE) (fun _ _ => ?_) | refine l_call0 (nE) (fun _ _ => ?_) | refine r_call (nE) (fun _ _ => ?_) | refine l_call (m1 _) (fun _ _ => ?_) | refine l_call0 (m1 _) (fun _ _ => ?_) | refine r_call (m1 _) (fun _ _ => ?_) | refine l_call (m2 _ _) (fun _ _ => ?_) | refine l_call0 (m2 _ _) (fun _ _ => ?_) | refine r_call (m2 _ _) (fun _ _ => ?_) | refine l_call (m3 _ _) (fun _ _ => ?_) | refine l_call0 (m3 _ _) (fun _ _ => ?_) | refine r_call (m3 _ _) (fun _ _ => ?_) | rw [t1] | rw [tg] | rw [te] | rw [td] | rw [tk] | rw [wc] | rw [wj] | rw [wG] | rw [wH] | rw [wq] | rw [wk0] | rw [w9] | rw [wk] | refine l_ixe (es := es) i c hgt (fun b off => ?_) | refine l_ixe (es := nmL 3) (f := sf1) j who' hwho (fun b off => ?_) | refine l_ldC ?_ | refine r_sH k hk8 ?_ | refine r_send (k + 1) hk9 ?_ | refine r_cat ?_ (h := hc1) | refine r_cat ?_ (h := hc2) | (refine l_split (fun hc => ?_) (fun hc => ?_) <;> (try simp at hc) <;> (try omega)) | (refine r_split (fun hc => ?_) (fun hc => ?_) <;> (try simp at hc) <;> (try omega)) | refine k_draw 28 [] [(0, 0), (1, 0), (2, 0), (3, 0), (4, 0), (5, 0), (6, 0), (7, 0), (8, 0), (9, 0)] [] ?_ | (refine k_cond (fun hc => ?_) (fun hc => ?_) <;> (try simp at hc) <;> (try omega)))
          rename List (Nm × Ch) => rs2
          exact k_next ⟨(i + 1, rs2, cs3, spl w k ⟨#[35]⟩), by omega, by omega, by rw [show decide (G < i + 1) = g0 from hg1, show decide (H < i + 1) = true from by simp; omega]; exact hJ3, by show cs3.length ≤ 50 + 68 * (i + 1); omega⟩ (by show es.length - (i + 1) < es.length - i; omega) ⟨rfl, rfl, rfl, rfl, rfl, rfl, rfl, trivial⟩ 
        · have he1 : decide (H < i + 1) = e0 := by rw [he0, Bool.eq_iff_iff]; simp; omega
          obtain ⟨who, p, hwho, hp, ho, hsp⟩ := hJ.who j hj
          have hl1 : cs.length ≤ 52 + 68 * i := by omega
          have hJ2 := hJ
          have hl2 : cs.length ≤ 53 + 68 * i := by omega
          obtain ⟨who', p', hwho', hp', ho', hsp'⟩ := hJ2.who j hj
          obtain rfl : who' = who := Option.some.inj (hwho'.symm.trans hwho)
          have hop := fst_pg g0 e0
          have hl4 := putS_len (es := []) (cs := cs) (sp := o1) (pg := pgN g0) (k := k) (tx := ⟨#[35]⟩)
          have hJ3 := hJ2.st (k := k) (tx := ⟨#[35]⟩) (by show k + 1 ≤ _; have := pgN_ge g0; omega)
          have hw2 := hJ2.size
          have hp64 : pgN g0 ≤ 64 := pgN_le _
          have hpg2 := pgN_ge g0
          generalize hfst : fstP g0 e0 = oP at *
          have hpk : k + (⟨#[35]⟩ : ByteArray).size ≤ 64 * pgN g0 := by show k + 1 ≤ _; omega
          have m1 := fun rs => memory_ok v (some ⟨s, 0, none⟩) [] rs cs who' p' oP hp' ho'
          have m2 := fun (x : Mb) q => storeN_ok (x.s v p' oP) (some ⟨s, 0, none⟩) [] cs hp'.s (pgN g0) hop hp64 k ⟨#[35]⟩ hpk x.bk q (k : Int) rfl
          have m3 := fun (x : Mb) q => pstoreN_ok (x.s v p' oP) (some ⟨s, 0, none⟩) [] cs (pgN g0) hp64 k ⟨#[35]⟩ hpk who' p' oP hp' ho' hop rfl (by rw [hsp']; exact o1_valid) x.bk q (by omega)
          rw [hsp'] at m3
          generalize putS [] cs o1 (pgN g0) k ⟨#[35]⟩ = cs3 at *
          have hk8 : k ≤ (w).size := by omega
          have hk9 : k + 1 ≤ (w).size := by omega
          have hc1 : (w.extract 0 k).size + (⟨#[35]⟩ : ByteArray).size ≤ 9223372036854775807 := by rw [ByteArray.size_extract]; show _ + 1 ≤ _; omega
          have hc2 : (w.extract 0 k ++ (⟨#[35]⟩ : ByteArray)).size + (w.extract (k + 1) w.size).size ≤ 9223372036854775807 := by rw [ByteArray.size_append, ByteArray.size_extract, ByteArray.size_extract]; show _ + 1 + _ ≤ _; omega
          repeat' (first | refine l_run ?_ | refine l_nil ?_ | refine l_one ?_ | refine k_reg ?_ | refine l_ld ?_ | refine l_ldF ?_ | refine l_st ?_ | refine l_al (fun b => ?_) | refine l_bs (fun b => ?_) | refine k_condT ?_ | refine k_condF ?_ | refine r_run ?_ | refine r_one ?_ | refine r_ld ?_ | refine r_ldF ?_ | refine r_ldN ?_ | refine r_al (fun b => ?_) | refine r_bs (fun b => ?_) | refine r_st ?_ | refine r_end ?_ | refine l_call (m1 _) (fun _ _ => ?_) | refine l_call0 (m1 _) (fun _ _ => ?_) | refine r_call (m1 _) (fun _ _ => ?_) | refine l_call (m2 _ _) (fun _ _ => ?_) | refine l_call0 (m2 _ _) (fun _ _ => ?_) | refine r_call (m2 _ _) (fun _ _ => ?_) | refine l_call (m3 _ _) (fun _ _ => ?_) | refine l_call0 (m3 _ _) (fun _ _ => ?_) | refine r_call (m3 _ _) (fun _ _ => ?_) | rw [t1] | rw [tg] | rw [te] | rw [td] | rw [tk] | rw [wc] | rw [wj] | rw [wG] | rw [wH] | rw [wq] | rw [wk0] | rw [w9] | rw [wk] | refine l_ixe (es := es) i c hgt (fun b off => ?_) | refine l_ixe (es := nmL 3) (f := sf1) j who' hwho (fun b off => ?_) | refine l_ldC ?_ | refine r_sH k hk8 ?_ | refine r_send (k + 1) hk9 ?_ | refine r_cat ?_ (h := hc1) | refine r_cat ?_ (h := hc2) | (refine l_split (fun hc => ?_) (fun hc => ?_) <;> (try simp at hc) <;> (try omega)) | (refine r_split (fun hc => ?_) (fun hc => ?_) <;> (try simp at hc) <;> (try omega)) | refine k_draw 28 [] [(0, 0), (1, 0), (2, 0), (3, 0), (4, 0), (5, 0), (6, 0), (7, 0), (8, 0), (9, 0)] [] ?_ | (refine k_cond (fun hc => ?_) (fun hc => ?_) <;> (try simp at hc) <;> (try omega)))
          rename List (Nm × Ch) => rs2
          exact k_next ⟨(i + 1, rs2, cs3, spl w k ⟨#[35]⟩), by omega, by omega, by rw [show decide (G < i + 1) = g0 from hg1, show decide (H < i + 1) = e0 from he1]; exact hJ3, by show cs3.length ≤ 50 + 68 * (i + 1); omega⟩ (by show es.length - (i + 1) < es.length - i; omega) ⟨rfl, rfl, rfl, rfl, rfl, rfl, rfl, trivial⟩ 
    · by_cases hlen : i < es.length
      · repeat' (first | refine l_run ?_ | refine l_nil ?_ | refine l_one ?_ | refine k_reg ?_ | refine l_ld ?_ | refine l_ldF ?_ | refine l_st ?_ | refine l_al (fun b => ?_) | refine l_bs (fun b => ?_) | refine k_condT ?_ | refine k_condF ?_ | refine k_brk ?_ | (refine l_split (fun hc => ?_) (fun hc => ?_) <;> (try simp at hc) <;> (try omega)) | (refine k_cond (fun hc => ?_) (fun hc => ?_) <;> (try simp at hc) <;> (try omega)))
        generalize decide (G < i) = g1 at *
        generalize decide (H < i) = e1 at *
        refine k_lp (X := { t : Nat × List (Nm × Ch) // t.1 ≤ 4 }) (fun t => [(7, .pointer (some ⟨v, 0, none⟩)), (9, .slice ro (nmL 3).length rc), (13, .string w), (21, .int .i64 (t.1.1 : Int))]) (fun _ => [Sl 33 sf1 ro rc (nmL 3), St (some ⟨s, 0, none⟩) [], Usg]) (fun t => [Vw v (some ⟨s, 0, none⟩) t.1.2 cs]) (fun t => 4 - t.1.1) ⟨(0, rs), Nat.zero_le _⟩ ⟨rfl, rfl, rfl, rfl, trivial⟩ ?_
        rintro ⟨⟨j, rs⟩, hj4⟩
        dsimp only at hj4 ⊢
        by_cases hj : j < 4
        · obtain ⟨who, p, hwho, hp, ho, hsp⟩ := hJ.who j hj
          have m1 := bytes35_ok v (some ⟨s, 0, none⟩) [] rs cs who p (fstP g1 e1) hp ho (pgN g1) (fst_pg _ _) (pgN_le _)
          rw [hsp, hJ.m] at m1
          have hE : (w.toList == w.toList) = true := by simp
          have w9 : IntKind.i64.wrap ((j : Int) + 1) = ((j + 1 : Nat) : Int) := by rw [wrapi (by omega) (by omega)]; omega
          repeat' (first | refine l_run ?_ | refine l_nil ?_ | refine l_one ?_ | refine k_reg ?_ | refine l_ld ?_ | refine l_ldF ?_ | refine l_st ?_ | refine l_al (fun b => ?_) | refine l_bs (fun b => ?_) | refine k_condT ?_ | refine k_condF ?_ | refine l_call (m1) (fun _ _ => ?_) | refine l_call0 (m1) (fun _ _ => ?_) | rw [w9] | rw [hE] | refine l_ixe (es := nmL 3) (f := sf1) j who hwho (fun b off => ?_) | refine l_ldC ?_ | (refine l_split (fun hc => ?_) (fun hc => ?_) <;> (try simp at hc) <;> (try omega)) | (refine k_cond (fun hc => ?_) (fun hc => ?_) <;> (try simp at hc) <;> (try omega)))
          rename List (Nm × Ch) => rs2
          exact k_next ⟨(j + 1, rs2), by omega⟩ (by show 4 - (j + 1) < 4 - j; omega) ⟨rfl, rfl, rfl, rfl, trivial⟩
        · repeat' (first | refine l_run ?_ | refine l_nil ?_ | refine l_one ?_ | refine k_reg ?_ | refine l_ld ?_ | refine l_ldF ?_ | refine l_st ?_ | refine l_al (fun b => ?_) | refine l_bs (fun b => ?_) | refine k_condT ?_ | refine k_condF ?_ | refine k_brk ?_ | (refine l_split (fun hc => ?_) (fun hc => ?_) <;> (try simp at hc) <;> (try omega)) | (refine k_cond (fun hc => ?_) (fun hc => ?_) <;> (try simp at hc) <;> (try omega)))
          exact k_ret () rfl trivial
      · repeat' (first | refine l_run ?_ | refine l_nil ?_ | refine l_one ?_ | refine k_reg ?_ | refine l_ld ?_ | refine l_ldF ?_ | refine l_st ?_ | refine l_al (fun b => ?_) | refine l_bs (fun b => ?_) | refine k_condT ?_ | refine k_condF ?_ | refine k_brk ?_ | (refine l_split (fun hc => ?_) (fun hc => ?_) <;> (try simp at hc) <;> (try omega)) | (refine k_cond (fun hc => ?_) (fun hc => ?_) <;> (try simp at hc) <;> (try omega)))
        generalize decide (G < i) = g1 at *
        generalize decide (H < i) = e1 at *
        refine k_lp (X := { t : Nat × List (Nm × Ch) // t.1 ≤ 4 }) (fun t => [(7, .pointer (some ⟨v, 0, none⟩)), (9, .slice ro (nmL 3).length rc), (13, .string w), (21, .int .i64 (t.1.1 : Int))]) (fun _ => [Sl 33 sf1 ro rc (nmL 3), St (some ⟨s, 0, none⟩) [], Usg]) (fun t => [Vw v (some ⟨s, 0, none⟩) t.1.2 cs]) (fun t => 4 - t.1.1) ⟨(0, rs), Nat.zero_le _⟩ ⟨rfl, rfl, rfl, rfl, trivial⟩ ?_
        rintro ⟨⟨j, rs⟩, hj4⟩
        dsimp only at hj4 ⊢
        by_cases hj : j < 4
        · obtain ⟨who, p, hwho, hp, ho, hsp⟩ := hJ.who j hj
          have m1 := bytes35_ok v (some ⟨s, 0, none⟩) [] rs cs who p (fstP g1 e1) hp ho (pgN g1) (fst_pg _ _) (pgN_le _)
          rw [hsp, hJ.m] at m1
          have hE : (w.toList == w.toList) = true := by simp
          have w9 : IntKind.i64.wrap ((j : Int) + 1) = ((j + 1 : Nat) : Int) := by rw [wrapi (by omega) (by omega)]; omega
          repeat' (first | refine l_run ?_ | refine l_nil ?_ | refine l_one ?_ | refine k_reg ?_ | refine l_ld ?_ | refine l_ldF ?_ | refine l_st ?_ | refine l_al (fun b => ?_) | refine l_bs (fun b => ?_) | refine k_condT ?_ | refine k_condF ?_ | refine l_call (m1) (fun _ _ => ?_) | refine l_call0 (m1) (fun _ _ => ?_) | rw [w9] | rw [hE] | refine l_ixe (es := nmL 3) (f := sf1) j who hwho (fun b off => ?_) | refine l_ldC ?_ | (refine l_split (fun hc => ?_) (fun hc => ?_) <;> (try simp at hc) <;> (try omega)) | (refine k_cond (fun hc => ?_) (fun hc => ?_) <;> (try simp at hc) <;> (try omega)))
          rename List (Nm × Ch) => rs2
          exact k_next ⟨(j + 1, rs2), by omega⟩ (by show 4 - (j + 1) < 4 - j; omega) ⟨rfl, rfl, rfl, rfl, trivial⟩
        · repeat' (first | refine l_run ?_ | refine l_nil ?_ | refine l_one ?_ | refine k_reg ?_ | refine l_ld ?_ | refine l_ldF ?_ | refine l_st ?_ | refine l_al (fun b => ?_) | refine l_bs (fun b => ?_) | refine k_condT ?_ | refine k_condF ?_ | refine k_brk ?_ | (refine l_split (fun hc => ?_) (fun hc => ?_) <;> (try simp at hc) <;> (try omega)) | (refine k_cond (fun hc => ?_) (fun hc => ?_) <;> (try simp at hc) <;> (try omega)))
          exact k_ret () rfl trivial
end Go.Proofs.YtgaipgbgppdfeaaGreatDoor
