/-
  Contracts of the package process: Decode.
  Conditions: those that each theorem states.
-/
import Derived.Test.YtgaipgbgppdfeaaGreatDoorPro3
import Derived.Test.YtgaipgbgppdfeaaGreatDoorMJ
import Derived.Test.YtgaipgbgppdfeaaGreatDoorMF
set_option maxRecDepth 10000
namespace Go.Proofs.YtgaipgbgppdfeaaGreatDoor
open Go.RowKit

def rnums : Nat → RS → List Int × RS
  | 0, s => ([], s)
  | n + 1, s => ((rnums n s).1 ++ [(rnum (rnums n s).2 65535).1], (rnum (rnums n s).2 65535).2)
theorem rnums_len : ∀ n s, (rnums n s).1.length = n
  | 0, _ => rfl
  | n + 1, s => by simp [rnums, rnums_len n s]
theorem rnums_le : ∀ n s, (rnums n s).2.pos + (rnums n s).2.rest.length ≤ s.pos + s.rest.length
  | 0, _ => Nat.le_refl _
  | n + 1, s => Nat.le_trans (rnum_le3 (rnums n s).2 65535) (rnums_le n s)
def pread (s0 : RS) : Pr × RS :=
  let k := rnum s0 2
  let t := rnum k.2 3
  let c := rnum t.2 410
  let e := rnum c.2 1073741824
  let u := rnum e.2 65535
  let n := rnum u.2 8
  let g := rnums n.1.toNat n.2
  let sp := rtext g.2 65536
  let pg := rnum sp.2 64
  let mk := rtext pg.2 65536
  let nu := rnum mk.2 1073741824
  let tm := rnum nu.2 99
  (⟨k.1, t.1, c.1, e.1, u.1, g.1, sp.1, pg.1, ⟨mk.1, nu.1⟩, tm.1⟩, tm.2)
/-- What Decode makes of a text. -/
def pdec (s : ByteArray) : Option Pr :=
  let r := pread ⟨s.data.toList, 0, 0⟩
  if r.2.err = 0 ∧ r.2.rest = [] ∧ pchk r.1 = 0 then some r.1 else none
theorem rtext_size (s : RS) (m : Int) (hm : 0 ≤ m) : ((rtext s m).1.size : Int) ≤ m := by
  by_cases h : (rtext s m).2.err = 0
  · exact (rtext_inv h).2.1
  · have h0 : (rtext s m).1 = ⟨#[]⟩ := by
      unfold rtext rstep at h ⊢
      split
      · rfl
      · rename_i h1
        rw [if_neg h1] at h
        split
        · rfl
        · rename_i h2
          rw [if_neg h2] at h
          exact absurd rfl h
    rw [h0]
    exact hm

set_option maxHeartbeats 4000000 in
theorem proDecode_ok (s : ByteArray) (hs : s.size ≤ 1099511627776) : Enters 138 ∧ Spec Tryz.prog 138 #[.string s] [] []
    ⟨Option Addr × Nat, fun q => .tuple #[((pdec s).getD Pr.z).v q.1 q.2, .int .i64 (if (pdec s).isSome then 0 else 3)], fun _ => True, fun q => [Sl 3 zf q.1 q.2 ((pdec s).getD Pr.z).gs], fun _ => []⟩ := by
  have hsz : s.data.toList.length = s.size := by simp
  have n0 := fun o cap => newReader_ok o cap s.data.toList (by omega)
  generalize hd : pdec s = d
  unfold pdec pread at hd
  dsimp only at hd
  generalize h0 : (⟨s.data.toList, 0, 0⟩ : RS) = s0 at hd n0
  have g0 : s0.pos + s0.rest.length ≤ 1099511627776 := by subst h0; dsimp only; omega
  have e0 : s.data.toList = s0.rest := by rw [← h0]
  rw [e0] at n0
  clear h0 hsz
  have g1 := rnum_le3 s0 2
  have n1 := fun b o cap => rdrNumber_ok b o cap s0 2 (by omega)
  generalize rnum s0 2 = r1 at *
  obtain ⟨v1, s1⟩ := r1
  dsimp only at *
  have g2 := rnum_le3 s1 3
  have n2 := fun b o cap => rdrNumber_ok b o cap s1 3 (by omega)
  generalize rnum s1 3 = r2 at *
  obtain ⟨v2, s2⟩ := r2
  dsimp only at *
  have g3 := rnum_le3 s2 410
  have n3 := fun b o cap => rdrNumber_ok b o cap s2 410 (by omega)
  generalize rnum s2 410 = r3 at *
  obtain ⟨v3, s3⟩ := r3
  dsimp only at *
  have g4 := rnum_le3 s3 1073741824
  have n4 := fun b o cap => rdrNumber_ok b o cap s3 1073741824 (by omega)
  generalize rnum s3 1073741824 = r4 at *
  obtain ⟨v4, s4⟩ := r4
  dsimp only at *
  have g5 := rnum_le3 s4 65535
  have n5 := fun b o cap => rdrNumber_ok b o cap s4 65535 (by omega)
  generalize rnum s4 65535 = r5 at *
  obtain ⟨v5, s5⟩ := r5
  dsimp only at *
  have g6 := rnum_le3 s5 8
  have i6 := rnum_in s5 8 (by decide)
  have n6 := fun b o cap => rdrNumber_ok b o cap s5 8 (by omega)
  generalize rnum s5 8 = r6 at *
  obtain ⟨v6, s6⟩ := r6
  dsimp only at *
  have g7 := fun n => rnums_le n s6
  have nl := fun n b o cap => rdrNumber_ok b o cap (rnums n s6).2 65535 (by have := g7 n; omega)
  have hgl := rnums_len v6.toNat s6
  have g7' := g7 v6.toNat
  have n8 := fun b o cap => rdrText_ok b o cap (rnums v6.toNat s6).2 65536 (by omega)
  have i8 := rtext_size (rnums v6.toNat s6).2 65536 (by decide)
  have g8 := rtext_le3 (rnums v6.toNat s6).2 65536
  generalize rtext (rnums v6.toNat s6).2 65536 = r8 at *
  obtain ⟨v8, s8⟩ := r8
  dsimp only at *
  have g9 := rnum_le3 s8 64
  have n9 := fun b o cap => rdrNumber_ok b o cap s8 64 (by omega)
  generalize rnum s8 64 = r9 at *
  obtain ⟨v9, s9⟩ := r9
  dsimp only at *
  have g10 := rtext_le3 s9 65536
  have n10 := fun b o cap => rdrText_ok b o cap s9 65536 (by omega)
  have i10 := rtext_size s9 65536 (by decide)
  generalize rtext s9 65536 = r10 at *
  obtain ⟨v10, s10⟩ := r10
  dsimp only at *
  have g11 := rnum_le3 s10 1073741824
  have n11 := fun b o cap => rdrNumber_ok b o cap s10 1073741824 (by omega)
  generalize rnum s10 1073741824 = r11 at *
  obtain ⟨v11, s11⟩ := r11
  dsimp only at *
  have n12 := fun b o cap => rdrNumber_ok b o cap s11 99 (by omega)
  generalize rnum s11 99 = r12 at *
  obtain ⟨v12, s12⟩ := r12
  dsimp only at *
  have n13 := fun b o cap => rdrClose_ok b o cap s12
  have n14 := fun o c => proCheck_ok ⟨v1, v2, v3, v4, v5, (rnums v6.toNat s6).1, v8, v9, ⟨v10, v11⟩, v12⟩ o c (by dsimp only; omega) (by dsimp only; omega) (by dsimp only; omega)
  refine ⟨enters_of Tryz.func138 (by kernel_rfl) rfl, spec_of (vs := [_]) Tryz.func138 rfl Tryz.ntmps138 rfl fun G w hp => ?_⟩
  repeat' (first | refine l_run ?_ | refine l_nil ?_ | refine l_one ?_ | refine k_reg ?_ | refine l_ld ?_ | refine l_ldF ?_ | refine l_st ?_ | refine l_al (fun b => ?_) | refine l_bs (fun b => ?_) | refine k_condT ?_ | refine k_condF ?_ | refine k_brk ?_ | refine r_run ?_ | refine r_one ?_ | refine r_ld ?_ | refine r_ldF ?_ | refine r_ldN ?_ | refine r_al (fun b => ?_) | refine r_bs (fun b => ?_) | refine r_st ?_ | refine r_end ?_ | refine l_call (n0 _ _) (fun _ _ => ?_) | refine l_call0 (n0 _ _) (fun _ _ => ?_) | refine r_call (n0 _ _) (fun _ _ => ?_) | refine l_call (n1 _ _ _) (fun _ _ => ?_) | refine l_call0 (n1 _ _ _) (fun _ _ => ?_) | refine r_call (n1 _ _ _) (fun _ _ => ?_) | refine l_call (n2 _ _ _) (fun _ _ => ?_) | refine l_call0 (n2 _ _ _) (fun _ _ => ?_) | refine r_call (n2 _ _ _) (fun _ _ => ?_) | refine l_call (n3 _ _ _) (fun _ _ => ?_) | refine l_call0 (n3 _ _ _) (fun _ _ => ?_) | refine r_call (n3 _ _ _) (fun _ _ => ?_) | refine l_call (n4 _ _ _) (fun _ _ => ?_) | refine l_call0 (n4 _ _ _) (fun _ _ => ?_) | refine r_call (n4 _ _ _) (fun _ _ => ?_) | refine l_call (n5 _ _ _) (fun _ _ => ?_) | refine l_call0 (n5 _ _ _) (fun _ _ => ?_) | refine r_call (n5 _ _ _) (fun _ _ => ?_) | refine l_call (n6 _ _ _) (fun _ _ => ?_) | refine l_call0 (n6 _ _ _) (fun _ _ => ?_) | refine r_call (n6 _ _ _) (fun _ _ => ?_) | refine l_s2b (fun o cap => ?_) | rw [e0] | (refine l_split (fun hc => ?_) (fun hc => ?_) <;> (try simp at hc) <;> (try omega)) | (refine r_split (fun hc => ?_) (fun hc => ?_) <;> (try simp at hc) <;> (try omega)) | refine k_draw 10 [] [(0, 0), (1, 0), (2, 0), (3, 0), (4, 4), (5, 1), (6, 4), (7, 0), (8, 0)] [9] ?_ | (refine k_cond (fun hc => ?_) (fun hc => ?_) <;> (try simp at hc) <;> (try omega)))
  rename_i b2 rd _ _ _ _ _ _ _ _ _ _ _ q6 _
  obtain ⟨br, or0, cr0⟩ := rd
  obtain ⟨o6, c6⟩ := q6
  dsimp only
  refine k_shut (r := Row 3 1 none 0 0 []) (Lx := []) (fun h _ => row_nil _ _ h) ?_
  refine k_lp (X := { q : Nat × (Option Addr × Nat) × (Option Addr × Nat) // q.1 ≤ v6.toNat }) (fun q => [(2, .pointer (some ⟨b2, 0, none⟩)), (4, .pointer (some ⟨br, 0, none⟩)), (5, .pointer (some ⟨b, 0, none⟩)), (26, .int .i64 v6), (27, .int .i64 (q.1.1 : Int))]) (fun q => [Sl 5 bf q.1.2.1.1 q.1.2.1.2 (rnums q.1.1 s6).2.rest])
    (fun q => [Rdr br q.1.2.1.1 q.1.2.1.2 (rnums q.1.1 s6).2, Row 3 1 q.1.2.2.1 q.1.1 q.1.2.2.2 ((rnums q.1.1 s6).1.flatMap zf), Pt b (.cells #[.int .i64 v1, .int .i64 v2, .int .i64 v3, .int .i64 v4, .int .i64 v5, .slice q.1.2.2.1 q.1.1 q.1.2.2.2, .string ⟨#[]⟩, .int .i64 0, .string ⟨#[]⟩, .int .i64 0, .int .i64 0] 80), Pt b2 (.cells #[.int .i64 0, .int .i64 0, .int .i64 0, .int .i64 0, .int .i64 0, .slice none 0 0, .string ⟨#[]⟩, .int .i64 0, .string ⟨#[]⟩, .int .i64 0, .int .i64 0] 80)])
    (fun q => v6.toNat - q.1.1) ⟨(0, (o6, c6), (none, 0)), by omega⟩ ⟨rfl, rfl, rfl, rfl, rfl, trivial⟩ ?_
  rintro ⟨⟨i, ⟨oi, ci⟩, og, cg⟩, hi⟩
  dsimp only at hi ⊢
  by_cases hlt : i < v6.toNat
  · have m1 := nl i br oi ci
    repeat' (first | refine l_run ?_ | refine l_nil ?_ | refine l_one ?_ | refine k_reg ?_ | refine l_ld ?_ | refine l_ldF ?_ | refine l_st ?_ | refine l_al (fun b => ?_) | refine l_bs (fun b => ?_) | refine k_condT ?_ | refine k_condF ?_ | refine r_run ?_ | refine r_one ?_ | refine r_ld ?_ | refine r_ldF ?_ | refine r_ldN ?_ | refine r_al (fun b => ?_) | refine r_bs (fun b => ?_) | refine r_st ?_ | refine r_end ?_ | refine l_call (m1) (fun _ _ => ?_) | refine l_call0 (m1) (fun _ _ => ?_) | refine r_call (m1) (fun _ _ => ?_) | refine r_app1 (fun o' cap' => ?_) | (refine l_split (fun hc => ?_) (fun hc => ?_) <;> (try simp at hc) <;> (try omega)) | (refine r_split (fun hc => ?_) (fun hc => ?_) <;> (try simp at hc) <;> (try omega)) | refine k_draw 10 [Rdr _ _ _ _, Row 3 _ _ _ _ _] [(0, 0), (1, 0), (2, 0), (3, 0), (4, 4), (5, 1), (6, 4), (7, 0), (8, 0)] [9] ?_ | (refine k_cond (fun hc => ?_) (fun hc => ?_) <;> (try simp at hc) <;> (try omega)))
    rename_i q _
    have hE : (rnums i s6).1.flatMap zf ++ (#[Value.int .i64 (rnum (rnums i s6).2 65535).1] : Array Value).toList = (rnums (i + 1) s6).1.flatMap zf := by simp [rnums, zf]
    rw [hE, wrapi (z := (i : Int) + 1) (by omega) (by omega)]
    exact k_next ⟨(i + 1, (q.1, q.2), (o', cap')), by dsimp only; omega⟩ (by show v6.toNat - (i + 1) < v6.toNat - i; omega) ⟨rfl, rfl, rfl, rfl, rfl, trivial⟩
  · obtain rfl : i = v6.toNat := by omega
    repeat' (first | refine l_run ?_ | refine l_nil ?_ | refine l_one ?_ | refine k_reg ?_ | refine l_ld ?_ | refine l_ldF ?_ | refine l_st ?_ | refine l_al (fun b => ?_) | refine l_bs (fun b => ?_) | refine k_condT ?_ | refine k_condF ?_ | refine k_brk ?_ | refine r_run ?_ | refine r_one ?_ | refine r_ld ?_ | refine r_ldF ?_ | refine r_ldN ?_ | refine r_al (fun b => ?_) | refine r_bs (fun b => ?_) | refine r_st ?_ | refine r_end ?_ | refine l_call (n8 _ _ _) (fun _ _ => ?_) | refine l_call0 (n8 _ _ _) (fun _ _ => ?_) | refine r_call (n8 _ _ _) (fun _ _ => ?_) | refine l_call (n9 _ _ _) (fun _ _ => ?_) | refine l_call0 (n9 _ _ _) (fun _ _ => ?_) | refine r_call (n9 _ _ _) (fun _ _ => ?_) | refine l_call (n10 _ _ _) (fun _ _ => ?_) | refine l_call0 (n10 _ _ _) (fun _ _ => ?_) | refine r_call (n10 _ _ _) (fun _ _ => ?_) | refine l_call (n11 _ _ _) (fun _ _ => ?_) | refine l_call0 (n11 _ _ _) (fun _ _ => ?_) | refine r_call (n11 _ _ _) (fun _ _ => ?_) | refine l_call (n12 _ _ _) (fun _ _ => ?_) | refine l_call0 (n12 _ _ _) (fun _ _ => ?_) | refine r_call (n12 _ _ _) (fun _ _ => ?_) | refine l_call (n13 _ _ _) (fun _ _ => ?_) | refine l_call0 (n13 _ _ _) (fun _ _ => ?_) | refine r_call (n13 _ _ _) (fun _ _ => ?_) | (refine l_split (fun hc => ?_) (fun hc => ?_) <;> (try simp at hc) <;> (try omega)) | (refine r_split (fun hc => ?_) (fun hc => ?_) <;> (try simp at hc) <;> (try omega)) | refine k_draw 10 [] [(0, 0), (1, 0), (2, 0), (3, 0), (4, 4), (5, 1), (6, 4), (7, 0), (8, 0)] [9] ?_ | (refine k_cond (fun hc => ?_) (fun hc => ?_) <;> (try simp at hc) <;> (try omega)))
    · rw [if_neg fun h => hc (by rw [if_pos h.1, if_pos h.2.1])] at hd
      subst hd
      refine k_add (sl_nil 3 zf) ?_
      exact k_ret (none, 0) rfl trivial
    · have hcl : s12.err = 0 ∧ s12.rest = [] := by
        by_cases h1 : s12.err = 0
        · rw [if_pos h1] at hc
          by_cases h2 : s12.rest = []
          · exact ⟨h1, h2⟩
          · rw [if_neg h2] at hc; cases hc
        · rw [if_neg h1] at hc; exact absurd hc h1
      clear n8 nl g7 g7'
      generalize (rnums v6.toNat s6).1 = gl at *
      rw [← hgl]
      refine l_frz (T := 3) (sz := 1) (f := zf) gl ?_ rfl rfl
      generalize hP : pchk ⟨v1, v2, v3, v4, v5, gl, v8, v9, ⟨v10, v11⟩, v12⟩ = e at *
      simp only [Pr.v] at n14
      repeat' (first | refine l_run ?_ | refine l_nil ?_ | refine l_one ?_ | refine k_reg ?_ | refine l_ld ?_ | refine l_ldF ?_ | refine l_st ?_ | refine l_al (fun b => ?_) | refine l_bs (fun b => ?_) | refine k_condT ?_ | refine k_condF ?_ | refine k_brk ?_ | refine r_run ?_ | refine r_one ?_ | refine r_ld ?_ | refine r_ldF ?_ | refine r_ldN ?_ | refine r_al (fun b => ?_) | refine r_bs (fun b => ?_) | refine r_st ?_ | refine r_end ?_ | refine l_call (n14 _ _) (fun _ _ => ?_) | refine l_call0 (n14 _ _) (fun _ _ => ?_) | refine r_call (n14 _ _) (fun _ _ => ?_) | (refine l_split (fun hc => ?_) (fun hc => ?_) <;> (try simp at hc) <;> (try omega)) | (refine r_split (fun hc => ?_) (fun hc => ?_) <;> (try simp at hc) <;> (try omega)) | refine k_draw 10 [] [(0, 0), (1, 0), (2, 0), (3, 0), (4, 4), (5, 1), (6, 4), (7, 0), (8, 0)] [9] ?_ | (refine k_cond (fun hc => ?_) (fun hc => ?_) <;> (try simp at hc) <;> (try omega)))
      · rw [if_neg fun h => by simp_all] at hd
        subst hd
        refine k_add (sl_nil 3 zf) ?_
        exact k_ret (none, 0) rfl trivial
      · rw [if_pos ⟨hcl.1, hcl.2, by simp_all⟩] at hd
        subst hd
        exact k_ret (og, cg) rfl trivial
end Go.Proofs.YtgaipgbgppdfeaaGreatDoor
