/-
  Contracts of the package process: Encode; what the statements' own value computes.
  Conditions: those that each theorem states.
-/
import Derived.Test.YtgaipgbgppdfeaaGreatDoorPro
import Derived.Test.YtgaipgbgppdfeaaGreatDoorMI
set_option maxRecDepth 10000
namespace Go.Proofs.YtgaipgbgppdfeaaGreatDoor
open Go.RowKit

theorem gchk_zero {gs : List Int} (h : gchk gs = 0) : gs.length ≤ 8 ∧ (∀ g ∈ gs, 0 ≤ g ∧ g ≤ 65535) ∧ gsq gs := by
  unfold gchk at h
  split at h
  · cases h
  · split at h
    · cases h
    · split at h
      · cases h
      · rename_i h1 h2 h3
        refine ⟨by omega, fun g hg => ?_, by simpa using h3⟩
        obtain ⟨i, hi, rfl⟩ := List.mem_iff_getElem.1 hg
        have h4 := (Classical.not_not.1 h2) i hi
        rw [getD_of (List.getElem?_eq_getElem hi)] at h4
        exact h4
theorem pchk_zero {p : Pr} (h : pchk p = 0) : (p.kd = 1 ∨ p.kd = 2) ∧ (1 ≤ p.st ∧ p.st ≤ 3) ∧ pfit p ∧ gchk p.gs = 0 ∧ lvalid p.sp.data.toList = true ∧ bchk p.dr = 0 := by
  unfold pchk at h
  split at h
  · cases h
  · split at h
    · cases h
    · split at h
      · cases h
      · split at h
        · rename_i h1; exact absurd h h1
        · split at h
          · cases h
          · rename_i h1 h2 h3 h4 h5
            exact ⟨by omega, by omega, Classical.not_not.1 h3, Classical.not_not.1 h4, by simpa using h5, h⟩
theorem bchk_zero {b : Bi} (h : bchk b = 0) : lvalid b.mkr.data.toList = true ∧ 0 ≤ b.nu ∧ b.nu ≤ 1073741824 := by
  unfold bchk at h
  split at h
  · cases h
  · split at h
    · rename_i h1 h2; exact ⟨by simpa using h1, h2⟩
    · cases h

/-- The bytes of a process. -/
def genc (gs : List Int) : List UInt8 := gs.flatMap fun z => venc z.toNat
def penc (p : Pr) : List UInt8 := venc p.kd.toNat ++ venc p.st.toNat ++ venc p.cd.toNat ++ venc p.ep.toNat ++ venc p.us.toNat ++ venc p.gs.length ++ genc p.gs ++ venc p.sp.size ++ p.sp.data.toList ++ venc p.pg.toNat ++ venc p.dr.mkr.size ++ p.dr.mkr.data.toList ++ venc p.dr.nu.toNat ++ venc p.tm.toNat
def pencS (p : Pr) : ByteArray := if pchk p = 0 then ⟨(penc p).toArray⟩ else ⟨#[]⟩
theorem genc_len (gs : List Int) (h : ∀ g ∈ gs, 0 ≤ g ∧ g ≤ 65535) : (genc gs).length ≤ gs.length * 10 := by
  induction gs with
  | nil => simp [genc]
  | cons a l ih =>
    have h1 := ih fun g hg => h g (List.mem_cons_of_mem _ hg)
    have h2 := venc_len10 a.toNat (by have := h a List.mem_cons_self; omega)
    simp only [genc, List.flatMap_cons, List.length_append, List.length_cons] at h1 ⊢
    omega
def prf (p : Pr) (o : Option Addr) (c : Nat) : List Value := [.int .i64 p.kd, .int .i64 p.st, .int .i64 p.cd, .int .i64 p.ep, .int .i64 p.us, .slice o p.gs.length c, .string p.sp, .int .i64 p.pg, .string p.dr.mkr, .int .i64 p.dr.nu, .int .i64 p.tm]

set_option maxHeartbeats 2000000 in
theorem proEncode_ok (p : Pr) (o : Option Addr) (c : Nat) (h : pchk p = 0) (h1 : p.sp.size ≤ 1000) (h2 : p.dr.mkr.size ≤ 1000) : Enters 129 ∧ Spec Tryz.prog 129 #[p.v o c] [Sl 3 zf o c p.gs] [] (RetV (.tuple #[.string (pencS p), .int .i64 0])) := by
  obtain ⟨q1, q2, q3, q4, q5, q6⟩ := pchk_zero h
  obtain ⟨q7, q8, q9⟩ := gchk_zero q4
  obtain ⟨q10, q11, q12⟩ := bchk_zero q6
  unfold pfit at q3
  have n0 := proCheck_ok p o c (by omega) (by omega) (by omega)
  rw [h] at n0
  have e1 : p.kd = ((p.kd.toNat : Nat) : Int) := by omega
  have e2 : p.st = ((p.st.toNat : Nat) : Int) := by omega
  have e3 : p.cd = ((p.cd.toNat : Nat) : Int) := by omega
  have e4 : p.ep = ((p.ep.toNat : Nat) : Int) := by omega
  have e5 : p.us = ((p.us.toNat : Nat) : Int) := by omega
  have e6 : p.pg = ((p.pg.toNat : Nat) : Int) := by omega
  have e7 : p.dr.nu = ((p.dr.nu.toNat : Nat) : Int) := by omega
  have e8 : p.tm = ((p.tm.toNat : Nat) : Int) := by omega
  have l1 := venc_len10 p.kd.toNat (by omega)
  have l2 := venc_len10 p.st.toNat (by omega)
  have l3 := venc_len10 p.cd.toNat (by omega)
  have l4 := venc_len10 p.ep.toNat (by omega)
  have l5 := venc_len10 p.us.toNat (by omega)
  have l6 := venc_len10 p.gs.length (by omega)
  have l7 := venc_len10 p.sp.size (by omega)
  have l8 := venc_len10 p.pg.toNat (by omega)
  have l9 := venc_len10 p.dr.mkr.size (by omega)
  have l10 := venc_len10 p.dr.nu.toNat (by omega)
  have l11 := venc_len10 p.tm.toNat (by omega)
  have s1 : p.sp.data.toList.length = p.sp.size := by simp
  have s2 : p.dr.mkr.data.toList.length = p.dr.mkr.size := by simp
  have n1 := fun bw => wtrNumber_ok bw [] p.kd.toNat (by omega) (by simp)
  have n2 := fun bw => wtrNumber_ok bw ([] ++ venc p.kd.toNat) p.st.toNat (by omega) (by simp only [List.length_append, List.length_nil]; omega)
  have n3 := fun bw => wtrNumber_ok bw ([] ++ venc p.kd.toNat ++ venc p.st.toNat) p.cd.toNat (by omega) (by simp only [List.length_append, List.length_nil]; omega)
  have n4 := fun bw => wtrNumber_ok bw ([] ++ venc p.kd.toNat ++ venc p.st.toNat ++ venc p.cd.toNat) p.ep.toNat (by omega) (by simp only [List.length_append, List.length_nil]; omega)
  have n5 := fun bw => wtrNumber_ok bw ([] ++ venc p.kd.toNat ++ venc p.st.toNat ++ venc p.cd.toNat ++ venc p.ep.toNat) p.us.toNat (by omega) (by simp only [List.length_append, List.length_nil]; omega)
  have n6 := fun bw => wtrNumber_ok bw ([] ++ venc p.kd.toNat ++ venc p.st.toNat ++ venc p.cd.toNat ++ venc p.ep.toNat ++ venc p.us.toNat) p.gs.length (by omega) (by simp only [List.length_append, List.length_nil]; omega)
  simp only [← e1] at n1
  simp only [← e2] at n2
  simp only [← e3] at n3
  simp only [← e4] at n4
  simp only [← e5] at n5
  have hg := genc_len p.gs q8
  generalize hB0 : ([] ++ venc p.kd.toNat ++ venc p.st.toNat ++ venc p.cd.toNat ++ venc p.ep.toNat ++ venc p.us.toNat ++ venc p.gs.length) = B0 at *
  have hB0l : B0.length ≤ 60 := by rw [← hB0]; simp only [List.length_append, List.length_nil]; omega
  have hB1l : (B0 ++ genc p.gs).length ≤ 140 := by rw [List.length_append]; omega
  generalize hB1 : B0 ++ genc p.gs = B1 at *
  have n7 := fun bw => wtrText_ok bw B1 p.sp (by omega) (by omega)
  have n8 := fun bw => wtrNumber_ok bw (B1 ++ venc p.sp.size ++ p.sp.data.toList) p.pg.toNat (by omega) (by simp only [List.length_append]; omega)
  have n9 := fun bw => wtrText_ok bw (B1 ++ venc p.sp.size ++ p.sp.data.toList ++ venc p.pg.toNat) p.dr.mkr (by omega) (by simp only [List.length_append]; omega)
  have n10 := fun bw => wtrNumber_ok bw (B1 ++ venc p.sp.size ++ p.sp.data.toList ++ venc p.pg.toNat ++ venc p.dr.mkr.size ++ p.dr.mkr.data.toList) p.dr.nu.toNat (by omega) (by simp only [List.length_append]; omega)
  have n11 := fun bw => wtrNumber_ok bw (B1 ++ venc p.sp.size ++ p.sp.data.toList ++ venc p.pg.toNat ++ venc p.dr.mkr.size ++ p.dr.mkr.data.toList ++ venc p.dr.nu.toNat) p.tm.toNat (by omega) (by simp only [List.length_append]; omega)
  simp only [← e6] at n8
  simp only [← e7] at n10
  simp only [← e8] at n11
  have hfin : B1 ++ venc p.sp.size ++ p.sp.data.toList ++ venc p.pg.toNat ++ venc p.dr.mkr.size ++ p.dr.mkr.data.toList ++ venc p.dr.nu.toNat ++ venc p.tm.toNat = penc p := by rw [← hB1, ← hB0]; simp [penc]
  have hlen : (penc p).length ≤ 4000 := by rw [← hfin]; simp only [List.length_append]; omega
  simp only [hfin] at n11
  have n12 := fun bw => wtrBytes_ok bw (penc p) (by omega)
  have n13 := fun bw i (hi : i < p.gs.length) => wtrNumber_ok bw (B0 ++ genc (p.gs.take i)) (p.gs[i]).toNat (by have := q8 _ (List.getElem_mem hi); omega) (by
    have := genc_len (p.gs.take i) (fun g hg => q8 g (List.mem_of_mem_take hg))
    simp only [List.length_append, List.length_take] at this ⊢; omega)
  rw [pencS, if_pos h]
  refine ⟨enters_of Tryz.func129 (by kernel_rfl) rfl, spec_of (vs := [_]) Tryz.func129 rfl Tryz.ntmps129 rfl fun G w hp => ?_⟩
  repeat' (first | refine l_run ?_ | refine l_nil ?_ | refine l_one ?_ | refine k_reg ?_ | refine l_ld ?_ | refine l_ldF ?_ | refine l_st ?_ | refine l_al (fun b => ?_) | refine l_bs (fun b => ?_) | refine k_condT ?_ | refine k_condF ?_ | refine k_brk ?_ | refine l_call (n0) (fun _ _ => ?_) | refine l_call0 (n0) (fun _ _ => ?_) | refine l_call (newWriter_ok) (fun _ _ => ?_) | refine l_call0 (newWriter_ok) (fun _ _ => ?_) | refine l_call (n1 _) (fun _ _ => ?_) | refine l_call0 (n1 _) (fun _ _ => ?_) | refine l_call (n2 _) (fun _ _ => ?_) | refine l_call0 (n2 _) (fun _ _ => ?_) | refine l_call (n3 _) (fun _ _ => ?_) | refine l_call0 (n3 _) (fun _ _ => ?_) | refine l_call (n4 _) (fun _ _ => ?_) | refine l_call0 (n4 _) (fun _ _ => ?_) | refine l_call (n5 _) (fun _ _ => ?_) | refine l_call0 (n5 _) (fun _ _ => ?_) | refine l_call (n6 _) (fun _ _ => ?_) | refine l_call0 (n6 _) (fun _ _ => ?_) | (refine l_split (fun hc => ?_) (fun hc => ?_) <;> (try simp at hc) <;> (try omega)) | (refine k_cond (fun hc => ?_) (fun hc => ?_) <;> (try simp at hc) <;> (try omega)))
  rename_i _ _ bw _ _ _ _ _ _ _ _ _ _ _ _ _
  refine k_wtc (xs := B0) (ys := B0 ++ genc (p.gs.take 0)) (by simp [genc]) ?_
  refine k_lpx (X := { i : Nat // i ≤ p.gs.length }) (Y := Unit) (fun i => [(1, .pointer (some ⟨b, 0, none⟩)), (5, .pointer (some ⟨bw, 0, none⟩)), (45, .slice o p.gs.length c), (46, .int .i64 (p.gs.length : Int)), (47, .int .i64 (i.1 : Int))]) (fun _ => [Sl 3 zf o c p.gs]) (fun i => [Wtr bw (B0 ++ genc (p.gs.take i.1)), Pt b (.cells (prf p o c).toArray 80)]) (fun i => p.gs.length - i.1)
    (fun _ => [(1, .pointer (some ⟨b, 0, none⟩)), (5, .pointer (some ⟨bw, 0, none⟩))]) (fun _ => []) (fun _ => [Wtr bw B1, Pt b (.cells (prf p o c).toArray 80)]) ⟨0, by omega⟩ ⟨rfl, rfl, rfl, rfl, rfl, trivial⟩ ?_ ?_
  · rintro ⟨⟩
    repeat' (first | refine l_run ?_ | refine l_nil ?_ | refine l_one ?_ | refine k_reg ?_ | refine l_ld ?_ | refine l_ldF ?_ | refine l_st ?_ | refine l_al (fun b => ?_) | refine l_bs (fun b => ?_) | refine k_condT ?_ | refine k_condF ?_ | refine k_brk ?_ | refine l_call (n7 _) (fun _ _ => ?_) | refine l_call0 (n7 _) (fun _ _ => ?_) | refine l_call (n8 _) (fun _ _ => ?_) | refine l_call0 (n8 _) (fun _ _ => ?_) | refine l_call (n9 _) (fun _ _ => ?_) | refine l_call0 (n9 _) (fun _ _ => ?_) | refine l_call (n10 _) (fun _ _ => ?_) | refine l_call0 (n10 _) (fun _ _ => ?_) | refine l_call (n11 _) (fun _ _ => ?_) | refine l_call0 (n11 _) (fun _ _ => ?_) | refine l_call (n12 _) (fun _ _ => ?_) | refine l_call0 (n12 _) (fun _ _ => ?_) | (refine l_split (fun hc => ?_) (fun hc => ?_) <;> (try simp at hc)) | (refine k_cond (fun hc => ?_) (fun hc => ?_) <;> (try simp at hc)))
    refine l_frz (sz := 1) (f := bf) (penc p) ?_ (byt_flat _) rfl
    refine l_b2s ?_
    repeat' (first | refine l_run ?_ | refine l_nil ?_ | refine l_one ?_ | refine k_reg ?_ | refine l_ld ?_ | refine l_ldF ?_ | refine l_st ?_ | refine l_al (fun b => ?_) | refine l_bs (fun b => ?_) | refine k_condT ?_ | refine k_condF ?_ | refine k_brk ?_ | (refine l_split (fun hc => ?_) (fun hc => ?_) <;> (try simp at hc)) | (refine k_cond (fun hc => ?_) (fun hc => ?_) <;> (try simp at hc)))
    exact k_ret () rfl trivial
  · intro hxx
    rintro ⟨i, hi⟩
    dsimp only at hi ⊢
    by_cases hlt : i < p.gs.length
    · have hx := List.getElem?_eq_getElem hlt
      have n14 := n13 bw i hlt
      have hq := q8 _ (List.getElem_mem hlt)
      have e9 : p.gs[i] = ((p.gs[i].toNat : Nat) : Int) := by omega
      have htk : p.gs.take (i + 1) = p.gs.take i ++ [p.gs[i]] := by rw [List.take_add_one, hx]; rfl
      have hl : B0 ++ genc (p.gs.take i) ++ venc p.gs[i].toNat = B0 ++ genc (p.gs.take (i + 1)) := by rw [htk]; simp only [genc, List.flatMap_append, List.flatMap_cons, List.flatMap_nil, List.append_nil, List.append_assoc]
      rw [← e9, hl] at n14
      repeat' (first | refine l_run ?_ | refine l_nil ?_ | refine l_one ?_ | refine k_reg ?_ | refine l_ld ?_ | refine l_ldF ?_ | refine l_st ?_ | refine l_al (fun b => ?_) | refine l_bs (fun b => ?_) | refine k_condT ?_ | refine k_condF ?_ | refine l_call (n14) (fun _ _ => ?_) | refine l_call0 (n14) (fun _ _ => ?_) | refine l_ixe (es := p.gs) i _ hx (fun b off => ?_) | refine l_ldC ?_ | (refine l_split (fun hc => ?_) (fun hc => ?_) <;> (try simp at hc) <;> (try omega)) | (refine k_cond (fun hc => ?_) (fun hc => ?_) <;> (try simp at hc) <;> (try omega)))
      rw [wrapi (z := (i : Int) + 1) (by omega) (by omega)]
      exact k_next ⟨i + 1, by omega⟩ (by show p.gs.length - (i + 1) < p.gs.length - i; omega) ⟨rfl, rfl, rfl, rfl, rfl, trivial⟩
    · obtain rfl : i = p.gs.length := by omega
      rw [List.take_length, hB1]
      repeat' (first | refine l_run ?_ | refine l_nil ?_ | refine l_one ?_ | refine k_reg ?_ | refine l_ld ?_ | refine l_ldF ?_ | refine l_st ?_ | refine l_al (fun b => ?_) | refine l_bs (fun b => ?_) | refine k_condT ?_ | refine k_condF ?_ | (refine l_split (fun hc => ?_) (fun hc => ?_) <;> (try simp at hc) <;> (try omega)) | (refine k_cond (fun hc => ?_) (fun hc => ?_) <;> (try simp at hc) <;> (try omega)))
      exact k_out hxx () ⟨rfl, rfl, trivial⟩
end Go.Proofs.YtgaipgbgppdfeaaGreatDoor
