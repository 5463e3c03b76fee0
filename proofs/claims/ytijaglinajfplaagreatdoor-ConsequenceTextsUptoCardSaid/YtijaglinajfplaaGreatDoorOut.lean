/-
  Contracts of the package output: Check, write, Encode, read, Decode.
  Conditions: those that each theorem states.
-/
import Derived.Test.YtijaglinajfplaaGreatDoorState4
set_option maxRecDepth 10000
namespace Go.Proofs.YtijaglinajfplaaGreatDoor
open Go.RowKit

/-- An output. -/
structure Ou where
  ch : Int
  tg : ByteArray
  tx : ByteArray
  us : Int
  deriving DecidableEq
def ouf (o : Ou) : List Value := [.int .i64 o.ch, .string o.tg, .string o.tx, .int .i64 o.us]
def Ou.v (o : Ou) : Value := .agg #[.int .i64 o.ch, .string o.tg, .string o.tx, .int .i64 o.us]
def bad2 (c : UInt8) : Bool := decide ((c.toNat : Int) < 33) || decide ((126 : Int) < c.toNat)

/-- What Check answers. -/
def ochk (o : Ou) : Int :=
  if o.ch < 1 ∨ 4 < o.ch then 11
  else if isE o.tg then 4
  else if 64 < o.tg.size then 5
  else if o.tg.data.toList.any bad2 then 6
  else if 4096 < o.tx.size then 5
  else if o.us < 0 ∨ 65535 < o.us then 2
  else 0

set_option maxHeartbeats 1000000 in
theorem outCheck_ok (o : Ou) : Enters 41 ∧ Spec Tryz.prog 41 #[o.v] [] [] (RetV (.int .i64 (ochk o))) := by
  have hsz : o.tg.data.toList.length = o.tg.size := by simp
  generalize hr : ochk o = r
  unfold ochk at hr
  refine ⟨enters_of Tryz.func41 (by kernel_rfl) rfl, spec_of (vs := [_]) Tryz.func41 rfl Tryz.ntmps41 rfl fun G w hp => ?_⟩
  repeat' (first | refine l_run ?_ | refine l_nil ?_ | refine l_one ?_ | refine k_reg ?_ | refine l_ld ?_ | refine l_ldF ?_ | refine l_st ?_ | refine l_al (fun b => ?_) | refine l_bs (fun b => ?_) | refine k_condT ?_ | refine k_condF ?_ | refine k_brk ?_ | (refine l_split (fun hc => ?_) (fun hc => ?_) <;> (try simp at hc)) | (refine k_cond (fun hc => ?_) (fun hc => ?_) <;> (try simp at hc)))
  · rw [if_pos (by omega)] at hr; subst hr; exact k_ret () rfl trivial
  · rw [if_pos (by omega)] at hr; subst hr; exact k_ret () rfl trivial
  · have hc : isE o.tg = true := by simpa [isE] using hc
    rw [if_neg (by omega), if_pos hc] at hr; subst hr; exact k_ret () rfl trivial
  · rename_i h1
    have h1 : isE o.tg = false := by simpa [isE] using h1
    rw [if_neg (by omega), if_neg (by simp [h1]), if_pos (by omega)] at hr; subst hr; exact k_ret () rfl trivial
  rename_i h1
  have h1 : isE o.tg = false := by simpa [isE] using h1
  rw [if_neg (by omega), if_neg (by simp [h1]), if_neg (by omega)] at hr
  refine k_lp (X := { i : Nat // i ≤ o.tg.size ∧ ∀ j, j < i → ∀ c, o.tg.data.toList[j]? = some c → bad2 c = false }) (fun i => [(1, .pointer (some ⟨b, 0, none⟩)), (21, .int .i64 (o.tg.size : Int)), (22, .int .i64 (i.1 : Int))]) (fun _ => []) (fun _ => [Pt b (.cells #[.int .i64 o.ch, .string o.tg, .string o.tx, .int .i64 o.us] 24)]) (fun i => o.tg.size - i.1) ⟨0, by omega, fun j hj => by omega⟩ ⟨rfl, rfl, rfl, trivial⟩ ?_
  rintro ⟨i, hi1, hi2⟩
  dsimp only
  by_cases hlt : i < o.tg.data.toList.length
  · obtain ⟨c, hcc⟩ : ∃ c, o.tg.data.toList[i]? = some c := ⟨_, List.getElem?_eq_getElem hlt⟩
    have bad : bad2 c = true → r = 6 := fun hb => by
      rw [← hr, if_pos]
      rw [List.any_eq_true]
      exact ⟨c, List.mem_of_getElem? hcc, hb⟩
    repeat' (first | refine l_run ?_ | refine l_nil ?_ | refine l_one ?_ | refine k_reg ?_ | refine l_ld ?_ | refine l_ldF ?_ | refine l_st ?_ | refine l_al (fun b => ?_) | refine l_bs (fun b => ?_) | refine k_condT ?_ | refine k_condF ?_ | refine k_brk ?_ | refine l_six (s := o.tg) i c hcc ?_ | (refine l_split (fun hc => ?_) (fun hc => ?_) <;> (try simp at hc) <;> (try omega)) | (refine k_cond (fun hc => ?_) (fun hc => ?_) <;> (try simp at hc) <;> (try omega)))
    all_goals try (
      have e := bad (by simp [bad2]; omega)
      exact k_rt (w_lq (w_rv (congrArg (Value.int .i64) e) (w_ret () rfl trivial))))
    rw [wrapi (z := (i : Int) + 1) (by omega) (by omega)]
    refine k_next ⟨i + 1, by omega, fun j hj c' hc' => ?_⟩ (by show o.tg.size - (i + 1) < o.tg.size - i; omega) ⟨rfl, rfl, rfl, trivial⟩
    by_cases hij : j = i
    · subst hij
      obtain rfl := Option.some.inj (hcc.symm.trans hc')
      simp [bad2]; omega
    · exact hi2 j (by omega) c' hc'
  · have e : ¬ (o.tg.data.toList.any bad2 = true) := by
      rw [List.any_eq_true]
      rintro ⟨c, hc, hb⟩
      obtain ⟨j, hj, rfl⟩ := List.mem_iff_getElem.1 hc
      rw [hi2 j (by omega) _ (List.getElem?_eq_getElem hj)] at hb
      cases hb
    rw [if_neg e] at hr
    repeat' (first | refine l_run ?_ | refine l_nil ?_ | refine l_one ?_ | refine k_reg ?_ | refine l_ld ?_ | refine l_ldF ?_ | refine l_st ?_ | refine l_al (fun b => ?_) | refine l_bs (fun b => ?_) | refine k_condT ?_ | refine k_condF ?_ | refine k_brk ?_ | (refine l_split (fun hc => ?_) (fun hc => ?_) <;> (try simp at hc) <;> (try omega)) | (refine k_cond (fun hc => ?_) (fun hc => ?_) <;> (try simp at hc) <;> (try omega)))
    · rw [if_pos (by omega)] at hr; subst hr; exact k_ret () rfl trivial
    · rw [if_neg (by omega), if_pos (by omega)] at hr; subst hr; exact k_ret () rfl trivial
    · rw [if_neg (by omega), if_pos (by omega)] at hr; subst hr; exact k_ret () rfl trivial
    · rw [if_neg (by omega), if_neg (by omega)] at hr; subst hr; exact k_ret () rfl trivial

/-- The bytes of an output. -/
def oenc (o : Ou) : List UInt8 := venc o.ch.toNat ++ (venc o.tg.size ++ o.tg.data.toList) ++ (venc o.tx.size ++ o.tx.data.toList) ++ venc o.us.toNat
theorem ochk_zero {o : Ou} (h : ochk o = 0) : (1 ≤ o.ch ∧ o.ch ≤ 4) ∧ o.tg.size ≤ 64 ∧ o.tx.size ≤ 4096 ∧ 0 ≤ o.us ∧ o.us ≤ 65535 := by
  unfold ochk at h
  split at h
  · cases h
  · split at h
    · cases h
    · split at h
      · cases h
      · split at h
        · cases h
        · split at h
          · cases h
          · split at h
            · cases h
            · omega

theorem outWrite_ok (o : Ou) (b : Nat) (bs : List UInt8) (h : ochk o = 0) (hb : bs.length ≤ 1000000000) : Enters 114 ∧ Spec Tryz.prog 114 #[o.v, .pointer (some ⟨b, 0, none⟩)] [] [Wtr b bs] ⟨Unit, fun _ => .tuple #[], fun _ => True, fun _ => [], fun _ => [Wtr b (bs ++ oenc o)]⟩ := by
  obtain ⟨h1, h2, h3, h4⟩ := ochk_zero h
  have l1 := venc_len10 o.ch.toNat (by omega)
  have l2 := venc_len10 o.tg.size (by omega)
  have l3 := venc_len10 o.tx.size (by omega)
  have e1 : o.ch = ((o.ch.toNat : Nat) : Int) := by omega
  have e2 : o.us = ((o.us.toNat : Nat) : Int) := by omega
  have s1 : o.tg.data.toList.length = o.tg.size := by simp
  have s2 : o.tx.data.toList.length = o.tx.size := by simp
  have n1 := wtrNumber_ok b bs o.ch.toNat (by omega) (by omega)
  rw [← e1] at n1
  have n2 := wtrText_ok b (bs ++ venc o.ch.toNat) o.tg (by omega) (by simp only [List.length_append]; omega)
  have n3 := wtrText_ok b (bs ++ venc o.ch.toNat ++ venc o.tg.size ++ o.tg.data.toList) o.tx (by omega) (by simp only [List.length_append]; omega)
  have n4 := wtrNumber_ok b (bs ++ venc o.ch.toNat ++ venc o.tg.size ++ o.tg.data.toList ++ venc o.tx.size ++ o.tx.data.toList) o.us.toNat (by omega) (by simp only [List.length_append]; omega)
  rw [← e2] at n4
  have e3 : bs ++ oenc o = bs ++ venc o.ch.toNat ++ venc o.tg.size ++ o.tg.data.toList ++ venc o.tx.size ++ o.tx.data.toList ++ venc o.us.toNat := by simp [oenc]
  rw [e3]
  generalize b = bw at *
  refine ⟨enters_of Tryz.func114 (by kernel_rfl) rfl, spec_of (vs := [_, _]) Tryz.func114 rfl Tryz.ntmps114 rfl fun G w hp => ?_⟩
  repeat' (first | refine l_run ?_ | refine l_nil ?_ | refine l_one ?_ | refine k_reg ?_ | refine l_ld ?_ | refine l_ldF ?_ | refine l_st ?_ | refine l_al (fun b => ?_) | refine l_bs (fun b => ?_) | refine k_condT ?_ | refine k_condF ?_ | refine k_brk ?_ | refine l_call (n1) (fun _ _ => ?_) | refine l_call0 (n1) (fun _ _ => ?_) | refine l_call (n2) (fun _ _ => ?_) | refine l_call0 (n2) (fun _ _ => ?_) | refine l_call (n3) (fun _ _ => ?_) | refine l_call0 (n3) (fun _ _ => ?_) | refine l_call (n4) (fun _ _ => ?_) | refine l_call0 (n4) (fun _ _ => ?_) | refine l_split (fun hc => ?_) (fun hc => ?_) | refine k_cond (fun hc => ?_) (fun hc => ?_))
  exact k_end () rfl trivial

def oencS (o : Ou) : ByteArray := if ochk o = 0 then ⟨(oenc o).toArray⟩ else ⟨#[]⟩
theorem oenc_len {o : Ou} (h : ochk o = 0) : (oenc o).length ≤ 5000 := by
  obtain ⟨h1, h2, h3, h4⟩ := ochk_zero h
  have l1 := venc_len10 o.ch.toNat (by omega)
  have l2 := venc_len10 o.tg.size (by omega)
  have l3 := venc_len10 o.tx.size (by omega)
  have l4 := venc_len10 o.us.toNat (by omega)
  have s1 : o.tg.data.toList.length = o.tg.size := by simp
  have s2 : o.tx.data.toList.length = o.tx.size := by simp
  simp only [oenc, List.length_append]; omega

theorem outEncode_ok (o : Ou) : Enters 39 ∧ Spec Tryz.prog 39 #[o.v] [] [] (RetV (.tuple #[.string (oencS o), .int .i64 (ochk o)])) := by
  have hc0 := outCheck_ok o
  refine ⟨enters_of Tryz.func39 (by kernel_rfl) rfl, spec_of (vs := [_]) Tryz.func39 rfl Tryz.ntmps39 rfl fun G w hp => ?_⟩
  by_cases h : ochk o = 0
  · have hw : ∀ bw, _ := fun bw => outWrite_ok o bw [] h (by simp)
    have hl := oenc_len h
    rw [oencS, if_pos h, h]
    rw [h] at hc0
    repeat' (first | refine l_run ?_ | refine l_nil ?_ | refine l_one ?_ | refine k_reg ?_ | refine l_ld ?_ | refine l_ldF ?_ | refine l_st ?_ | refine l_al (fun b => ?_) | refine l_bs (fun b => ?_) | refine k_condT ?_ | refine k_condF ?_ | refine k_brk ?_ | refine l_call (hc0) (fun _ _ => ?_) | refine l_call0 (hc0) (fun _ _ => ?_) | refine l_call (newWriter_ok) (fun _ _ => ?_) | refine l_call0 (newWriter_ok) (fun _ _ => ?_) | refine l_call (hw _) (fun _ _ => ?_) | refine l_call0 (hw _) (fun _ _ => ?_) | refine l_call (wtrBytes_ok _ ([] ++ oenc o) (by simp; omega)) (fun _ _ => ?_) | refine l_call0 (wtrBytes_ok _ ([] ++ oenc o) (by simp; omega)) (fun _ _ => ?_) | refine l_split (fun hc => ?_) (fun hc => ?_) | refine k_cond (fun hc => ?_) (fun hc => ?_))
    refine l_frz (sz := 1) (f := bf) ([] ++ oenc o) ?_ (byt_flat _) rfl
    refine l_b2s ?_
    repeat' (first | refine l_run ?_ | refine l_nil ?_ | refine l_one ?_ | refine k_reg ?_ | refine l_ld ?_ | refine l_ldF ?_ | refine l_st ?_ | refine l_al (fun b => ?_) | refine l_bs (fun b => ?_) | refine k_condT ?_ | refine k_condF ?_ | refine k_brk ?_ | refine l_split (fun hc => ?_) (fun hc => ?_) | refine k_cond (fun hc => ?_) (fun hc => ?_))
    exact k_ret () rfl trivial
  · rw [oencS, if_neg h]
    repeat' (first | refine l_run ?_ | refine l_nil ?_ | refine l_one ?_ | refine k_reg ?_ | refine l_ld ?_ | refine l_ldF ?_ | refine l_st ?_ | refine l_al (fun b => ?_) | refine l_bs (fun b => ?_) | refine k_condT ?_ | refine k_condF ?_ | refine k_brk ?_ | refine l_call (hc0) (fun _ _ => ?_) | refine l_call0 (hc0) (fun _ _ => ?_) | (refine l_split (fun hc => ?_) (fun hc => ?_) <;> (try simp at hc) <;> (try omega)) | (refine k_cond (fun hc => ?_) (fun hc => ?_) <;> (try simp at hc) <;> (try omega)))
    exact k_ret () rfl trivial

/-- What read makes of bytes. -/
def oread (s : RS) : Ou × RS :=
  let (ch, s1) := rnum s 4
  let (tg, s2) := rtext s1 64
  let (tx, s3) := rtext s2 4096
  let (us, s4) := rnum s3 65535
  (⟨ch, tg, tx, us⟩, s4)
/-- What Decode makes of a text. -/
def odec (s : ByteArray) : Option Ou :=
  let r := oread ⟨s.data.toList, 0, 0⟩
  if r.2.err = 0 ∧ r.2.rest = [] ∧ ochk r.1 = 0 then some r.1 else none

theorem outRead_ok (b : Nat) (o : Option Addr) (cap : Nat) (s : RS) (hb : s.pos + s.rest.length ≤ 1099511627776) : Enters 115 ∧ Spec Tryz.prog 115 #[.pointer (some ⟨b, 0, none⟩)] [Sl 5 bf o cap s.rest] [Rdr b o cap s]
    ⟨Option Addr × Nat, fun _ => (oread s).1.v, fun _ => True, fun q => [Sl 5 bf q.1 q.2 (oread s).2.rest], fun q => [Rdr b q.1 q.2 (oread s).2]⟩ := by
  have g1 := rstep_le 0 s (pnum s.rest 4) (pnum_le _ _)
  have n1 := rdrNumber_ok b o cap s 4 hb
  unfold oread
  generalize hr1 : rnum s 4 = r1 at *
  obtain ⟨v1, s1⟩ := r1
  have g1 : s1.pos + s1.rest.length ≤ 1099511627776 := by
    have : (rnum s 4).2.pos + (rnum s 4).2.rest.length ≤ s.pos + s.rest.length := g1
    rw [hr1] at this; dsimp only at this; omega
  have g2 := rstep_le ⟨#[]⟩ s1 (ptext s1.rest 64) (ptext_le _ _)
  have n2 := fun o cap => rdrText_ok b o cap s1 64 g1
  dsimp only at *
  generalize hr2 : rtext s1 64 = r2 at *
  obtain ⟨v2, s2⟩ := r2
  have g2 : s2.pos + s2.rest.length ≤ 1099511627776 := by
    have : (rtext s1 64).2.pos + (rtext s1 64).2.rest.length ≤ s1.pos + s1.rest.length := g2
    rw [hr2] at this; dsimp only at this; omega
  have g3 := rstep_le ⟨#[]⟩ s2 (ptext s2.rest 4096) (ptext_le _ _)
  have n3 := fun o cap => rdrText_ok b o cap s2 4096 g2
  dsimp only at *
  generalize hr3 : rtext s2 4096 = r3 at *
  obtain ⟨v3, s3⟩ := r3
  have g3 : s3.pos + s3.rest.length ≤ 1099511627776 := by
    have : (rtext s2 4096).2.pos + (rtext s2 4096).2.rest.length ≤ s2.pos + s2.rest.length := g3
    rw [hr3] at this; dsimp only at this; omega
  have n4 := fun o cap => rdrNumber_ok b o cap s3 65535 g3
  dsimp only at *
  generalize hr4 : rnum s3 65535 = r4 at *
  obtain ⟨v4, s4⟩ := r4
  dsimp only at *
  generalize b = br at *
  refine ⟨enters_of Tryz.func115 (by kernel_rfl) rfl, spec_of (vs := [_]) Tryz.func115 rfl Tryz.ntmps115 rfl fun G w hp => ?_⟩
  repeat' (first | refine l_run ?_ | refine l_nil ?_ | refine l_one ?_ | refine k_reg ?_ | refine l_ld ?_ | refine l_ldF ?_ | refine l_st ?_ | refine l_al (fun b => ?_) | refine l_bs (fun b => ?_) | refine k_condT ?_ | refine k_condF ?_ | refine k_brk ?_ | refine l_call (n1) (fun _ _ => ?_) | refine l_call0 (n1) (fun _ _ => ?_) | refine l_call (n2 _ _) (fun _ _ => ?_) | refine l_call0 (n2 _ _) (fun _ _ => ?_) | refine l_call (n3 _ _) (fun _ _ => ?_) | refine l_call0 (n3 _ _) (fun _ _ => ?_) | refine l_call (n4 _ _) (fun _ _ => ?_) | refine l_call0 (n4 _ _) (fun _ _ => ?_) | refine l_split (fun hc => ?_) (fun hc => ?_) | refine k_cond (fun hc => ?_) (fun hc => ?_))
  rename_i q _
  exact k_ret q rfl trivial

def Ou.z : Ou := ⟨0, ⟨#[]⟩, ⟨#[]⟩, 0⟩
theorem close0 (e : Int) (r : List UInt8) : (if e ≠ 0 then e else if r = [] then 0 else 5) = 0 ↔ e = 0 ∧ r = [] := by
  by_cases h1 : e = 0 <;> by_cases h2 : r = [] <;> simp [h1, h2]
theorem outDecode_ok (s : ByteArray) (hs : s.size ≤ 1099511627776) : Enters 44 ∧ Spec Tryz.prog 44 #[.string s] [] [] (RetV (.tuple #[((odec s).getD Ou.z).v, .int .i64 (if (odec s).isSome then 0 else 3)])) := by
  have hsz : s.data.toList.length = s.size := by simp
  have n1 := fun b o cap => outRead_ok b o cap ⟨s.data.toList, 0, 0⟩ (by dsimp only; omega)
  generalize hd : odec s = d
  unfold odec at hd
  dsimp only at hd n1
  generalize hr : oread ⟨s.data.toList, 0, 0⟩ = r at *
  obtain ⟨ou, s4⟩ := r
  dsimp only at hd n1
  have n2 := fun b o cap => rdrClose_ok b o cap s4
  have n3 := outCheck_ok ou
  refine ⟨enters_of Tryz.func44 (by kernel_rfl) rfl, spec_of (vs := [_]) Tryz.func44 rfl Tryz.ntmps44 rfl fun G w hp => ?_⟩
  repeat' (first | refine l_run ?_ | refine l_nil ?_ | refine l_one ?_ | refine k_reg ?_ | refine l_ld ?_ | refine l_ldF ?_ | refine l_st ?_ | refine l_al (fun b => ?_) | refine l_bs (fun b => ?_) | refine k_condT ?_ | refine k_condF ?_ | refine k_brk ?_ | refine l_call (newReader_ok _ _ s.data.toList (by omega)) (fun _ _ => ?_) | refine l_call0 (newReader_ok _ _ s.data.toList (by omega)) (fun _ _ => ?_) | refine l_call (n1 _ _ _) (fun _ _ => ?_) | refine l_call0 (n1 _ _ _) (fun _ _ => ?_) | refine l_call (n2 _ _ _) (fun _ _ => ?_) | refine l_call0 (n2 _ _ _) (fun _ _ => ?_) | refine l_call (n3) (fun _ _ => ?_) | refine l_call0 (n3) (fun _ _ => ?_) | refine l_s2b (fun o cap => ?_) | refine l_split (fun hc => ?_) (fun hc => ?_) | refine k_cond (fun hc => ?_) (fun hc => ?_))
  · have hc : ¬ (s4.err = 0 ∧ s4.rest = []) := fun h => by rw [(close0 _ _).2 h] at hc; simp at hc
    rw [if_neg fun h => hc ⟨h.1, h.2.1⟩] at hd; subst hd; exact k_ret () rfl trivial
  · have hc : ochk ou ≠ 0 := by simpa using hc
    rw [if_neg fun h => hc h.2.2] at hd; subst hd; exact k_ret () rfl trivial
  · rename_i h0 _ _
    have h0 := (close0 _ _).1 (by simpa using h0)
    have hc : ochk ou = 0 := by simpa using hc
    rw [if_pos ⟨h0.1, h0.2, hc⟩] at hd; subst hd; exact k_ret () rfl trivial
end Go.Proofs.YtijaglinajfplaaGreatDoor
