/-
  Contracts of the package output: Check, write, Encode, read, Decode.
  Contracts of the package output: ledgers, All.
  Texts cut as far as they go.
  The contract of output.All.
  Equality of structs, evaluated; that this is what the model does; rules for it.
  Rules for maps that the program makes.
  Rules for a range over an owned map.
  What a view holds: changes, the last of each name.
  Rules for owned slices that are changed in place; calls of function values where the order is drawn.
  Conditions: those that each theorem states.
-/
import Derived.Test.YtiggkcknmjgicaaGreatDoorMD
import Derived.Test.YtiggkcknmjgicaaGreatDoorMB
import Derived.Laws.StructEq
import Derived.ChangeKeysEq
import Derived.Test.YtiggkcknmjgicaaGreatDoorMC
set_option maxRecDepth 10000
namespace Go.Proofs.YtiggkcknmjgicaaGreatDoor
open Go.RowKit

/-- An output. -/
structure Ou where
  ch : Int
  tg : ByteArray
  tx : ByteArray
  us : Int
  deriving DecidableEq
def ouf (o : Ou) : List Value := [.int .i64 o.ch, .string o.tg, .string o.tx, .int .i64 o.us]
def Ou.v (o : Ou) : Value := .agg #[.int .i64 o.ch, .string o.tg, .string o.tx, .int .i64 o.us]
def bad2 (c : UInt8) : Bool := decide ((c.toNat : Int) < 33) || decide ((126 : Int) < c.toNat)

/-- What Check answers. -/
def ochk (o : Ou) : Int :=
  if o.ch < 1 ∨ 4 < o.ch then 11
  else if isE o.tg then 4
  else if 64 < o.tg.size then 5
  else if o.tg.data.toList.any bad2 then 6
  else if 4096 < o.tx.size then 5
  else if o.us < 0 ∨ 65535 < o.us then 2
  else 0

set_option maxHeartbeats 1000000 in
theorem outCheck_ok (o : Ou) : Enters 77 ∧ Spec Tryz.prog 77 #[o.v] [] [] (RetV (.int .i64 (ochk o))) := by
  have hsz : o.tg.data.toList.length = o.tg.size := by simp
  generalize hr : ochk o = r
  unfold ochk at hr
  refine ⟨enters_of Tryz.func77 (by kernel_rfl) rfl, spec_of (vs := [_]) Tryz.func77 rfl Tryz.ntmps77 rfl fun G w hp => ?_⟩
  repeat' (first | refine l_run ?_ | refine l_nil ?_ | refine l_one ?_ | refine k_reg ?_ | refine l_ld ?_ | refine l_ldF ?_ | refine l_st ?_ | refine l_al (fun b => ?_) | refine l_bs (fun b => ?_) | refine k_condT ?_ | refine k_condF ?_ | refine k_brk ?_ | (refine l_split (fun hc => ?_) (fun hc => ?_) <;> (try simp at hc)) | (refine k_cond (fun hc => ?_) (fun hc => ?_) <;> (try simp at hc)))
  · rw [if_pos (by omega)] at hr; subst hr; exact k_ret () rfl trivial
  · rw [if_pos (by omega)] at hr; subst hr; exact k_ret () rfl trivial
  · have hc : isE o.tg = true := by simpa [isE] using hc
    rw [if_neg (by omega), if_pos hc] at hr; subst hr; exact k_ret () rfl trivial
  · rename_i h1
    have h1 : isE o.tg = false := by simpa [isE] using h1
    rw [if_neg (by omega), if_neg (by simp [h1]), if_pos (by omega)] at hr; subst hr; exact k_ret () rfl trivial
  rename_i h1
  have h1 : isE o.tg = false := by simpa [isE] using h1
  rw [if_neg (by omega), if_neg (by simp [h1]), if_neg (by omega)] at hr
  refine k_lp (X := { i : Nat // i ≤ o.tg.size ∧ ∀ j, j < i → ∀ c, o.tg.data.toList[j]? = some c → bad2 c = false }) (fun i => [(1, .pointer (some ⟨b, 0, none⟩)), (21, .int .i64 (o.tg.size : Int)), (22, .int .i64 (i.1 : Int))]) (fun _ => []) (fun _ => [Pt b (.cells #[.int .i64 o.ch, .string o.tg, .string o.tx, .int .i64 o.us] 72)]) (fun i => o.tg.size - i.1) ⟨0, by omega, fun j hj => by omega⟩ ⟨rfl, rfl, rfl, trivial⟩ ?_
  rintro ⟨i, hi1, hi2⟩
  dsimp only
  by_cases hlt : i < o.tg.data.toList.length
  · obtain ⟨c, hcc⟩ : ∃ c, o.tg.data.toList[i]? = some c := ⟨_, List.getElem?_eq_getElem hlt⟩
    have bad : bad2 c = true → r = 6 := fun hb => by
      rw [← hr, if_pos]
      rw [List.any_eq_true]
      exact ⟨c, List.mem_of_getElem? hcc, hb⟩
    repeat' (first | refine l_run ?_ | refine l_nil ?_ | refine l_one ?_ | refine k_reg ?_ | refine l_ld ?_ | refine l_ldF ?_ | refine l_st ?_ | refine l_al (fun b => ?_) | refine l_bs (fun b => ?_) | refine k_condT ?_ | refine k_condF ?_ | refine k_brk ?_ | refine l_six (s := o.tg) i c hcc ?_ | (refine l_split (fun hc => ?_) (fun hc => ?_) <;> (try simp at hc) <;> (try omega)) | (refine k_cond (fun hc => ?_) (fun hc => ?_) <;> (try simp at hc) <;> (try omega)))
    all_goals try (
      have e := bad (by simp [bad2]; omega)
      exact k_rt (w_lq (w_rv (congrArg (Value.int .i64) e) (w_ret () rfl trivial))))
    rw [wrapi (z := (i : Int) + 1) (by omega) (by omega)]
    refine k_next ⟨i + 1, by omega, fun j hj c' hc' => ?_⟩ (by show o.tg.size - (i + 1) < o.tg.size - i; omega) ⟨rfl, rfl, rfl, trivial⟩
    by_cases hij : j = i
    · subst hij
      obtain rfl := Option.some.inj (hcc.symm.trans hc')
      simp [bad2]; omega
    · exact hi2 j (by omega) c' hc'
  · have e : ¬ (o.tg.data.toList.any bad2 = true) := by
      rw [List.any_eq_true]
      rintro ⟨c, hc, hb⟩
      obtain ⟨j, hj, rfl⟩ := List.mem_iff_getElem.1 hc
      rw [hi2 j (by omega) _ (List.getElem?_eq_getElem hj)] at hb
      cases hb
    rw [if_neg e] at hr
    repeat' (first | refine l_run ?_ | refine l_nil ?_ | refine l_one ?_ | refine k_reg ?_ | refine l_ld ?_ | refine l_ldF ?_ | refine l_st ?_ | refine l_al (fun b => ?_) | refine l_bs (fun b => ?_) | refine k_condT ?_ | refine k_condF ?_ | refine k_brk ?_ | (refine l_split (fun hc => ?_) (fun hc => ?_) <;> (try simp at hc) <;> (try omega)) | (refine k_cond (fun hc => ?_) (fun hc => ?_) <;> (try simp at hc) <;> (try omega)))
    · rw [if_pos (by omega)] at hr; subst hr; exact k_ret () rfl trivial
    · rw [if_neg (by omega), if_pos (by omega)] at hr; subst hr; exact k_ret () rfl trivial
    · rw [if_neg (by omega), if_pos (by omega)] at hr; subst hr; exact k_ret () rfl trivial
    · rw [if_neg (by omega), if_neg (by omega)] at hr; subst hr; exact k_ret () rfl trivial

/-- The bytes of an output. -/
def oenc (o : Ou) : List UInt8 := venc o.ch.toNat ++ (venc o.tg.size ++ o.tg.data.toList) ++ (venc o.tx.size ++ o.tx.data.toList) ++ venc o.us.toNat
theorem ochk_zero {o : Ou} (h : ochk o = 0) : (1 ≤ o.ch ∧ o.ch ≤ 4) ∧ o.tg.size ≤ 64 ∧ o.tx.size ≤ 4096 ∧ 0 ≤ o.us ∧ o.us ≤ 65535 := by
  unfold ochk at h
  split at h
  · cases h
  · split at h
    · cases h
    · split at h
      · cases h
      · split at h
        · cases h
        · split at h
          · cases h
          · split at h
            · cases h
            · omega

theorem outWrite_ok (o : Ou) (b : Nat) (bs : List UInt8) (h : ochk o = 0) (hb : bs.length ≤ 1000000000) : Enters 161 ∧ Spec Tryz.prog 161 #[o.v, .pointer (some ⟨b, 0, none⟩)] [] [Wtr b bs] ⟨Unit, fun _ => .tuple #[], fun _ => True, fun _ => [], fun _ => [Wtr b (bs ++ oenc o)]⟩ := by
  obtain ⟨h1, h2, h3, h4⟩ := ochk_zero h
  have l1 := venc_len10 o.ch.toNat (by omega)
  have l2 := venc_len10 o.tg.size (by omega)
  have l3 := venc_len10 o.tx.size (by omega)
  have e1 : o.ch = ((o.ch.toNat : Nat) : Int) := by omega
  have e2 : o.us = ((o.us.toNat : Nat) : Int) := by omega
  have s1 : o.tg.data.toList.length = o.tg.size := by simp
  have s2 : o.tx.data.toList.length = o.tx.size := by simp
  have n1 := wtrNumber_ok b bs o.ch.toNat (by omega) (by omega)
  rw [← e1] at n1
  have n2 := wtrText_ok b (bs ++ venc o.ch.toNat) o.tg (by omega) (by simp only [List.length_append]; omega)
  have n3 := wtrText_ok b (bs ++ venc o.ch.toNat ++ venc o.tg.size ++ o.tg.data.toList) o.tx (by omega) (by simp only [List.length_append]; omega)
  have n4 := wtrNumber_ok b (bs ++ venc o.ch.toNat ++ venc o.tg.size ++ o.tg.data.toList ++ venc o.tx.size ++ o.tx.data.toList) o.us.toNat (by omega) (by simp only [List.length_append]; omega)
  rw [← e2] at n4
  have e3 : bs ++ oenc o = bs ++ venc o.ch.toNat ++ venc o.tg.size ++ o.tg.data.toList ++ venc o.tx.size ++ o.tx.data.toList ++ venc o.us.toNat := by simp [oenc]
  rw [e3]
  generalize b = bw at *
  refine ⟨enters_of Tryz.func161 (by kernel_rfl) rfl, spec_of (vs := [_, _]) Tryz.func161 rfl Tryz.ntmps161 rfl fun G w hp => ?_⟩
  repeat' (first | refine l_run ?_ | refine l_nil ?_ | refine l_one ?_ | refine k_reg ?_ | refine l_ld ?_ | refine l_ldF ?_ | refine l_st ?_ | refine l_al (fun b => ?_) | refine l_bs (fun b => ?_) | refine k_condT ?_ | refine k_condF ?_ | refine k_brk ?_ | refine l_call (n1) (fun _ _ => ?_) | refine l_call0 (n1) (fun _ _ => ?_) | refine l_call (n2) (fun _ _ => ?_) | refine l_call0 (n2) (fun _ _ => ?_) | refine l_call (n3) (fun _ _ => ?_) | refine l_call0 (n3) (fun _ _ => ?_) | refine l_call (n4) (fun _ _ => ?_) | refine l_call0 (n4) (fun _ _ => ?_) | refine l_split (fun hc => ?_) (fun hc => ?_) | refine k_cond (fun hc => ?_) (fun hc => ?_))
  exact k_end () rfl trivial

def oencS (o : Ou) : ByteArray := if ochk o = 0 then ⟨(oenc o).toArray⟩ else ⟨#[]⟩
theorem oenc_len {o : Ou} (h : ochk o = 0) : (oenc o).length ≤ 5000 := by
  obtain ⟨h1, h2, h3, h4⟩ := ochk_zero h
  have l1 := venc_len10 o.ch.toNat (by omega)
  have l2 := venc_len10 o.tg.size (by omega)
  have l3 := venc_len10 o.tx.size (by omega)
  have l4 := venc_len10 o.us.toNat (by omega)
  have s1 : o.tg.data.toList.length = o.tg.size := by simp
  have s2 : o.tx.data.toList.length = o.tx.size := by simp
  simp only [oenc, List.length_append]; omega

theorem outEncode_ok (o : Ou) : Enters 114 ∧ Spec Tryz.prog 114 #[o.v] [] [] (RetV (.tuple #[.string (oencS o), .int .i64 (ochk o)])) := by
  have hc0 := outCheck_ok o
  refine ⟨enters_of Tryz.func114 (by kernel_rfl) rfl, spec_of (vs := [_]) Tryz.func114 rfl Tryz.ntmps114 rfl fun G w hp => ?_⟩
  by_cases h : ochk o = 0
  · have hw : ∀ bw, _ := fun bw => outWrite_ok o bw [] h (by simp)
    have hl := oenc_len h
    rw [oencS, if_pos h, h]
    rw [h] at hc0
    repeat' (first | refine l_run ?_ | refine l_nil ?_ | refine l_one ?_ | refine k_reg ?_ | refine l_ld ?_ | refine l_ldF ?_ | refine l_st ?_ | refine l_al (fun b => ?_) | refine l_bs (fun b => ?_) | refine k_condT ?_ | refine k_condF ?_ | refine k_brk ?_ | refine l_call (hc0) (fun _ _ => ?_) | refine l_call0 (hc0) (fun _ _ => ?_) | refine l_call (newWriter_ok) (fun _ _ => ?_) | refine l_call0 (newWriter_ok) (fun _ _ => ?_) | refine l_call (hw _) (fun _ _ => ?_) | refine l_call0 (hw _) (fun _ _ => ?_) | refine l_call (wtrBytes_ok _ ([] ++ oenc o) (by simp; omega)) (fun _ _ => ?_) | refine l_call0 (wtrBytes_ok _ ([] ++ oenc o) (by simp; omega)) (fun _ _ => ?_) | refine l_split (fun hc => ?_) (fun hc => ?_) | refine k_cond (fun hc => ?_) (fun hc => ?_))
    refine l_frz (sz := 1) (f := bf) ([] ++ oenc o) ?_ (byt_flat _) rfl
    refine l_b2s ?_
    repeat' (first | refine l_run ?_ | refine l_nil ?_ | refine l_one ?_ | refine k_reg ?_ | refine l_ld ?_ | refine l_ldF ?_ | refine l_st ?_ | refine l_al (fun b => ?_) | refine l_bs (fun b => ?_) | refine k_condT ?_ | refine k_condF ?_ | refine k_brk ?_ | refine l_split (fun hc => ?_) (fun hc => ?_) | refine k_cond (fun hc => ?_) (fun hc => ?_))
    exact k_ret () rfl trivial
  · rw [oencS, if_neg h]
    repeat' (first | refine l_run ?_ | refine l_nil ?_ | refine l_one ?_ | refine k_reg ?_ | refine l_ld ?_ | refine l_ldF ?_ | refine l_st ?_ | refine l_al (fun b => ?_) | refine l_bs (fun b => ?_) | refine k_condT ?_ | refine k_condF ?_ | refine k_brk ?_ | refine l_call (hc0) (fun _ _ => ?_) | refine l_call0 (hc0) (fun _ _ => ?_) | (refine l_split (fun hc => ?_) (fun hc => ?_) <;> (try simp at hc) <;> (try omega)) | (refine k_cond (fun hc => ?_) (fun hc => ?_) <;> (try simp at hc) <;> (try omega)))
    exact k_ret () rfl trivial

/-- What read makes of bytes. -/
def oread (s : RS) : Ou × RS :=
  let (ch, s1) := rnum s 4
  let (tg, s2) := rtext s1 64
  let (tx, s3) := rtext s2 4096
  let (us, s4) := rnum s3 65535
  (⟨ch, tg, tx, us⟩, s4)
/-- What Decode makes of a text. -/
def odec (s : ByteArray) : Option Ou :=
  let r := oread ⟨s.data.toList, 0, 0⟩
  if r.2.err = 0 ∧ r.2.rest = [] ∧ ochk r.1 = 0 then some r.1 else none

theorem outRead_ok (b : Nat) (o : Option Addr) (cap : Nat) (s : RS) (hb : s.pos + s.rest.length ≤ 1099511627776) : Enters 75 ∧ Spec Tryz.prog 75 #[.pointer (some ⟨b, 0, none⟩)] [Sl 5 bf o cap s.rest] [Rdr b o cap s]
    ⟨Option Addr × Nat, fun _ => (oread s).1.v, fun _ => True, fun q => [Sl 5 bf q.1 q.2 (oread s).2.rest], fun q => [Rdr b q.1 q.2 (oread s).2]⟩ := by
  have g1 := rstep_le 0 s (pnum s.rest 4) (pnum_le _ _)
  have n1 := rdrNumber_ok b o cap s 4 hb
  unfold oread
  generalize hr1 : rnum s 4 = r1 at *
  obtain ⟨v1, s1⟩ := r1
  have g1 : s1.pos + s1.rest.length ≤ 1099511627776 := by
    have : (rnum s 4).2.pos + (rnum s 4).2.rest.length ≤ s.pos + s.rest.length := g1
    rw [hr1] at this; dsimp only at this; omega
  have g2 := rstep_le ⟨#[]⟩ s1 (ptext s1.rest 64) (ptext_le _ _)
  have n2 := fun o cap => rdrText_ok b o cap s1 64 g1
  dsimp only at *
  generalize hr2 : rtext s1 64 = r2 at *
  obtain ⟨v2, s2⟩ := r2
  have g2 : s2.pos + s2.rest.length ≤ 1099511627776 := by
    have : (rtext s1 64).2.pos + (rtext s1 64).2.rest.length ≤ s1.pos + s1.rest.length := g2
    rw [hr2] at this; dsimp only at this; omega
  have g3 := rstep_le ⟨#[]⟩ s2 (ptext s2.rest 4096) (ptext_le _ _)
  have n3 := fun o cap => rdrText_ok b o cap s2 4096 g2
  dsimp only at *
  generalize hr3 : rtext s2 4096 = r3 at *
  obtain ⟨v3, s3⟩ := r3
  have g3 : s3.pos + s3.rest.length ≤ 1099511627776 := by
    have : (rtext s2 4096).2.pos + (rtext s2 4096).2.rest.length ≤ s2.pos + s2.rest.length := g3
    rw [hr3] at this; dsimp only at this; omega
  have n4 := fun o cap => rdrNumber_ok b o cap s3 65535 g3
  dsimp only at *
  generalize hr4 : rnum s3 65535 = r4 at *
  obtain ⟨v4, s4⟩ := r4
  dsimp only at *
  generalize b = br at *
  refine ⟨enters_of Tryz.func75 (by kernel_rfl) rfl, spec_of (vs := [_]) Tryz.func75 rfl Tryz.ntmps75 rfl fun G w hp => ?_⟩
  repeat' (first | refine l_run ?_ | refine l_nil ?_ | refine l_one ?_ | refine k_reg ?_ | refine l_ld ?_ | refine l_ldF ?_ | refine l_st ?_ | refine l_al (fun b => ?_) | refine l_bs (fun b => ?_) | refine k_condT ?_ | refine k_condF ?_ | refine k_brk ?_ | refine l_call (n1) (fun _ _ => ?_) | refine l_call0 (n1) (fun _ _ => ?_) | refine l_call (n2 _ _) (fun _ _ => ?_) | refine l_call0 (n2 _ _) (fun _ _ => ?_) | refine l_call (n3 _ _) (fun _ _ => ?_) | refine l_call0 (n3 _ _) (fun _ _ => ?_) | refine l_call (n4 _ _) (fun _ _ => ?_) | refine l_call0 (n4 _ _) (fun _ _ => ?_) | refine l_split (fun hc => ?_) (fun hc => ?_) | refine k_cond (fun hc => ?_) (fun hc => ?_))
  rename_i q _
  exact k_ret q rfl trivial

def Ou.z : Ou := ⟨0, ⟨#[]⟩, ⟨#[]⟩, 0⟩
theorem close0 (e : Int) (r : List UInt8) : (if e ≠ 0 then e else if r = [] then 0 else 5) = 0 ↔ e = 0 ∧ r = [] := by
  by_cases h1 : e = 0 <;> by_cases h2 : r = [] <;> simp [h1, h2]
theorem outDecode_ok (s : ByteArray) (hs : s.size ≤ 1099511627776) : Enters 28 ∧ Spec Tryz.prog 28 #[.string s] [] [] (RetV (.tuple #[((odec s).getD Ou.z).v, .int .i64 (if (odec s).isSome then 0 else 3)])) := by
  have hsz : s.data.toList.length = s.size := by simp
  have n1 := fun b o cap => outRead_ok b o cap ⟨s.data.toList, 0, 0⟩ (by dsimp only; omega)
  generalize hd : odec s = d
  unfold odec at hd
  dsimp only at hd n1
  generalize hr : oread ⟨s.data.toList, 0, 0⟩ = r at *
  obtain ⟨ou, s4⟩ := r
  dsimp only at hd n1
  have n2 := fun b o cap => rdrClose_ok b o cap s4
  have n3 := outCheck_ok ou
  refine ⟨enters_of Tryz.func28 (by kernel_rfl) rfl, spec_of (vs := [_]) Tryz.func28 rfl Tryz.ntmps28 rfl fun G w hp => ?_⟩
  repeat' (first | refine l_run ?_ | refine l_nil ?_ | refine l_one ?_ | refine k_reg ?_ | refine l_ld ?_ | refine l_ldF ?_ | refine l_st ?_ | refine l_al (fun b => ?_) | refine l_bs (fun b => ?_) | refine k_condT ?_ | refine k_condF ?_ | refine k_brk ?_ | refine l_call (newReader_ok _ _ s.data.toList (by omega)) (fun _ _ => ?_) | refine l_call0 (newReader_ok _ _ s.data.toList (by omega)) (fun _ _ => ?_) | refine l_call (n1 _ _ _) (fun _ _ => ?_) | refine l_call0 (n1 _ _ _) (fun _ _ => ?_) | refine l_call (n2 _ _ _) (fun _ _ => ?_) | refine l_call0 (n2 _ _ _) (fun _ _ => ?_) | refine l_call (n3) (fun _ _ => ?_) | refine l_call0 (n3) (fun _ _ => ?_) | refine l_s2b (fun o cap => ?_) | refine l_split (fun hc => ?_) (fun hc => ?_) | refine k_cond (fun hc => ?_) (fun hc => ?_))
  · have hc : ¬ (s4.err = 0 ∧ s4.rest = []) := fun h => by rw [(close0 _ _).2 h] at hc; simp at hc
    rw [if_neg fun h => hc ⟨h.1, h.2.1⟩] at hd; subst hd; exact k_ret () rfl trivial
  · have hc : ochk ou ≠ 0 := by simpa using hc
    rw [if_neg fun h => hc h.2.2] at hd; subst hd; exact k_ret () rfl trivial
  · rename_i h0 _ _
    have h0 := (close0 _ _).1 (by simpa using h0)
    have hc : ochk ou = 0 := by simpa using hc
    rw [if_pos ⟨h0.1, h0.2, hc⟩] at hd; subst hd; exact k_ret () rfl trivial
end Go.Proofs.YtiggkcknmjgicaaGreatDoor

set_option maxRecDepth 10000
namespace Go.Proofs.YtiggkcknmjgicaaGreatDoor
open Go.RowKit

section
variable {n : Nat} {C : Cx} {Q : Exit → Act → World → Prop} {E E' : List (Nat × Value)} {F F' F1 Fs F0 : List Pf} {R R' R0 Rs N N' A : List HP} {k k' : List Fr} {ops l : List Oper} {L L' : List (Nat × Nat)} {Tl : List Nat}
  {i d : Nat} {t ty0 : TypeId} {x y : Operand} {pos : String} {aft : Array Edge} {gd : Option (Nat × Bool)} {b off : Nat} {cs : Array Value} {ty : TypeId} {fzn : Nat × Nat} {v : Value}

/-- The address of an element, by the slice alone. -/
theorem r_ixP {T sz m cap : Nat} {z : Int} {rs tr : TRow} (j : Nat) (hlt : j < m) (nx : Wr n C ops k Q Tl Fs R L ((d, .pointer (some ⟨b, j * sz, none⟩)) :: E) F N)
    (ho : nth ops i = some ⟨some d, .indexAddr t x y, ty0, pos, aft, gd⟩ := by rfl) (hw : wantL ops E ⟨some d, .indexAddr t x y, ty0, pos, aft, gd⟩ = some true := by rfl) (hx : ev E x = some (.slice (some ⟨b, 0, none⟩) m cap) := by rfl) (hy : ev E y = some (.int .i64 z) := by rfl)
    (hts : lookT tab t = some rs := by rfl) (hrs : rs.k = .slice T := by rfl) (hT : lookT tab T = some tr := by rfl) (hsz : tr.size = sz := by rfl) (hz : z = (j : Int) := by first | rfl | omega) : Wr n C ops k Q Tl Fs R ((i, 0) :: L) E F N :=
  r_q (fun a w ha => by
    have hr1 := run_indexAt (o := some ⟨b, 0, none⟩) (m := m) (cap := cap) (w := w) hts hrs hT hsz hz hlt (p := ⟨b, j * sz, none⟩) (by simp [add_add rfl])
    simp only [execOp, ha.ev (x := x) (by rw [evf_look]; exact hx), ha.ev (x := y) (by rw [evf_look]; exact hy), Sem.run_bind, Result.andThen, hr1, Sem.run_pure]) nx ho hw
/-- A load out of a part of an owned block. -/
theorem r_ldX {off' o : Nat} {pre xs post : List Value} (nx : Wr n C ops k Q Tl Fs R L ((d, v) :: E) F N) (hcs : cs.toList = pre ++ (xs ++ post)) (ho : off' = pre.length + o) (hop : nth ops i = some ⟨some d, .load t x, ty0, pos, aft, gd⟩ := by rfl) (hw : wantL ops E ⟨some d, .load t x, ty0, pos, aft, gd⟩ = some true := by rfl)
    (hx : ev E x = some (.pointer (some ⟨b, off', none⟩)) := by rfl) (hs : Sel (Pt b (.cells cs ty fzn)) R R0 := by (repeat (first | exact Sel.here | apply Sel.there)); first | done | fail) (hv : ldv t xs o = some v := by rfl) :
    Wr n C ops k Q Tl Fs R ((i, 0) :: L) E F N :=
  wr_go hop fun hp hr w st hz sb => by
    simp only [wantL_ok hw]
    refine ⟨v, fun a w ha hin => ?_, nx hp hr w st hz sb⟩
    have hr := ldv_ok (off := off') (t := t) (v := v) (hin _ _ (sb _ _ (stat_pt st hs))) (by rw [hcs, ho]; exact ldv_in hv)
    simp only [execOp, Instr.loadAt, ha.ev (by rw [evf_look]; exact hx), Instr.sureAddr, Sem.run_bind, Sem.run_pure, Result.andThen, hr]
end

/-- An output with its maker, number and tick. -/
structure En where
  who : ByteArray
  nu : Int
  tk : Int
  o : Ou
  deriving DecidableEq
def enf (e : En) : List Value := [.string e.who, .int .i64 e.nu, .int .i64 e.tk, .int .i64 e.o.ch, .string e.o.tg, .string e.o.tx, .int .i64 e.o.us]
/-- What has left. -/
structure Lf where
  e : En
  tm : Int
  rd : Int
  deriving DecidableEq
def lff (x : Lf) : List Value := [.string x.e.who, .int .i64 x.e.nu, .int .i64 x.e.tk, .int .i64 x.e.o.ch, .string x.e.o.tg, .string x.e.o.tx, .int .i64 x.e.o.us, .int .i64 x.tm, .int .i64 x.rd]
def Lf.v (x : Lf) : Value := .agg #[.string x.e.who, .int .i64 x.e.nu, .int .i64 x.e.tk, .int .i64 x.e.o.ch, .string x.e.o.tg, .string x.e.o.tx, .int .i64 x.e.o.us, .int .i64 x.tm, .int .i64 x.rd]

def tick (z : Int) : Bool := decide (0 ≤ z) && decide (z ≤ 1073741824)
def lchk (x : Lf) : Int :=
  if lvalid x.e.who.data.toList = false then 12
  else if x.e.nu < 0 ∨ 1048576 < x.e.nu ∨ tick x.e.tk = false ∨ tick x.tm = false ∨ x.rd < 0 ∨ 1048576 < x.rd then 2
  else ochk x.e.o

set_option maxHeartbeats 1000000 in
theorem leftCheck_ok (x : Lf) (hx : x.e.who.size ≤ 1099511627776) : Enters 78 ∧ Spec Tryz.prog 78 #[x.v] [] [] (RetV (.int .i64 (lchk x))) := by
  have n1 := valid_ok x.e.who hx
  have n2 := outCheck_ok x.e.o
  have n3 := isTick_ok x.e.tk
  have n4 := isTick_ok x.tm
  rw [show (decide (0 ≤ x.e.tk) && decide (x.e.tk ≤ 1073741824)) = tick x.e.tk from rfl] at n3
  rw [show (decide (0 ≤ x.tm) && decide (x.tm ≤ 1073741824)) = tick x.tm from rfl] at n4
  generalize hr : lchk x = r
  unfold lchk at hr
  refine ⟨enters_of Tryz.func78 (by kernel_rfl) rfl, spec_of (vs := [_]) Tryz.func78 rfl Tryz.ntmps78 rfl fun G w hp => ?_⟩
  cases hv : lvalid x.e.who.data.toList <;> cases ht1 : tick x.e.tk <;> cases ht2 : tick x.tm
  all_goals rw [hv] at n1 hr
  all_goals rw [ht1] at n3 hr
  all_goals rw [ht2] at n4 hr
  all_goals simp only [Bool.true_eq_false, if_true, if_false, true_or, or_true, false_or] at hr
  all_goals repeat' (first | refine l_run ?_ | refine l_nil ?_ | refine l_one ?_ | refine k_reg ?_ | refine l_ld ?_ | refine l_ldF ?_ | refine l_st ?_ | refine l_al (fun b => ?_) | refine l_bs (fun b => ?_) | refine k_condT ?_ | refine k_condF ?_ | refine k_brk ?_ | refine l_call (n1) (fun _ _ => ?_) | refine l_call0 (n1) (fun _ _ => ?_) | refine l_call (n2) (fun _ _ => ?_) | refine l_call0 (n2) (fun _ _ => ?_) | refine l_call (n3) (fun _ _ => ?_) | refine l_call0 (n3) (fun _ _ => ?_) | refine l_call (n4) (fun _ _ => ?_) | refine l_call0 (n4) (fun _ _ => ?_) | (refine l_split (fun hc => ?_) (fun hc => ?_) <;> (try simp at hc) <;> (try omega)) | (refine k_cond (fun hc => ?_) (fun hc => ?_) <;> (try simp at hc) <;> (try omega)))
  all_goals first
    | (subst hr; exact k_ret () rfl trivial)
    | (rw [if_pos (by omega)] at hr; subst hr; exact k_ret () rfl trivial)
    | (rw [if_neg (by omega)] at hr; subst hr; exact k_ret () rfl trivial)

/-- A ledger that is owned. -/
abbrev LgL (b : Nat) (ls : List Lf) (q : Option Addr × Nat) : List HP := [Pt b (.cells #[.slice q.1 ls.length q.2] 153), Row 89 9 q.1 ls.length q.2 (ls.flatMap lff)]
def Lg (b : Nat) (ls : List Lf) : HP := fun h => ∃ q, True ∧ Sep (LgL b ls q) h
/-- A ledger that stays. -/
def LgF (b : Nat) (ls : List Lf) : Pf := ⟨fun h => ∃ q : Option Addr × Nat, (Blk b (.cells #[.slice q.1 ls.length q.2] 153)).p h ∧ (Sl 89 lff q.1 q.2 ls).p h, fun _ _ s ⟨q, h1, h2⟩ => ⟨q, Pf.m _ _ _ s h1, Pf.m _ _ _ s h2⟩⟩

theorem newLedger_ok : Enters 29 ∧ Spec Tryz.prog 29 #[] [] [] ⟨Nat, fun b => .pointer (some ⟨b, 0, none⟩), fun _ => True, fun _ => [], fun b => [Lg b []]⟩ := by
  refine ⟨enters_of Tryz.func29 (by kernel_rfl) rfl, spec_of (vs := []) Tryz.func29 rfl Tryz.ntmps29 rfl fun G w hp => ?_⟩
  repeat' (first | refine l_run ?_ | refine l_nil ?_ | refine l_one ?_ | refine k_reg ?_ | refine l_ld ?_ | refine l_ldF ?_ | refine l_st ?_ | refine l_al (fun b => ?_) | refine l_bs (fun b => ?_) | refine k_condT ?_ | refine k_condF ?_ | refine k_brk ?_ | refine l_split (fun hc => ?_) (fun hc => ?_) | refine k_cond (fun hc => ?_) (fun hc => ?_))
  refine k_shut (Lx := []) (r := Row 89 9 none 0 0 []) (fun h _ => row_nil _ _ h) ?_
  refine k_shut (Lx := LgL b [] (none, 0)) (r := Lg b []) (fun h hh => ⟨(none, 0), trivial, hh⟩) ?_
  exact k_ret b rfl trivial

/-- What Leave answers. -/
def late (ls : List Lf) (x : Lf) : Bool := match ls.getLast? with | some y => decide (x.tm < y.tm) || decide (x.rd < y.rd) | none => false
def leaveE (ls : List Lf) (x : Lf) : Int := if lchk x ≠ 0 then lchk x else if late ls x then 32 else if 100000 ≤ ls.length then 9 else 0

section
variable {n : Nat} {C : Cx} {Q : Exit → Act → World → Prop} {E E' : List (Nat × Value)} {F : List Pf} {R R0 : List HP} {k : List Fr}
/-- An owned slice that is not empty is opened. -/
structure RowAt (sz m cap : Nat) (xs : List Value) (o : Option Addr) (q : Nat × List Value × (Nat × Nat)) : Prop where
  o : o = some ⟨q.1, 0, none⟩
  l : xs.length = m * sz
  c : (xs ++ q.2.1).length = cap * sz
  m : m ≤ cap
  f : q.2.2 = (0, 0) ∨ (xs ++ q.2.1).length ≤ q.2.2.1
theorem k_row {T sz m cap : Nat} {o : Option Addr} {xs : List Value} (hm : 0 < m) (t : ∀ q, RowAt sz m cap xs o q → Wk n C k Q E F (Pt q.1 (.cells (xs ++ q.2.1).toArray T q.2.2) :: R0)) (hs : Sel (Row T sz o m cap xs) R R0 := by (repeat (first | exact Sel.here | apply Sel.there)); first | done | fail) : Wk n C k Q E F R :=
  k_open (X := Nat × List Value × (Nat × Nat)) (Lx := fun q => [Pt q.1 (.cells (xs ++ q.2.1).toArray T q.2.2)]) (p := fun q => RowAt sz m cap xs o q) (r := Row T sz o m cap xs) hs (fun h hh => by
    rcases hh with ⟨_, h2, _⟩ | ⟨b, rest, fz, h1, h2, h3, h4, h5, h6⟩
    · omega
    · exact ⟨(b, rest, fz), ⟨h1, h3, h4, h5, h6⟩, h, emp, (fun _ => .inr rfl), Sub.refl _, (fun _ _ e => by cases e), h2, trivial⟩) t
theorem row_shut {T sz m cap : Nat} {o : Option Addr} {xs : List Value} {q : Nat × List Value × (Nat × Nat)} (hq : RowAt sz m cap xs o q) (h : H) (hh : Sep [Pt q.1 (.cells (xs ++ q.2.1).toArray T q.2.2)] h) : Row T sz o m cap xs h := by
  obtain ⟨h1, h2, _, s1, _, hx, _⟩ := hh
  exact .inr ⟨q.1, q.2.1, q.2.2, hq.o, s1 _ _ hx, hq.l, hq.c, hq.m, hq.f⟩
end

def LvPost (b : Nat) (ls : List Lf) (x : Lf) : Post := ⟨Unit, fun _ => .tuple #[.int .i64 (if leaveE ls x = 0 then (ls.length : Int) else 0), .int .i64 (leaveE ls x)], fun _ => True, fun _ => [], fun _ => [Lg b (if leaveE ls x = 0 then ls ++ [x] else ls)]⟩

theorem lvPost_no {b : Nat} {ls : List Lf} {x : Lf} {e : Int} (he : leaveE ls x = e) (h0 : e ≠ 0) : LvPost b ls x = ⟨Unit, fun _ => .tuple #[.int .i64 0, .int .i64 e], fun _ => True, fun _ => [], fun _ => [Lg b ls]⟩ := by
  simp [LvPost, he, h0]
theorem lvPost_ok {b : Nat} {ls : List Lf} {x : Lf} (he : leaveE ls x = 0) : LvPost b ls x = ⟨Unit, fun _ => .tuple #[.int .i64 (ls.length : Int), .int .i64 0], fun _ => True, fun _ => [], fun _ => [Lg b (ls ++ [x])]⟩ := by
  simp [LvPost, he]

section
variable {n : Nat} {C : Cx} {Q : Exit → Act → World → Prop} {E E' : List (Nat × Value)} {F : List Pf} {R R0 : List HP} {k : List Fr}
theorem k_lg {b : Nat} {ls : List Lf} (t : ∀ q, Wk n C k Q E F (LgL b ls q ++ R0)) (hs : Sel (Lg b ls) R R0 := by (repeat (first | exact Sel.here | apply Sel.there)); first | done | fail) : Wk n C k Q E F R :=
  k_open (X := Option Addr × Nat) (Lx := fun q => LgL b ls q) (p := fun _ => True) (r := Lg b ls) hs (fun _h hh => hh) (fun q _ => t q)
theorem k_lg' {b m : Nat} {ls : List Lf} {xs : List Value} {o : Option Addr} {cap : Nat} (t : Wk n C k Q E F (Lg b ls :: R0)) (hm : m = ls.length) (hx : xs = ls.flatMap lff) (hs : Sels [Pt b (.cells #[.slice o m cap] 153), Row 89 9 o m cap xs] R R0 := by (repeat (first | exact Sels.nil | exact Sel.here | apply Sel.there | apply Sels.cons)); first | done | fail) : Wk n C k Q E F R := by
  subst hm; subst hx
  exact k_shut (fun h hh => ⟨(o, cap), trivial, hh⟩) t hs
end

theorem leave_bad (b : Nat) (ls : List Lf) (x : Lf) (hx : x.e.who.size ≤ 1099511627776) (h0 : lchk x ≠ 0) : Enters 30 ∧ Spec Tryz.prog 30 #[.pointer (some ⟨b, 0, none⟩), x.v] [] [Lg b ls] (LvPost b ls x) := by
  have n1 := leftCheck_ok x hx
  generalize b = bl at *
  rw [lvPost_no (e := lchk x) (by simp [leaveE, h0]) h0]
  refine ⟨enters_of Tryz.func30 (by kernel_rfl) rfl, spec_of (vs := [_, _]) Tryz.func30 rfl Tryz.ntmps30 rfl fun G w hp => ?_⟩
  repeat' (first | refine l_run ?_ | refine l_nil ?_ | refine l_one ?_ | refine k_reg ?_ | refine l_ld ?_ | refine l_ldF ?_ | refine l_st ?_ | refine l_al (fun b => ?_) | refine l_bs (fun b => ?_) | refine k_condT ?_ | refine k_condF ?_ | refine k_brk ?_ | refine r_run ?_ | refine r_one ?_ | refine r_ld ?_ | refine r_ldF ?_ | refine r_ldN ?_ | refine r_al (fun b => ?_) | refine r_bs (fun b => ?_) | refine r_st ?_ | refine r_end ?_ | refine l_call (n1) (fun _ _ => ?_) | refine l_call0 (n1) (fun _ _ => ?_) | refine r_call (n1) (fun _ _ => ?_) | (refine l_split (fun hc => ?_) (fun hc => ?_) <;> (try simp at hc) <;> (try omega)) | (refine r_split (fun hc => ?_) (fun hc => ?_) <;> (try simp at hc) <;> (try omega)) | refine k_draw 7 [] [(0, 0), (1, 0), (2, 0), (3, 0), (4, 0), (5, 0), (6, 0), (7, 0), (8, 0), (9, 0), (10, 0), (11, 0), (12, 0), (13, 0), (14, 0), (15, 0), (16, 0), (17, 0), (18, 0), (19, 0), (20, 0), (21, 0), (22, 0), (23, 0), (24, 0), (25, 0), (26, 0), (27, 0), (28, 0), (29, 0)] [] ?_ | refine k_draw 11 [] [(0, 0), (1, 0), (2, 0), (3, 0), (4, 0), (5, 0), (6, 1), (7, 4), (8, 0), (9, 0)] [10] ?_ | (refine k_cond (fun hc => ?_) (fun hc => ?_) <;> (try simp at hc) <;> (try omega)))
  exact k_ret () rfl trivial

theorem leave_nil (b : Nat) (x : Lf) (hx : x.e.who.size ≤ 1099511627776) (h0 : lchk x = 0) : Enters 30 ∧ Spec Tryz.prog 30 #[.pointer (some ⟨b, 0, none⟩), x.v] [] [Lg b []] (LvPost b [] x) := by
  have n1 := leftCheck_ok x hx
  generalize b = bl at *
  rw [lvPost_ok (by simp [leaveE, h0, late])]
  rw [h0] at n1
  refine ⟨enters_of Tryz.func30 (by kernel_rfl) rfl, spec_of (vs := [_, _]) Tryz.func30 rfl Tryz.ntmps30 rfl fun G w hp => ?_⟩
  refine k_lg fun q => ?_
  repeat' (first | refine l_run ?_ | refine l_nil ?_ | refine l_one ?_ | refine k_reg ?_ | refine l_ld ?_ | refine l_ldF ?_ | refine l_st ?_ | refine l_al (fun b => ?_) | refine l_bs (fun b => ?_) | refine k_condT ?_ | refine k_condF ?_ | refine k_brk ?_ | refine r_run ?_ | refine r_one ?_ | refine r_ld ?_ | refine r_ldF ?_ | refine r_ldN ?_ | refine r_al (fun b => ?_) | refine r_bs (fun b => ?_) | refine r_st ?_ | refine r_end ?_ | refine l_call (n1) (fun _ _ => ?_) | refine l_call0 (n1) (fun _ _ => ?_) | refine r_call (n1) (fun _ _ => ?_) | refine r_app1 (fun o' cap' => ?_) | (refine l_split (fun hc => ?_) (fun hc => ?_) <;> (try simp at hc) <;> (try omega)) | (refine r_split (fun hc => ?_) (fun hc => ?_) <;> (try simp at hc) <;> (try omega)) | refine k_draw 7 [] [(0, 0), (1, 0), (2, 0), (3, 0), (4, 0), (5, 0), (6, 0), (7, 0), (8, 0), (9, 0), (10, 0), (11, 0), (12, 0), (13, 0), (14, 0), (15, 0), (16, 0), (17, 0), (18, 0), (19, 0), (20, 0), (21, 0), (22, 0), (23, 0), (24, 0), (25, 0), (26, 0), (27, 0), (28, 0), (29, 0)] [] ?_ | refine k_draw 11 [Row _ _ _ _ _ _] [(0, 0), (1, 0), (2, 0), (3, 0), (4, 0), (5, 0), (6, 1), (7, 4), (8, 0), (9, 0)] [10] ?_ | (refine k_cond (fun hc => ?_) (fun hc => ?_) <;> (try simp at hc) <;> (try omega)))
  refine k_lg' (ls := [] ++ [x]) (o := o') (cap := cap') ?_ rfl rfl
  exact k_ret () rfl trivial

set_option maxHeartbeats 2000000 in
theorem leave_cons (b : Nat) (init : List Lf) (y x : Lf) (hx : x.e.who.size ≤ 1099511627776) (h0 : lchk x = 0) (hl : init.length ≤ 1000000) : Enters 30 ∧ Spec Tryz.prog 30 #[.pointer (some ⟨b, 0, none⟩), x.v] [] [Lg b (init ++ [y])] (LvPost b (init ++ [y]) x) := by
  have n1 := leftCheck_ok x hx
  rw [h0] at n1
  generalize b = bl at *
  have hlen : (init ++ [y]).length = init.length + 1 := by simp
  have hlate : late (init ++ [y]) x = (decide (x.tm < y.tm) || decide (x.rd < y.rd)) := by simp [late]
  have hpre : (init.flatMap lff).length = init.length * 9 := flat_len (sz := 9) (fun _ => rfl) init
  generalize hpost : LvPost bl (init ++ [y]) x = post
  refine ⟨enters_of Tryz.func30 (by kernel_rfl) rfl, spec_of (vs := [_, _]) Tryz.func30 rfl Tryz.ntmps30 rfl fun G w hp => ?_⟩
  refine k_lg fun q => ?_
  dsimp only [LgL]
  rw [hlen]
  refine k_row (T := 89) (sz := 9) (o := q.1) (m := init.length + 1) (cap := q.2) (xs := (init ++ [y]).flatMap lff) (by omega) (fun r hr => ?_)
  have ho := hr.o
  obtain ⟨q1, q2⟩ := q
  dsimp only at ho
  subst ho
  obtain ⟨rb, rest, fz⟩ := r
  dsimp only at hr ⊢
  have hcs : (((init ++ [y]).flatMap lff ++ rest).toArray).toList = init.flatMap lff ++ (lff y ++ rest) := by simp
  repeat' (first | refine l_run ?_ | refine l_nil ?_ | refine l_one ?_ | refine k_reg ?_ | refine l_ld ?_ | refine l_ldF ?_ | refine l_st ?_ | refine l_al (fun b => ?_) | refine l_bs (fun b => ?_) | refine k_condT ?_ | refine k_condF ?_ | refine k_brk ?_ | refine r_run ?_ | refine r_one ?_ | refine r_ld ?_ | refine r_ldF ?_ | refine r_ldN ?_ | refine r_al (fun b => ?_) | refine r_bs (fun b => ?_) | refine r_st ?_ | refine r_end ?_ | refine l_call (n1) (fun _ _ => ?_) | refine l_call0 (n1) (fun _ _ => ?_) | refine r_call (n1) (fun _ _ => ?_) | refine r_ixP (m := init.length + 1) init.length (by omega) ?_ | refine r_ldX (o := 7) (off' := init.length * 9 + (6 + 1)) (pre := init.flatMap lff) (xs := lff y) (post := rest) ?_ hcs (by rw [hpre]) | refine r_ldX (o := 8) (off' := init.length * 9 + (7 + 1)) (pre := init.flatMap lff) (xs := lff y) (post := rest) ?_ hcs (by rw [hpre]) | rw [wrapi (z := ((init.length + 1 : Nat) : Int) - 1) (by omega) (by omega)] | (refine l_split (fun hc => ?_) (fun hc => ?_) <;> (try simp at hc) <;> (try omega)) | (refine r_split (fun hc => ?_) (fun hc => ?_) <;> (try simp at hc) <;> (try omega)) | refine k_draw 7 [] [(0, 0), (1, 0), (2, 0), (3, 0), (4, 0), (5, 0), (6, 0), (7, 0), (8, 0), (9, 0), (10, 0), (11, 0), (12, 0), (13, 0), (14, 0), (15, 0), (16, 0), (17, 0), (18, 0), (19, 0), (20, 0), (21, 0), (22, 0), (23, 0), (24, 0), (25, 0), (26, 0), (27, 0), (28, 0), (29, 0)] [] ?_ | (refine k_cond (fun hc => ?_) (fun hc => ?_) <;> (try simp at hc) <;> (try omega)))
  all_goals refine k_shut (Lx := [Pt rb (.cells ((init ++ [y]).flatMap lff ++ rest).toArray 89 fz)]) (r := Row 89 9 (some ⟨rb, 0, none⟩) (init.length + 1) q2 ((init ++ [y]).flatMap lff)) (fun h hh => row_shut hr h hh) ?_
  · have e : leaveE (init ++ [y]) x = 32 := by simp [leaveE, h0, hlate, hc]
    rw [lvPost_no (e := 32) e (by decide)] at hpost
    subst hpost
    refine k_lg' (ls := init ++ [y]) (o := some ⟨rb, 0, none⟩) (cap := q2) ?_ hlen.symm rfl
    exact k_ret () rfl trivial
  · have e : leaveE (init ++ [y]) x = 32 := by simp [leaveE, h0, hlate, hc]
    rw [lvPost_no (e := 32) e (by decide)] at hpost
    subst hpost
    refine k_lg' (ls := init ++ [y]) (o := some ⟨rb, 0, none⟩) (cap := q2) ?_ hlen.symm rfl
    exact k_ret () rfl trivial
  · rename_i h1 h2 _
    have e : leaveE (init ++ [y]) x = 9 := by
      rw [leaveE, if_neg (by simp [h0]), if_neg (by rw [hlate]; simp; omega), if_pos (by rw [hlen]; omega)]
    rw [lvPost_no (e := 9) e (by decide)] at hpost
    subst hpost
    refine k_lg' (ls := init ++ [y]) (o := some ⟨rb, 0, none⟩) (cap := q2) ?_ hlen.symm rfl
    exact k_ret () rfl trivial
  · have e : leaveE (init ++ [y]) x = 0 := by
      rw [leaveE, if_neg (by simp [h0]), if_neg (by rw [hlate]; simp; omega), if_neg (by rw [hlen]; omega)]
    rw [lvPost_ok e, hlen] at hpost
    subst hpost
    repeat' (first | refine l_run ?_ | refine l_nil ?_ | refine l_one ?_ | refine k_reg ?_ | refine l_ld ?_ | refine l_ldF ?_ | refine l_st ?_ | refine l_al (fun b => ?_) | refine l_bs (fun b => ?_) | refine k_condT ?_ | refine k_condF ?_ | refine k_brk ?_ | refine r_run ?_ | refine r_one ?_ | refine r_ld ?_ | refine r_ldF ?_ | refine r_ldN ?_ | refine r_al (fun b => ?_) | refine r_bs (fun b => ?_) | refine r_st ?_ | refine r_end ?_ | refine r_app1 (fun o' cap' => ?_) | (refine l_split (fun hc => ?_) (fun hc => ?_) <;> (try simp at hc)) | (refine r_split (fun hc => ?_) (fun hc => ?_) <;> (try simp at hc)) | refine k_draw 7 [] [(0, 0), (1, 0), (2, 0), (3, 0), (4, 0), (5, 0), (6, 0), (7, 0), (8, 0), (9, 0), (10, 0), (11, 0), (12, 0), (13, 0), (14, 0), (15, 0), (16, 0), (17, 0), (18, 0), (19, 0), (20, 0), (21, 0), (22, 0), (23, 0), (24, 0), (25, 0), (26, 0), (27, 0), (28, 0), (29, 0)] [] ?_ | refine k_draw 11 [Row _ _ _ _ _ _] [(0, 0), (1, 0), (2, 0), (3, 0), (4, 0), (5, 0), (6, 1), (7, 4), (8, 0), (9, 0)] [10] ?_ | (refine k_cond (fun hc => ?_) (fun hc => ?_) <;> (try simp at hc)))
    refine k_lg' (m := init.length + 1 + 1) (xs := (init ++ [y]).flatMap lff ++ lff x) (ls := init ++ [y] ++ [x]) (o := o') (cap := cap') ?_ (by simp) (by simp)
    exact k_ret () rfl trivial

theorem leave_ok (b : Nat) (ls : List Lf) (x : Lf) (hx : x.e.who.size ≤ 1099511627776) (hl : ls.length ≤ 1000000) : Enters 30 ∧ Spec Tryz.prog 30 #[.pointer (some ⟨b, 0, none⟩), x.v] [] [Lg b ls] (LvPost b ls x) := by
  by_cases h0 : lchk x = 0
  · rcases List.eq_nil_or_concat ls with rfl | ⟨init, y, rfl⟩
    · exact leave_nil b x hx h0
    · simp only [List.concat_eq_append] at hl ⊢
      exact leave_cons b init y x hx h0 (by simp at hl; omega)
  · exact leave_bad b ls x hx h0

/-! A ledger that stays. -/
section
variable {n : Nat} {C : Cx} {Q : Exit → Act → World → Prop} {E E' : List (Nat × Value)} {F F0 : List Pf} {R R0 : List HP} {k : List Fr}
theorem k_lgf {b : Nat} {ls : List Lf} (t : ∀ o cap, Wk n C k Q E (Blk b (.cells #[.slice o ls.length cap] 153) :: Sl 89 lff o cap ls :: F) R) (hs : Sel (LgF b ls) F F0 := by (repeat (first | exact Sel.here | apply Sel.there)); first | done | fail) : Wk n C k Q E F R :=
  k_fact (X := Option Addr × Nat) (Fx := fun q => [Blk b (.cells #[.slice q.1 ls.length q.2] 153), Sl 89 lff q.1 q.2 ls]) (p := fun _ => True) (f := LgF b ls) hs (fun h ⟨q, h1, h2⟩ => ⟨q, trivial, fun f hf => by
    simp only [List.mem_cons, List.not_mem_nil, or_false] at hf
    rcases hf with rfl | rfl
    · exact h1
    · exact h2⟩) (fun q _ => t q.1 q.2)
/-- A ledger is no more written. -/
theorem k_lgz {b : Nat} {ls : List Lf} (t : Wk n C k Q E (LgF b ls :: F) R0) (hs : Sel (Lg b ls) R R0 := by (repeat (first | exact Sel.here | apply Sel.there)); first | done | fail) : Wk n C k Q E F R := by
  refine k_open (X := Option Addr × Nat) (Lx := fun q => LgL b ls q) (p := fun _ => True) (r := Lg b ls) hs (fun h hh => hh) (fun q _ => ?_)
  refine k_fz (b := b) (o := .cells #[.slice q.1 ls.length q.2] 153) ?_
  refine k_frz (T := 89) (sz := 9) (f := lff) (o := q.1) (cap := q.2) ls ?_ rfl rfl
  refine k_mk (F1 := [Blk b (.cells #[.slice q.1 ls.length q.2] 153), Sl 89 lff q.1 q.2 ls]) (f := LgF b ls) (fun hp hF => ⟨q, hF _ (by simp), hF _ (by simp)⟩) ?_
  intro a w ha hs
  exact t a w ha (hs.facts fun hp hF x hx => by
    rcases List.mem_cons.1 hx with rfl | hx
    · exact hF _ (by simp)
    · exact hF _ (by simp [hx]))
end

end Go.Proofs.YtiggkcknmjgicaaGreatDoor

set_option maxRecDepth 10000
namespace Go.Proofs.YtiggkcknmjgicaaGreatDoor
open Go.RowKit

section
variable {n : Nat} {C : Cx} {Q : Exit → Act → World → Prop} {E E' : List (Nat × Value)} {F F' F1 Fs F0 : List Pf} {R R' R0 Rs N N' A : List HP} {k k' : List Fr} {ops l : List Oper} {L L' : List (Nat × Nat)} {Tl : List Nat}
  {i d : Nat} {t t2 ty0 : TypeId} {x y : Operand} {pos : String} {aft : Array Edge} {gd : Option (Nat × Bool)}
theorem run_scut {s : ByteArray} {z : Int} {rs : TRow} {w : World} (hi : Nat) (hle : hi ≤ s.size) (hts : lookT tab t = some rs) (hrs : rs.k = .str) (hz : z = (hi : Int)) : (Instr.sliceAt t (.string s) none (some (.int .i64 z)) none).run Tryz.prog w = .ok (.string (s.extract 0 hi)) w := by
  subst hz
  have hu := run_undS (w := w) hts hrs
  have hb : (Instr.sliceBound (.int .i64 (hi : Int)) s.size .sliceAlen).run Tryz.prog w = .ok hi w := by
    simp only [Instr.sliceBound, asIntOf, Sem.run_bind, Sem.run_pure, Result.andThen]
    rw [if_pos ⟨by omega, by omega⟩]
    simp
  simp [Instr.sliceAt, Instr.slice, Instr.sliceBounds, Sem.run_bind, hu, Result.andThen, hb]
theorem minS (m j : Nat) : (if (j : Int) < (m : Int) then (j : Int) else (m : Int)) = ((min m j : Nat) : Int) := by split <;> omega
/-- A text cut. -/
def cutS (s : ByteArray) (m : Nat) : ByteArray := s.extract 0 (min s.size m)
theorem cutS_size (s : ByteArray) (m : Nat) : (cutS s m).size ≤ m := by
  unfold cutS; rw [ByteArray.size_extract]; omega
/-- The beginning of a text, as long as it goes. -/
theorem l_cutS {s : ByteArray} {z : Int} {rs : TRow} (hi : Nat) (nx : Wl n C ops.toArray k Q l ((d, .string (cutS s hi)) :: E) F R)
    (hw : wantL ops E ⟨some d, .slice t x none (some y) none, ty0, pos, aft, gd⟩ = some true := by rfl) (hn : Nat.blt d n = true := by rfl) (hx : ev E x = some (.string s) := by rfl) (hy : ev E y = some (.int .i64 z) := by rfl)
    (hts : lookT tab t = some rs := by rfl) (hrs : rs.k = .str := by rfl) (hz : z = (if (hi : Int) < (s.size : Int) then (hi : Int) else (s.size : Int)) := by rfl) : Wl n C ops.toArray k Q (⟨some d, .slice t x none (some y) none, ty0, pos, aft, gd⟩ :: l) E F R :=
  l_q (fun a w ha => by
    simp only [execOp, Option.map_some, Option.map_none, ha.ev (x := x) (by rw [evf_look]; exact hx), ha.ev (x := y) (by rw [evf_look]; exact hy), Sem.run_bind, run_scut (w := w) (min s.size hi) (Nat.min_le_left _ _) hts hrs (hz.trans (minS _ _)), Result.andThen, Sem.run_pure, cutS]) nx (by intro c h; cases h) hw hn
theorem r_cutS {s : ByteArray} {z : Int} {rs : TRow} (hi : Nat) (nx : Wr n C ops k Q Tl Fs R L ((d, .string (cutS s hi)) :: E) F N)
    (ho : nth ops i = some ⟨some d, .slice t x none (some y) none, ty0, pos, aft, gd⟩ := by rfl) (hw : wantL ops E ⟨some d, .slice t x none (some y) none, ty0, pos, aft, gd⟩ = some true := by rfl) (hx : ev E x = some (.string s) := by rfl) (hy : ev E y = some (.int .i64 z) := by rfl)
    (hts : lookT tab t = some rs := by rfl) (hrs : rs.k = .str := by rfl) (hz : z = (if (hi : Int) < (s.size : Int) then (hi : Int) else (s.size : Int)) := by rfl) : Wr n C ops k Q Tl Fs R ((i, 0) :: L) E F N :=
  r_q (fun a w ha => by
    simp only [execOp, Option.map_some, Option.map_none, ha.ev (x := x) (by rw [evf_look]; exact hx), ha.ev (x := y) (by rw [evf_look]; exact hy), Sem.run_bind, run_scut (w := w) (min s.size hi) (Nat.min_le_left _ _) hts hrs (hz.trans (minS _ _)), Result.andThen, Sem.run_pure, cutS]) nx ho hw
/-- The address of an element of an array. -/
theorem r_ixA {T sz m b off : Nat} {z : Int} {kd : IntKind} {rs tr : TRow} (j : Nat) (hlt : j < m) (nx : Wr n C ops k Q Tl Fs R L ((d, .pointer (some ⟨b, off + j * sz, none⟩)) :: E) F N)
    (ho : nth ops i = some ⟨some d, .indexAddr t x y, ty0, pos, aft, gd⟩ := by rfl) (hw : wantL ops E ⟨some d, .indexAddr t x y, ty0, pos, aft, gd⟩ = some true := by rfl) (hx : ev E x = some (.pointer (some ⟨b, off, none⟩)) := by rfl) (hy : ev E y = some (.int kd z) := by rfl)
    (hts : lookT tab t = some rs := by rfl) (hrs : rs.k = .arr m T := by rfl) (hT : lookT tab T = some tr := by rfl) (hsz : tr.size = sz := by rfl) (hz : z = (j : Int) := by first | rfl | omega) : Wr n C ops k Q Tl Fs R ((i, 0) :: L) E F N :=
  r_q (fun a w ha => by
    simp only [execOp, ha.ev (x := x) (by rw [evf_look]; exact hx), ha.ev (x := y) (by rw [evf_look]; exact hy), Sem.run_bind, Result.andThen, run_ixArr (w := w) hts hrs hT hsz hz hlt, Sem.run_pure]) nx ho hw
end
end Go.Proofs.YtiggkcknmjgicaaGreatDoor

set_option maxRecDepth 10000
namespace Go.Proofs.YtiggkcknmjgicaaGreatDoor
open Go.RowKit

section
variable {n : Nat} {C : Cx} {Q : Exit → Act → World → Prop} {E E' : List (Nat × Value)} {F : List Pf} {R R0 : List HP} {k : List Fr}
/-- The cells of an owned slice, written otherwise. -/
theorem k_rowc {T sz m m' cap : Nat} {o : Option Addr} (xs xs' : List Value) (hm : m = m') (hx : xs = xs') (t : Wk n C k Q E F (Row T sz o m' cap xs' :: R0)) (hs : Sel (Row T sz o m cap xs) R R0 := by (repeat (first | exact Sel.here | apply Sel.there)); first | done | fail) : Wk n C k Q E F R := by
  subst hm; subst hx
  exact fun a w ha hsat => t a w ha (hsat.sel hs)
end

theorem getO_some {a : Nm} : ∀ {l : Al} {v : ByteArray}, getO a l = some v → (a, v) ∈ l
  | [], _, h => by cases h
  | (b, u) :: l, v, h => by
    rw [getO] at h
    split at h
    · rename_i h0
      obtain rfl := (cmpO_eq a b).1 h0
      obtain rfl := Option.some.inj h
      simp
    · exact List.mem_cons_of_mem _ (getO_some h)

/-- The entry of a name. -/
def entO (es : Al) (a : Nm) : Option En := (odec ((getO a es).getD ⟨#[]⟩)).map fun o => ⟨a.owner, a.number, a.index, o⟩
def allN (es : Al) (ns : List Nm) : List En := ns.filterMap (entO es)
/-- The outputs of a state. -/
def allE (es : Al) : List En := allN es (kn es 18)

theorem allN_snoc (es : Al) (ns : List Nm) (a : Nm) : allN es (ns ++ [a]) = allN es ns ++ (entO es a).toList := by
  unfold allN
  rw [List.filterMap_append]
  cases h : entO es a <;> simp [h]

structure AX (es : Al) where
  i : Nat
  o : Option Addr
  cap : Nat
  hi : i ≤ (kn es 18).length

set_option maxHeartbeats 1000000 in
theorem outAll_ok (ps : Option Addr) (es : Al) : Enters 25 ∧ Spec Tryz.prog 25 #[.pointer ps] [St ps es] []
    ⟨Option Addr × Nat, fun q => .slice q.1 (allE es).length q.2, fun _ => True, fun q => [Sl 74 enf q.1 q.2 (allE es)], fun _ => []⟩ := by
  refine ⟨enters_of Tryz.func25 (by kernel_rfl) rfl, spec_of (vs := [_]) Tryz.func25 rfl Tryz.ntmps25 rfl fun G w hp => ?_⟩
  refine k_st (ps := ps) (es := es) (fun bs p t hp he hok => ?_)
  have hkl : (kn es 18).length ≤ 65536 := by
    have h1 : (kn es 18).length ≤ es.length := by simp only [kn, List.length_map]; exact List.length_filter_le ..
    have := hok.len
    omega
  repeat' (first | refine l_run ?_ | refine l_nil ?_ | refine l_one ?_ | refine k_reg ?_ | refine l_ld ?_ | refine l_ldF ?_ | refine l_st ?_ | refine l_al (fun b => ?_) | refine l_bs (fun b => ?_) | refine k_condT ?_ | refine k_condF ?_ | refine k_brk ?_ | refine l_call (kind_ok ps es 18) (fun _ _ => ?_) | refine l_call0 (kind_ok ps es 18) (fun _ _ => ?_) | refine l_split (fun hc => ?_) (fun hc => ?_) | refine k_cond (fun hc => ?_) (fun hc => ?_))
  rename_i q _
  obtain ⟨qo, qc⟩ := q
  refine k_shut (Lx := []) (r := Row 74 7 none 0 0 []) (fun h _ => row_nil _ _ h) ?_
  refine k_lp (X := AX es) (fun x => [(0, .pointer ps), (3, .slice x.o (allN es ((kn es 18).take x.i)).length x.cap), (11, .slice qo (kn es 18).length qc), (12, .int .i64 ((kn es 18).length : Int)), (13, .int .i64 (x.i : Int))]) (fun _ => [St ps es, Sl 78 nmf qo qc (kn es 18)]) (fun x => [Row 74 7 x.o (allN es ((kn es 18).take x.i)).length x.cap ((allN es ((kn es 18).take x.i)).flatMap enf)]) (fun x => (kn es 18).length - x.i) ⟨0, none, 0, by omega⟩ ⟨rfl, rfl, rfl, rfl, rfl, trivial⟩ ?_
  rintro ⟨i, o, cap, hi⟩
  dsimp only
  by_cases hlt : i < (kn es 18).length
  · obtain ⟨a, ha⟩ : ∃ a, (kn es 18)[i]? = some a := ⟨_, List.getElem?_eq_getElem hlt⟩
    have hmem : a ∈ kn es 18 := List.mem_of_getElem? ha
    obtain ⟨x, hx, rfl⟩ := List.mem_map.1 hmem
    have hown := hok.own x (List.mem_filter.1 hx).1
    have hval : ((getO x.1 es).getD ⟨#[]⟩).size ≤ 65536 := by
      cases hg : getO x.1 es with
      | none => exact Nat.zero_le _
      | some v => exact hok.val _ (getO_some hg)
    have n1 := stateGet_ok ps es x.1 hown
    have n2 := outDecode_ok ((getO x.1 es).getD ⟨#[]⟩) (by omega)
    have hsn : (kn es 18).take (i + 1) = (kn es 18).take i ++ [x.1] := by rw [List.take_add_one, ha]; rfl
    have hall := allN_snoc es ((kn es 18).take i) x.1
    rw [← hsn] at hall
    have hln : (allN es ((kn es 18).take i)).length ≤ 65536 := by
      have h1 : (allN es ((kn es 18).take i)).length ≤ ((kn es 18).take i).length := List.length_filterMap_le _ _
      simp at h1; omega
    cases hd : odec ((getO x.1 es).getD ⟨#[]⟩) with
    | none =>
      rw [hd] at n2
      have hent : entO es x.1 = none := by rw [entO, hd]; rfl
      rw [hent, Option.toList_none, List.append_nil] at hall
      repeat' (first | refine l_run ?_ | refine l_nil ?_ | refine l_one ?_ | refine k_reg ?_ | refine l_ld ?_ | refine l_ldF ?_ | refine l_st ?_ | refine l_al (fun b => ?_) | refine l_bs (fun b => ?_) | refine k_condT ?_ | refine k_condF ?_ | refine k_brk ?_ | refine l_call (n1) (fun _ _ => ?_) | refine l_call0 (n1) (fun _ _ => ?_) | refine l_call (n2) (fun _ _ => ?_) | refine l_call0 (n2) (fun _ _ => ?_) | refine l_ixe (es := kn es 18) i x.1 ha (fun b off => ?_) | refine l_ldC ?_ | (refine l_split (fun hc => ?_) (fun hc => ?_) <;> (try simp at hc) <;> (try omega)) | (refine k_cond (fun hc => ?_) (fun hc => ?_) <;> (try simp at hc) <;> (try omega)))
      rw [wrapi (z := (i : Int) + 1) (by omega) (by omega)]
      rw [← hall]
      exact k_next ⟨i + 1, o, cap, by omega⟩ (by show (kn es 18).length - (i + 1) < (kn es 18).length - i; omega) ⟨rfl, rfl, rfl, rfl, rfl, trivial⟩
    | some ou =>
      rw [hd] at n2
      have hent : entO es x.1 = some ⟨x.1.owner, x.1.number, x.1.index, ou⟩ := by rw [entO, hd]; rfl
      rw [hent, Option.toList_some] at hall
      have e1 : (allN es ((kn es 18).take i)).length + 1 = (allN es ((kn es 18).take (i + 1))).length := by rw [hall]; simp
      have e2 : (allN es ((kn es 18).take i)).flatMap enf ++ enf ⟨x.1.owner, x.1.number, x.1.index, ou⟩ = (allN es ((kn es 18).take (i + 1))).flatMap enf := by rw [hall]; simp
      repeat' (first | refine l_run ?_ | refine l_nil ?_ | refine l_one ?_ | refine k_reg ?_ | refine l_ld ?_ | refine l_ldF ?_ | refine l_st ?_ | refine l_al (fun b => ?_) | refine l_bs (fun b => ?_) | refine k_condT ?_ | refine k_condF ?_ | refine k_brk ?_ | refine l_call (n1) (fun _ _ => ?_) | refine l_call0 (n1) (fun _ _ => ?_) | refine l_call (n2) (fun _ _ => ?_) | refine l_call0 (n2) (fun _ _ => ?_) | refine l_ixe (es := kn es 18) i x.1 ha (fun b off => ?_) | refine l_ldC ?_ | refine l_app1 (fun o' cap' => ?_) | (refine l_split (fun hc => ?_) (fun hc => ?_) <;> (try simp at hc) <;> (try omega)) | (refine k_cond (fun hc => ?_) (fun hc => ?_) <;> (try simp at hc) <;> (try omega)))
      rw [wrapi (z := (i : Int) + 1) (by omega) (by omega)]
      refine k_rowc (T := 74) (sz := 7) (o := o') (cap := cap') (m := (allN es ((kn es 18).take i)).length + 1) _ _ e1 e2 ?_
      rw [e1]
      exact k_next ⟨i + 1, o', cap', by omega⟩ (by show (kn es 18).length - (i + 1) < (kn es 18).length - i; omega) ⟨rfl, rfl, rfl, rfl, rfl, trivial⟩
  · have e : (kn es 18).take i = kn es 18 := List.take_of_length_le (by omega)
    rw [e]
    repeat' (first | refine l_run ?_ | refine l_nil ?_ | refine l_one ?_ | refine k_reg ?_ | refine l_ld ?_ | refine l_ldF ?_ | refine l_st ?_ | refine l_al (fun b => ?_) | refine l_bs (fun b => ?_) | refine k_condT ?_ | refine k_condF ?_ | refine k_brk ?_ | (refine l_split (fun hc => ?_) (fun hc => ?_) <;> (try simp at hc) <;> (try omega)) | (refine k_cond (fun hc => ?_) (fun hc => ?_) <;> (try simp at hc) <;> (try omega)))
    refine k_frz (T := 74) (sz := 7) (f := enf) (o := o) (cap := cap) (allE es) ?_ rfl rfl
    exact k_ret (o, cap) rfl trivial
end Go.Proofs.YtiggkcknmjgicaaGreatDoor

set_option maxRecDepth 10000
namespace Go.Proofs.YtiggkcknmjgicaaGreatDoor
open Go.RowKit

/-- A part of the cells of a struct. -/
def partv (t : Nat) (cs : List Value) (o : Nat) : Option Value := ldv t cs o

theorem partv_ok {t : Nat} {cs : Array Value} {o : Nat} {v : Value} (h : partv t cs.toList o = some v) (w : World) : (part t cs o).run Tryz.prog w = .ok v w := by
  unfold partv ldv at h
  have hag : ∀ r : TRow, lookT tab t = some r → r.k.isAgg = true → r.k ≠ .other → cutF cs.toList o r.size (fun l => some (Value.agg l.toArray)) = some v → (part t cs o).run Tryz.prog w = .ok v w := fun r hr ha ho hc => by
    obtain ⟨h2, _, h3⟩ := cutF_eq _ _ _ _ _ hc
    have hia := tab_ok.isAgg hr ho w
    rw [ha] at hia
    have hsz := tab_ok.sizeOf hr w
    unfold part
    simp only [Sem.run_bind, hia, Result.andThen, if_true, hsz, Sem.run_pure]
    rw [← Option.some.inj h2]
    congr 2
    rw [← Array.toList_inj]
    simp [List.extract_eq_take_drop]
  have hno : ∀ r : TRow, lookT tab t = some r → r.k.isAgg = false → r.k ≠ .other → nth cs.toList o = some v → (part t cs o).run Tryz.prog w = .ok v w := fun r hr ha ho hc => by
    have hia := tab_ok.isAgg hr ho w
    rw [ha] at hia
    rw [nth_eq] at hc
    have hc : cs[o]? = some v := by simpa using hc
    unfold part
    simp only [Sem.run_bind, hia, Result.andThen, Bool.false_eq_true, if_false, hc, Sem.run_pure]
  split at h
  · rename_i hr; exact hag _ hr rfl (by simp) h
  · rename_i hr; exact hag _ hr rfl (by simp) h
  · cases h
  · rename_i r hn1 hn2 hn3 hr
    refine hno _ hr ?_ ?_ h
    · cases hk2 : r.k <;> simp [TK.isAgg] <;> (obtain ⟨k, s1, b1, z1⟩ := r; simp at hk2; subst hk2; first | exact hn1 _ _ _ _ rfl | exact hn2 _ _ _ _ _ rfl)
    · intro hk2; obtain ⟨k, s1, b1, z1⟩ := r; simp at hk2; subst hk2; exact hn3 _ _ _ rfl
  · cases h

def memN : List Nat → Nat → Bool
  | [], _ => false
  | s :: l, t => match Nat.beq s t with
    | true => true
    | false => memN l t
theorem memN_mem : ∀ {l : List Nat} {t : Nat}, memN l t = true → t ∈ l
  | s :: l, t, h => by
    unfold memN at h
    split at h
    · rename_i hb
      obtain rfl := Nat.eq_of_beq_eq_true hb
      simp
    · exact List.mem_cons_of_mem _ (memN_mem h)

def eqFs (g : Nat → Value → Value → Option Bool) : List (Nat × Nat × Nat) → List Value → List Value → Option Bool
  | [], _, _ => some true
  | (o, t, _) :: fs, xs, ys => match partv t xs o, partv t ys o with
    | some a, some b => match g t a b with
      | some r => match eqFs g fs xs ys with
        | some r' => some (r && r')
        | none => none
      | none => none
    | _, _ => none

def eqIs (g : Value → Value → Option Bool) (e c : Nat) (xs ys : List Value) : List Nat → Option Bool
  | [] => some true
  | i :: is => match partv e xs (i * c), partv e ys (i * c) with
    | some a, some b => match g a b with
      | some r => match eqIs g e c xs ys is with
        | some r' => some (r && r')
        | none => none
      | none => none
    | _, _ => none

/-- Whether two values of a type are equal. -/
def eqC (S : List Nat) : Nat → Nat → Value → Value → Option Bool
  | 0, _, _, _ => none
  | f + 1, t, x, y => match lookT tab t with
    | some ⟨.int _, _, _, _⟩ => match x, y with
      | .int k a, .int l b => bif ikEq k l then some (a == b) else none
      | _, _ => none
    | some ⟨.str, _, _, _⟩ => match x, y with
      | .string a, .string b => some (a.toList == b.toList)
      | _, _ => none
    | some ⟨.bool, _, _, _⟩ => match x, y with
      | .bool a, .bool b => some (a == b)
      | _, _ => none
    | some ⟨.struct fs, _, _, _⟩ => match x, y with
      | .agg xs, .agg ys => bif memN S t then eqFs (eqC S f) fs xs.toList ys.toList else none
      | _, _ => none
    | some ⟨.arr n e, _, _, _⟩ => match lookT tab e, x, y with
      | some re, .agg xs, .agg ys => eqIs (eqC S f e) e re.size xs.toList ys.toList (List.range n)
      | _, _, _ => none
    | _ => none

noncomputable def chkE (t : Nat) : Bool := (match Tryz.prog.underlying t with | some (.struct fs) => fs.toList.all (fun f => f.name != "_") | some (.array _ _) => true | _ => false) && (Tryz.prog.stoodInHeld t == false) && (Tryz.prog.eqGuardType Tryz.prog.depth t == false)

theorem eqFs_ok {g : Nat → Value → Value → Option Bool} {d : Nat} (hg : ∀ t x y b w, g t x y = some b → (Op.equalIn d t x y).run Tryz.prog w = .ok b w) : ∀ (fl : List Field) (fs : List (Nat × Nat × Nat)) (xs ys : Array Value) (b : Bool) (w : World),
    fl.map (fun f => (f.offset, f.type, ((Tryz.prog.info? f.type).map (·.size)).getD 0)) = fs → fl.all (fun f => f.name != "_") = true → eqFs g fs xs.toList ys.toList = some b → (Op.eqFields d xs ys fl).run Tryz.prog w = .ok b w
  | [], _, _, _, b, w, h, _, he => by
    subst h
    obtain rfl := Option.some.inj he
    rfl
  | f :: fl, _, xs, ys, b, w, h, hn, he => by
    subst h
    simp only [List.map_cons, eqFs] at he
    simp only [List.all_cons, Bool.and_eq_true, bne_iff_ne, ne_eq] at hn
    split at he
    · rename_i a c ha hc
      split at he
      · rename_i r hr
        split at he
        · rename_i r' hr'
          obtain rfl := Option.some.inj he
          have ih := eqFs_ok hg fl _ xs ys r' w rfl hn.2 hr'
          unfold Op.eqFields
          rw [if_pos hn.1]
          simp only [Sem.run_bind, partv_ok ha w, partv_ok hc w, hg _ _ _ _ w hr, Result.andThen]
          cases r with
          | false => simp
          | true => simpa using ih
        · cases he
      · cases he
    · cases he

theorem eqIs_ok {g : Value → Value → Option Bool} {d e c : Nat} (hg : ∀ x y b w, g x y = some b → (Op.equalIn d e x y).run Tryz.prog w = .ok b w) (xs ys : Array Value) : ∀ (is : List Nat) (b : Bool) (w : World), eqIs g e c xs.toList ys.toList is = some b → (Op.eqItems d e c xs ys is).run Tryz.prog w = .ok b w
  | [], b, w, he => by
    obtain rfl := Option.some.inj he
    rfl
  | i :: is, b, w, he => by
    simp only [eqIs] at he
    split at he
    · rename_i a c ha hc
      split at he
      · rename_i r hr
        split at he
        · rename_i r' hr'
          obtain rfl := Option.some.inj he
          have ih := eqIs_ok hg xs ys is r' w hr'
          unfold Op.eqItems
          simp only [Sem.run_bind, partv_ok ha w, partv_ok hc w, hg _ _ _ w hr, Result.andThen]
          cases r with
          | false => simp
          | true => simpa using ih
        · cases he
      · cases he
    · cases he

theorem eqC_ok {S : List Nat} (hS : S.all chkE = true) : ∀ (f d t : Nat) (x y : Value) (b : Bool) (w : World), f ≤ d → eqC S f t x y = some b → (Op.equalIn d t x y).run Tryz.prog w = .ok b w
  | 0, _, _, _, _, _, _, _, h => by cases h
  | f + 1, 0, _, _, _, _, _, hd, _ => by omega
  | f + 1, d + 1, t, x, y, b, w, hd, h => by
    unfold eqC at h
    split at h
    · rename_i k0 _ _ _ hr
      split at h
      · rename_i k a l c
        cases hk : ikEq k l with
        | false => simp [hk] at h
        | true =>
          simp only [hk, cond_true] at h
          obtain rfl := ikEq_eq hk
          obtain rfl := Option.some.inj h
          obtain ⟨dd, hd1, hk1⟩ := tab_ok.und hr
          cases dd <;> simp [chkKind] at hk1
          exact run_equalIn_int w d t k _ a c hd1
      · cases h
    · rename_i hr
      split at h
      · rename_i a c
        obtain rfl := Option.some.inj h
        obtain ⟨dd, hd1, hk1⟩ := tab_ok.und hr
        cases dd <;> simp [chkKind] at hk1
        exact run_equalIn_string w d t a c hd1
      · cases h
    · rename_i hr
      split at h
      · rename_i a c
        obtain rfl := Option.some.inj h
        obtain ⟨dd, hd1, hk1⟩ := tab_ok.und hr
        cases dd <;> simp [chkKind] at hk1
        exact run_equalIn_bool' w d t a c hd1
      · cases h
    · rename_i fs _ _ _ hr
      split at h
      · rename_i xs ys
        cases hm : memN S t with
        | false => simp [hm] at h
        | true =>
          simp only [hm, cond_true] at h
          have hc := List.all_eq_true.1 hS t (memN_mem hm)
          simp only [chkE, Bool.and_eq_true, beq_iff_eq] at hc
          obtain ⟨dd, hd1, hk1⟩ := tab_ok.und hr
          cases dd <;> simp [chkKind] at hk1
          rename_i fl
          have hfo : Tryz.prog.fieldsOf t = fl := by simp [Program.fieldsOf, hd1]
          rw [run_equalIn_struct w d t xs ys (by rw [hfo]; exact hd1) hc.1.2, hfo]
          have hnm := hc.1.1
          rw [hd1] at hnm
          refine eqFs_ok (g := eqC S f) (fun t x y b w hh => eqC_ok hS f d t x y b w (by omega) hh) fl.toList fs xs ys b w ?_ hnm h
          simpa using hk1.1
      · cases h
    · rename_i m e _ _ _ hr
      split at h
      · rename_i re xs ys hre
        obtain ⟨dd, hd1, hk1⟩ := tab_ok.und hr
        cases dd <;> simp [chkKind] at hk1
        obtain ⟨rfl, rfl⟩ := hk1
        obtain ⟨inf, _, _, hi, _, hsz, _⟩ := tab_ok.row hre
        rw [run_equalIn_array w d xs ys hd1 hi]
        have hce : Tryz.prog.cellsOf e = re.size := by rw [← hsz]; simp [Program.cellsOf, hi]
        rw [hce]
        exact eqIs_ok (g := eqC S f e) (fun x y b w hh => eqC_ok hS f d e x y b w (by omega) hh) xs ys _ b w h
      · cases h
    · cases h

/-- The structs that are compared. -/
def eqS : List Nat := [72, 74, 133, 78, 157, 89, 119, 199, 36, 42]
theorem eqS_ok : eqS.all chkE = true := by decide +kernel

theorem equal_ok {t : Nat} {x y : Value} {b : Bool} (h : eqC eqS 20 t x y = some b) (w : World) : (Op.equal t x y).run Tryz.prog w = .ok b w := eqC_ok eqS_ok 20 10000 t x y b w (by omega) h

section
variable {n : Nat} {C : Cx} {Q : Exit → Act → World → Prop} {E E' : List (Nat × Value)} {F F' F1 Fs F0 : List Pf} {R R' R0 Rs N N' A : List HP} {k k' : List Fr} {ops l : List Oper} {L L' : List (Nat × Nat)} {Tl : List Nat}
  {i d : Nat} {t t2 ty0 : TypeId} {x y : Operand} {pos : String} {aft : Array Edge} {gd : Option (Nat × Bool)} {xs ys : Array Value}
/-- Two structs are compared. -/
theorem l_seq {b : Bool} (nx : Wl n C ops.toArray k Q l ((d, .bool b) :: E) F R) (hw : wantL ops E ⟨some d, .binOp .eql t x y t2, ty0, pos, aft, gd⟩ = some true := by rfl) (hn : Nat.blt d n = true := by rfl)
    (hx : ev E x = some (.agg xs) := by rfl) (hy : ev E y = some (.agg ys) := by rfl) (hm : memN eqS t = true := by rfl) (he : eqC eqS 20 t (.agg xs) (.agg ys) = some b := by rfl) : Wl n C ops.toArray k Q (⟨some d, .binOp .eql t x y t2, ty0, pos, aft, gd⟩ :: l) E F R :=
  l_q (fun a w ha => by
    have hc := List.all_eq_true.1 eqS_ok t (memN_mem hm)
    simp only [chkE, Bool.and_eq_true, beq_iff_eq] at hc
    have h1 := eqC_ok eqS_ok 20 10000 t _ _ b w (by omega) he
    simp only [execOp, ha.ev (x := x) (by rw [evf_look]; exact hx), ha.ev (x := y) (by rw [evf_look]; exact hy), Sem.run_bind, run_eqGuard_agg w .eql t x y xs ys hc.2, Result.andThen, run_eql_struct, h1, Sem.run_pure]) nx (by intro c h; cases h) hw hn
theorem l_sneq {b : Bool} (nx : Wl n C ops.toArray k Q l ((d, .bool (!b)) :: E) F R) (hw : wantL ops E ⟨some d, .binOp .neq t x y t2, ty0, pos, aft, gd⟩ = some true := by rfl) (hn : Nat.blt d n = true := by rfl)
    (hx : ev E x = some (.agg xs) := by rfl) (hy : ev E y = some (.agg ys) := by rfl) (hm : memN eqS t = true := by rfl) (he : eqC eqS 20 t (.agg xs) (.agg ys) = some b := by rfl) : Wl n C ops.toArray k Q (⟨some d, .binOp .neq t x y t2, ty0, pos, aft, gd⟩ :: l) E F R :=
  l_q (fun a w ha => by
    have hc := List.all_eq_true.1 eqS_ok t (memN_mem hm)
    simp only [chkE, Bool.and_eq_true, beq_iff_eq] at hc
    have h1 := eqC_ok eqS_ok 20 10000 t _ _ b w (by omega) he
    simp only [execOp, ha.ev (x := x) (by rw [evf_look]; exact hx), ha.ev (x := y) (by rw [evf_look]; exact hy), Sem.run_bind, run_eqGuard_agg w .neq t x y xs ys hc.2, Result.andThen, run_neq_struct, h1, Sem.run_pure]) nx (by intro c h; cases h) hw hn
theorem r_seq {b : Bool} (nx : Wr n C ops k Q Tl Fs R L ((d, .bool b) :: E) F N) (ho : nth ops i = some ⟨some d, .binOp .eql t x y t2, ty0, pos, aft, gd⟩ := by rfl) (hw : wantL ops E ⟨some d, .binOp .eql t x y t2, ty0, pos, aft, gd⟩ = some true := by rfl)
    (hx : ev E x = some (.agg xs) := by rfl) (hy : ev E y = some (.agg ys) := by rfl) (hm : memN eqS t = true := by rfl) (he : eqC eqS 20 t (.agg xs) (.agg ys) = some b := by rfl) : Wr n C ops k Q Tl Fs R ((i, 0) :: L) E F N :=
  r_q (fun a w ha => by
    have hc := List.all_eq_true.1 eqS_ok t (memN_mem hm)
    simp only [chkE, Bool.and_eq_true, beq_iff_eq] at hc
    have h1 := eqC_ok eqS_ok 20 10000 t _ _ b w (by omega) he
    simp only [execOp, ha.ev (x := x) (by rw [evf_look]; exact hx), ha.ev (x := y) (by rw [evf_look]; exact hy), Sem.run_bind, run_eqGuard_agg w .eql t x y xs ys hc.2, Result.andThen, run_eql_struct, h1, Sem.run_pure]) nx ho hw
theorem r_sneq {b : Bool} (nx : Wr n C ops k Q Tl Fs R L ((d, .bool (!b)) :: E) F N) (ho : nth ops i = some ⟨some d, .binOp .neq t x y t2, ty0, pos, aft, gd⟩ := by rfl) (hw : wantL ops E ⟨some d, .binOp .neq t x y t2, ty0, pos, aft, gd⟩ = some true := by rfl)
    (hx : ev E x = some (.agg xs) := by rfl) (hy : ev E y = some (.agg ys) := by rfl) (hm : memN eqS t = true := by rfl) (he : eqC eqS 20 t (.agg xs) (.agg ys) = some b := by rfl) : Wr n C ops k Q Tl Fs R ((i, 0) :: L) E F N :=
  r_q (fun a w ha => by
    have hc := List.all_eq_true.1 eqS_ok t (memN_mem hm)
    simp only [chkE, Bool.and_eq_true, beq_iff_eq] at hc
    have h1 := eqC_ok eqS_ok 20 10000 t _ _ b w (by omega) he
    simp only [execOp, ha.ev (x := x) (by rw [evf_look]; exact hx), ha.ev (x := y) (by rw [evf_look]; exact hy), Sem.run_bind, run_eqGuard_agg w .neq t x y xs ys hc.2, Result.andThen, run_neq_struct, h1, Sem.run_pure]) nx ho hw
end
end Go.Proofs.YtiggkcknmjgicaaGreatDoor

set_option maxRecDepth 10000
namespace Go.Proofs.YtiggkcknmjgicaaGreatDoor
open Go.RowKit

/-- Whether a key can be looked for: all of its parts are plain. -/
def ckFs (g : Nat → Value → Bool) : List (Nat × Nat × Nat) → List Value → Bool
  | [], _ => true
  | (o, t, _) :: fs, xs => match partv t xs o with
    | some a => g t a && ckFs g fs xs
    | none => false
def ckC (S : List Nat) : Nat → Nat → Value → Bool
  | 0, _, _ => false
  | f + 1, t, x => match lookT tab t with
    | some ⟨.int _, _, _, _⟩ => true
    | some ⟨.str, _, _, _⟩ => true
    | some ⟨.bool, _, _, _⟩ => true
    | some ⟨.struct fs, _, _, _⟩ => match x with
      | .agg xs => memN S t && ckFs (ckC S f) fs xs.toList
      | _ => false
    | _ => false

theorem ckFs_ok {g : Nat → Value → Bool} {d : Nat} {em : Bool} (hg : ∀ t x w, g t x = true → (Instr.checkKey em d t x).run Tryz.prog w = .ok () w) : ∀ (fl : List Field) (fs : List (Nat × Nat × Nat)) (xs : Array Value) (w : World),
    fl.map (fun f => (f.offset, f.type, ((Tryz.prog.info? f.type).map (·.size)).getD 0)) = fs → ckFs g fs xs.toList = true →
    (forIn fl PUnit.unit (fun f _ => if f.name ≠ "_" then (do
        let a ← part f.type xs f.offset
        Instr.checkKey em d f.type a
        pure (ForInStep.yield PUnit.unit)) else pure (ForInStep.yield PUnit.unit)) : Sem PUnit).run Tryz.prog w = .ok PUnit.unit w
  | [], _, _, w, _, _ => rfl
  | f :: fl, _, xs, w, h, he => by
    subst h
    simp only [List.map_cons, ckFs] at he
    split at he
    · rename_i a ha
      rw [Bool.and_eq_true] at he
      have ih := ckFs_ok hg fl _ xs w rfl he.2
      rw [List.forIn_cons]
      by_cases hn : f.name ≠ "_"
      · rw [if_pos hn]
        simp only [Sem.run_bind, partv_ok ha w, hg _ _ w he.1, Result.andThen, Sem.run_pure]
        exact ih
      · rw [if_neg hn]
        simp only [Sem.run_bind, Result.andThen, Sem.run_pure]
        exact ih
    · cases he

theorem ckC_ok {S : List Nat} (hS : S.all chkE = true) (em : Bool) : ∀ (f d t : Nat) (x : Value) (w : World), f ≤ d → ckC S f t x = true → (Instr.checkKey em d t x).run Tryz.prog w = .ok () w
  | 0, _, _, _, _, _, h => by cases h
  | f + 1, 0, _, _, _, hd, _ => by omega
  | f + 1, d + 1, t, x, w, hd, h => by
    unfold ckC at h
    split at h
    · rename_i hr
      obtain ⟨dd, hd1, hk1⟩ := tab_ok.und hr
      cases dd <;> simp [chkKind] at hk1
      simp [Instr.checkKey, underlying, hd1, go_sem]
    · rename_i hr
      obtain ⟨dd, hd1, hk1⟩ := tab_ok.und hr
      cases dd <;> simp [chkKind] at hk1
      simp [Instr.checkKey, underlying, hd1, go_sem]
    · rename_i hr
      obtain ⟨dd, hd1, hk1⟩ := tab_ok.und hr
      cases dd <;> simp [chkKind] at hk1
      simp [Instr.checkKey, underlying, hd1, go_sem]
    · rename_i fs _ _ _ hr
      split at h
      · rename_i xs
        rw [Bool.and_eq_true] at h
        obtain ⟨dd, hd1, hk1⟩ := tab_ok.und hr
        cases dd <;> simp [chkKind] at hk1
        rename_i fl
        have hu : (underlying t).run Tryz.prog w = .ok (.struct fl) w := by simp [underlying, hd1, go_sem]
        have hl := ckFs_ok (g := ckC S f) (d := d) (em := em) (fun t x w hh => ckC_ok hS em f d t x w (by omega) hh) fl.toList fs xs w (by simpa using hk1.1) h.2
        unfold Instr.checkKey
        simp only [Sem.run_bind, hu, Result.andThen]
        rw [← Array.forIn_toList]
        rw [hl]
        rfl
      · cases h
    · cases h

/-- Keys of a type that can be told apart. -/
structure KeyOK {α : Type} [DecidableEq α] (kt : Nat) (K : α → Value) : Prop where
  eq : ∀ a b w, (Op.equal kt (K a) (K b)).run Tryz.prog w = .ok (decide (a = b)) w
  chk : ∀ a em w, (Instr.checkKey em 10000 kt (K a)).run Tryz.prog w = .ok () w
  bits : ∀ a, Instr.sameBits 10000 (K a) (K a) = true
  now : ∃ d, Tryz.prog.underlying kt = some d ∧ ∀ a b, Instr.sameNow d (K a) (K b) = none ∨ Instr.sameNow d (K a) (K b) = some (decide (a = b))

section
variable {α β : Type} [DecidableEq α]
def mfind (a : α) : List (α × β) → Nat → Option (Nat × β)
  | [], _ => none
  | (b, v) :: m, i => if a = b then some (i, v) else mfind a m (i + 1)
def mget (a : α) : List (α × β) → Option β
  | [] => none
  | (b, v) :: m => if a = b then some v else mget a m
def mset (a : α) (v : β) : List (α × β) → List (α × β)
  | [] => [(a, v)]
  | (b, u) :: m => if a = b then (a, v) :: m else (b, u) :: mset a v m
theorem mfind_get (a : α) : ∀ (m : List (α × β)) (i : Nat), (mfind a m i).map (·.2) = mget a m
  | [], _ => rfl
  | (b, v) :: m, i => by
    unfold mfind mget
    split
    · rfl
    · exact mfind_get a m (i + 1)

variable {kt : Nat} {K : α → Value} {V : β → Value}
theorem findAsking_ok (hk : KeyOK kt K) (a : α) : ∀ (es : List MapEntry) (m : List (α × β)) (i : Nat) (w : World), es.map (fun e => (e.key, e.val)) = m.map (fun x => (K x.1, V x.2)) →
    (Instr.findAsking kt (K a) es i).run Tryz.prog w = .ok ((mfind a m i).map fun p => (p.1, V p.2)) w
  | [], m, i, w, h => by
    cases m with
    | nil => rfl
    | cons => simp at h
  | e :: es, m, i, w, h => by
    cases m with
    | nil => simp at h
    | cons x m =>
      obtain ⟨b, v⟩ := x
      simp only [List.map_cons, List.cons.injEq, Prod.mk.injEq] at h
      obtain ⟨⟨h1, h2⟩, h3⟩ := h
      unfold Instr.findAsking mfind
      simp only [Sem.run_bind, h1, hk.eq a b w, Result.andThen]
      by_cases hab : a = b
      · simp [hab, h2]
      · simp only [hab, decide_false, Bool.false_eq_true, if_false]
        exact findAsking_ok hk a es m (i + 1) w h3
theorem findNow_ok {d : TypeDesc} (hd : ∀ a b, Instr.sameNow d (K a) (K b) = none ∨ Instr.sameNow d (K a) (K b) = some (decide (a = b))) (a : α) : ∀ (es : List MapEntry) (m : List (α × β)) (i : Nat) (r : Option (Nat × Value)), es.map (fun e => (e.key, e.val)) = m.map (fun x => (K x.1, V x.2)) →
    Instr.findNow d (K a) es i = some r → r = (mfind a m i).map fun p => (p.1, V p.2)
  | [], m, i, r, h, hr => by
    cases m with
    | nil => exact (Option.some.inj hr).symm
    | cons => simp at h
  | e :: es, m, i, r, h, hr => by
    cases m with
    | nil => simp at h
    | cons x m =>
      obtain ⟨b, v⟩ := x
      simp only [List.map_cons, List.cons.injEq, Prod.mk.injEq] at h
      obtain ⟨⟨h1, h2⟩, h3⟩ := h
      unfold Instr.findNow at hr
      unfold mfind
      rw [h1] at hr
      rcases hd a b with e1 | e1
      · rw [e1] at hr; cases hr
      · rw [e1] at hr
        by_cases hab : a = b
        · simp only [hab, decide_true] at hr
          simp [hab, ← Option.some.inj hr, h2]
        · simp only [hab, decide_false] at hr
          rw [if_neg hab]
          exact findNow_ok hd a es m (i + 1) r h3 hr
theorem findKey_ok (hk : KeyOK kt K) (a : α) (es : List MapEntry) (m : List (α × β)) (w : World) (h : es.map (fun e => (e.key, e.val)) = m.map (fun x => (K x.1, V x.2))) :
    (Instr.findKey kt (K a) es).run Tryz.prog w = .ok ((mfind a m 0).map fun p => (p.1, V p.2)) w := by
  obtain ⟨d, hd, hn⟩ := hk.now
  have hu : (underlying kt).run Tryz.prog w = .ok d w := by simp [underlying, hd, go_sem]
  unfold Instr.findKey
  simp only [Sem.run_bind, hu, Result.andThen]
  split
  · rename_i r hr
    rw [findNow_ok hn a es m 0 r h hr]; rfl
  · exact findAsking_ok hk a es m 0 w h

/-- The stamps of a map's entries. -/
def BornOK (es : Array MapEntry) (clock : Nat) : Prop := (es.toList.map (·.born)).Nodup ∧ ∀ e ∈ es.toList, e.born < clock
/-- A map that is owned. -/
def Mp (K : α → Value) (V : β → Value) (r : Nat) (m : List (α × β)) : HP := fun h => ∃ es clock, h r = some (.map es clock) ∧ es.toList.map (fun e => (e.key, e.val)) = (m.map fun x => (K x.1, V x.2)) ∧ BornOK es clock

theorem mset_none (a : α) (v : β) : ∀ (m : List (α × β)) (i : Nat), mfind a m i = none → mset a v m = m ++ [(a, v)]
  | [], _, _ => rfl
  | (b, u) :: m, i, h => by
    unfold mfind at h
    split at h
    · cases h
    · rename_i hab
      rw [mset, if_neg hab, mset_none a v m (i + 1) h]; rfl
theorem mset_some (a : α) (v : β) : ∀ (m : List (α × β)) (i j : Nat) (u : β), mfind a m i = some (j, u) → ∃ p, j = i + p ∧ m[p]? = some (a, u) ∧ mset a v m = m.set p (a, v)
  | [], _, _, _, h => by cases h
  | (b, u') :: m, i, j, u, h => by
    unfold mfind at h
    split at h
    · rename_i hab
      subst hab
      simp only [Option.some.injEq, Prod.mk.injEq] at h
      obtain ⟨rfl, rfl⟩ := h
      exact ⟨0, by omega, by simp, by simp [mset]⟩
    · rename_i hab
      obtain ⟨p, h1, h2, h3⟩ := mset_some a v m (i + 1) j u h
      exact ⟨p + 1, by omega, by simpa using h2, by simp [mset, hab, h3]⟩
end

theorem setObj_write {G : H} {w0 w : World} {hp0 : H} {F : List Pf} {R : List HP} {b : Nat} {o o' : Obj} (hs : Sat G w0 hp0 F (Pt b o :: R) w) : Sat G w0 hp0 F (Pt b o' :: R) { w with heap := w.heap.setIfInBounds b o' } := by
  have hb := hs.pt Sel.here
  have hlt := (Array.getElem?_eq_some_iff.1 hb).1
  refine hs.write ⟨rfl, rfl, rfl, by simp⟩ ?_ fun c hc _ => ?_
  · simp [hlt]
  · simp only [Array.getElem?_setIfInBounds]; rw [if_neg (fun e => hc e.symm)]

theorem mp_open {α β : Type} {K : α → Value} {V : β → Value} {r : Nat} {m : List (α × β)} {G : H} {w0 w : World} {hp0 : H} {F : List Pf} {R R0 : List HP} (hs : Sel (Mp K V r m) R R0) (h : Sat G w0 hp0 F R w) :
    ∃ es clock, Sat G w0 hp0 F (Pt r (.map es clock) :: R0) w ∧ es.toList.map (fun e => (e.key, e.val)) = (m.map fun x => (K x.1, V x.2)) ∧ BornOK es clock := by
  obtain ⟨⟨⟨es, clock⟩, he, hB⟩, h1⟩ := (h.sel hs).open' (X := { x : Array MapEntry × Nat // x.1.toList.map (fun e => (e.key, e.val)) = (m.map fun x => (K x.1, V x.2)) ∧ BornOK x.1 x.2 }) (L := fun x => [Pt r (.map x.1.1 x.1.2)]) fun k hk => by
    obtain ⟨es, clock, h1, h2, h3⟩ := hk
    exact ⟨⟨(es, clock), h2, h3⟩, k, emp, (fun _ => .inr rfl), Sub.refl _, (fun _ _ e => by cases e), h1, trivial⟩
  exact ⟨es, clock, h1, he, hB⟩
theorem mp_shut {α β : Type} {K : α → Value} {V : β → Value} {r : Nat} {m : List (α × β)} {G : H} {w0 w : World} {hp0 : H} {F : List Pf} {R0 : List HP} {es : Array MapEntry} {clock : Nat} (h : Sat G w0 hp0 F (Pt r (.map es clock) :: R0) w)
    (he : es.toList.map (fun e => (e.key, e.val)) = m.map fun x => (K x.1, V x.2)) (hB : BornOK es clock) : Sat G w0 hp0 F (Mp K V r m :: R0) w :=
  h.shut (L := [Pt r (.map es clock)]) fun k hk => by
    obtain ⟨h1, h2, _, s1, _, hx, _⟩ := hk
    exact ⟨es, clock, s1 _ _ hx, he, hB⟩

/-- The zero value of a type. -/
def zval (r : TRow) : Option Value := bif r.k.isAgg then some (.agg r.zero.toArray) else match r.zero with | [z] => some z | _ => none
theorem zval_ok {t : Nat} {r : TRow} {z : Value} (hr : lookT tab t = some r) (hz : zval r = some z) (w : World) : (zeroValue t).run Tryz.prog w = .ok z w := by
  have h1 := List.all_eq_true.1 tab_ok _ (lookT_mem hr)
  simp only [chkRow] at h1
  split at h1
  · rename_i i d hi hd
    simp only [Bool.and_eq_true, beq_iff_eq] at h1
    obtain ⟨_, h5⟩ := h1
    split at h5
    · rename_i z0 hz0
      rw [Bool.and_eq_true] at h5
      have hc := zeqs_eq h5.1
      have hzz : z = z0 := by
        unfold zval at hz
        cases z0 with
        | agg cs =>
          simp only at h5
          rw [h5.2] at hz
          simp only [cond_true, Option.some.injEq] at hz
          rw [← hz, ← hc]; simp [Value.cells]
        | _ =>
          simp only [Bool.not_eq_true'] at h5
          rw [h5.2] at hz
          simp only [Value.cells] at hc
          rw [← hc] at hz
          simpa using hz.symm
      subst hzz
      simp [zeroValue, typeInfo, hi, hz0, go_sem]
    · cases h5
  · cases h1

section
variable {n : Nat} {C : Cx} {Q : Exit → Act → World → Prop} {E E' : List (Nat × Value)} {F F' F1 Fs F0 : List Pf} {R R' R0 Rs N N' A : List HP} {k k' : List Fr} {ops l : List Oper}
  {i d : Nat} {t ty0 : TypeId} {x y z : Operand} {pos : String} {aft : Array Edge} {gd : Option (Nat × Bool)} {α β : Type} [DecidableEq α] {K : α → Value} {V : β → Value}

theorem run_undM {kt et : Nat} {w : World} {rs : TRow} (hts : lookT tab t = some rs) (hrs : rs.k = .map kt et) : (underlying t).run Tryz.prog w = .ok (.map kt et) w := by
  obtain ⟨d1, hd1, hk1⟩ := tab_ok.und hts
  rw [hrs] at hk1
  cases d1 <;> simp [chkKind] at hk1
  obtain ⟨rfl, rfl⟩ := hk1
  simp [underlying, hd1, go_sem]

/-- A new map. -/
theorem l_mkm {kt et : Nat} {rs : TRow} (_hk : KeyOK kt K) (V : β → Value) (nx : ∀ r, Wl n C ops.toArray k Q l ((d, .map (some r)) :: E) F (Mp K V r [] :: R)) (hw : wantL ops E ⟨some d, .makeMap t none, ty0, pos, aft, gd⟩ = some true := by rfl) (hn : Nat.blt d n = true := by rfl) (_hts : lookT tab t = some rs := by rfl) (_hrs : rs.k = .map kt et := by rfl) :
    Wl n C ops.toArray k Q (⟨some d, .makeMap t none, ty0, pos, aft, gd⟩ :: l) E F R :=
  wl_op (fun t ht => by cases ht; exact Nat.le_of_ble_eq_true hn) (fun c hc => by cases hc) hw fun a w ha hsat => by
    have h1 := hsat.alloc (.map #[] 0)
    exact fun a' ha' => nx w.heap.size a' _ ha' (mp_shut (K := K) (V := V) (m := []) h1 rfl ⟨by simp, by simp⟩)

/-- An element of a map is set. -/
theorem l_mset {kt et r : Nat} {rs : TRow} {m : List (α × β)} (hk : KeyOK kt K) (a : α) (v : β) (nx : Wl n C ops.toArray k Q l E F (Mp K V r (mset a v m) :: R0)) (hw : wantL ops E ⟨none, .mapUpdate t x y z, ty0, pos, aft, gd⟩ = some true := by rfl)
    (hx : ev E x = some (.map (some r)) := by rfl) (hy : ev E y = some (K a) := by rfl) (hz : ev E z = some (V v) := by rfl) (hts : lookT tab t = some rs := by rfl) (hrs : rs.k = .map kt et := by rfl)
    (hs : Sel (Mp K V r m) R R0 := by (repeat (first | exact Sel.here | apply Sel.there)); first | done | fail) : Wl n C ops.toArray k Q (⟨none, .mapUpdate t x y z, ty0, pos, aft, gd⟩ :: l) E F R :=
  wl_op (fun t ht => by cases ht) (fun c hc => by cases hc) hw fun ac w ha hsat => by
    obtain ⟨es, clock, h1, he, hB⟩ := mp_open hs hsat
    have hb := h1.pt Sel.here
    have hu := run_undM (w := w) hts hrs
    have hg : (getObj r).run Tryz.prog w = .ok (.map es clock) w := by simp [getObj, Sem.run, hb]
    have hc := hk.chk a false w
    have hf := findKey_ok hk a es.toList m w he
    unfold OpRes
    simp only [execOp, ha.ev (x := x) (by rw [evf_look]; exact hx), ha.ev (x := y) (by rw [evf_look]; exact hy), ha.ev (x := z) (by rw [evf_look]; exact hz), Instr.mapUpdate, Sem.run_bind, hu, Result.andThen, hg, hc, hf]
    cases hm : mfind a m 0 with
    | none =>
      simp only [Option.map_none]
      have hset : (setObj r (.map (es.push { key := K a, val := V v, born := clock }) (clock + 1))).run Tryz.prog w = .ok () { w with heap := w.heap.setIfInBounds r (.map (es.push { key := K a, val := V v, born := clock }) (clock + 1)) } := by simp [setObj, Sem.run, hb]
      simp only [hset, Sem.run_pure]
      refine fun a' ha' => nx a' _ ha' (mp_shut (setObj_write h1) ?_ ?_)
      · rw [mset_none a v m 0 hm]
        simp [he]
      · refine ⟨?_, fun e hem => ?_⟩
        · rw [Array.toList_push, List.map_append]
          refine List.nodup_append.2 ⟨hB.1, by simp, fun b hb c hc => ?_⟩
          obtain ⟨e, hem, rfl⟩ := List.mem_map.1 hb
          have := hB.2 e hem
          simp at hc
          omega
        · rw [Array.toList_push] at hem
          rcases List.mem_append.1 hem with hem | hem
          · have := hB.2 e hem; omega
          · obtain rfl := List.mem_singleton.1 hem
            exact Nat.lt_succ_self _
    | some q =>
      obtain ⟨j, u⟩ := q
      obtain ⟨p, hj, hp, hms⟩ := mset_some a v m 0 j u hm
      obtain rfl : j = p := by omega
      have hkey : (es.toList.map (fun e => (e.key, e.val)))[j]? = some (K a, V u) := by rw [he]; simp [hp]
      have hold : ((es[j]?).map (·.key)).getD (K a) = K a := by
        simp only [List.getElem?_map, Array.getElem?_toList, Option.map_eq_some_iff] at hkey
        obtain ⟨e, he1, he2⟩ := hkey
        rw [he1]
        simp only [Prod.mk.injEq] at he2
        simp [he2.1]
      simp only [Option.map_some]
      have hkt : (Instr.keyThatStays (((es[j]?).map (·.key)).getD (K a)) (K a)).run Tryz.prog w = .ok (K a) w := by
        rw [hold]; simp [Instr.keyThatStays, hk.bits a]
      have hset : (setObj r (.map (es.modify j fun e => { e with key := K a, val := V v }) clock)).run Tryz.prog w = .ok () { w with heap := w.heap.setIfInBounds r (.map (es.modify j fun e => { e with key := K a, val := V v }) clock) } := by simp [setObj, Sem.run, hb]
      simp only [hkt, Sem.run_bind, Result.andThen, hset, Sem.run_pure]
      have hborn : (es.modify j fun e => { e with key := K a, val := V v }).toList.map (·.born) = es.toList.map (·.born) := by
        apply List.ext_getElem?
        intro i
        simp only [List.getElem?_map, Array.getElem?_toList, Array.getElem?_modify]
        split
        · cases es[i]? <;> rfl
        · rfl
      refine fun a' ha' => nx a' _ ha' (mp_shut (setObj_write h1) ?_ ⟨by rw [hborn]; exact hB.1, fun e hem => ?_⟩)
      rotate_left
      · have h3 : e.born ∈ es.toList.map (·.born) := by rw [← hborn]; exact List.mem_map_of_mem hem
        obtain ⟨e', hem', he'⟩ := List.mem_map.1 h3
        rw [← he']; exact hB.2 e' hem'
      rw [hms]
      apply List.ext_getElem?
      intro i
      have hei : (es.toList.map (fun e => (e.key, e.val)))[i]? = (m.map fun x => (K x.1, V x.2))[i]? := by rw [he]
      simp only [List.getElem?_map, Array.getElem?_toList, Array.getElem?_modify, List.getElem?_set] at hei ⊢
      by_cases hij : j = i
      · subst hij
        simp only [if_true]
        have hlt := (List.getElem?_eq_some_iff.1 hp).1
        rw [if_pos hlt]
        rw [hp] at hei
        simp only [Option.map_some, Option.map_eq_some_iff] at hei
        obtain ⟨e, he1, _⟩ := hei
        simp [he1]
      · simp only [if_neg hij]
        exact hei

/-- An element of a map is looked up. -/
theorem l_mget {kt et r : Nat} {rs te : TRow} {m : List (α × β)} {zv : Value} (hk : KeyOK kt K) (a : α) (nx : Wl n C ops.toArray k Q l ((d, ((mget a m).map V).getD zv) :: E) F R) (hw : wantL ops E ⟨some d, .lookup t x y false, ty0, pos, aft, gd⟩ = some true := by rfl) (hn : Nat.blt d n = true := by rfl)
    (hx : ev E x = some (.map (some r)) := by rfl) (hy : ev E y = some (K a) := by rfl) (hts : lookT tab t = some rs := by rfl) (hrs : rs.k = .map kt et := by rfl) (hte : lookT tab et = some te := by rfl) (hzv : zval te = some zv := by rfl)
    (hs : Sel (Mp K V r m) R R0 := by (repeat (first | exact Sel.here | apply Sel.there)); first | done | fail) : Wl n C ops.toArray k Q (⟨some d, .lookup t x y false, ty0, pos, aft, gd⟩ :: l) E F R :=
  wl_op (fun t ht => by cases ht; exact Nat.le_of_ble_eq_true hn) (fun c hc => by cases hc) hw fun ac w ha hsat => by
    obtain ⟨es, clock, h1, he, hB⟩ := mp_open hs hsat
    have hb := h1.pt Sel.here
    have hu := run_undM (w := w) hts hrs
    have hg : (getObj r).run Tryz.prog w = .ok (.map es clock) w := by simp [getObj, Sem.run, hb]
    have hc := hk.chk a es.isEmpty w
    have hf := findKey_ok hk a es.toList m w he
    have hz0 := zval_ok hte hzv w
    have hfg := mfind_get a m 0
    unfold OpRes
    simp only [execOp, ha.ev (x := x) (by rw [evf_look]; exact hx), ha.ev (x := y) (by rw [evf_look]; exact hy), Instr.lookup, Sem.run_bind, hu, Result.andThen, hg, hc, hf, Sem.run_pure]
    cases hm : mfind a m 0 with
    | none =>
      rw [hm] at hfg
      simp only [Option.map_none, Sem.run_bind, hz0, Result.andThen, Sem.run_pure, Bool.false_eq_true, if_false]
      intro a' ha'
      rw [← hfg] at nx
      exact nx a' w ha' hsat
    | some q =>
      rw [hm] at hfg
      simp only [Option.map_some, Bool.false_eq_true, if_false]
      intro a' ha'
      rw [← hfg] at nx
      exact nx a' w ha' hsat
theorem l_mget2 {kt et r : Nat} {rs te : TRow} {m : List (α × β)} {zv : Value} (hk : KeyOK kt K) (a : α) (nx : Wl n C ops.toArray k Q l ((d, .tuple #[((mget a m).map V).getD zv, .bool (mget a m).isSome]) :: E) F R) (hw : wantL ops E ⟨some d, .lookup t x y true, ty0, pos, aft, gd⟩ = some true := by rfl) (hn : Nat.blt d n = true := by rfl)
    (hx : ev E x = some (.map (some r)) := by rfl) (hy : ev E y = some (K a) := by rfl) (hts : lookT tab t = some rs := by rfl) (hrs : rs.k = .map kt et := by rfl) (hte : lookT tab et = some te := by rfl) (hzv : zval te = some zv := by rfl)
    (hs : Sel (Mp K V r m) R R0 := by (repeat (first | exact Sel.here | apply Sel.there)); first | done | fail) : Wl n C ops.toArray k Q (⟨some d, .lookup t x y true, ty0, pos, aft, gd⟩ :: l) E F R :=
  wl_op (fun t ht => by cases ht; exact Nat.le_of_ble_eq_true hn) (fun c hc => by cases hc) hw fun ac w ha hsat => by
    obtain ⟨es, clock, h1, he, hB⟩ := mp_open hs hsat
    have hb := h1.pt Sel.here
    have hu := run_undM (w := w) hts hrs
    have hg : (getObj r).run Tryz.prog w = .ok (.map es clock) w := by simp [getObj, Sem.run, hb]
    have hc := hk.chk a es.isEmpty w
    have hf := findKey_ok hk a es.toList m w he
    have hz0 := zval_ok hte hzv w
    have hfg := mfind_get a m 0
    unfold OpRes
    simp only [execOp, ha.ev (x := x) (by rw [evf_look]; exact hx), ha.ev (x := y) (by rw [evf_look]; exact hy), Instr.lookup, Sem.run_bind, hu, Result.andThen, hg, hc, hf, Sem.run_pure]
    cases hm : mfind a m 0 with
    | none =>
      rw [hm] at hfg
      simp only [Option.map_none, Sem.run_bind, hz0, Result.andThen, Sem.run_pure, if_true]
      intro a' ha'
      rw [← hfg] at nx
      exact nx a' w ha' hsat
    | some q =>
      rw [hm] at hfg
      simp only [Option.map_some, if_true]
      intro a' ha'
      rw [← hfg] at nx
      exact nx a' w ha' hsat
end
end Go.Proofs.YtiggkcknmjgicaaGreatDoor

set_option maxRecDepth 10000
namespace Go.Proofs.YtiggkcknmjgicaaGreatDoor
open Go.RowKit

/-- What was met: the places js, with their stamps and entries. -/
structure SeenOK {α β : Type} (es : List MapEntry) (m pre : List (α × β)) (seen : List Nat) (js : List Nat) : Prop where
  nd : js.Nodup
  lt : ∀ j ∈ js, j < m.length
  sn : seen.map some = js.map fun j => (es[j]?).map (·.born)
  pr : pre.map some = js.map fun j => m[j]?

theorem map_some_inj {γ : Type} {a b : List γ} (h : (a.map some).Perm (b.map some)) : a.Perm b := by
  have := h.filterMap id
  simpa [List.filterMap_map] using this
theorem range_map {γ : Type} (m : List γ) : (List.range m.length).map (fun j => m[j]?) = m.map some := by
  apply List.ext_getElem?
  intro i
  simp only [List.getElem?_map]
  by_cases hi : i < m.length
  · simp [hi]
  · simp [hi]
theorem SeenOK.vis {α β : Type} {es : List MapEntry} {m pre : List (α × β)} {seen js : List Nat} (h : SeenOK es m pre seen js) : ∃ rest, (pre ++ rest).Perm m := by
  let kk := (List.range m.length).filter fun j => decide (j ∉ js)
  have hp : (js ++ kk).Perm (List.range m.length) := by
    refine (List.perm_ext_iff_of_nodup ?_ List.nodup_range).2 fun j => ?_
    · refine List.nodup_append.2 ⟨h.nd, List.nodup_range.filter _, fun a ha b hb e => ?_⟩
      subst e
      have := (List.mem_filter.1 hb).2
      simp at this
      exact this ha
    · simp only [List.mem_append, List.mem_range, kk, List.mem_filter, decide_eq_true_eq]
      constructor
      · rintro (hj | hj)
        · exact h.lt j hj
        · exact hj.1
      · intro hj
        by_cases hjs : j ∈ js
        · exact .inl hjs
        · exact .inr ⟨hj, hjs⟩
  refine ⟨kk.filterMap fun j => m[j]?, ?_⟩
  apply map_some_inj
  have h1 := hp.map (fun j => m[j]?)
  rw [range_map, List.map_append] at h1
  rw [List.map_append, h.pr]
  refine List.Perm.trans (List.Perm.append_left _ ?_) h1
  apply List.Perm.of_eq
  have hk : ∀ j ∈ kk, j < m.length := fun j hj => by simpa [kk] using (List.mem_filter.1 hj).1
  generalize kk = kk at hk
  induction kk with
  | nil => rfl
  | cons j kk ih =>
    have hj := hk j List.mem_cons_self
    rw [List.filterMap_cons, List.getElem?_eq_getElem hj]
    simp only [List.map_cons]
    rw [ih (fun x hx => hk x (List.mem_cons_of_mem _ hx)), List.getElem?_eq_getElem hj]

/-- An owned map over which an iterator goes: pre was met, in this order. -/
def MpI {α β : Type} (K : α → Value) (V : β → Value) (r it : Nat) (m pre : List (α × β)) : HP := fun h => ∃ es clock seen, (es.toList.map (fun e => (e.key, e.val)) = (m.map fun x => (K x.1, V x.2)) ∧ BornOK es clock ∧ ∃ js, SeenOK es.toList m pre seen.toList js) ∧ Sep [Pt r (.map es clock), Pt it (.mapIter (some r) clock seen clock)] h

section
variable {α β : Type} {K : α → Value} {V : β → Value} {r it : Nat} {m pre : List (α × β)} {G : H} {w0 w : World} {hp0 : H} {F : List Pf} {R R0 : List HP}
theorem mpi_open (hs : Sel (MpI K V r it m pre) R R0) (h : Sat G w0 hp0 F R w) : ∃ es clock seen, Sat G w0 hp0 F (Pt r (.map es clock) :: Pt it (.mapIter (some r) clock seen clock) :: R0) w ∧ es.toList.map (fun e => (e.key, e.val)) = (m.map fun x => (K x.1, V x.2)) ∧ BornOK es clock ∧ ∃ js, SeenOK es.toList m pre seen.toList js := by
  obtain ⟨⟨⟨es, clock, seen⟩, h2⟩, h1⟩ := (h.sel hs).open' (X := { x : Array MapEntry × Nat × Array Nat // x.1.toList.map (fun e => (e.key, e.val)) = (m.map fun x => (K x.1, V x.2)) ∧ BornOK x.1 x.2.1 ∧ ∃ js, SeenOK x.1.toList m pre x.2.2.toList js }) (L := fun x => [Pt r (.map x.1.1 x.1.2.1), Pt it (.mapIter (some r) x.1.2.1 x.1.2.2 x.1.2.1)]) fun k hk => by
    obtain ⟨es, clock, seen, h1, h2⟩ := hk
    exact ⟨⟨(es, clock, seen), h1⟩, h2⟩
  exact ⟨es, clock, seen, h1, h2⟩
theorem mpi_shut {es : Array MapEntry} {clock : Nat} {seen : Array Nat} (h : Sat G w0 hp0 F (Pt r (.map es clock) :: Pt it (.mapIter (some r) clock seen clock) :: R0) w) (he : es.toList.map (fun e => (e.key, e.val)) = m.map fun x => (K x.1, V x.2)) (hB : BornOK es clock) (hS : ∃ js, SeenOK es.toList m pre seen.toList js) :
    Sat G w0 hp0 F (MpI K V r it m pre :: R0) w :=
  h.shut (L := [Pt r (.map es clock), Pt it (.mapIter (some r) clock seen clock)]) fun _ hk => ⟨es, clock, seen, ⟨he, hB, hS⟩, hk⟩
end

section
variable {n : Nat} {C : Cx} {Q : Exit → Act → World → Prop} {E E' : List (Nat × Value)} {F F' F1 Fs F0 : List Pf} {R R' R0 Rs N N' A : List HP} {k k' : List Fr} {ops l : List Oper}
  {i d : Nat} {t ty0 : TypeId} {x y z : Operand} {pos : String} {aft : Array Edge} {gd : Option (Nat × Bool)} {α β : Type} {K : α → Value} {V : β → Value} {m pre : List (α × β)} {r it : Nat}

/-- A range over a map is begun. -/
theorem l_rng {kt et : Nat} {rs : TRow} (nx : ∀ it, Wl n C ops.toArray k Q l ((d, .pointer (some ⟨it, 0, none⟩)) :: E) F (MpI K V r it m [] :: R0)) (hw : wantL ops E ⟨some d, .range t x, ty0, pos, aft, gd⟩ = some true := by rfl) (hn : Nat.blt d n = true := by rfl)
    (hx : ev E x = some (.map (some r)) := by rfl) (hts : lookT tab t = some rs := by rfl) (hrs : rs.k = .map kt et := by rfl) (hs : Sel (Mp K V r m) R R0 := by (repeat (first | exact Sel.here | apply Sel.there)); first | done | fail) : Wl n C ops.toArray k Q (⟨some d, .range t x, ty0, pos, aft, gd⟩ :: l) E F R :=
  wl_op (fun t ht => by cases ht; exact Nat.le_of_ble_eq_true hn) (fun c hc => by cases hc) hw fun a w ha hsat => by
    obtain ⟨es, clock, h1, he, hB⟩ := mp_open hs hsat
    have hb := h1.pt Sel.here
    have hu := run_undM (w := w) hts hrs
    have hg : (getObj r).run Tryz.prog w = .ok (.map es clock) w := by simp [getObj, Sem.run, hb]
    have hno : (newObj (.mapIter (some r) clock #[] clock)).run Tryz.prog w = .ok w.heap.size (w.alloc (.mapIter (some r) clock #[] clock)) := rfl
    unfold OpRes
    simp only [execOp, ha.ev (x := x) (by rw [evf_look]; exact hx), Instr.range, Sem.run_bind, hu, Result.andThen, hg, Sem.run_pure, hno]
    intro a' ha'
    have h2 := h1.alloc (.mapIter (some r) clock #[] clock)
    have h3 := h2.sel (R' := Pt w.heap.size (.mapIter (some r) clock #[] clock) :: R0) (.there .here)
    exact nx w.heap.size a' _ ha' (mpi_shut h3 he hB ⟨[], by simp, by simp, rfl, rfl⟩)

/-- What was met, and one more. -/
theorem seen_more {es : List MapEntry} {seen js : List Nat} (he : es.map (fun e => (e.key, e.val)) = m.map fun x => (K x.1, V x.2)) (hS : SeenOK es m pre seen js) {e : MapEntry} (hem : e ∈ es) (hns : e.born ∉ seen) :
    ∃ p : α × β, e.key = K p.1 ∧ e.val = V p.2 ∧ ∃ js, SeenOK es m (pre ++ [p]) (seen ++ [e.born]) js := by
  obtain ⟨j, hj⟩ := List.mem_iff_getElem?.1 hem
  have hl : es.length = m.length := by simpa using congrArg List.length he
  have hjl : j < m.length := by rw [← hl]; exact (List.getElem?_eq_some_iff.1 hj).1
  have hkv : (es.map (fun e => (e.key, e.val)))[j]? = (m.map fun x => (K x.1, V x.2))[j]? := by rw [he]
  simp only [List.getElem?_map, hj, List.getElem?_eq_getElem hjl, Option.map_some, Option.some.injEq, Prod.mk.injEq] at hkv
  have hnj : j ∉ js := fun hjs => hns (by
    have h1 : (es[j]?).map (·.born) ∈ js.map fun j => (es[j]?).map (·.born) := List.mem_map.2 ⟨j, hjs, rfl⟩
    rw [← hS.sn, hj] at h1
    simpa using h1)
  refine ⟨m[j], hkv.1, hkv.2, js ++ [j], ⟨List.nodup_append.2 ⟨hS.nd, by simp, fun a ha b hb e => ?_⟩, fun i hi => ?_, ?_, ?_⟩⟩
  · subst e
    obtain rfl := List.mem_singleton.1 hb
    exact hnj ha
  · rcases List.mem_append.1 hi with hi | hi
    · exact hS.lt i hi
    · obtain rfl := List.mem_singleton.1 hi; exact hjl
  · simp [hS.sn, hj]
  · simp [hS.pr, hjl]
/-- All was met. -/
theorem seen_all {es : List MapEntry} {seen js : List Nat} (he : es.map (fun e => (e.key, e.val)) = m.map fun x => (K x.1, V x.2)) (hB : (es.map (·.born)).Nodup) (hS : SeenOK es m pre seen js) (hall : ∀ e ∈ es, e.born ∈ seen) : pre.Perm m := by
  have hl : es.length = m.length := by simpa using congrArg List.length he
  have hp : js.Perm (List.range m.length) := by
    refine (List.perm_ext_iff_of_nodup hS.nd List.nodup_range).2 fun j => ⟨fun hj => List.mem_range.2 (hS.lt j hj), fun hj => ?_⟩
    have hjl : j < es.length := by rw [hl]; exact List.mem_range.1 hj
    have h1 := hall es[j] (List.getElem_mem hjl)
    have h2 : some es[j].born ∈ seen.map some := List.mem_map.2 ⟨_, h1, rfl⟩
    rw [hS.sn] at h2
    obtain ⟨i, hi, hib⟩ := List.mem_map.1 h2
    have hil : i < es.length := by rw [hl]; exact hS.lt i hi
    rw [List.getElem?_eq_getElem hil] at hib
    simp only [Option.map_some, Option.some.injEq] at hib
    have : i = j := by
      have h3 : (es.map (·.born))[i]'(by simpa using hil) = (es.map (·.born))[j]'(by simpa using hjl) := by simpa using hib
      exact (List.getElem_inj hB).1 h3
    subst this; exact hi
  apply map_some_inj
  rw [hS.pr, ← range_map]
  exact hp.map _

theorem choose_next (c : Nat) (hc : 0 < c) (w : World) : ∃ j w', (choose (.mapNext c)).run Tryz.prog w = .ok j w' ∧ j < c ∧ Ext w w' := by
  by_cases h1 : c ≤ 1
  · refine ⟨0, w, ?_, hc, Below.refl _ w⟩
    show (if Question.forced (.mapNext c) then (Sem.pure 0).run Tryz.prog w else _) = _
    rw [if_pos (by simp [Question.forced, h1])]
    rfl
  · refine ⟨_, _, ?_, Nat.mod_lt (w.tape w.drawn (.mapNext c)) hc, (Below.refl _ w).drew⟩
    show (if Question.forced (.mapNext c) then _ else (Sem.pure (Question.cut (.mapNext c) (w.tape w.drawn (.mapNext c)))).run Tryz.prog { w with drawn := w.drawn + 1 }) = _
    rw [if_neg (by simp [Question.forced, h1])]
    rfl

/-- The next entry, or the end. -/
theorem l_nxt (nx1 : ∀ p : α × β, (∃ rest, (pre ++ [p] ++ rest).Perm m) → Wl n C ops.toArray k Q l ((d, .tuple #[.bool true, K p.1, V p.2]) :: E) F (MpI K V r it m (pre ++ [p]) :: R0)) (nx2 : pre.Perm m → Wl n C ops.toArray k Q l ((d, .tuple #[.bool false]) :: E) F (MpI K V r it m pre :: R0))
    (hw : wantL ops E ⟨some d, .next x false, ty0, pos, aft, gd⟩ = some true := by rfl) (hn : Nat.blt d n = true := by rfl) (hx : ev E x = some (.pointer (some ⟨it, 0, none⟩)) := by rfl)
    (hs : Sel (MpI K V r it m pre) R R0 := by (repeat (first | exact Sel.here | apply Sel.there)); first | done | fail) : Wl n C ops.toArray k Q (⟨some d, .next x false, ty0, pos, aft, gd⟩ :: l) E F R :=
  wl_op (fun t ht => by cases ht; exact Nat.le_of_ble_eq_true hn) (fun c hc => by cases hc) hw fun a w ha hsat => by
    obtain ⟨es, clock, seen, h1, he, hB, js, hS⟩ := mpi_open hs hsat
    have hb := h1.pt Sel.here
    have hi := h1.pt (.there .here)
    have hg : ∀ w', w'.heap[r]? = some (.map es clock) → (getObj r).run Tryz.prog w' = .ok (.map es clock) w' := fun w' h => by simp [getObj, Sem.run, h]
    have hgi : (getObj it).run Tryz.prog w = .ok (.mapIter (some r) clock seen clock) w := by simp [getObj, Sem.run, hi]
    have hnone : (!seen.isEmpty && !es.isEmpty && es.all (·.born ≥ clock)) = false := by
      cases hes : es.toList with
      | nil =>
        have : es = #[] := by rw [← Array.toList_inj]; simpa using hes
        subst this; simp
      | cons e l =>
        have h2 := hB.2 e (by rw [hes]; simp)
        have h3 : es.all (·.born ≥ clock) = false := by
          rw [← Array.all_toList, hes]
          simp only [List.all_cons, ge_iff_le, Bool.and_eq_false_imp, decide_eq_true_eq]
          intro h; omega
        rw [h3]; simp
    have hold : (es.filter fun e => !seen.contains e.born).filter (fun e => decide (e.born < clock)) = es.filter fun e => !seen.contains e.born := by
      rw [Array.filter_eq_self]
      intro e hem
      exact decide_eq_true (hB.2 e (by simpa using (Array.mem_filter.1 hem).1))
    have hnew : (es.filter fun e => !seen.contains e.born).filter (fun e => decide (e.born ≥ clock)) = #[] := by
      rw [Array.filter_eq_empty_iff]
      intro e hem
      have := hB.2 e (by simpa using (Array.mem_filter.1 hem).1)
      simp; omega
    unfold OpRes
    simp only [execOp, ha.ev (x := x) (by rw [evf_look]; exact hx), Instr.next, Sem.run_bind, hgi, Result.andThen, hg w hb, hnone, Bool.false_eq_true, if_false, Sem.run_pure, hold, hnew]
    have hw2 : ∀ w', Ext w w' → w'.heap[it]? = some (.mapIter (some r) clock seen clock) := fun w' hx => (h1.ext hx).pt (.there .here)
    by_cases hemp : (es.filter fun e => !seen.contains e.born) = #[]
    · rw [hemp]
      obtain ⟨j, w', hch, hlt, hxt⟩ := choose_next 1 (by omega) w
      obtain rfl : j = 0 := by omega
      have hsz : ((if (#[] : Array MapEntry).isEmpty = true then #[none] else #[]) ++ Array.map some ((#[] : Array MapEntry) ++ #[])).size = 1 := by simp
      rw [hsz, hch]
      simp only [Array.isEmpty_empty, if_true]
      rw [show (#[none] ++ Array.map some ((#[] : Array MapEntry) ++ #[]))[0]? = some none by simp]
      simp only [Sem.run_pure]
      intro a' ha'
      refine nx2 (seen_all he hB.1 hS fun e hem => ?_) a' w' ha' (mpi_shut (h1.ext hxt) he hB ⟨js, hS⟩)
      rw [Array.filter_eq_empty_iff] at hemp
      have := hemp e (by simpa using hem)
      simpa using this
    · have hne : (es.filter fun e => !seen.contains e.born).isEmpty = false := by
        cases h : (es.filter fun e => !seen.contains e.born).isEmpty with
        | false => rfl
        | true => exact absurd (by simpa using h) hemp
      rw [hne]
      simp only [Bool.false_eq_true, if_false, Array.empty_append, Array.append_empty]
      have hpos : 0 < (Array.map some (es.filter fun e => !seen.contains e.born)).size := by
        rw [Array.size_map]
        rcases Nat.eq_zero_or_pos (es.filter fun e => !seen.contains e.born).size with h | h
        · exact absurd (Array.eq_empty_of_size_eq_zero h) hemp
        · exact h
      obtain ⟨j, w', hch, hlt, hxt⟩ := choose_next _ hpos w
      rw [hch]
      have hlt' : j < (es.filter fun e => !seen.contains e.born).size := by simpa using hlt
      obtain ⟨e, hee⟩ : ∃ e, (es.filter fun e => !seen.contains e.born)[j]? = some e := ⟨_, Array.getElem?_eq_getElem hlt'⟩
      have hem := Array.mem_filter.1 (Array.mem_of_getElem? hee)
      obtain ⟨p, hk1, hk2, hS'⟩ := seen_more he hS (e := e) (by simpa using hem.1) (by simpa using hem.2)
      have hset : (setObj it (.mapIter (some r) clock (seen.push e.born) clock)).run Tryz.prog w' = .ok () { w' with heap := w'.heap.setIfInBounds it (.mapIter (some r) clock (seen.push e.born) clock) } := by simp [setObj, Sem.run, hw2 w' hxt]
      simp only [Array.getElem?_map, hee, Option.map_some, Sem.run_bind, hset, Result.andThen, Sem.run_pure]
      intro a' ha'
      rw [hk1, hk2] at ha'
      have h2 := (h1.ext hxt).sel (R' := Pt r (.map es clock) :: R0) (.there .here)
      have h3 := (setObj_write (o' := .mapIter (some r) clock (seen.push e.born) clock) h2).sel (R' := Pt it (.mapIter (some r) clock (seen.push e.born) clock) :: R0) (.there .here)
      refine nx1 p ?_ a' _ ha' (mpi_shut h3 he hB (by simpa using hS'))
      obtain ⟨js', hjs'⟩ := hS'
      exact hjs'.vis

/-- The entry that was met last. -/
theorem l_ent (p : α × β) (nx : Wl n C ops.toArray k Q l ((d, .tuple #[K p.1, V p.2]) :: E) F R)
    (hw : wantL ops E ⟨some d, .entry x, ty0, pos, aft, gd⟩ = some true := by rfl) (hn : Nat.blt d n = true := by rfl) (hx : ev E x = some (.pointer (some ⟨it, 0, none⟩)) := by rfl)
    (hs : Sel (MpI K V r it m (pre ++ [p])) R R0 := by (repeat (first | exact Sel.here | apply Sel.there)); first | done | fail) : Wl n C ops.toArray k Q (⟨some d, .entry x, ty0, pos, aft, gd⟩ :: l) E F R :=
  wl_op (fun t ht => by cases ht; exact Nat.le_of_ble_eq_true hn) (fun c hc => by cases hc) hw fun a w ha hsat => by
    obtain ⟨es, clock, seen, h1, he, hB, js, hS⟩ := mpi_open hs hsat
    have hb := h1.pt Sel.here
    have hi := h1.pt (.there .here)
    have hg : (getObj r).run Tryz.prog w = .ok (.map es clock) w := by simp [getObj, Sem.run, hb]
    have hgi : (getObj it).run Tryz.prog w = .ok (.mapIter (some r) clock seen clock) w := by simp [getObj, Sem.run, hi]
    have hl : es.toList.length = m.length := by simpa using congrArg List.length he
    rcases List.eq_nil_or_concat js with rfl | ⟨js', j, rfl⟩
    · have := congrArg List.length hS.pr; simp at this
    rw [List.concat_eq_append] at hS
    have hjl : j < m.length := hS.lt j (by simp)
    have hpr := hS.pr
    rw [List.map_append, List.map_append] at hpr
    have hp1 : some p = m[j]? := by
      have := congrArg List.getLast? hpr
      simpa using this
    have hjl' : j < es.toList.length := by omega
    have hsn := hS.sn
    rw [List.map_append] at hsn
    have hback : seen.back? = some es.toList[j].born := by
      have h3 := congrArg List.getLast? hsn
      simp only [List.map_cons, List.map_nil, List.getLast?_concat, List.getLast?_map] at h3
      rw [List.getElem?_eq_getElem hjl'] at h3
      rw [← Array.getLast?_toList]
      cases h4 : seen.toList.getLast? with
      | none => rw [h4] at h3; cases h3
      | some b => rw [h4] at h3; simpa using h3
    have hfind : es.find? (fun e => e.born == es.toList[j].born) = some es.toList[j] := by
      rw [← Array.find?_toList]
      have h5 : ∀ l : List MapEntry, (l.map (·.born)).Nodup → ∀ (i : Nat) (hi : i < l.length), l.find? (fun e => e.born == l[i].born) = some l[i] := by
        intro l
        induction l with
        | nil => intro _ i hi; cases hi
        | cons e l ih =>
          intro hnd i hi
          simp only [List.map_cons, List.nodup_cons] at hnd
          cases i with
          | zero => simp
          | succ i =>
            have hi' : i < l.length := by simpa using hi
            have hne : ¬ e.born = l[i].born := fun h => hnd.1 (List.mem_map.2 ⟨l[i], List.getElem_mem hi', h.symm⟩)
            simp only [List.getElem_cons_succ, List.find?_cons]
            rw [show (e.born == l[i].born) = false by simpa using hne]
            exact ih hnd.2 i hi'
      exact h5 es.toList hB.1 j hjl'
    have hkv : (es.toList.map (fun e => (e.key, e.val)))[j]? = (m.map fun x => (K x.1, V x.2))[j]? := by rw [he]
    rw [List.getElem?_map, List.getElem?_map, ← hp1, List.getElem?_eq_getElem hjl'] at hkv
    simp only [Option.map_some, Option.some.injEq, Prod.mk.injEq] at hkv
    unfold OpRes
    simp only [execOp, ha.ev (x := x) (by rw [evf_look]; exact hx), Instr.entry, Sem.run_bind, hgi, Result.andThen, hg, hback, hfind, bne_self_eq_false, Bool.false_eq_true, if_false, Sem.run_pure]
    intro a' ha'
    rw [hkv.1, hkv.2] at ha'
    exact nx a' w ha' hsat

/-- The range is over. -/
theorem k_rngE (nx : Wk n C k Q E F (Mp K V r m :: R0)) (hs : Sel (MpI K V r it m pre) R R0 := by (repeat (first | exact Sel.here | apply Sel.there)); first | done | fail) : Wk n C k Q E F R := fun a w ha hsat => by
  obtain ⟨es, clock, seen, h1, he, hB, js, hS⟩ := mpi_open hs hsat
  exact nx a w ha (mp_shut (R0 := R0) (h1.res fun kk hk => by
    obtain ⟨j1, j2, d, s1, s2, b1, b2⟩ := hk
    obtain ⟨i1, i2, d', t1, t2, c1, c2⟩ := b2
    exact ⟨j1, i2, (d.symm.sub t2).symm, s1, t2.trans s2, b1, c2⟩) he hB)
end
end Go.Proofs.YtiggkcknmjgicaaGreatDoor

set_option maxRecDepth 10000
namespace Go.Proofs.YtiggkcknmjgicaaGreatDoor
open Go.RowKit

instance decNm : DecidableEq Nm := fun a b => decidable_of_iff (cmpO a b = 0) (cmpO_eq a b)

/-- A change. -/
structure Ch where
  nm : Nm
  val : ByteArray
  abs : Bool
def chf (c : Ch) : List Value := [.int .i64 c.nm.kind, .string c.nm.owner, .int .i64 c.nm.number, .int .i64 c.nm.index, .string c.nm.text, .string c.val, .bool c.abs]
def Ch.v (c : Ch) : Value := .agg #[.int .i64 c.nm.kind, .string c.nm.owner, .int .i64 c.nm.number, .int .i64 c.nm.index, .string c.nm.text, .string c.val, .bool c.abs]
def iv (i : Nat) : Value := .int .i64 (i : Int)

theorem beqSv (a b : ByteArray) : (a.toList == b.toList) = decide (a = b) := by
  rw [toList_data, toList_data, Bool.eq_iff_iff]
  simp only [beq_iff_eq, decide_eq_true_eq]
  exact ⟨fun h => ba_ext h, fun h => by rw [h]⟩
theorem beqIv (a b : Int) : (a == b) = decide (a = b) := by rw [Bool.eq_iff_iff]; simp
theorem key_nm : KeyOK 78 Nm.v where
  eq a b w := by
    refine (equal_ok (t := 78) (x := Nm.v a) (y := Nm.v b) rfl w).trans ?_
    obtain ⟨a1, a2, a3, a4, a5⟩ := a
    obtain ⟨b1, b2, b3, b4, b5⟩ := b
    congr 1
    simp only [beqSv, beqIv, Nm.mk.injEq]
    rw [Bool.eq_iff_iff]
    simp
  chk a em w := ckC_ok eqS_ok em 20 10000 _ _ w (by omega) rfl
  bits a := by simp [Nm.v, Instr.sameBits, beq_toListBytes]
  now := ⟨_, rfl, fun a b => .inl rfl⟩

section
variable {α β : Type} [DecidableEq α]
theorem mget_setv (a : α) (v : β) : ∀ (m : List (α × β)) (b : α), mget b (mset a v m) = if a = b then some v else mget b m
  | [], b => by
    by_cases h : a = b
    · subst h; simp [mset, mget]
    · have : b ≠ a := fun e => h e.symm
      simp [mset, mget, h, this]
  | (c, u) :: m, b => by
    have ih := mget_setv a v m b
    unfold mset
    by_cases hac : a = c
    · subst hac
      rw [if_pos rfl, mget, mget]
      by_cases hab : a = b
      · subst hab; simp
      · have : b ≠ a := fun e => hab e.symm
        simp [hab, this]
    · rw [if_neg hac, mget, mget, ih]
      by_cases hab : a = b
      · subst hab; simp [hac]
      · simp [hab]
/-- The keys of a map that was set are the keys and the new one. -/
theorem mset_keys (a : α) (v : β) : ∀ m : List (α × β), (mset a v m).map (·.1) = if a ∈ m.map (·.1) then m.map (·.1) else m.map (·.1) ++ [a]
  | [] => by simp [mset]
  | (c, u) :: m => by
    have ih := mset_keys a v m
    unfold mset
    by_cases hac : a = c
    · subst hac; simp
    · rw [if_neg hac, List.map_cons, ih]
      by_cases h : a ∈ m.map (·.1)
      · simp only [List.map_cons, List.mem_cons, h, or_true, if_true]
      · have h2 : a ∉ c :: m.map (·.1) := by simp only [List.mem_cons, not_or]; exact ⟨hac, h⟩
        simp only [if_neg h, List.map_cons]
        rw [if_neg h2]; rfl
theorem mset_nodup (a : α) (v : β) (m : List (α × β)) (h : (m.map (·.1)).Nodup) : ((mset a v m).map (·.1)).Nodup := by
  rw [mset_keys]
  split
  · exact h
  · rename_i hn
    exact List.nodup_append.2 ⟨h, by simp, fun x hx y hy e => hn (by subst e; obtain rfl := List.mem_singleton.1 hy; exact hx)⟩
theorem mget_mem (m : List (α × β)) (h : (m.map (·.1)).Nodup) (a : α) (v : β) : mget a m = some v ↔ (a, v) ∈ m := by
  induction m with
  | nil => simp [mget]
  | cons x m ih =>
    obtain ⟨c, u⟩ := x
    simp only [List.map_cons, List.nodup_cons] at h
    unfold mget
    by_cases hac : a = c
    · subst hac
      rw [if_pos rfl]
      constructor
      · intro e; cases e; simp
      · intro e
        rcases List.mem_cons.1 e with e | e
        · cases e; rfl
        · exact absurd (List.mem_map.2 ⟨(a, v), e, rfl⟩) h.1
    · rw [if_neg hac, ih h.2]
      simp [hac]
end

/-- For each name of a call, the place of the last one. -/
def lastG : List Ch → Nat → List (Nm × Nat) → List (Nm × Nat)
  | [], _, m => m
  | c :: cs, i, m => lastG cs (i + 1) (mset c.nm i m)
def lastL (cs : List Ch) : List (Nm × Nat) := lastG cs 0 []
theorem lastG_snoc (c : Ch) : ∀ (cs : List Ch) (i : Nat) (m : List (Nm × Nat)), lastG (cs ++ [c]) i m = mset c.nm (i + cs.length) (lastG cs i m)
  | [], i, m => rfl
  | d :: cs, i, m => by
    rw [List.cons_append, lastG, lastG_snoc c cs (i + 1), lastG, List.length_cons, Nat.add_right_comm, Nat.add_assoc]
theorem lastL_snoc (cs : List Ch) (c : Ch) : lastL (cs ++ [c]) = mset c.nm cs.length (lastL cs) := by
  unfold lastL; rw [lastG_snoc, Nat.zero_add]
/-- The last call of a name. -/
def vcall (cs : List Ch) (n : Nm) : Option Ch := cs.reverse.find? fun c => decide (c.nm = n)
theorem vcall_snoc (cs : List Ch) (c : Ch) (n : Nm) : vcall (cs ++ [c]) n = if c.nm = n then some c else vcall cs n := by
  unfold vcall
  rw [List.reverse_append, List.reverse_singleton, List.singleton_append, List.find?_cons]
  by_cases h : c.nm = n <;> simp [h]
theorem snoc_ind {γ : Type} {P : List γ → Prop} (h0 : P []) (h1 : ∀ l a, P l → P (l ++ [a])) (l : List γ) : P l := by
  have : ∀ l : List γ, P l.reverse := fun l => by
    induction l with
    | nil => exact h0
    | cons a l ih => rw [List.reverse_cons]; exact h1 _ _ ih
  have := this l.reverse
  rwa [List.reverse_reverse] at this
/-- The map of the last places and the last calls. -/
theorem lastL_get (n : Nm) (cs : List Ch) : (∀ i, mget n (lastL cs) = some i → ∃ c, cs[i]? = some c ∧ vcall cs n = some c) ∧ (mget n (lastL cs) = none → vcall cs n = none) := by
  refine snoc_ind (P := fun cs => (∀ i, mget n (lastL cs) = some i → ∃ c, cs[i]? = some c ∧ vcall cs n = some c) ∧ (mget n (lastL cs) = none → vcall cs n = none)) ?_ ?_ cs
  · exact ⟨fun i h => by simp [lastL, lastG, mget] at h, fun _ => rfl⟩
  · intro cs c ih
    rw [lastL_snoc, mget_setv, vcall_snoc]
    by_cases h : c.nm = n
    · simp only [if_pos h]
      exact ⟨fun i hi => ⟨c, by obtain rfl := Option.some.inj hi; simp, rfl⟩, fun h => by cases h⟩
    · simp only [if_neg h]
      refine ⟨fun i hi => ?_, ih.2⟩
      obtain ⟨d, h1, h2⟩ := ih.1 i hi
      exact ⟨d, by rw [List.getElem?_append_left (List.getElem?_eq_some_iff.1 h1).1]; exact h1, h2⟩
theorem lastL_nodup (cs : List Ch) : ((lastL cs).map (·.1)).Nodup := by
  refine snoc_ind (P := fun cs => ((lastL cs).map (·.1)).Nodup) (by simp [lastL, lastG]) (fun cs c ih => ?_) cs
  rw [lastL_snoc]
  exact mset_nodup _ _ _ ih
theorem vcall_nm {cs : List Ch} {n : Nm} {c : Ch} (h : vcall cs n = some c) : c.nm = n ∧ c ∈ cs := by
  unfold vcall at h
  exact ⟨by simpa using List.find?_some h, by simpa using List.mem_of_find?_eq_some h⟩

/-- What Get answers, and what it has read then. -/
def vget (es : Al) (cs : List Ch) (n : Nm) : ByteArray × Bool :=
  if nchk n ≠ 0 then (⟨#[]⟩, false) else match vcall cs n with
    | some c => (c.val, !c.abs)
    | none => ((getO n es).getD ⟨#[]⟩, (getO n es).isSome)
def vread (es : Al) (rs : List (Nm × Ch)) (cs : List Ch) (n : Nm) : List (Nm × Ch) :=
  if nchk n ≠ 0 then rs else match vcall cs n with
    | some _ => rs
    | none => mset n ⟨n, (getO n es).getD ⟨#[]⟩, !(getO n es).isSome⟩ rs
def vset (cs : List Ch) (n : Nm) (v : ByteArray) : Int × List Ch := if nchk n ≠ 0 then (12, cs) else if 65536 < v.size then (5, cs) else (0, cs ++ [⟨n, v, false⟩])
def vdel (cs : List Ch) (n : Nm) : Int × List Ch := if nchk n ≠ 0 then (12, cs) else (0, cs ++ [⟨n, ⟨#[]⟩, true⟩])
end Go.Proofs.YtiggkcknmjgicaaGreatDoor

set_option maxRecDepth 10000
namespace Go.Proofs.YtiggkcknmjgicaaGreatDoor
open Go.RowKit

variable {n : Nat} {C : Cx} {Q : Exit → Act → World → Prop} {E E' : List (Nat × Value)} {F F' F1 Fs F0 : List Pf} {R R' R0 Rs N N' A : List HP} {k k' : List Fr} {ops l : List Oper} {L L' : List (Nat × Nat)} {Tl : List Nat}
  {i d : Nat} {t ty0 : TypeId} {x y : Operand} {pos : String} {aft : Array Edge} {gd : Option (Nat × Bool)} {b off : Nat} {cs : Array Value} {ty : TypeId} {fzn : Nat × Nat} {v : Value}

/-- A call of a function value. -/
theorem r_callF {f : FuncId} {fs cs : Array Value} {args : Array Operand} {tys : Array TypeId} {vs us : List Value} {post : Post} (spec : Enters f ∧ Spec Tryz.prog f us.toArray F1 A post)
    (nx : ∀ x, post.pure x → Wr n C ops k Q Tl Fs R L ((d, post.val x) :: E) (post.F x ++ F) (post.R x ++ N')) (ho : nth ops i = some ⟨some d, .call ⟨.value x, args, tys⟩, ty0, pos, aft, gd⟩ := by rfl)
    (hw : wantL ops E ⟨some d, .call ⟨.value x, args, tys⟩, ty0, pos, aft, gd⟩ = some true := by rfl)
    (hx : ev E x = some (.func (.func f) fs cs) := by rfl) (hargs : evs (ev E) args.toList some = some vs := by rfl) (has : fs.toList ++ vs ++ cs.toList = us := by rfl)
    (sel : Sels A N N' := by (repeat (first | exact Sels.nil | exact Sel.here | apply Sel.there | apply Sels.cons)); first | done | fail)
    (hF : EntF F F1 := by (repeat (first | exact trivial | exact Sel.here | apply Sel.there | apply EntF.cons)); first | done | fail) : Wr n C ops k Q Tl Fs R ((i, 4) :: L) E F N :=
  wr_go ho fun hp hr w st hz sb => by
    simp only [wantL_ok hw]
    refine ⟨⟨post.X, post.val, post.pure, fun x => post.F x ++ F, fun x => post.R x ++ N'⟩, fun a G w hp' ha hsub hsat => ?_, fun x hx => nx x hx hp hr w st hz sb⟩
    unfold OpRes
    rw [run_callF spec.1 hx hargs ha w]
    have e : fs ++ vs.toArray ++ cs = us.toArray := by rw [← has, ← Array.toList_inj]; simp
    rw [e]
    exact sat_call spec.2 hsat sel hF.all fun x w' hx hs' => ⟨x, rfl, hx, hs'⟩

theorem stv_ok' {w : World} {cs' : List Value} (h : w.heap[b]? = some (.cells cs ty fzn)) (hf : fzn = (0, 0) ∨ cs.toList.length ≤ fzn.1) (hv : stv t cs.toList off v = some cs') :
    ∃ w', (storeVar t ⟨b, off, none⟩ v).run Tryz.prog w = .ok () w' ∧ w'.heap[b]? = some (.cells cs'.toArray ty fzn) ∧ Same w w' ∧ ∀ c, c ≠ b → w'.heap[c]? = w.heap[c]? := by
  unfold stv at hv
  split at hv
  · rename_i r vs hr hvs
    cases hc : (Nat.beq vs.length r.size && vs.all one1) with
    | false => simp [hc] at hv
    | true =>
      simp only [hc, cond_true] at hv
      rw [Bool.and_eq_true] at hc
      have hlen := Nat.eq_of_beq_eq_true hc.1
      obtain ⟨h1, h2⟩ := putF_eq _ _ _ _ _ hv
      have hcl := vcells_eq hvs
      have hsz := tab_ok.sizeOf hr w
      have hle : vs ≠ [] → off + 0 + vs.length ≤ cs.toList.length := fun hne => by simpa using h1 hne
      have hst : ∃ w', (storeCells ⟨b, off, none⟩ vs 0).run Tryz.prog w = .ok () w' ∧ w'.heap[b]? = some (.cells cs'.toArray ty fzn) ∧ Same w w' ∧ ∀ c, c ≠ b → w'.heap[c]? = w.heap[c]? := by
        by_cases hne : vs = []
        · subst hne
          refine ⟨w, rfl, ?_, Same.refl _, fun _ _ => rfl⟩
          simp at h2; subst h2; simpa using h
        · obtain ⟨w', g1, g2, g3, g4⟩ := run_storeCells' (P := Tryz.prog) off vs 0 w cs.toList (by simpa using h) hf hc.2 (hle hne)
          refine ⟨w', g1, ?_, g3, g4⟩
          rw [g2]
          simp at h2; simp [h2]
      obtain ⟨w', g1, g2⟩ := hst
      refine ⟨w', ?_, g2⟩
      unfold storeVar
      simp only [Sem.run_bind, hsz, Result.andThen, hcl]
      rw [if_neg (by simp [hlen])]
      exact g1
  · cases hv

/-- An owned slice's block: the elements es, then the rest. -/
def Ax {α : Type} (T : Nat) (f : α → List Value) (b : Nat) (es : List α) (q : List Value × (Nat × Nat)) : HP := Pt b (.cells (es.flatMap f ++ q.1).toArray T q.2)
/-- What of it is frozen lies behind its end. -/
def AxOK (len : Nat) (q : List Value × (Nat × Nat)) : Prop := q.2 = (0, 0) ∨ len + q.1.length ≤ q.2.1

theorem ax_split {α : Type} {f : α → List Value} {sz : Nat} {q : List Value} (hf : ∀ e, (f e).length = sz) {es : List α} {j : Nat} {e : α} (he : es[j]? = some e) : es.flatMap f ++ q = (es.take j).flatMap f ++ (f e ++ ((es.drop (j + 1)).flatMap f ++ q)) ∧ ((es.take j).flatMap f).length = j * sz := by
  obtain ⟨h1, h2⟩ := ar_split hf he
  exact ⟨by rw [h1]; simp, h2⟩

/-- A load out of an owned slice. -/
theorem l_ldE {α : Type} {T : Nat} {f : α → List Value} {es : List α} {q : List Value × (Nat × Nat)} {e : α} (sz j o : Nat) (he : es[j]? = some e) (nx : Wl n C ops.toArray k Q l ((d, v) :: E) F R) (hw : wantL ops E ⟨some d, .load t x, ty0, pos, aft, gd⟩ = some true := by rfl) (hn : Nat.blt d n = true := by rfl)
    (hx : ev E x = some (.pointer (some ⟨b, off, none⟩)) := by rfl) (hs : Sel (Ax T f b es q) R R0 := by (repeat (first | exact Sel.here | apply Sel.there)); first | done | fail) (hv : ldv t (f e) o = some v := by rfl) (hf : ∀ e, (f e).length = sz := by intro; rfl) (ho : off = j * sz + o := by first | rfl | omega) :
    Wl n C ops.toArray k Q (⟨some d, .load t x, ty0, pos, aft, gd⟩ :: l) E F R :=
  wl_op (fun t ht => by cases ht; exact Nat.le_of_ble_eq_true hn) (fun c hc => by cases hc) hw fun a w ha hsat => by
    obtain ⟨e1, e2⟩ := ax_split (q := q.1) hf he
    have hv' : ldv t (es.flatMap f ++ q.1).toArray.toList off = some v := by
      rw [ho, ← e2]
      show ldv t (es.flatMap f ++ q.1) _ = _
      rw [e1]
      exact ldv_in hv
    have hr := ldv_ok (hsat.pt hs) hv'
    unfold OpRes
    simp only [execOp, Instr.loadAt, ha.ev (by rw [evf_look]; exact hx), Instr.sureAddr, Sem.run_bind, Sem.run_pure, Result.andThen, hr]
    exact fun a' ha' => nx a' w ha' hsat
theorem r_ldE {α : Type} {T : Nat} {f : α → List Value} {es : List α} {q : List Value × (Nat × Nat)} {e : α} (sz j o : Nat) (he : es[j]? = some e) (nx : Wr n C ops k Q Tl Fs R L ((d, v) :: E) F N) (hop : nth ops i = some ⟨some d, .load t x, ty0, pos, aft, gd⟩ := by rfl) (hw : wantL ops E ⟨some d, .load t x, ty0, pos, aft, gd⟩ = some true := by rfl)
    (hx : ev E x = some (.pointer (some ⟨b, off, none⟩)) := by rfl) (hs : Sel (Ax T f b es q) R R0 := by (repeat (first | exact Sel.here | apply Sel.there)); first | done | fail) (hv : ldv t (f e) o = some v := by rfl) (hf : ∀ e, (f e).length = sz := by intro; rfl) (ho : off = j * sz + o := by first | rfl | omega) :
    Wr n C ops k Q Tl Fs R ((i, 0) :: L) E F N :=
  wr_go hop fun hp hr w st hz sb => by
    simp only [wantL_ok hw]
    refine ⟨v, fun a w ha hin => ?_, nx hp hr w st hz sb⟩
    obtain ⟨e1, e2⟩ := ax_split (q := q.1) hf he
    have hv' : ldv t (es.flatMap f ++ q.1).toArray.toList off = some v := by
      rw [ho, ← e2]
      show ldv t (es.flatMap f ++ q.1) _ = _
      rw [e1]
      exact ldv_in hv
    have hr := ldv_ok (hin _ _ (sb _ _ (stat_pt st hs))) hv'
    simp only [execOp, Instr.loadAt, ha.ev (by rw [evf_look]; exact hx), Instr.sureAddr, Sem.run_bind, Sem.run_pure, Result.andThen, hr]

/-- The same, out of what may change. -/
theorem r_ldEN {α : Type} {T : Nat} {f : α → List Value} {es : List α} {q : List Value × (Nat × Nat)} {e : α} (sz j o : Nat) (he : es[j]? = some e) (nx : Wr n C ops k Q Tl Fs R L ((d, v) :: E) F N) (hop : nth ops i = some ⟨some d, .load t x, ty0, pos, aft, gd⟩ := by rfl) (hw : wantL ops E ⟨some d, .load t x, ty0, pos, aft, gd⟩ = some true := by rfl)
    (hx : ev E x = some (.pointer (some ⟨b, off, none⟩)) := by rfl) (hs : Sel (Ax T f b es q) N N' := by (repeat (first | exact Sel.here | apply Sel.there)); first | done | fail) (hv : ldv t (f e) o = some v := by rfl) (hf : ∀ e, (f e).length = sz := by intro; rfl) (ho : off = j * sz + o := by first | rfl | omega) :
    Wr n C ops k Q Tl Fs R ((i, 3) :: L) E F N :=
  wr_go hop fun hp hr w st hz sb => by
    simp only [wantL_ok hw]
    refine ⟨v, fun a G w hp' ha hsub hsat => ?_, nx hp hr w st hz sb⟩
    obtain ⟨e1, e2⟩ := ax_split (q := q.1) hf he
    have hv' : ldv t (es.flatMap f ++ q.1).toArray.toList off = some v := by
      rw [ho, ← e2]
      show ldv t (es.flatMap f ++ q.1) _ = _
      rw [e1]
      exact ldv_in hv
    have hr := ldv_ok (hsat.pt hs) hv'
    simp only [execOp, Instr.loadAt, ha.ev (by rw [evf_look]; exact hx), Instr.sureAddr, Sem.run_bind, Sem.run_pure, Result.andThen, hr]
/-- A store into an owned slice, where the order is drawn. -/
theorem r_stE {α : Type} {T : Nat} {f : α → List Value} {es : List α} {q : List Value × (Nat × Nat)} {e : α} (sz j o : Nat) (e' : α) (he : es[j]? = some e) (hq : AxOK (es.length * sz) q) (nx : Wr n C ops k Q Tl Fs R L E F (Ax T f b (es.set j e') q :: N'))
    (hop : nth ops i = some ⟨none, .store t x y, ty0, pos, aft, gd⟩ := by rfl) (hw : wantL ops E ⟨none, .store t x y, ty0, pos, aft, gd⟩ = some true := by rfl)
    (hx : ev E x = some (.pointer (some ⟨b, off, none⟩)) := by rfl) (hy : ev E y = some v := by rfl) (hs : Sel (Ax T f b es q) N N' := by (repeat (first | exact Sel.here | apply Sel.there)); first | done | fail) (hv : stv t (f e) o v = some (f e') := by rfl) (hf : ∀ e, (f e).length = sz := by intro; rfl) (ho : off = j * sz + o := by first | rfl | omega) :
    Wr n C ops k Q Tl Fs R ((i, 4) :: L) E F N :=
  wr_go hop fun hp hr w st hz sb => by
    simp only [wantL_ok hw]
    refine ⟨⟨Unit, fun _ => undef, fun _ => True, fun _ => F, fun _ => Ax T f b (es.set j e') q :: N'⟩, fun a G w hp' ha hsub hsat => ?_, fun _ _ => nx hp hr w st hz sb⟩
    obtain ⟨e1, e2⟩ := ax_split (q := q.1) hf he
    have hv' : stv t (es.flatMap f ++ q.1).toArray.toList off v = some ((es.set j e').flatMap f ++ q.1) := by
      rw [ho, ← e2, ar_set he]
      show stv t (es.flatMap f ++ q.1) _ _ = _
      rw [e1, stv_in hv]
      simp
    have hfz : q.2 = (0, 0) ∨ (es.flatMap f ++ q.1).toArray.toList.length ≤ q.2.1 := by
      rcases hq with h | h
      · exact .inl h
      · exact .inr (by simpa [flat_len hf] using h)
    obtain ⟨w', g1, g2, g3, g4⟩ := stv_ok' (hsat.pt hs) hfz hv'
    unfold OpRes
    simp only [execOp, Instr.storeAt, ha.ev (x := x) (by rw [evf_look]; exact hx), ha.ev (x := y) (by rw [evf_look]; exact hy), Instr.sureAddr, Sem.run_bind, Sem.run_pure, Result.andThen, g1]
    exact ⟨(), trivial, trivial, (hsat.sel hs).write g3 g2 fun c hc _ => g4 c hc⟩

/-- A store into an owned slice. -/
theorem l_stE {α : Type} {T : Nat} {f : α → List Value} {es : List α} {q : List Value × (Nat × Nat)} {e : α} (sz j o : Nat) (e' : α) (he : es[j]? = some e) (hq : AxOK (es.length * sz) q) (nx : Wl n C ops.toArray k Q l E F (Ax T f b (es.set j e') q :: R0)) (hw : wantL ops E ⟨none, .store t x y, ty0, pos, aft, gd⟩ = some true := by rfl)
    (hx : ev E x = some (.pointer (some ⟨b, off, none⟩)) := by rfl) (hy : ev E y = some v := by rfl) (hs : Sel (Ax T f b es q) R R0 := by (repeat (first | exact Sel.here | apply Sel.there)); first | done | fail) (hv : stv t (f e) o v = some (f e') := by rfl) (hf : ∀ e, (f e).length = sz := by intro; rfl) (ho : off = j * sz + o := by first | rfl | omega) :
    Wl n C ops.toArray k Q (⟨none, .store t x y, ty0, pos, aft, gd⟩ :: l) E F R :=
  wl_op (fun t ht => by cases ht) (fun c hc => by cases hc) hw fun a w ha hsat => by
    obtain ⟨e1, e2⟩ := ax_split (q := q.1) hf he
    have hv' : stv t (es.flatMap f ++ q.1).toArray.toList off v = some ((es.set j e').flatMap f ++ q.1) := by
      rw [ho, ← e2, ar_set he]
      show stv t (es.flatMap f ++ q.1) _ _ = _
      rw [e1, stv_in hv]
      simp
    have hfz : q.2 = (0, 0) ∨ (es.flatMap f ++ q.1).toArray.toList.length ≤ q.2.1 := by
      rcases hq with h | h
      · exact .inl h
      · exact .inr (by simpa [flat_len hf] using h)
    obtain ⟨w', g1, g2, g3, g4⟩ := stv_ok' (hsat.pt hs) hfz hv'
    unfold OpRes
    simp only [execOp, Instr.storeAt, ha.ev (x := x) (by rw [evf_look]; exact hx), ha.ev (x := y) (by rw [evf_look]; exact hy), Instr.sureAddr, Sem.run_bind, Sem.run_pure, Result.andThen, g1]
    exact fun a' ha' => nx a' w' ha' ((hsat.sel hs).write g3 g2 fun c hc _ => g4 c hc)

/-- A byte of a constant text. -/
theorem l_six8 {s : ByteArray} {z : Int} {kd : IntKind} {rs : TRow} (j m : Nat) (hjm : j < m) (nx : ∀ c : UInt8, Wl n C ops.toArray k Q l ((d, .int .u8 c.toNat) :: E) F R)
    (hw : wantL ops E ⟨some d, .index t x y, ty0, pos, aft, gd⟩ = some true := by rfl) (hn : Nat.blt d n = true := by rfl) (hx : ev E x = some (.string s) := by rfl) (hy : ev E y = some (.int kd z) := by rfl)
    (hts : lookT tab t = some rs := by rfl) (hrs : rs.k = .str := by rfl) (hz : z = (j : Int) := by first | rfl | omega) (hm : Nat.ble m s.data.toList.length = true := by decide +kernel) : Wl n C ops.toArray k Q (⟨some d, .index t x y, ty0, pos, aft, gd⟩ :: l) E F R :=
  have hlt : j < s.data.toList.length := Nat.lt_of_lt_of_le hjm (Nat.le_of_ble_eq_true hm)
  l_q (fun a w ha => by
    subst hz
    have h0 : (0 : Int) ≤ (j : Int) := by omega
    have h1 : s[j]? = some s.data.toList[j] := by
      have hlt' : j < s.size := by simpa using hlt
      rw [getElem?_pos s j hlt']
      rfl
    simp only [execOp, ha.ev (x := x) (by rw [evf_look]; exact hx), ha.ev (x := y) (by rw [evf_look]; exact hy), Instr.index, asIntOf, run_undS hts hrs, Sem.run_bind, Result.andThen, Sem.run_pure, if_pos h0, Int.toNat_natCast, h1]) (nx s.data.toList[j]) (by intro c h; cases h) hw hn

def AnyI : Post := ⟨Int, fun z => .int .i64 z, fun _ => True, fun _ => [], fun _ => []⟩
theorem len64_ok (u : Nat) (hu : u < 256) : Enters 155 ∧ Spec Tryz.prog 155 #[.int .u64 (u : Int)] [] [] AnyI := by
  have wu : IntKind.u8.wrap (u : Int) = (u : Int) := by simp [IntKind.wrap, IntKind.bits, IntKind.signed]; omega
  refine ⟨enters_of Tryz.func155 (by kernel_rfl) rfl, spec_of (vs := [_]) Tryz.func155 rfl Tryz.ntmps155 rfl fun G w hp => ?_⟩
  repeat' (first | refine l_run ?_ | refine l_nil ?_ | refine l_one ?_ | refine k_reg ?_ | refine l_ld ?_ | refine l_ldF ?_ | refine l_st ?_ | refine l_al (fun b => ?_) | refine l_bs (fun b => ?_) | refine k_condT ?_ | refine k_condF ?_ | refine k_brk ?_ | rw [wu] | refine l_six8 u 256 hu (fun c => ?_) | (refine l_split (fun hc => ?_) (fun hc => ?_) <;> (try simp at hc) <;> (try omega)) | (refine k_cond (fun hc => ?_) (fun hc => ?_) <;> (try simp at hc) <;> (try omega)))
  exact k_ret (post := AnyI) _ rfl trivial
theorem bitsLen_ok (u : Nat) (hu : u < 256) : Enters 110 ∧ Spec Tryz.prog 110 #[.int .u64 (u : Int)] [] [] AnyI := by
  have s1 := len64_ok u hu
  refine ⟨enters_of Tryz.func110 (by kernel_rfl) rfl, spec_of (vs := [_]) Tryz.func110 rfl Tryz.ntmps110 rfl fun G w hp => ?_⟩
  repeat' (first | refine l_run ?_ | refine l_nil ?_ | refine l_one ?_ | refine k_reg ?_ | refine l_ld ?_ | refine l_ldF ?_ | refine l_st ?_ | refine l_al (fun b => ?_) | refine l_bs (fun b => ?_) | refine k_condT ?_ | refine k_condF ?_ | refine k_brk ?_ | refine l_call (s1) (fun _ _ => ?_) | refine l_call0 (s1) (fun _ _ => ?_) | (refine l_split (fun hc => ?_) (fun hc => ?_) <;> (try simp at hc) <;> (try omega)) | (refine k_cond (fun hc => ?_) (fun hc => ?_) <;> (try simp at hc) <;> (try omega)))
  rename_i z _
  exact k_ret (post := AnyI) z rfl trivial

/-- Sorted by a comparison. -/
def Srd {α : Type} (c : α → α → Int) (l : List α) : Prop := l.Pairwise fun a b => ¬ c b a < 0
theorem srt_insr {α : Type} {c : α → α → Int} (ha : ∀ a b, c a b < 0 → ¬ c b a < 0) (ht : ∀ a b d, ¬ c b a < 0 → ¬ c d b < 0 → ¬ c d a < 0) {P S : List α} {x : α} (h : Srd c (P ++ S)) (h1 : ∀ s ∈ S, c x s < 0) (h2 : ∀ p, P.getLast? = some p → ¬ c x p < 0) : Srd c (P ++ x :: S) := by
  obtain ⟨hP, hS, hPS⟩ := List.pairwise_append.1 h
  refine List.pairwise_append.2 ⟨hP, List.pairwise_cons.2 ⟨fun s hs => ha _ _ (h1 s hs), hS⟩, fun p hp y hy => ?_⟩
  rcases List.mem_cons.1 hy with rfl | hy
  · rcases List.eq_nil_or_concat P with rfl | ⟨P', q, rfl⟩
    · cases hp
    · have hq := h2 q (by simp)
      rw [List.concat_eq_append] at hp hP
      rcases List.mem_append.1 hp with hp | hp
      · exact ht p q _ ((List.pairwise_append.1 hP).2.2 p hp q (by simp)) hq
      · obtain rfl := List.mem_singleton.1 hp; exact hq
  · exact hPS p hp y hy
theorem swap_set {α : Type} (P : List α) (p x : α) (S : List α) : ((P ++ p :: x :: S).set (P.length + 1) p).set P.length x = P ++ x :: p :: S := by
  rw [List.set_append_right _ _ (by omega)]
  simp
end Go.Proofs.YtiggkcknmjgicaaGreatDoor
