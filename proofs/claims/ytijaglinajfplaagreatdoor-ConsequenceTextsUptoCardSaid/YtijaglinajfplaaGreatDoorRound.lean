/-
  What is written is read again; no program in sight.
  Conditions: those that each theorem states.
-/
import Derived.Test.YtijaglinajfplaaGreatDoorOut
namespace Go.Proofs.YtijaglinajfplaaGreatDoor
open Go.RowKit

theorem venc_props : ∀ (k u : Nat), u ≤ k → ∃ init last, venc u = init ++ [last] ∧ (∀ b ∈ init, 128 ≤ b.toNat) ∧ last.toNat < 128 ∧ (0 < u → last.toNat ≠ 0) ∧ (init ≠ [] → 0 < u) ∧ dval (venc u) = u := by
  intro k
  induction k with
  | zero =>
    intro u hu
    obtain rfl : u = 0 := by omega
    refine ⟨[], 0, ?_, by simp, by decide, by simp, by simp, ?_⟩
    · rw [venc]; simp
    · rw [venc]; simp [dval]
  | succ k ih =>
    intro u hu
    by_cases h : u < 128
    · have hv : venc u = [UInt8.ofNat u] := by rw [venc, if_pos h]
      have ht : (UInt8.ofNat u).toNat = u := by simp; omega
      refine ⟨[], UInt8.ofNat u, by rw [hv]; rfl, by simp, by omega, fun h0 => by omega, by simp, ?_⟩
      rw [hv, dval, dval, ht]; omega
    · have hv : venc u = UInt8.ofNat (u % 128 + 128) :: venc (u / 128) := by rw [venc, if_neg h]
      have ht : (UInt8.ofNat (u % 128 + 128)).toNat = u % 128 + 128 := by simp; omega
      obtain ⟨init, last, h1, h2, h3, h4, h5, h6⟩ := ih (u / 128) (by omega)
      refine ⟨UInt8.ofNat (u % 128 + 128) :: init, last, by rw [hv, h1]; rfl, fun b hb => ?_, h3, fun _ => h4 (by omega), fun _ => by omega, ?_⟩
      · rcases List.mem_cons.1 hb with rfl | hb
        · omega
        · exact h2 b hb
      · rw [hv, dval, h6, ht]; omega

theorem pnat_venc (u : Nat) (hu : u < 9223372036854775808) (rest : List UInt8) : pnat (venc u ++ rest) 9 = (u, (venc u).length, 0) := by
  obtain ⟨init, last, h1, h2, h3, h4, h5, h6⟩ := venc_props u u (Nat.le_refl _)
  have hl : (venc u).length ≤ 9 := venc_len 8 u (by simpa using hu)
  have hlen : (venc u).length = init.length + 1 := by rw [h1]; simp
  have hlast : lastN (venc u ++ rest) 9 = init.length := by
    refine lastN_eq (by simp; omega) (by omega) (fun i hi => ?_) (.inr (.inr ⟨last, ?_, h3⟩))
    · refine ⟨init[i], ?_, h2 _ (List.getElem_mem hi)⟩
      rw [h1, List.append_assoc, List.getElem?_append_left hi]
      exact List.getElem?_eq_getElem hi
    · rw [h1, List.append_assoc, List.getElem?_append_right (Nat.le_refl _)]
      simp
  have hget : (venc u ++ rest)[init.length]? = some last := by
    rw [h1, List.append_assoc, List.getElem?_append_right (Nat.le_refl _)]; simp
  have htk : (venc u ++ rest).take (init.length + 1) = venc u := by rw [← hlen]; simp
  unfold pnat
  dsimp only
  rw [hlast, if_neg (by omega), hget]
  dsimp only
  rw [if_neg, if_neg (by omega), htk, h6, hlen, Nat.mod_eq_of_lt (by omega)]
  rintro ⟨g1, g2⟩
  exact h4 (h5 (fun e => by rw [e] at g1; simp at g1)) g2

theorem rnum_venc (u : Nat) (hu : u < 9223372036854775808) (rest : List UInt8) (pos : Nat) (most : Int) (hm : (u : Int) ≤ most) : rnum ⟨venc u ++ rest, pos, 0⟩ most = ((u : Int), ⟨rest, pos + (venc u).length, 0⟩) := by
  have hp : pnum (venc u ++ rest) most = ((u : Int), (venc u).length, 0) := by
    unfold pnum
    rw [pnat_venc u hu rest]
    dsimp only
    rw [if_neg (by omega)]
  unfold rnum rstep
  dsimp only
  rw [hp]
  simp

theorem rtext_venc (s : ByteArray) (rest : List UInt8) (pos : Nat) (most : Int) (hm : (s.size : Int) ≤ most) (h2 : s.size ≤ 16777216) : rtext ⟨venc s.size ++ s.data.toList ++ rest, pos, 0⟩ most = (s, ⟨rest, pos + ((venc s.size).length + s.size), 0⟩) := by
  have hs : s.data.toList.length = s.size := by simp
  have e1 : (venc s.size ++ (s.data.toList ++ rest)).drop ((venc s.size).length + s.size) = rest := by
    rw [← List.append_assoc, ← hs, ← List.length_append, List.drop_left]
  have e2 : ((venc s.size ++ (s.data.toList ++ rest)).take ((venc s.size).length + s.size)).drop (venc s.size).length = s.data.toList := by
    rw [← List.append_assoc, ← hs, ← List.length_append, List.take_left, List.drop_left]
  have hp : ptext (venc s.size ++ (s.data.toList ++ rest)) most = (s, (venc s.size).length + s.size, 0) := by
    unfold ptext
    rw [pnat_venc s.size (by omega) (s.data.toList ++ rest)]
    dsimp only
    rw [if_neg (by simp), if_neg (by omega), if_neg (by simp only [List.length_append]; omega), e2]
  unfold rtext rstep
  dsimp only
  rw [List.append_assoc, hp, if_neg (by simp), if_neg (by simp)]
  dsimp only
  rw [e1]

theorem odec_enc {o : Ou} (h : ochk o = 0) : odec (oencS o) = some o := by
  obtain ⟨h1, h2, h3, h4⟩ := ochk_zero h
  have e1 : ((o.ch.toNat : Nat) : Int) = o.ch := by omega
  have e2 : ((o.us.toNat : Nat) : Int) = o.us := by omega
  have hr : ∃ p, oread ⟨oenc o, 0, 0⟩ = (o, ⟨[], p, 0⟩) := by
    unfold oread oenc
    simp only [List.append_assoc]
    rw [rnum_venc o.ch.toNat (by omega) _ 0 4 (by omega)]
    dsimp only
    rw [show venc o.tg.size ++ (o.tg.data.toList ++ (venc o.tx.size ++ (o.tx.data.toList ++ venc o.us.toNat))) = venc o.tg.size ++ o.tg.data.toList ++ (venc o.tx.size ++ (o.tx.data.toList ++ venc o.us.toNat)) by simp]
    rw [rtext_venc o.tg _ _ 64 (by omega) (by omega)]
    dsimp only
    rw [show venc o.tx.size ++ (o.tx.data.toList ++ venc o.us.toNat) = venc o.tx.size ++ o.tx.data.toList ++ venc o.us.toNat by simp]
    rw [rtext_venc o.tx _ _ 4096 (by omega) (by omega)]
    dsimp only
    have h5 := rnum_venc o.us.toNat (by omega) [] (0 + (venc o.ch.toNat).length + ((venc o.tg.size).length + o.tg.size) + ((venc o.tx.size).length + o.tx.size)) 65535 (by omega)
    rw [List.append_nil] at h5
    rw [h5, e1, e2]
    exact ⟨_, rfl⟩
  obtain ⟨p, hr⟩ := hr
  unfold odec
  rw [oencS, if_pos h]
  dsimp only
  rw [hr]
  simp [h]
end Go.Proofs.YtijaglinajfplaaGreatDoor
