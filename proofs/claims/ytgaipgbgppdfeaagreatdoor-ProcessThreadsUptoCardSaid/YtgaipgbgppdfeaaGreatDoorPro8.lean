/-
  What Decode makes of what Encode writes; contracts of the package process over a view: Epoch, Get, running, put.
  Conditions: those that each theorem states.
-/
import Derived.Test.YtgaipgbgppdfeaaGreatDoorPro7
import Derived.Test.YtgaipgbgppdfeaaGreatDoorMK
import Derived.Test.YtgaipgbgppdfeaaGreatDoorMF
set_option maxRecDepth 10000
namespace Go.Proofs.YtgaipgbgppdfeaaGreatDoor
open Go.RowKit

theorem genc_snoc (gs : List Int) (x : Int) : genc (gs ++ [x]) = genc gs ++ venc x.toNat := by simp [genc]
theorem rnums_genc (gs : List Int) : (∀ z ∈ gs, 0 ≤ z ∧ z ≤ 65535) → ∀ (rest : List UInt8) (pos : Nat), ∃ pos', rnums gs.length ⟨genc gs ++ rest, pos, 0⟩ = (gs, ⟨rest, pos', 0⟩) := by
  refine snoc_ind (P := fun gs => (∀ z ∈ gs, 0 ≤ z ∧ z ≤ 65535) → ∀ (rest : List UInt8) (pos : Nat), ∃ pos', rnums gs.length ⟨genc gs ++ rest, pos, 0⟩ = (gs, ⟨rest, pos', 0⟩)) (fun _ rest pos => ⟨pos, by simp [rnums, genc]⟩) (fun gs x ih h rest pos => ?_) gs
  obtain ⟨p1, h1⟩ := ih (fun z hz => h z (by simp [hz])) (venc x.toNat ++ rest) pos
  have hx := h x (by simp)
  have e1 : ((x.toNat : Nat) : Int) = x := by omega
  refine ⟨p1 + (venc x.toNat).length, ?_⟩
  rw [List.length_append, List.length_singleton, genc_snoc, List.append_assoc]
  show ((rnums gs.length _).1 ++ [(rnum (rnums gs.length _).2 65535).1], (rnum (rnums gs.length _).2 65535).2) = _
  rw [h1]
  dsimp only
  rw [rnum_venc x.toNat (by omega) rest p1 65535 (by omega), e1]
theorem pdec_enc {p : Pr} (h : pchk p = 0) (h1 : p.sp.size ≤ 65536) (h2 : p.dr.mkr.size ≤ 65536) : pdec (pencS p) = some p := by
  obtain ⟨q1, q2, q3, q4, q5, q6⟩ := pchk_zero h
  obtain ⟨q7, q8, q9⟩ := gchk_zero q4
  obtain ⟨q10, q11, q12⟩ := bchk_zero q6
  unfold pfit at q3
  have e1 : ((p.kd.toNat : Nat) : Int) = p.kd := by omega
  have e2 : ((p.st.toNat : Nat) : Int) = p.st := by omega
  have e3 : ((p.cd.toNat : Nat) : Int) = p.cd := by omega
  have e4 : ((p.ep.toNat : Nat) : Int) = p.ep := by omega
  have e5 : ((p.us.toNat : Nat) : Int) = p.us := by omega
  have e6 : ((p.pg.toNat : Nat) : Int) = p.pg := by omega
  have e7 : ((p.dr.nu.toNat : Nat) : Int) = p.dr.nu := by omega
  have e8 : ((p.tm.toNat : Nat) : Int) = p.tm := by omega
  have hl : penc p = venc p.kd.toNat ++ (venc p.st.toNat ++ (venc p.cd.toNat ++ (venc p.ep.toNat ++ (venc p.us.toNat ++ (venc p.gs.length ++ (genc p.gs ++ (venc p.sp.size ++ p.sp.data.toList ++ (venc p.pg.toNat ++ (venc p.dr.mkr.size ++ p.dr.mkr.data.toList ++ (venc p.dr.nu.toNat ++ (venc p.tm.toNat ++ []))))))))))) := by simp [penc]
  have r1 := fun p' rest => rnum_venc p.kd.toNat (by omega) rest p' 2 (by omega)
  have r2 := fun p' rest => rnum_venc p.st.toNat (by omega) rest p' 3 (by omega)
  have r3 := fun p' rest => rnum_venc p.cd.toNat (by omega) rest p' 410 (by omega)
  have r4 := fun p' rest => rnum_venc p.ep.toNat (by omega) rest p' 1073741824 (by omega)
  have r5 := fun p' rest => rnum_venc p.us.toNat (by omega) rest p' 65535 (by omega)
  have r6 := fun p' rest => rnum_venc p.gs.length (by omega) rest p' 8 (by omega)
  have r8 := fun p' rest => rtext_venc p.sp rest p' 65536 (by omega) (by omega)
  have r9 := fun p' rest => rnum_venc p.pg.toNat (by omega) rest p' 64 (by omega)
  have r10 := fun p' rest => rtext_venc p.dr.mkr rest p' 65536 (by omega) (by omega)
  have r11 := fun p' rest => rnum_venc p.dr.nu.toNat (by omega) rest p' 1073741824 (by omega)
  have r12 := fun p' rest => rnum_venc p.tm.toNat (by omega) rest p' 99 (by omega)
  rw [pencS, if_pos h]
  unfold pdec pread
  dsimp only
  rw [hl]
  simp only [r1, r2, r3, r4, r5, r6, Int.toNat_natCast]
  obtain ⟨p7, r7⟩ := rnums_genc p.gs q8 (venc p.sp.size ++ p.sp.data.toList ++ (venc p.pg.toNat ++ (venc p.dr.mkr.size ++ p.dr.mkr.data.toList ++ (venc p.dr.nu.toNat ++ (venc p.tm.toNat ++ []))))) (0 + (venc p.kd.toNat).length + (venc p.st.toNat).length + (venc p.cd.toNat).length + (venc p.ep.toNat).length + (venc p.us.toNat).length + (venc p.gs.length).length)
  simp only [r7, r8, r9, r10, r11, r12, e1, e2, e3, e4, e5, e6, e7, e8]
  rw [if_pos ⟨trivial, trivial, h⟩]
end Go.Proofs.YtgaipgbgppdfeaaGreatDoor
