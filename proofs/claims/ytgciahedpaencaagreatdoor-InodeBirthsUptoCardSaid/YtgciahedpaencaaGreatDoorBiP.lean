/-
  What a view holds of the counts of three processes that make nodes in turn.
  Conditions: none beyond those that each theorem states.
-/
import Derived.Test.YtgciahedpaencaaGreatDoorMJ
set_option maxRecDepth 10000
namespace Go.Proofs.YtgciahedpaencaaGreatDoor
open Go.RowKit

def mk2 : ByteArray := ⟨#[50, 46, 51]⟩
def mk3 : ByteArray := ⟨#[]⟩
/-- The makers of the model. -/
def mk27 (k : Nat) : ByteArray := if k = 0 then o1 else if k = 1 then mk2 else mk3
theorem mk27_valid (k : Nat) : lvalid (mk27 k).data.toList = true := by
  unfold mk27
  split
  · exact o1_valid
  · split
    · have h := (prts_step [50, 46, 51] 0 0 (by simp)).2.2.2
      rw [show ffirst (([50, 46, 51] : List UInt8).drop 0) 0 0 = (⟨2, 0, 0⟩, 1) from rfl] at h
      have h2 := (prts_step [50, 46, 51] 2 1 (by simp)).2.2.2
      rw [show ffirst (([50, 46, 51] : List UInt8).drop 2) 2 1 = (⟨3, 2, 0⟩, 3) from rfl] at h2
      simp at h h2
      simp [mk2, lvalid, lparts, h, h2]
    · simp [mk3, lvalid, lparts]
theorem mk27_size (k : Nat) : (mk27 k).size ≤ 3 := by
  unfold mk27
  split
  · decide
  · split <;> decide
theorem mk27_inj {j k : Nat} (hj : j < 3) (hk : k < 3) (h : mk27 j = mk27 k) : j = k := by
  have h12 : o1 ≠ mk2 := by decide
  have h13 : o1 ≠ mk3 := by decide
  have h23 : mk2 ≠ mk3 := by decide
  have e0 : mk27 0 = o1 := rfl
  have e1 : mk27 1 = mk2 := rfl
  have e2 : mk27 2 = mk3 := rfl
  match j, k, hj, hk with
  | 0, 0, _, _ => rfl
  | 0, 1, _, _ => exact absurd h h12
  | 0, 2, _, _ => exact absurd h h13
  | 1, 0, _, _ => exact absurd h.symm h12
  | 1, 1, _, _ => rfl
  | 1, 2, _, _ => exact absurd h h23
  | 2, 0, _, _ => exact absurd h.symm h13
  | 2, 1, _, _ => exact absurd h.symm h23
  | 2, 2, _, _ => rfl

def ndF : Ino := ⟨1, 0, 0, 0, 0, 0, ⟨#[]⟩⟩
theorem ndF_chk : ichk ndF = 0 := by
  have h1 : isE ⟨#[]⟩ = true := by simp [isE]
  unfold ichk ifit ndF
  dsimp only
  rw [if_neg (by omega), if_neg (by omega), if_neg (by simp [h1]), if_pos (by decide)]

/-- The counts of the three, and the births that were seen. -/
structure BI (i : Nat) (cs : List Ch) (ns : List Int) (m : List (Bi × Bool)) : Prop where
  len : ns.length = 3
  cl : cs.length ≤ 2 * i
  g : ∀ (k : Nat) (z : Int), ns[k]? = some z → 0 ≤ z ∧ z ≤ (i : Int) ∧ vget [] cs (cnm (mk27 k)) = if z = 0 then (⟨#[]⟩, false) else (cvs ⟨z, 0, 0⟩, true)
  s : ∀ (b : Bi) (u : Bool), mget b m = some u → ∃ (k : Nat) (z : Int), ns[k]? = some z ∧ b.mkr = mk27 k ∧ b.nu < z
theorem BI.init : BI 0 [] [0, 0, 0] [] := by
  refine ⟨rfl, by simp, fun k z h => ?_, fun b u h => by cases h⟩
  have hz : z = 0 := by
    match k, h with
    | 0, h => exact (Option.some.inj h).symm
    | 1, h => exact (Option.some.inj h).symm
    | 2, h => exact (Option.some.inj h).symm
    | k + 3, h => cases h
  subst hz
  refine ⟨by omega, by omega, ?_⟩
  rw [if_pos rfl, vget_nil]
variable {i : Nat} {cs : List Ch} {ns : List Int} {m : List (Bi × Bool)} {k : Nat} {z : Int}
theorem ct_ok {z : Int} (h0 : 0 ≤ z) (h1 : z ≤ 1048576) : CtOK ⟨z, 0, 0⟩ := ⟨h0, h1, Int.le_refl 0, by show (0 : Int) ≤ 1048576; decide, Int.le_refl 0, by show (0 : Int) ≤ 1048576; decide⟩
theorem BI.made (h : BI i cs ns m) (hi : i ≤ 1000) (hk : ns[k]? = some z) : (vget [] cs (cnm (mk27 k))).1.size ≤ 1099511627776 ∧ madeE [] cs (mk27 k) = (⟨z, 0, 0⟩, 0) := by
  obtain ⟨h1, h2, h3⟩ := h.g k z hk
  have hc := ct_ok h1 (by omega)
  rw [madeE, if_pos (mk27_valid k), h3]
  by_cases h0 : z = 0
  · subst h0
    rw [if_pos rfl]
    exact ⟨Nat.zero_le _, rfl⟩
  · rw [if_neg h0]
    refine ⟨Nat.le_trans (cvs_size hc) (by omega), ?_⟩
    simp only [if_true, enc_cdec hc]
    rfl
theorem BI.step (h : BI i cs ns m) (hi : i ≤ 1000) (hk : ns[k]? = some z) : mkE [] cs (mk27 k) ndF = (⟨mk27 k, z⟩, 0) ∧ mkC [] cs (mk27 k) ndF = cs ++ [⟨cnm (mk27 k), cvs ⟨z + 1, 0, 0⟩, false⟩] ++ [⟨nnm ⟨mk27 k, z⟩, iencS ndF, false⟩] := by
  obtain ⟨h1, h2, h3⟩ := h.g k z hk
  have hm := (h.made hi hk).2
  have hn : nbE [] cs (mk27 k) = (⟨mk27 k, z⟩, 0) := by
    unfold nbE
    rw [hm, if_neg (by simp), if_neg (by dsimp only; omega)]
  have he : mkE [] cs (mk27 k) ndF = (⟨mk27 k, z⟩, 0) := by rw [mkE, if_neg (by simp [ndF_chk]), if_neg (by simp [ndF]), hn]
  refine ⟨he, ?_⟩
  rw [mkC, he, if_pos rfl, nbC, hn, if_pos rfl, hm]
theorem BI.fresh (h : BI i cs ns m) (hk : ns[k]? = some z) (hk3 : k < 3) : mget ⟨mk27 k, z⟩ m = none := by
  cases hg : mget (⟨mk27 k, z⟩ : Bi) m with
  | none => rfl
  | some u =>
    obtain ⟨j, y, hj, h1, h2⟩ := h.s _ _ hg
    have hj3 : j < 3 := by rw [← h.len]; exact (List.getElem?_eq_some_iff.1 hj).1
    obtain rfl := mk27_inj hk3 hj3 h1
    obtain rfl := Option.some.inj (hk.symm.trans hj)
    exact absurd h2 (Int.lt_irrefl _)
theorem BI.next (h : BI i cs ns m) (hi : i ≤ 1000) (hk : ns[k]? = some z) (hk3 : k < 3) (u : Bool) : BI (i + 1) (mkC [] cs (mk27 k) ndF) (ns.set k (z + 1)) (mset ⟨mk27 k, z⟩ u m) := by
  obtain ⟨h1, h2, h3⟩ := h.g k z hk
  have hkl : k < ns.length := by rw [h.len]; exact hk3
  refine ⟨by simp [h.len], ?_, fun j y hj => ?_, fun b v hb => ?_⟩
  · rw [(h.step hi hk).2]
    have := h.cl
    simp; omega
  · rw [(h.step hi hk).2]
    have hj3 : j < 3 := by
      have := (List.getElem?_eq_some_iff.1 hj).1
      rw [List.length_set, h.len] at this; exact this
    have hne : nnm ⟨mk27 k, z⟩ ≠ cnm (mk27 j) := by simp [nnm, cnm]
    have hv : vget [] (cs ++ [⟨cnm (mk27 k), cvs ⟨z + 1, 0, 0⟩, false⟩] ++ [⟨nnm ⟨mk27 k, z⟩, iencS ndF, false⟩]) (cnm (mk27 j)) = vget [] (cs ++ [⟨cnm (mk27 k), cvs ⟨z + 1, 0, 0⟩, false⟩]) (cnm (mk27 j)) := by
      unfold vget
      rw [vcall_snoc, if_neg hne]
    rw [hv]
    by_cases hjk : k = j
    · subst hjk
      rw [List.getElem?_set_self hkl] at hj
      obtain rfl := Option.some.inj hj
      refine ⟨by omega, by omega, ?_⟩
      rw [vget_last (chk_cnm (mk27_valid k)), if_neg (by omega)]
    · rw [List.getElem?_set_ne hjk] at hj
      obtain ⟨g1, g2, g3⟩ := h.g j y hj
      refine ⟨g1, by omega, ?_⟩
      rw [← g3]
      have hne2 : cnm (mk27 k) ≠ cnm (mk27 j) := fun e => hjk (mk27_inj hk3 hj3 (by simpa [cnm] using e))
      unfold vget
      rw [vcall_snoc, if_neg hne2]
  · rw [mget_setv] at hb
    split at hb
    · rename_i e
      subst e
      exact ⟨k, z + 1, List.getElem?_set_self hkl, rfl, by show z < z + 1; omega⟩
    · obtain ⟨j, y, hj, g1, g2⟩ := h.s b v hb
      by_cases hjk : k = j
      · subst hjk
        obtain rfl := Option.some.inj (hk.symm.trans hj)
        exact ⟨k, z + 1, List.getElem?_set_self hkl, g1, by omega⟩
      · exact ⟨j, y, by rw [List.getElem?_set_ne hjk]; exact hj, g1, g2⟩
end Go.Proofs.YtgciahedpaencaaGreatDoor
