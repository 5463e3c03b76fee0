/-
  The bytes of a process's memory after a text was stored: plain laws.
  Conditions: those that each theorem states.
-/
import Derived.Test.YtgaipgbgppdfeaaGreatDoorSpc9
import Derived.Test.YtgaipgbgppdfeaaGreatDoorPro12
set_option maxRecDepth 10000
namespace Go.Proofs.YtgaipgbgppdfeaaGreatDoor
open Go.RowKit

/-- A byte of a memory. -/
def bat (M : Nat → Pg) (j : Nat) : Option UInt8 := match M (j / 64) with
  | .h bs _ => bs[j % 64]?
  | _ => none
theorem setB_bat {M : Nat → Pg} {k j : Nat} {c : UInt8} (h : okP (M (k / 64))) : bat (setB M k c) j = if j = k then some c else bat M j := by
  unfold setB
  cases hm : M (k / 64) with
  | h bs d =>
    rw [hm] at h
    have hl : bs.length = 64 := h
    unfold bat
    dsimp only
    by_cases hj : j / 64 = k / 64
    · rw [hj, up_eq, hm]
      dsimp only
      rw [List.getElem?_set]
      by_cases hjk : j = k
      · subst hjk; rw [if_pos rfl, if_pos (by omega), if_pos rfl]
      · rw [if_neg (by omega), if_neg hjk]
    · rw [up_ne _ _ hj, if_neg (by intro e; subst e; exact hj rfl)]
  | _ => rw [hm] at h; cases h
theorem stM_bat : ∀ (l : List UInt8) {M : Nat → Pg} {k j : Nat}, (∀ i, k ≤ i → i < k + l.length → okP (M (i / 64))) → bat (stM M k l) j = if k ≤ j ∧ j < k + l.length then l[j - k]? else bat M j
  | [], M, k, j, _ => by rw [if_neg (by simp)]; rfl
  | c :: l, M, k, j, h => by
    rw [stM, stM_bat l (M := setB M k c) (k := k + 1) (fun i h1 h2 => setB_ok (h i (by omega) (by simp only [List.length_cons]; omega)))]
    rw [setB_bat (h k (Nat.le_refl _) (by simp))]
    simp only [List.length_cons]
    by_cases h1 : j = k
    · subst h1
      rw [if_neg (by omega), if_pos rfl, if_pos (by omega)]
      simp
    · rw [if_neg h1]
      by_cases h2 : k + 1 ≤ j ∧ j < k + 1 + l.length
      · rw [if_pos h2, if_pos (by omega), show j - k = (j - (k + 1)) + 1 by omega]; rfl
      · rw [if_neg h2, if_neg (by omega)]
theorem setB_un {M : Nat → Pg} {k : Nat} {c : UInt8} (i : Nat) : setB M k c i = M i ∨ (setB M k c i).chg = true := by
  unfold setB
  cases hm : M (k / 64) with
  | h bs d =>
    dsimp only
    by_cases hi : i = k / 64
    · subst hi; right; rw [up_eq]; rfl
    · left; rw [up_ne _ _ hi]
  | _ => left; rfl
theorem stM_un : ∀ (l : List UInt8) {M : Nat → Pg} {k : Nat} (i : Nat), (∀ j, (M j).chg = false) → stM M k l i = M i ∨ (stM M k l i).chg = true
  | l, M, k, i, hM => by
    have H : ∀ (l : List UInt8) {M : Nat → Pg} {k : Nat}, stM M k l i = M i ∨ (stM M k l i).chg = true := by
      intro l
      induction l with
      | nil => intro M k; left; rfl
      | cons c l ih =>
        intro M k
        rw [stM]
        rcases ih (M := setB M k c) (k := k + 1) with h | h
        · rcases setB_un (M := M) (k := k) (c := c) i with h2 | h2
          · left; rw [h, h2]
          · right; rw [h, h2]
        · right; exact h
    exact H l
/-- Pages asked for, one after the other. -/
theorem accM_all {src : Nat → Pg} {p0 : Nat} : ∀ {J : Nat}, (∀ i, i < p0 + J → isH (src i) = true) → accM src (fun _ => .u) p0 J = ((fun j => if p0 ≤ j ∧ j < p0 + J then src j else .u), true)
  | 0, _ => by
    rw [accM]
    congr 1
    funext j
    rw [if_neg (by omega)]
  | J + 1, h => by
    have ih := accM_all (src := src) (p0 := p0) (J := J) (fun i hi => h i (by omega))
    rw [accM_step (by rw [ih]), ih]
    have hn : ndM src (fun j => if p0 ≤ j ∧ j < p0 + J then src j else .u) (p0 + J) = fun j => if p0 ≤ j ∧ j < p0 + (J + 1) then src j else .u := by
      unfold ndM
      dsimp only
      rw [if_neg (by omega)]
      funext j
      show up _ (p0 + J) (src (p0 + J)) j = _
      unfold up
      by_cases hj : j = p0 + J
      · subst hj; rw [if_pos rfl, if_pos (by omega)]
      · rw [if_neg hj]
        dsimp only
        by_cases h2 : p0 ≤ j ∧ j < p0 + J
        · rw [if_pos h2, if_pos (by omega)]
        · rw [if_neg h2, if_neg (by omega)]
    dsimp only
    rw [hn]
    congr 1
    dsimp only
    rw [if_pos (by omega)]
    exact h _ (by omega)
/-- The memory after a store into a new memory. -/
def nwM (src : Nat → Pg) (k : Nat) (tx : ByteArray) : Nat → Pg := stM (accR src (fun _ => .u) (k : Int) tx.size).1 k tx.data.toList
section
variable {src : Nat → Pg} {k pg : Nat} {tx : ByteArray} (hpg : pg ≤ 64) (hk : k + tx.size ≤ 64 * pg) (hs : ∀ i, i < pg → ∃ bs, src i = .h bs false ∧ bs.length = 64)
include hpg hk hs
theorem accR_new : (accR src (fun _ => .u) (k : Int) tx.size).2 = 0 ∧ (∀ j, (accR src (fun _ => .u) (k : Int) tx.size).1 j = .u ∨ (j < pg ∧ (accR src (fun _ => .u) (k : Int) tx.size).1 j = src j)) ∧ (∀ i, k ≤ i → i < k + tx.size → (accR src (fun _ => .u) (k : Int) tx.size).1 (i / 64) = src (i / 64)) := by
  unfold accR
  by_cases h0 : tx.size = 0
  · rw [if_pos h0]
    exact ⟨rfl, fun j => .inl rfl, fun i h1 h2 => by omega⟩
  · rw [if_neg h0, if_neg (by omega), show ((k : Int)).toNat = k from rfl]
    have hp : ∀ i, i < k / 64 + ((k + tx.size - 1) / 64 + 1 - k / 64) → isH (src i) = true := fun i hi => by
      obtain ⟨bs, hb, _⟩ := hs i (by omega)
      rw [hb]; rfl
    rw [accM_all hp]
    refine ⟨rfl, fun j => ?_, fun i h1 h2 => ?_⟩
    · dsimp only
      by_cases hj : k / 64 ≤ j ∧ j < k / 64 + ((k + tx.size - 1) / 64 + 1 - k / 64)
      · rw [if_pos hj]; exact .inr ⟨by omega, rfl⟩
      · rw [if_neg hj]; exact .inl rfl
    · dsimp only
      rw [if_pos (by omega)]
theorem nw_hall : ∀ j, isH ((accR src (fun _ => .u) (k : Int) tx.size).1 j) = true → okP ((accR src (fun _ => .u) (k : Int) tx.size).1 j) := fun j h => by
  rcases (accR_new hpg hk hs).2.1 j with e | ⟨h1, e⟩
  · rw [e] at h; cases h
  · obtain ⟨bs, hb, hl⟩ := hs j h1
    rw [e, hb]; exact hl
theorem nw_chg0 : ∀ j, ((accR src (fun _ => .u) (k : Int) tx.size).1 j).chg = false := fun j => by
  rcases (accR_new hpg hk hs).2.1 j with e | ⟨h1, e⟩
  · rw [e]; rfl
  · obtain ⟨bs, hb, hl⟩ := hs j h1
    rw [e, hb]; rfl
theorem nw_un (j : Nat) : nwM src k tx j = (accR src (fun _ => .u) (k : Int) tx.size).1 j ∨ (nwM src k tx j).chg = true := stM_un _ j (nw_chg0 hpg hk hs)
theorem nw_ok (j : Nat) : nwM src k tx j = .u ∨ (j < pg ∧ okP (nwM src k tx j)) := by
  rcases (accR_new hpg hk hs).2.1 j with e | ⟨h1, e⟩
  · left
    have H : ∀ (l : List UInt8) {M : Nat → Pg} {k : Nat}, M j = .u → stM M k l j = .u := by
      intro l
      induction l with
      | nil => intro M k h; exact h
      | cons c l ih =>
        intro M k h
        rw [stM]
        refine ih ?_
        unfold setB
        cases hm : M (k / 64) with
        | h bs d =>
          dsimp only
          by_cases hi : j = k / 64
          · subst hi; rw [h] at hm; cases hm
          · rw [up_ne _ _ hi]; exact h
        | _ => exact h
    exact H _ e
  · right
    refine ⟨h1, stM_ok _ ?_⟩
    obtain ⟨bs, hb, hl⟩ := hs j h1
    rw [e, hb]; exact hl
theorem nw_bat (j : Nat) : bat (nwM src k tx) j = if k ≤ j ∧ j < k + tx.size then tx.data.toList[j - k]? else bat (accR src (fun _ => .u) (k : Int) tx.size).1 j := by
  have hsz : tx.data.toList.length = tx.size := by simp
  unfold nwM
  rw [stM_bat _ (fun i h1 h2 => ?_), hsz]
  rw [hsz] at h2
  rw [(accR_new hpg hk hs).2.2 i h1 h2]
  obtain ⟨bs, hb, hl⟩ := hs (i / 64) (by omega)
  rw [hb]; exact hl
end
/-- What is there after pages were put back. -/
theorem vput_ne {es : Al} {sp : ByteArray} {m : Nm} : ∀ {l : List Sc} {cs : List Ch}, (∀ i : Int, gnm sp i ≠ m) → vget es (cs ++ l.map (pgC sp)) m = vget es cs m
  | [], cs, _ => by simp
  | x :: l, cs, h => by
    rw [List.map_cons, show cs ++ pgC sp x :: l.map (pgC sp) = (cs ++ [pgC sp x]) ++ l.map (pgC sp) by simp, vput_ne h, vg_ne (h _)]
theorem vput_eq {es : Al} {cs : List Ch} {sp : ByteArray} (hv : lvalid sp.data.toList = true) (M : Nat → Pg) : ∀ {n : Nat}, n ≤ 64 → ∀ i : Nat, vget es (cs ++ (chLi M n).map (pgC sp)) (gnm sp (i : Int)) = match chO M i with
    | some x => if i < n then (x.val, true) else vget es cs (gnm sp (i : Int))
    | none => vget es cs (gnm sp (i : Int))
  | 0, _, i => by
    rw [show chLi M 0 = [] from rfl, List.map_nil, List.append_nil]
    split
    · rw [if_neg (by omega)]
    · rfl
  | n + 1, hn, i => by
    rw [chLi_succ]
    have ih := vput_eq (es := es) (cs := cs) hv M (n := n) (by omega) i
    cases hc : chO M n with
    | none =>
      rw [Option.toList_none, List.append_nil, ih]
      split
      · rename_i x hx
        by_cases hin : i = n
        · subst hin; rw [hx] at hc; cases hc
        · by_cases h2 : i < n
          · rw [if_pos h2, if_pos (by omega)]
          · rw [if_neg h2, if_neg (by omega)]
      · rfl
    | some y =>
      have hyp : y.pg = n := by
        unfold chO at hc
        split at hc
        · cases hc; rfl
        · cases hc
      rw [Option.toList_some, List.map_append, List.map_cons, List.map_nil, ← List.append_assoc]
      by_cases hin : i = n
      · subst hin
        rw [vg_eq (by show gnm sp (y.pg : Int) = _; rw [hyp]) (chk_gnm hv (by omega)), hc]
        dsimp only
        rw [if_pos (by omega)]
        rfl
      · rw [vg_ne (by show gnm sp (y.pg : Int) ≠ _; rw [hyp]; exact gnm_ne (.inr (by omega))), ih]
        split
        · by_cases h2 : i < n
          · rw [if_pos h2, if_pos (by omega)]
          · rw [if_neg h2, if_neg (by omega)]
        · rfl
theorem memS_get (es : Al) (cs : List Ch) (sp : ByteArray) : ∀ {n j : Nat}, j < 64 * n → (memS es cs sp n).data.toList[j]? = (padS (vget es cs (gnm sp ((j / 64 : Nat) : Int))).1)[j % 64]?
  | 0, j, h => by omega
  | n + 1, j, h => by
    have hl : (memS es cs sp n).data.toList.length = 64 * n := by rw [← memS_size es cs sp n]; simp
    rw [memS, ByteArray.data_append, Array.toList_append]
    by_cases hj : j < 64 * n
    · rw [List.getElem?_append_left (by omega), memS_get es cs sp hj]
    · rw [List.getElem?_append_right (by omega), hl]
      have e1 : j / 64 = n := by omega
      have e2 : j - 64 * n = j % 64 := by omega
      rw [e1, e2]
theorem padS_full {s : ByteArray} (h : s.size = 64) : padS s = s.data.toList := by
  have hl : s.data.toList.length = 64 := by rw [← h]; simp
  unfold padS cpS
  rw [show z64.length = 64 from rfl, List.take_of_length_le (by omega), List.drop_of_length_le (by rw [h]; decide), List.append_nil]
/-- The bytes after a text was stored. -/
theorem memS_store {es : Al} {cs : List Ch} {sp : ByteArray} {src : Nat → Pg} {k pg : Nat} {tx : ByteArray} (hv : lvalid sp.data.toList = true) (hpg : pg ≤ 64) (hk : k + tx.size ≤ 64 * pg) (hs : ∀ i, i < pg → src i = .h (padS (vget es cs (gnm sp (i : Int))).1) false) :
    (memS es (cs ++ (chLi (nwM src k tx) 64).map (pgC sp)) sp pg).data.toList = (memS es cs sp pg).data.toList.take k ++ tx.data.toList ++ (memS es cs sp pg).data.toList.drop (k + tx.size) := by
  have hs' : ∀ i, i < pg → ∃ bs, src i = .h bs false ∧ bs.length = 64 := fun i hi => ⟨_, hs i hi, padS_len _⟩
  have hl1 : (memS es cs sp pg).data.toList.length = 64 * pg := by rw [← memS_size es cs sp pg]; simp
  have hl2 : (memS es (cs ++ (chLi (nwM src k tx) 64).map (pgC sp)) sp pg).data.toList.length = 64 * pg := by rw [← memS_size es (cs ++ (chLi (nwM src k tx) 64).map (pgC sp)) sp pg]; simp
  have hsz : tx.data.toList.length = tx.size := by simp
  apply List.ext_getElem?
  intro j
  by_cases hj : j < 64 * pg
  rotate_left
  · rw [List.getElem?_eq_none (by omega), List.getElem?_eq_none (by simp only [List.length_append, List.length_take, List.length_drop]; omega)]
  rw [memS_get _ _ _ hj, vput_eq hv _ (Nat.le_refl 64)]
  have hold := memS_get es cs sp hj
  have hji : j / 64 < pg := by omega
  have hB := nw_bat hpg hk hs' j
  have hR : ((memS es cs sp pg).data.toList.take k ++ tx.data.toList ++ (memS es cs sp pg).data.toList.drop (k + tx.size))[j]? = if k ≤ j ∧ j < k + tx.size then tx.data.toList[j - k]? else (memS es cs sp pg).data.toList[j]? := by
    have ht : ((memS es cs sp pg).data.toList.take k).length = k := by rw [List.length_take]; omega
    by_cases h1 : j < k
    · rw [if_neg (by omega), List.append_assoc, List.getElem?_append_left (by omega), List.getElem?_take, if_pos h1]
    · by_cases h2 : j < k + tx.size
      · rw [if_pos ⟨by omega, h2⟩, List.append_assoc, List.getElem?_append_right (by omega), ht, List.getElem?_append_left (by omega)]
      · rw [if_neg (by omega), List.getElem?_append_right (by rw [List.length_append, ht]; omega), List.length_append, ht, hsz, List.getElem?_drop]
        congr 1; omega
  rw [hR, hold]
  have hM1 := (accR_new hpg hk hs').2
  rcases nw_un hpg hk hs' (j / 64) with e | e
  · -- the page is as it was
    have hc0 : chO (nwM src k tx) (j / 64) = none := by
      have := nw_chg0 hpg hk hs' (j / 64)
      rw [← e] at this
      unfold chO
      cases hm : nwM src k tx (j / 64) with
      | h bs c => rw [hm] at this; obtain rfl : c = false := this; rfl
      | _ => rfl
    rw [hc0]
    dsimp only
    by_cases hin : k ≤ j ∧ j < k + tx.size
    · rw [if_pos hin]
      rw [if_pos hin] at hB
      rw [← hB]
      unfold bat
      rw [e, hM1.2 j hin.1 hin.2, hs _ hji]
    · rw [if_neg hin]
  · cases hm : nwM src k tx (j / 64) with
    | h bs c =>
      rw [hm] at e
      obtain rfl : c = true := e
      have hc1 : chO (nwM src k tx) (j / 64) = some ⟨j / 64, ⟨bs.toArray⟩⟩ := by unfold chO; rw [hm]
      have hbl : bs.length = 64 := by
        rcases nw_ok hpg hk hs' (j / 64) with h | ⟨_, h⟩
        · rw [hm] at h; cases h
        · rw [hm] at h; exact h
      rw [hc1]
      dsimp only
      rw [if_pos (by omega), padS_full (by show (List.toArray bs).size = 64; rw [List.size_toArray]; exact hbl)]
      have hbj : bat (nwM src k tx) j = bs[j % 64]? := by unfold bat; rw [hm]
      show bs[j % 64]? = _
      rw [← hbj, hB]
      by_cases hin : k ≤ j ∧ j < k + tx.size
      · rw [if_pos hin, if_pos hin]
      · rw [if_neg hin, if_neg hin]
        unfold bat
        rcases hM1.1 (j / 64) with h | ⟨_, h⟩
        · exfalso
          have : nwM src k tx (j / 64) = .u := by
            rcases nw_ok hpg hk hs' (j / 64) with h3 | ⟨h3, h4⟩
            · exact h3
            · exfalso
              have H : ∀ (l : List UInt8) {M : Nat → Pg} {k : Nat}, M (j / 64) = .u → stM M k l (j / 64) = .u := by
                intro l
                induction l with
                | nil => intro M k h; exact h
                | cons c l ih =>
                  intro M k h
                  rw [stM]
                  refine ih ?_
                  unfold setB
                  cases hm : M (k / 64) with
                  | h bs d =>
                    dsimp only
                    by_cases hi : j / 64 = k / 64
                    · rw [← hi, h] at hm; cases hm
                    · rw [up_ne _ _ hi]; exact h
                  | _ => exact h
              have h5 : nwM src k tx (j / 64) = .u := H _ h
              rw [h5] at h4; cases h4
          rw [hm] at this; cases this
        · rw [h, hs _ hji]
    | _ => rw [hm] at e; cases e
end Go.Proofs.YtgaipgbgppdfeaaGreatDoor
