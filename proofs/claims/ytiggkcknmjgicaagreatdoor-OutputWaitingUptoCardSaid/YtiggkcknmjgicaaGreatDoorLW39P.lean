/-
  What waits, without a program.
  Conditions: none beyond those that each theorem states.
-/
import Derived.Test.YtiggkcknmjgicaaGreatDoorSnP
set_option maxRecDepth 10000
namespace Go.Proofs.YtiggkcknmjgicaaGreatDoor
open Go.RowKit

/-- Of the outputs pre, ws wait and ls have left. -/
inductive Sp : List En → List En → List Lf → Prop
  | nil : Sp [] [] []
  | wait {pre ws : List En} {ls : List Lf} (x : En) (h : Sp pre ws ls) : Sp (pre ++ [x]) (ws ++ [x]) ls
  | left {pre ws : List En} {ls : List Lf} (x : En) (y : Lf) (h : Sp pre ws ls) (hid : y.e.id = x.id) (htm : y.tm = 9) (hrd : y.rd = 0) : Sp (pre ++ [x]) ws (ls ++ [y])
theorem Sp.len {pre ws : List En} {ls : List Lf} (h : Sp pre ws ls) : ws.length + ls.length = pre.length := by
  induction h with
  | nil => rfl
  | wait x h ih => simp; omega
  | left x y h _ _ _ ih => simp; omega
theorem Sp.tm {pre ws : List En} {ls : List Lf} (h : Sp pre ws ls) : ∀ y ∈ ls, y.tm = 9 ∧ y.rd = 0 := by
  induction h with
  | nil => simp
  | wait x h ih => exact ih
  | left x y h _ h1 h2 ih =>
    intro z hz
    rcases List.mem_append.1 hz with hz | hz
    · exact ih z hz
    · obtain rfl := List.mem_singleton.1 hz
      exact ⟨h1, h2⟩
theorem Sp.filt {pre ws : List En} {ls : List Lf} (h : Sp pre ws ls) (hn : (pre.map En.id).Nodup) : pre.filter (fun e => decide (e.id ∉ ls.map (·.e.id))) = ws ∧ (∀ i ∈ ls.map (·.e.id), i ∈ pre.map En.id) ∧ ∀ e ∈ ws, e ∈ pre := by
  induction h with
  | nil => simp
  | @wait pre ws ls x h ih =>
    rw [List.map_append, List.nodup_append] at hn
    obtain ⟨h1, h2, h3⟩ := ih hn.1
    have hx : x.id ∉ ls.map (·.e.id) := fun hh => hn.2.2 x.id (h2 _ hh) x.id (by simp) rfl
    refine ⟨?_, fun i hi => by rw [List.map_append]; exact List.mem_append_left _ (h2 i hi), fun e he => ?_⟩
    · rw [List.filter_append, h1, List.filter_cons_of_pos (by simpa using hx), List.filter_nil]
    · rcases List.mem_append.1 he with he | he
      · exact List.mem_append_left _ (h3 e he)
      · exact List.mem_append_right _ he
  | @left pre ws ls x y h hid _ _ ih =>
    rw [List.map_append, List.nodup_append] at hn
    obtain ⟨h1, h2, h3⟩ := ih hn.1
    refine ⟨?_, fun i hi => ?_, fun e he => List.mem_append_left _ (h3 e he)⟩
    · rw [List.filter_append, List.filter_cons_of_neg (by simp [hid]), List.filter_nil, List.append_nil, ← h1]
      refine List.filter_congr fun e he => ?_
      have hne : e.id ≠ x.id := fun hh => hn.2.2 e.id (List.mem_map.2 ⟨e, he, rfl⟩) x.id (by simp) hh
      simp [hid, hne]
    · rw [List.map_append] at hi ⊢
      rcases List.mem_append.1 hi with hi | hi
      · exact List.mem_append_left _ (h2 i hi)
      · simp at hi
        rw [hi, hid]
        exact List.mem_append_right _ (by simp)
theorem idm_none (i : Idn) (ls : List Lf) : (mget i (idm ls)).isNone = decide (i ∉ ls.map (·.e.id)) := by
  refine snoc_ind (P := fun ls => (mget i (idm ls)).isNone = decide (i ∉ ls.map (·.e.id))) (by simp [idm, mget]) (fun ls y ih => ?_) ls
  rw [idm_snoc, mget_setv]
  by_cases h : y.e.id = i
  · simp [h]
  · rw [if_neg h, ih]
    simp [fun e => h (Eq.symm e)]
    exact fun _ e => h e.symm
theorem Sp.wt {all ws : List En} {ls : List Lf} (h : Sp all ws ls) (hn : (all.map En.id).Nodup) : wtL (idm ls) all = ws := by
  unfold wtL
  rw [← (h.filt hn).1]
  exact List.filter_congr fun e _ => idm_none e.id ls
theorem id_nodup {s : SS} (h : SOk s) : ((allE s.es).map En.id).Nodup := by
  refine List.pairwise_map.2 ((allE_srt h).imp fun {a b} hab e => ?_)
  have : nmE a = nmE b := by
    have h1 : a.who = b.who := congrArg Idn.who e
    have h2 : a.nu = b.nu := congrArg Idn.nu e
    have h3 : a.tk = b.tk := congrArg Idn.tk e
    unfold nmE; rw [h1, h2, h3]
  unfold cmpE at hab
  rw [this, (cmpO_eq _ _).2 rfl] at hab
  omega
def cmpD (a b : En) : Int := a.tk - b.tk
theorem cmpD_T (a b : En) : cmpD a b < 0 ↔ cmpT a b < 0 := by
  unfold cmpD cmpT cmpI
  split <;> (try split) <;> omega
theorem leave_good {ls : List Lf} {e : En} {o : Ou} (hv : lvalid e.who.data.toList = true) (hn : 0 ≤ e.nu ∧ e.nu ≤ 1048576) (ht : 0 ≤ e.tk ∧ e.tk ≤ 1073741824) (ho : ochk o = 0) (hl : ls.length ≤ 1000) (htm : ∀ y ∈ ls, y.tm = 9 ∧ y.rd = 0) : leaveE ls ⟨⟨e.who, e.nu, e.tk, o⟩, 9, 0⟩ = 0 := by
  have h1 : lchk ⟨⟨e.who, e.nu, e.tk, o⟩, 9, 0⟩ = 0 := by
    unfold lchk
    rw [if_neg (by simp [hv]), if_neg (by simp [tick]; omega)]
    exact ho
  have h2 : late ls ⟨⟨e.who, e.nu, e.tk, o⟩, 9, 0⟩ = false := by
    unfold late
    cases hg : ls.getLast? with
    | none => rfl
    | some y =>
      have := htm y (List.mem_of_getLast? hg)
      simp [this.1, this.2]
  unfold leaveE
  rw [if_neg (by simp [h1]), h2, if_neg (by simp), if_neg (by omega)]
theorem ochk_tx {o : Ou} {t : ByteArray} (h : ochk o = 0) (ht : t.size ≤ 4096) : ochk ⟨o.ch, o.tg, t, o.us⟩ = 0 := by
  unfold ochk at h ⊢
  dsimp only
  split at h
  · omega
  · rename_i h1
    rw [if_neg h1]
    split at h
    · omega
    · rename_i h2
      rw [if_neg h2]
      split at h
      · omega
      · rename_i h3
        rw [if_neg h3]
        split at h
        · omega
        · rename_i h4
          rw [if_neg h4, if_neg (by omega)]
          split at h
          · omega
          · exact h
end Go.Proofs.YtiggkcknmjgicaaGreatDoor
