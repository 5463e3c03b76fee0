/-
  A text written in parts, in one view or in several ones: what holds between two parts.
  Conditions: none beyond those that each theorem states.
-/
import Derived.Test.YtgciahedpaencaaGreatDoorLIZ
set_option maxRecDepth 10000
namespace Go.Proofs.YtgciahedpaencaaGreatDoor
open Go.RowKit

theorem nodup_sub {α : Type} [DecidableEq α] : ∀ (l m : List α), l.Nodup → (∀ x ∈ l, x ∈ m) → l.length ≤ m.length
  | [], m, _, _ => Nat.zero_le _
  | a :: l, m, hn, hs => by
    have ha : a ∈ m := hs a (by simp)
    have h1 := nodup_sub l (m.erase a) (List.nodup_cons.1 hn).2 fun x hx => (List.mem_erase_of_ne (fun e => (List.nodup_cons.1 hn).1 (by rw [e] at hx; exact hx))).2 (hs x (by simp [hx]))
    rw [List.length_erase_of_mem ha] at h1
    have : 0 < m.length := List.length_pos_of_mem ha
    simp only [List.length_cons]; omega
theorem vget_after {es : Al} {cs : List Ch} (h : ∀ c ∈ cs, c.abs = false) (n : Nm) : vget (applyE es (vwr cs)) [] n = vget es cs n := by
  unfold vget
  split
  · rfl
  · show ((getO n (applyE es (vwr cs))).getD ⟨#[]⟩, (getO n (applyE es (vwr cs))).isSome) = _
    rw [getO_after]
    cases hc : vcall cs n with
    | none => rfl
    | some c =>
      have := h c (vcall_nm hc).2
      simp [this]
theorem FOK.after {es : Al} {cs : List Ch} {bi : Bi} {w : ByteArray} (h : FOK es cs bi w) (ha : ∀ c ∈ cs, c.abs = false) : FOK (applyE es (vwr cs)) [] bi w := by
  refine ⟨?_, h.le, fun k hk => ?_, fun j hj => ?_⟩
  · obtain ⟨nd, h1, h2, h3, h4⟩ := h.nd
    exact ⟨nd, h1, h2, h3, by rw [vget_after ha]; exact h4⟩
  · unfold fb
    rw [vget_after ha]
    exact h.b k hk
  · rw [vget_after ha]
    exact h.e j hj

/-- What changes a text from a place on leaves. -/
def NmP (bi : Bi) (f t : Nat) (n : Nm) : Prop := n = nnm bi ∨ ∃ j : Nat, f / 64 ≤ j ∧ j * 64 < t ∧ n = bnm bi (j : Int)
theorem nmp_len {bi : Bi} {f t : Nat} {cs : List Ch} (ht : t ≤ f + 400) (h : ∀ c ∈ cs, NmP bi f t c.nm) : (lastL cs).length ≤ 12 := by
  have h1 : ((lastL cs).map (·.1)).length ≤ (nnm bi :: (List.range' (f / 64) 8).map fun j : Nat => bnm bi (j : Int)).length := by
    refine nodup_sub _ _ (lastL_nodup cs) fun x hx => ?_
    obtain ⟨p, hp, rfl⟩ := List.mem_map.1 hx
    have h3 := (mget_mem (lastL cs) (lastL_nodup cs) p.1 p.2).2 hp
    obtain ⟨c, _, h4⟩ := (lastL_get p.1 cs).1 p.2 h3
    obtain ⟨h5, h6⟩ := vcall_nm h4
    rcases h c h6 with h7 | ⟨j, j1, j2, h7⟩
    · rw [← h5, h7]; simp
    · rw [← h5, h7]
      refine List.mem_cons_of_mem _ (List.mem_map.2 ⟨j, List.mem_range'_1.2 ⟨j1, by omega⟩, rfl⟩)
  simp only [List.length_map, List.length_cons, List.length_range'] at h1
  omega
theorem wfold_mem {es : Al} {bi : Bi} {f : Nat} {s : ByteArray} : ∀ (l : List Pp) (q : List (Nm × Ch) × List Ch), (∀ p ∈ l, p.fr < p.to ∧ p.to ≤ 64) → ∀ c ∈ (wfold es bi f s q l).2, c ∈ q.2 ∨ ∃ p ∈ l, c.nm = bnm bi (p.bl : Int) ∧ c.val.size = 64 ∧ c.abs = false
  | [], _, _, c, hc => .inl hc
  | p :: l, q, hl, c, hc => by
    rcases wfold_mem l (wstep es bi f s q p) (fun r hr => hl r (by simp [hr])) c hc with h | ⟨r, hr, h⟩
    · have hst : (wstep es bi f s q p).2 = q.2 ++ [⟨bnm bi p.bl, ⟨(wnew es q.2 bi f s p).toArray⟩, false⟩] := rfl
      rw [hst] at h
      rcases List.mem_append.1 h with h | h
      · exact .inl h
      · rw [List.mem_singleton.1 h]
        have h1 := hl p (by simp)
        refine .inr ⟨p, by simp, rfl, ?_, rfl⟩
        show (List.toArray _).size = 64
        rw [List.size_toArray, wnew_len (by omega)]
    · exact .inr ⟨r, by simp [hr], h⟩

def wP (F : Nat) (t : ByteArray) (a : Nat) : ByteArray := if a = 0 then ⟨#[]⟩ else zer F ++ t.extract 0 a
theorem ext0 (t : ByteArray) (a b : Nat) : (t.extract a b).data.toList = (t.data.toList.drop a).take (b - a) := by
  rw [ByteArray.data_extract, Array.toList_extract, List.extract_eq_take_drop]
theorem wP_size {F : Nat} {t : ByteArray} {a : Nat} (h : a ≤ t.size) : (wP F t a).size = if a = 0 then 0 else F + a := by
  unfold wP
  split
  · rfl
  · rw [ByteArray.size_append, zer_size, ByteArray.size_extract]; omega
theorem wP_getD {F : Nat} {t : ByteArray} {a : Nat} (h : a ≤ t.size) (k : Nat) : (wP F t a).data.toList.getD k 0 = if F ≤ k ∧ k < F + a then t.data.toList.getD (k - F) 0 else 0 := by
  have hs : t.data.toList.length = t.size := by simp
  unfold wP
  split
  · rw [if_neg (by omega)]; rfl
  · have hz : (zer F).data.toList = List.replicate F 0 := rfl
    rw [app_data, ext0, hz, getD_app, List.length_replicate, List.drop_zero, Nat.sub_zero]
    by_cases h1 : k < F
    · rw [if_pos h1, getD_rep, if_neg (by omega)]
    · rw [if_neg h1]
      by_cases h2 : k < F + a
      · rw [if_pos ⟨by omega, h2⟩, getD_take _ _ _ _ (by omega)]
      · rw [if_neg (by omega), getD_big _ _ _ (by simp; omega)]
theorem wP_all {F : Nat} {t : ByteArray} (h : t.size ≠ 0) : wP F t t.size = zer F ++ t := by
  unfold wP
  rw [if_neg h]
  congr 1
  have hs : t.data.toList.length = t.size := by simp
  refine ba_ext ?_
  rw [ext0, List.drop_zero, List.take_of_length_le (by omega)]

/-- A state of the loop. -/
structure PtX where
  i : Nat
  a : Nat
  s : Nat
  v : Nat
  es : Al
  rs : List (Nm × Ch)
  cs : List Ch
structure PtI (F : Nat) (t : ByteArray) (pl : Nat) (q : PtX) : Prop where
  hi : q.i ≤ min pl 10 + 1
  ha : q.a ≤ t.size
  he : q.i ≤ min pl 10 ∨ q.a = t.size
  f : FOK q.es q.cs (bth27 0) (wP F t q.a)
  c : ∀ c ∈ q.cs, FitC c ∧ NmP (bth27 0) F (F + t.size) c.nm
  l : q.cs.length ≤ 500 * q.i
  el : q.es.length ≤ 12 + 12 * q.i
theorem es27_len : es27.length ≤ 12 := by
  have h1 := applyE_len [] (vwr (cs27 4))
  rw [vwr_len] at h1
  have := cs27_len
  show (applyE [] (vwr (cs27 4))).length ≤ 12
  simp only [List.length_nil] at h1; omega
theorem PtI.init {F : Nat} {t : ByteArray} {pl s v : Nat} : PtI F t pl ⟨0, 0, s, v, es27, [], []⟩ :=
  ⟨Nat.zero_le _, Nat.zero_le _, .inl (Nat.zero_le _), (by show FOK es27 [] (bth27 0) (wP F t 0); rw [wP, if_pos rfl]; exact fok0 (by omega)), (fun c hc => by cases hc), Nat.zero_le _, es27_len⟩
section
variable {F : Nat} {t : ByteArray} {pl : Nat} {q : PtX}
/-- A part written. -/
theorem PtI.write (h : PtI F t pl q) (ht : t.size ≤ 400) (hF : F + t.size ≤ 4096) {n : Nat} (hn : q.a + n ≤ t.size) (hi : q.i ≤ min pl 10) (hl : q.i < min pl 10 ∨ q.a + n = t.size) :
    PtI F t pl ⟨q.i + 1, q.a + n, q.s, q.v, q.es, (iwQ q.es q.rs q.cs (bth27 0) (F + q.a) (t.extract q.a (q.a + n))).1, (iwQ q.es q.rs q.cs (bth27 0) (F + q.a) (t.extract q.a (q.a + n))).2 ++ iwN q.es q.cs (bth27 0) (F + q.a) (t.extract q.a (q.a + n))⟩ := by
  have hb := bth27_chk 0 (by omega)
  have hs : t.data.toList.length = t.size := by simp
  have hx : (t.extract q.a (q.a + n)).size = n := by rw [ByteArray.size_extract]; omega
  have hlen := wfold_pts q.es (bth27 0) (F + q.a) (t.extract q.a (q.a + n)) q.rs q.cs
  have hmn : min (t.extract q.a (q.a + n)).size (4096 - (F + q.a)) = n := by rw [hx]; omega
  have hq := h.l
  have hel := h.el
  refine ⟨?_, ?_, ?_, ?_, fun c hc => ?_, ?_, ?_⟩
  · show q.i + 1 ≤ _; omega
  · exact hn
  · show q.i + 1 ≤ min pl 10 ∨ q.a + n = t.size
    rcases hl with h1 | h1
    · left; omega
    · right; exact h1
  · have h1 := wP_size (F := F) h.ha
    have h2 := wP_size (F := F) hn
    refine h.f.write hb (by omega) q.rs ?_ fun k hk => ?_
    · rw [hmn, h1, h2]
      by_cases h0 : n = 0
      · subst h0; rw [if_pos rfl]; rfl
      · rw [if_neg h0, if_neg (by omega)]
        split <;> omega
    · rw [hmn, wP_getD hn, wP_getD h.ha, ext0, show q.a + n - q.a = n by omega]
      by_cases h3 : F + q.a ≤ k ∧ k < F + q.a + n
      · rw [if_pos (by omega), if_pos h3, getD_take _ _ _ _ (by omega), getD_drop]
        congr 1; omega
      · rw [if_neg h3]
        by_cases h4 : F ≤ k ∧ k < F + q.a
        · rw [if_pos (by omega), if_pos h4]
        · rw [if_neg (by omega), if_neg h4]
  · have hmk := mk27_size 0
    rcases List.mem_append.1 hc with hc | hc
    · rw [iwQ, hmn] at hc
      have hpt : ∀ p ∈ pts (F + q.a) (F + q.a + n), F + q.a ≤ p.bl * 64 + p.fr ∧ p.fr < p.to ∧ p.to ≤ 64 ∧ p.bl * 64 + p.to ≤ F + q.a + n := pts_mem (F + q.a + n - (F + q.a)) _ _ (Nat.le_refl _)
      rcases wfold_mem _ _ (fun p hp => ⟨(hpt p hp).2.1, (hpt p hp).2.2.1⟩) c hc with hc | ⟨p, hp, e1, e2, e3⟩
      · exact h.c c hc
      · have h5 := hpt p hp
        refine ⟨⟨by rw [e1]; exact chk_bnm hb (by omega), by omega, e3, by rw [e1]; show (mk27 0).size ≤ _; omega, by rw [e1]; exact Nat.zero_le _⟩, .inr ⟨p.bl, by omega, by omega, e1⟩⟩
    · unfold iwN at hc
      split at hc
      · rw [List.mem_singleton.1 hc]
        exact ⟨fit_mk (chk_nnm hb) (Nat.le_trans (iencS_size _) (by omega)) rfl (by show (mk27 0).size ≤ _; omega) (Nat.zero_le _), .inl rfl⟩
      · cases hc
  · show ((iwQ _ _ _ _ _ _).2 ++ _).length ≤ 500 * (q.i + 1)
    rw [hx] at hlen; omega
  · show q.es.length ≤ 12 + 12 * (q.i + 1); omega
/-- A view ended, and another one begun. -/
theorem PtI.after (h : PtI F t pl q) (ht : t.size ≤ 400) (s v : Nat) (hel : q.es.length ≤ 12 * q.i) : PtI F t pl ⟨q.i, q.a, s, v, applyE q.es (vwr q.cs), [], []⟩ := by
  have hl := nmp_len (bi := bth27 0) (f := F) (t := F + t.size) (by omega) (fun c hc => (h.c c hc).2)
  refine ⟨h.hi, h.ha, h.he, h.f.after (fun c hc => (h.c c hc).1.abs), (fun c hc => by cases hc), Nat.zero_le _, ?_⟩
  have h1 := applyE_len q.es (vwr q.cs)
  rw [vwr_len] at h1
  show (applyE q.es (vwr q.cs)).length ≤ 12 + 12 * q.i
  omega
end
end Go.Proofs.YtgciahedpaencaaGreatDoor
