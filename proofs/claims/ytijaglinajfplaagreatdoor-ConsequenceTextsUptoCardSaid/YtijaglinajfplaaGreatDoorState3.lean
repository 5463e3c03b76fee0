/-
  Contracts of the package state: With.
  Conditions: those that each theorem states.
-/
import Derived.Test.YtijaglinajfplaaGreatDoorDraw2
set_option maxRecDepth 10000
namespace Go.Proofs.YtijaglinajfplaaGreatDoor
open Go.RowKit

theorem find_none {a : Nm} (ha : a.owner.size ≤ 1099511627770) {t : Tr} (p : Option Addr) (ht : Okt t) (hf : Tr.find a t = none) : Enters 132 ∧ Spec Tryz.prog 132 #[.pointer p, a.v] [TrF p t] [] (RetV (.pointer none)) := by
  have h := find_ok a ha t p ht
  rw [hf] at h
  refine ⟨h.1, h.2.imp ?_⟩
  rintro G w hp q w' _ ⟨hp', hr, st⟩
  have hq : q = none := st.f (FdF q none) (by simp)
  subst hq
  exact ⟨(), rfl, trivial, hp', hr, st.inp, st.inr, st.ing, st.d1, st.d2, st.d3, st.sub, (fun _ h => by cases h), st.r, st.same⟩
theorem find_some {a : Nm} (ha : a.owner.size ≤ 1099511627770) {t : Tr} (p : Option Addr) (ht : Okt t) {v : ByteArray} (hf : Tr.find a t = some v) : Enters 132 ∧ Spec Tryz.prog 132 #[.pointer p, a.v] [TrF p t] []
    ⟨Nat, fun b => .pointer (some ⟨b, 0, none⟩), fun _ => True, fun b => [FdF (some ⟨b, 0, none⟩) (some v)], fun _ => []⟩ := by
  have h := find_ok a ha t p ht
  rw [hf] at h
  refine ⟨h.1, h.2.imp ?_⟩
  rintro G w hp q w' _ hs
  obtain ⟨hp', hr, st⟩ := hs
  obtain ⟨a', b, pl, pr, x, y, z, hq, h2⟩ : ∃ a', (Nd q a' v).p hp' := st.f (FdF q (some v)) (by simp)
  subst hq
  exact ⟨b, rfl, trivial, hp', hr, st⟩

theorem insO_same (a : Nm) (v : ByteArray) : ∀ l : Al, Srt l → getO a l ≠ none → (insO a v l).length = l.length
  | [], _, h => absurd rfl h
  | (b, u) :: l, hs, h => by
    have hp := List.pairwise_cons.1 hs
    rw [getO] at h
    unfold insO
    by_cases h0 : cmpO a b = 0
    · rw [if_neg (by omega), if_neg (by omega)]; simp
    · rw [if_neg h0] at h
      split
      · rename_i hc
        exact absurd (getO_none fun x hx => by have := cmpO_trans hc (hp.1 x hx); omega) h
      · rw [if_pos (by omega)]
        simp [insO_same a v l hp.2 h]

/-- What With answers. -/
def withE (es : Al) (a : Nm) (v : ByteArray) : Int := if nchk a ≠ 0 then 12 else if 65536 < v.size then 5 else if 65536 ≤ es.length ∧ getO a es = none then 9 else 0
def StR (q : Option Addr) (e : Int) (es : Al) : Pf := if e = 0 then St q es else ⟨fun _ => q = none, fun _ _ _ h => h⟩

theorem stOK_ins {es : Al} {a : Nm} {v : ByteArray} (h : StOK es) (ha : a.owner.size ≤ 1099511627770) (he : withE es a v = 0) : StOK (insO a v es) := by
  have hl := h.len
  have h1 := insO_len a v es
  unfold withE at he
  split at he
  · cases he
  · split at he
    · cases he
    · split at he
      · cases he
      · rename_i h3 h4 h5
        refine ⟨srt_ins a v es h.srt, ?_, fun x hx => ?_, fun x hx => ?_⟩
        · by_cases h6 : getO a es = none
          · have : ¬ 65536 ≤ es.length := fun h7 => h5 ⟨h7, h6⟩
            omega
          · rw [insO_same a v es h.srt h6]; exact hl
        · rcases mem_insO a v es x hx with rfl | hx
          · exact ha
          · exact h.own x hx
        · rcases mem_insO a v es x hx with rfl | hx
          · show v.size ≤ 65536; omega
          · exact h.val x hx

set_option maxHeartbeats 1000000 in
theorem stateWith_ok (ps : Option Addr) (es : Al) (a : Nm) (v : ByteArray) (ha : a.owner.size ≤ 1099511627770) (hat : a.text.size ≤ 1099511627776) : Enters 59 ∧ Spec Tryz.prog 59 #[.pointer ps, a.v, .string v] [St ps es, Usg] []
    ⟨Option Addr, fun q => .tuple #[.pointer q, .int .i64 (withE es a v)], fun _ => True, fun q => [StR q (withE es a v) (insO a v es)], fun _ => []⟩ := by
  have hchk := nameCheck_ok a (by omega) hat
  refine ⟨enters_of Tryz.func59 (by kernel_rfl) rfl, spec_of (vs := [_, _, _]) Tryz.func59 rfl Tryz.ntmps59 rfl fun G w hp => ?_⟩
  refine k_mk (F1 := [St ps es]) (f := St ps es) (fun hp hF => hF _ (by simp)) ?_
  refine k_st (ps := ps) (es := es) (fun bs p t hp he hok => ?_)
  have hst : ∀ q : Option Addr, q = none → withE es a v ≠ 0 → ∀ hp : H, (StR q (withE es a v) (insO a v es)).p hp := fun q hq hne hp => by
    unfold StR; rw [if_neg hne]; exact hq
  subst hp
  by_cases h1 : nchk a = 0
  · rw [h1] at hchk
    by_cases h2 : 65536 < v.size
    · have he : withE es a v = 5 := by rw [withE, if_neg (by simp [h1]), if_pos h2]
      rw [he] at hst ⊢
      repeat' (first | refine l_run ?_ | refine l_nil ?_ | refine l_one ?_ | refine k_reg ?_ | refine l_ld ?_ | refine l_ldF ?_ | refine l_st ?_ | refine l_al (fun b => ?_) | refine l_bs (fun b => ?_) | refine k_condT ?_ | refine k_condF ?_ | refine k_brk ?_ | refine r_run ?_ | refine r_one ?_ | refine r_ld ?_ | refine r_ldF ?_ | refine r_ldN ?_ | refine r_al (fun b => ?_) | refine r_bs (fun b => ?_) | refine r_st ?_ | refine r_end ?_ | refine l_call (hchk) (fun _ _ => ?_) | refine l_call0 (hchk) (fun _ _ => ?_) | refine r_call (hchk) (fun _ _ => ?_) | (refine l_split (fun hc => ?_) (fun hc => ?_) <;> (try simp at hc) <;> (try omega)) | (refine r_split (fun hc => ?_) (fun hc => ?_) <;> (try simp at hc) <;> (try omega)) | refine k_draw 7 [] [(0, 0), (1, 4), (2, 0), (3, 0), (4, 0), (5, 0), (6, 0), (7, 0), (8, 0), (9, 4), (10, 0), (11, 0), (12, 0)] [] ?_ | refine k_draw 9 [] [(0, 0), (1, 0), (2, 0), (3, 0), (4, 0), (5, 0), (6, 0), (7, 1), (8, 4), (9, 0), (10, 1), (11, 0), (12, 0)] [] ?_ | (refine k_cond (fun hc => ?_) (fun hc => ?_) <;> (try simp at hc) <;> (try omega)))
      refine k_add (hst none rfl (by decide)) ?_
      exact k_ret none rfl trivial
    · have hfd := find_els a t (he ▸ hok.srt)
      by_cases h3 : 65536 ≤ es.length ∧ getO a es = none
      · have he9 : withE es a v = 9 := by rw [withE, if_neg (by simp [h1]), if_neg h2, if_pos h3]
        rw [he9] at hst ⊢
        repeat' (first | refine l_run ?_ | refine l_nil ?_ | refine l_one ?_ | refine k_reg ?_ | refine l_ld ?_ | refine l_ldF ?_ | refine l_st ?_ | refine l_al (fun b => ?_) | refine l_bs (fun b => ?_) | refine k_condT ?_ | refine k_condF ?_ | refine k_brk ?_ | refine r_run ?_ | refine r_one ?_ | refine r_ld ?_ | refine r_ldF ?_ | refine r_ldN ?_ | refine r_al (fun b => ?_) | refine r_bs (fun b => ?_) | refine r_st ?_ | refine r_end ?_ | refine l_call (hchk) (fun _ _ => ?_) | refine l_call0 (hchk) (fun _ _ => ?_) | refine r_call (hchk) (fun _ _ => ?_) | refine l_call (stateLen_ok (some ⟨bs, 0, none⟩) es) (fun _ _ => ?_) | refine l_call0 (stateLen_ok (some ⟨bs, 0, none⟩) es) (fun _ _ => ?_) | refine r_call (stateLen_ok (some ⟨bs, 0, none⟩) es) (fun _ _ => ?_) | refine l_call (find_none ha p (StOK.okt (he ▸ hok)) (by rw [hfd, he]; exact h3.2)) (fun _ _ => ?_) | refine l_call0 (find_none ha p (StOK.okt (he ▸ hok)) (by rw [hfd, he]; exact h3.2)) (fun _ _ => ?_) | refine r_call (find_none ha p (StOK.okt (he ▸ hok)) (by rw [hfd, he]; exact h3.2)) (fun _ _ => ?_) | (refine l_split (fun hc => ?_) (fun hc => ?_) <;> (try simp at hc) <;> (try omega)) | (refine r_split (fun hc => ?_) (fun hc => ?_) <;> (try simp at hc) <;> (try omega)) | refine k_draw 7 [] [(0, 0), (1, 4), (2, 0), (3, 0), (4, 0), (5, 0), (6, 0), (7, 0), (8, 0), (9, 4), (10, 0), (11, 0), (12, 0)] [] ?_ | refine k_draw 9 [] [(0, 0), (1, 0), (2, 0), (3, 0), (4, 0), (5, 0), (6, 0), (7, 1), (8, 4), (9, 0), (10, 1), (11, 0), (12, 0)] [] ?_ | (refine k_cond (fun hc => ?_) (fun hc => ?_) <;> (try simp at hc) <;> (try omega)))
        refine k_add (hst none rfl (by decide)) ?_
        exact k_ret none rfl trivial
      · have he0 : withE es a v = 0 := by rw [withE, if_neg (by simp [h1]), if_neg h2, if_neg h3]
        have hok2 := stOK_ins hok ha he0
        rw [he0]
        have hokt : Okt t := StOK.okt (he ▸ hok)
        have hels : (Tr.put a v t).els = insO a v es := by rw [els_put a v t (he ▸ hok.srt), he]
        have hX : 65536 ≤ es.length → Tr.find a t = some ((getO a es).getD ⟨#[]⟩) := fun h4 => by
          rw [hfd, he]
          cases hg : getO a es with
          | none => exact absurd ⟨h4, hg⟩ h3
          | some v0 => rfl
        repeat' (first | refine l_run ?_ | refine l_nil ?_ | refine l_one ?_ | refine k_reg ?_ | refine l_ld ?_ | refine l_ldF ?_ | refine l_st ?_ | refine l_al (fun b => ?_) | refine l_bs (fun b => ?_) | refine k_condT ?_ | refine k_condF ?_ | refine k_brk ?_ | refine r_run ?_ | refine r_one ?_ | refine r_ld ?_ | refine r_ldF ?_ | refine r_ldN ?_ | refine r_al (fun b => ?_) | refine r_bs (fun b => ?_) | refine r_st ?_ | refine r_end ?_ | refine l_call (hchk) (fun _ _ => ?_) | refine l_call0 (hchk) (fun _ _ => ?_) | refine r_call (hchk) (fun _ _ => ?_) | refine l_call (stateLen_ok (some ⟨bs, 0, none⟩) es) (fun _ _ => ?_) | refine l_call0 (stateLen_ok (some ⟨bs, 0, none⟩) es) (fun _ _ => ?_) | refine r_call (stateLen_ok (some ⟨bs, 0, none⟩) es) (fun _ _ => ?_) | refine l_call (find_some ha p hokt (hX (by omega))) (fun _ _ => ?_) | refine l_call0 (find_some ha p hokt (hX (by omega))) (fun _ _ => ?_) | refine r_call (find_some ha p hokt (hX (by omega))) (fun _ _ => ?_) | (refine l_split (fun hc => ?_) (fun hc => ?_) <;> (try simp at hc) <;> (try omega)) | (refine r_split (fun hc => ?_) (fun hc => ?_) <;> (try simp at hc) <;> (try omega)) | refine k_draw 7 [] [(0, 0), (1, 4), (2, 0), (3, 0), (4, 0), (5, 0), (6, 0), (7, 0), (8, 0), (9, 4), (10, 0), (11, 0), (12, 0)] [] ?_ | (refine k_cond (fun hc => ?_) (fun hc => ?_) <;> (try simp at hc) <;> (try omega)))
        all_goals refine k_draw 9 [] [(0, 0), (1, 0), (2, 0), (3, 0), (4, 0), (5, 0), (6, 0), (7, 1), (8, 4), (9, 0), (10, 1), (11, 0), (12, 0)] [] ?_
        all_goals repeat' (first | refine l_run ?_ | refine l_nil ?_ | refine l_one ?_ | refine k_reg ?_ | refine l_ld ?_ | refine l_ldF ?_ | refine l_st ?_ | refine l_al (fun b => ?_) | refine l_bs (fun b => ?_) | refine k_condT ?_ | refine k_condF ?_ | refine k_brk ?_ | refine r_run ?_ | refine r_one ?_ | refine r_ld ?_ | refine r_ldF ?_ | refine r_ldN ?_ | refine r_al (fun b => ?_) | refine r_bs (fun b => ?_) | refine r_st ?_ | refine r_end ?_ | refine l_split (fun hc => ?_) (fun hc => ?_) | refine r_split (fun hc => ?_) (fun hc => ?_) | refine k_draw 7 [] [(0, 0), (1, 4), (2, 0), (3, 0), (4, 0), (5, 0), (6, 0), (7, 0), (8, 0), (9, 4), (10, 0), (11, 0), (12, 0)] [] ?_ | refine k_draw 9 [] [(0, 0), (1, 0), (2, 0), (3, 0), (4, 0), (5, 0), (6, 0), (7, 1), (8, 4), (9, 0), (10, 1), (11, 0), (12, 0)] [] ?_ | refine k_cond (fun hc => ?_) (fun hc => ?_))
        all_goals
          refine r_fz (b := b) ?_
          refine r_mk (F1 := [Blk b (ndc none none a v 0 0 0)]) (f := Nd (some ⟨b, 0, none⟩) a v) (fun hp hF => ⟨b, none, none, 0, 0, 0, rfl, hF (Blk b (ndc none none a v 0 0 0)) (by simp)⟩) ?_
          refine r_call (with_ok a v (some ⟨b, 0, none⟩) ha (by omega) t p hokt) (fun q _ => ?_)
        all_goals repeat' (first | refine l_run ?_ | refine l_nil ?_ | refine l_one ?_ | refine k_reg ?_ | refine l_ld ?_ | refine l_ldF ?_ | refine l_st ?_ | refine l_al (fun b => ?_) | refine l_bs (fun b => ?_) | refine k_condT ?_ | refine k_condF ?_ | refine k_brk ?_ | refine r_run ?_ | refine r_one ?_ | refine r_ld ?_ | refine r_ldF ?_ | refine r_ldN ?_ | refine r_al (fun b => ?_) | refine r_bs (fun b => ?_) | refine r_st ?_ | refine r_end ?_ | refine l_split (fun hc => ?_) (fun hc => ?_) | refine r_split (fun hc => ?_) (fun hc => ?_) | refine k_draw 7 [] [(0, 0), (1, 4), (2, 0), (3, 0), (4, 0), (5, 0), (6, 0), (7, 0), (8, 0), (9, 4), (10, 0), (11, 0), (12, 0)] [] ?_ | refine k_draw 9 [] [(0, 0), (1, 0), (2, 0), (3, 0), (4, 0), (5, 0), (6, 0), (7, 1), (8, 4), (9, 0), (10, 1), (11, 0), (12, 0)] [] ?_ | refine k_cond (fun hc => ?_) (fun hc => ?_))
        all_goals
          rename_i q _ _
          refine k_fz (b := b) ?_
          refine k_mk (F1 := [Blk b (.cells #[.pointer (some ⟨q, 0, none⟩)] 211), TrF (some ⟨q, 0, none⟩) (Tr.put a v t)]) (f := StR (some ⟨b, 0, none⟩) 0 (insO a v es)) (fun hp hF => ⟨Tr.put a v t, hels, hok2, b, _, rfl, hF (Blk b (.cells #[.pointer (some ⟨q, 0, none⟩)] 211)) (by simp), hF (TrF (some ⟨q, 0, none⟩) (Tr.put a v t)) (by simp)⟩) ?_
          exact k_ret (some ⟨b, 0, none⟩) rfl trivial
  · have he : withE es a v = 12 := by rw [withE, if_pos h1]
    rw [he] at hst ⊢
    have hb : (nchk a != 0) = true := by simp [h1]
    repeat' (first | refine l_run ?_ | refine l_nil ?_ | refine l_one ?_ | refine k_reg ?_ | refine l_ld ?_ | refine l_ldF ?_ | refine l_st ?_ | refine l_al (fun b => ?_) | refine l_bs (fun b => ?_) | refine k_condT ?_ | refine k_condF ?_ | refine k_brk ?_ | refine r_run ?_ | refine r_one ?_ | refine r_ld ?_ | refine r_ldF ?_ | refine r_ldN ?_ | refine r_al (fun b => ?_) | refine r_bs (fun b => ?_) | refine r_st ?_ | refine r_end ?_ | refine l_call (hchk) (fun _ _ => ?_) | refine l_call0 (hchk) (fun _ _ => ?_) | refine r_call (hchk) (fun _ _ => ?_) | (refine l_split (fun hc => ?_) (fun hc => ?_) <;> (try simp at hc) <;> (try omega)) | (refine r_split (fun hc => ?_) (fun hc => ?_) <;> (try simp at hc) <;> (try omega)) | refine k_draw 7 [] [(0, 0), (1, 4), (2, 0), (3, 0), (4, 0), (5, 0), (6, 0), (7, 0), (8, 0), (9, 4), (10, 0), (11, 0), (12, 0)] [] ?_ | refine k_draw 9 [] [(0, 0), (1, 0), (2, 0), (3, 0), (4, 0), (5, 0), (6, 0), (7, 1), (8, 4), (9, 0), (10, 1), (11, 0), (12, 0)] [] ?_ | (refine k_cond (fun hc => ?_) (fun hc => ?_) <;> (try simp at hc) <;> (try omega)))
    refine k_add (hst none rfl (by decide)) ?_
    exact k_ret none rfl trivial
end Go.Proofs.YtijaglinajfplaaGreatDoor
