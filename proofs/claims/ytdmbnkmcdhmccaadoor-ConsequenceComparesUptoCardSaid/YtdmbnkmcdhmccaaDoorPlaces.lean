/-
  What the consequences of a ledger and a state hold; no program in sight.
  Conditions: those that each theorem states.
-/
import Derived.Test.YtdmbnkmcdhmccaaDoorLaw2
namespace Go.Proofs.YtdmbnkmcdhmccaaDoor
open Go.RowKit

/-- The consequence says what would leave: this output. -/
def sameC (c : Cq) (y : En) : Bool := decide (c.who = y.who) && (decide (c.nu = y.nu) && (decide (c.newAt = y.tk) && decide (c.new = y.o)))

theorem stF_mem : ∀ (l : List It) (es : Al) (p : Nm × ByteArray), p ∈ stF es l → p ∈ es ∨ ∃ x, p.1 = itn x
  | [], _, _, h => .inl h
  | x :: l, es, p, h => by
    rcases stF_mem l _ p h with h | h
    · rcases mem_insO _ _ _ _ h with rfl | h
      · exact .inr ⟨x, rfl⟩
      · exact .inl h
    · exact .inr h
theorem stF_srt : ∀ (l : List It) (es : Al), Srt es → Srt (stF es l)
  | [], _, h => h
  | x :: l, es, h => stF_srt l _ (srt_ins _ _ es h)

theorem entO_inj {es : Al} {a b : Nm} {e : En} (ha : ∃ x, a = itn x) (hb : ∃ x, b = itn x) (h1 : entO es a = some e) (h2 : entO es b = some e) : a = b := by
  obtain ⟨x, rfl⟩ := ha
  obtain ⟨y, rfl⟩ := hb
  unfold entO at h1 h2
  simp only [Option.map_eq_some_iff] at h1 h2
  obtain ⟨o1, _, rfl⟩ := h1
  obtain ⟨o2, _, h3⟩ := h2
  simp only [En.mk.injEq] at h3
  obtain ⟨g1, g2, g3, _⟩ := h3
  simp only [itn] at g1 g2 g3 ⊢
  rw [g1, g2, g3]

/-- No output of such a state is there twice. -/
theorem all_nodup (l : List It) : (allE (stF [] l)).Nodup := by
  have hs : Srt (stF [] l) := stF_srt l [] List.Pairwise.nil
  have hm : ∀ p ∈ stF [] l, ∃ x, p.1 = itn x := fun p hp => (stF_mem l [] p hp).resolve_left (by simp)
  generalize stF [] l = es at *
  unfold allE allN
  rw [List.Nodup, List.pairwise_filterMap]
  have h1 : (kn es 18).Pairwise fun a b => cmpO a b < 0 := by
    unfold kn
    rw [List.pairwise_map]
    exact hs.filter _
  refine h1.imp_of_mem fun {a b} ha hb hab e he e' he' => ?_
  rintro rfl
  have hx : ∀ c ∈ kn es 18, ∃ x, c = itn x := fun c hc => by
    obtain ⟨p, hp, rfl⟩ := List.mem_map.1 hc
    exact hm p (List.mem_filter.1 hp).1
  obtain rfl := entO_inj (hx a ha) (hx b hb) he he'
  have := ord_obj.self a
  omega

theorem con1_kind (all : List En) (x : Lf) (p : Nat) : (con1 all x p).place = p ∧ (con1 all x p).kind ≠ 4 := by
  unfold con1
  split
  · exact ⟨rfl, by simp⟩
  · split
    · exact ⟨rfl, by simp⟩
    · exact ⟨rfl, by simp⟩

theorem cons1_len (all : List En) (ls : List Lf) : (cons1 all ls).length = ls.length := by simp [cons1]
theorem consE_at {all : List En} {ls : List Lf} {i : Nat} {c : Cq} (h : (consE all ls)[i]? = some c) : (i < ls.length → c.place = i ∧ c.kind ≠ 4) ∧ (ls.length ≤ i → c.place = -1 ∧ c.kind = 4) := by
  unfold consE at h
  constructor
  · intro hi
    rw [List.getElem?_append_left (by rw [cons1_len]; exact hi)] at h
    unfold cons1 at h
    rw [List.getElem?_mapIdx] at h
    simp only [Option.map_eq_some_iff] at h
    obtain ⟨x, _, rfl⟩ := h
    exact con1_kind all x i
  · intro hi
    rw [List.getElem?_append_right (by rw [cons1_len]; exact hi)] at h
    have hm := List.mem_of_getElem? h
    unfold cons2 at hm
    obtain ⟨y, _, rfl⟩ := List.mem_map.1 hm
    exact ⟨rfl, rfl⟩

/-- Every output is that of a consequence that is not Missing. -/
theorem found_all {all : List En} {ls : List Lf} {y : En} (hy : y ∈ all) : ∃ c ∈ consE all ls, sameC c y = true ∧ c.kind ≠ 2 := by
  by_cases hk : y ∈ ls.flatMap (knw all)
  · obtain ⟨x, hx, hyx⟩ := List.mem_flatMap.1 hk
    obtain ⟨p, hp, rfl⟩ := List.mem_iff_getElem.1 hx
    have hc : con1 all ls[p] p ∈ consE all ls := by
      refine List.mem_append_left _ ?_
      unfold cons1
      rw [List.mem_mapIdx]
      exact ⟨p, hp, rfl⟩
    refine ⟨_, hc, ?_⟩
    unfold knw at hyx
    rcases List.mem_append.1 hyx with h | h
    · split at h
      · cases h
      · rename_i hin
        split at h
        · rename_i z hz
          simp at h; subst h
          have hsd := List.find?_some hz
          simp only [decide_eq_true_eq, En.sd, Prod.mk.injEq] at hsd
          rw [con1, if_neg hin, hz]
          exact ⟨by simp [sameC, hsd.1, hsd.2], by simp⟩
        · cases h
    · simp at h; subst h
      rw [con1, if_pos hy]
      exact ⟨by simp [sameC], by simp⟩
  · refine ⟨con2 y, List.mem_append_right _ ?_, by simp [sameC, con2], by simp [con2]⟩
    unfold cons2
    exact List.mem_map.2 ⟨y, List.mem_filter.2 ⟨hy, by simpa using hk⟩, rfl⟩

/-- At most one consequence is New for an output. -/
theorem news_le {all : List En} {ls : List Lf} (hn : all.Nodup) (y : En) : (consE all ls).countP (fun c => sameC c y && decide (c.kind = 4)) ≤ 1 := by
  unfold consE
  rw [List.countP_append]
  have h1 : (cons1 all ls).countP (fun c => sameC c y && decide (c.kind = 4)) = 0 := by
    rw [List.countP_eq_zero]
    intro c hc
    unfold cons1 at hc
    rw [List.mem_mapIdx] at hc
    obtain ⟨p, hp, rfl⟩ := hc
    simp [(con1_kind all ls[p] p).2]
  have h2 : (cons2 (ls.flatMap (knw all)) all).countP (fun c => sameC c y && decide (c.kind = 4)) ≤ 1 := by
    unfold cons2
    rw [List.countP_map]
    have h3 : ((all.filter fun y => decide (y ∉ ls.flatMap (knw all))).countP ((fun c => sameC c y && decide (c.kind = 4)) ∘ con2)) ≤ (all.filter fun y => decide (y ∉ ls.flatMap (knw all))).countP (· == y) := by
      refine List.countP_mono_left fun z _ hz => ?_
      obtain ⟨z1, z2, z3, z4⟩ := z
      obtain ⟨y1, y2, y3, y4⟩ := y
      simp [sameC, con2] at hz
      rw [of_decide_eq_true hz.1, of_decide_eq_true hz.2.1, of_decide_eq_true hz.2.2.1, of_decide_eq_true hz.2.2.2]
      simp
    refine Nat.le_trans h3 ?_
    have h4 : ((all.filter fun y => decide (y ∉ ls.flatMap (knw all)))).Nodup := hn.filter _
    exact List.nodup_iff_count.1 h4 y
  omega
end Go.Proofs.YtdmbnkmcdhmccaaDoor
