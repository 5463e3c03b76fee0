/-
  Contracts of the package process where a child does not run any more, or is none; the children of the process 1.
  Conditions: those that each theorem states.
-/
import Derived.Test.YtlpkdblnlkoedaaGreatDoorKn35
set_option maxRecDepth 10000
namespace Go.Proofs.YtlpkdblnlkoedaaGreatDoor
open Go.RowKit

section
variable (b : Nat) (ps : Option Addr) (es : Al) (rs : List (Nm × Ch)) (cs : List Ch) (who : ByteArray) (p : Pr)
theorem runningSt_ok (h : PrAt es cs who p) (hr : p.st ≠ 1) : Enters 29 ∧ Spec Tryz.prog 29 #[.pointer (some ⟨b, 0, none⟩), .string who] [St ps es, Usg] [Vw b ps rs cs]
    ⟨Unit, fun _ => .tuple #[Pr.z.v none 0, .int .i64 10], fun _ => True, fun _ => [], fun _ => [Vw b ps (pgR es rs cs who) cs]⟩ := by
  have n2 := proGet_ok b ps es rs cs who p h
  obtain ⟨a1, a2, a3, a4, a5, gs, a7, a8, a9, a10⟩ := p
  dsimp only at hr
  simp only [Pr.v] at n2
  refine ⟨enters_of Tryz.func29 (by kernel_rfl) rfl, spec_of (vs := [_, _]) Tryz.func29 rfl Tryz.ntmps29 rfl fun G w hp => ?_⟩
  repeat' (first | refine l_run ?_ | refine l_nil ?_ | refine l_one ?_ | refine k_reg ?_ | refine l_ld ?_ | refine l_ldF ?_ | refine l_st ?_ | refine l_al (fun b => ?_) | refine l_bs (fun b => ?_) | refine k_condT ?_ | refine k_condF ?_ | refine k_brk ?_ | refine l_call (n2) (fun _ _ => ?_) | refine l_call0 (n2) (fun _ _ => ?_) | (refine l_split (fun hc => ?_) (fun hc => ?_) <;> (try simp at hc) <;> (try omega)) | (refine k_cond (fun hc => ?_) (fun hc => ?_) <;> (try simp at hc) <;> (try omega)))
  exact k_ret () rfl trivial
theorem proExitSt_ok (h : PrAt es cs who p) (hr : p.st ≠ 1) (k : Int) : Enters 8 ∧ Spec Tryz.prog 8 #[.pointer (some ⟨b, 0, none⟩), .string who, .int .i64 k] [St ps es, Usg] [Vw b ps rs cs]
    ⟨Unit, fun _ => .int .i64 10, fun _ => True, fun _ => [], fun _ => [Vw b ps (pgR es rs cs who) cs]⟩ := by
  have n1 := runningSt_ok b ps es rs cs who p h hr
  generalize pgR es rs cs who = rs2 at *
  have hch : ∀ bc : Nat, Enters 19 ∧ Spec Tryz.prog 19 #[.pointer (some ⟨b, 0, none⟩), .string who, .func (.func 20) #[] #[.pointer (some ⟨bc, 0, none⟩)]] [St ps es, Usg] [Vw b ps rs cs]
      ⟨Unit, fun _ => .int .i64 10, fun _ => True, fun _ => [], fun _ => [Vw b ps rs2 cs]⟩ := fun bc => by
    generalize b = bv at *
    refine ⟨enters_of Tryz.func19 (by kernel_rfl) rfl, spec_of (vs := [_, _, _]) Tryz.func19 rfl Tryz.ntmps19 rfl fun G w hp => ?_⟩
    repeat' (first | refine l_run ?_ | refine l_nil ?_ | refine l_one ?_ | refine k_reg ?_ | refine l_ld ?_ | refine l_ldF ?_ | refine l_st ?_ | refine l_al (fun b => ?_) | refine l_bs (fun b => ?_) | refine k_condT ?_ | refine k_condF ?_ | refine k_brk ?_ | refine l_call (n1) (fun _ _ => ?_) | refine l_call0 (n1) (fun _ _ => ?_) | (refine l_split (fun hc => ?_) (fun hc => ?_) <;> (try simp at hc) <;> (try omega)) | (refine k_cond (fun hc => ?_) (fun hc => ?_) <;> (try simp at hc) <;> (try omega)))
    exact k_ret () rfl trivial
  generalize b = bv at *
  refine ⟨enters_of Tryz.func8 (by kernel_rfl) rfl, spec_of (vs := [_, _, _]) Tryz.func8 rfl Tryz.ntmps8 rfl fun G w hp => ?_⟩
  repeat' (first | refine l_run ?_ | refine l_nil ?_ | refine l_one ?_ | refine k_reg ?_ | refine l_ld ?_ | refine l_ldF ?_ | refine l_st ?_ | refine l_al (fun b => ?_) | refine l_bs (fun b => ?_) | refine k_condT ?_ | refine k_condF ?_ | refine k_brk ?_ | refine l_call (hch _) (fun _ _ => ?_) | refine l_call0 (hch _) (fun _ _ => ?_) | (refine l_split (fun hc => ?_) (fun hc => ?_) <;> (try simp at hc) <;> (try omega)) | (refine k_cond (fun hc => ?_) (fun hc => ?_) <;> (try simp at hc) <;> (try omega)))
  exact k_ret () rfl trivial
/-- There is no such child. -/
theorem proWaitNo_ok (h : PrAt es cs who p) (c : Ct) (hm : madeE es cs who = (c, 0)) (hmv : (vget es cs (cnm who)).1.size ≤ 1099511627776) (k : Int) (hk : k < 1 ∨ c.c < k) :
    Enters 9 ∧ Spec Tryz.prog 9 #[.pointer (some ⟨b, 0, none⟩), .string who, .int .i64 k] [St ps es, Usg] [Vw b ps rs cs]
      ⟨Unit, fun _ => .tuple #[.int .i64 0, .int .i64 22], fun _ => True, fun _ => [], fun _ => [Vw b ps (madeR es (pgR es rs cs who) cs who) cs]⟩ := by
  have hw := h.w
  have n1 := proGet_ok b ps es rs cs who p h
  have n2 := made_ok b ps es (pgR es rs cs who) cs who (by omega) hmv
  rw [hm] at n2
  generalize madeR es (pgR es rs cs who) cs who = rs3 at *
  generalize pgR es rs cs who = rs2 at *
  obtain ⟨c1, c2, c3⟩ := c
  dsimp only at hk
  refine ⟨enters_of Tryz.func9 (by kernel_rfl) rfl, spec_of (vs := [_, _, _]) Tryz.func9 rfl Tryz.ntmps9 rfl fun G w hp => ?_⟩
  repeat' (first | refine l_run ?_ | refine l_nil ?_ | refine l_one ?_ | refine k_reg ?_ | refine l_ld ?_ | refine l_ldF ?_ | refine l_st ?_ | refine l_al (fun b => ?_) | refine l_bs (fun b => ?_) | refine k_condT ?_ | refine k_condF ?_ | refine k_brk ?_ | refine l_call (n1) (fun _ _ => ?_) | refine l_call0 (n1) (fun _ _ => ?_) | refine l_call (n2) (fun _ _ => ?_) | refine l_call0 (n2) (fun _ _ => ?_) | (refine l_split (fun hc => ?_) (fun hc => ?_) <;> (try simp at hc) <;> (try omega)) | (refine k_cond (fun hc => ?_) (fun hc => ?_) <;> (try simp at hc) <;> (try omega)))
  all_goals exact k_ret () rfl trivial
end

/-- The children of the process 1. -/
def chK (k : Nat) : ByteArray := ⟨#[49, 46, UInt8.ofNat (48 + k)]⟩
theorem chN_K : ∀ k : Nat, 1 ≤ k → k ≤ 8 → chN o1 (k : Int) = chK k
  | 1, _, _ => by rw [chN, show Lib.itoa ((1 : Nat) : Int) = [49] by decide +kernel]; decide
  | 2, _, _ => by rw [chN, show Lib.itoa ((2 : Nat) : Int) = [50] by decide +kernel]; decide
  | 3, _, _ => by rw [chN, show Lib.itoa ((3 : Nat) : Int) = [51] by decide +kernel]; decide
  | 4, _, _ => by rw [chN, show Lib.itoa ((4 : Nat) : Int) = [52] by decide +kernel]; decide
  | 5, _, _ => by rw [chN, show Lib.itoa ((5 : Nat) : Int) = [53] by decide +kernel]; decide
  | 6, _, _ => by rw [chN, show Lib.itoa ((6 : Nat) : Int) = [54] by decide +kernel]; decide
  | 7, _, _ => by rw [chN, show Lib.itoa ((7 : Nat) : Int) = [55] by decide +kernel]; decide
  | 8, _, _ => by rw [chN, show Lib.itoa ((8 : Nat) : Int) = [56] by decide +kernel]; decide
theorem itoa_K : ∀ k : Nat, 1 ≤ k → k ≤ 8 → (Lib.itoa (k : Int)).length ≤ 100
  | 1, _, _ => by rw [show Lib.itoa ((1 : Nat) : Int) = [49] by decide +kernel]; decide
  | 2, _, _ => by rw [show Lib.itoa ((2 : Nat) : Int) = [50] by decide +kernel]; decide
  | 3, _, _ => by rw [show Lib.itoa ((3 : Nat) : Int) = [51] by decide +kernel]; decide
  | 4, _, _ => by rw [show Lib.itoa ((4 : Nat) : Int) = [52] by decide +kernel]; decide
  | 5, _, _ => by rw [show Lib.itoa ((5 : Nat) : Int) = [53] by decide +kernel]; decide
  | 6, _, _ => by rw [show Lib.itoa ((6 : Nat) : Int) = [54] by decide +kernel]; decide
  | 7, _, _ => by rw [show Lib.itoa ((7 : Nat) : Int) = [55] by decide +kernel]; decide
  | 8, _, _ => by rw [show Lib.itoa ((8 : Nat) : Int) = [56] by decide +kernel]; decide
theorem chK_valid : ∀ k : Nat, 1 ≤ k → k ≤ 8 → lvalid (chK k).data.toList = true
  | 1, _, _ => by
    have h := (prts_step [49, 46, 49] 0 0 (by simp)).2.2.2
    rw [show ffirst (([49, 46, 49] : List UInt8).drop 0) 0 0 = (⟨1, 0, 0⟩, 1) from rfl] at h
    have h2 := (prts_step [49, 46, 49] 2 1 (by simp)).2.2.2
    rw [show ffirst (([49, 46, 49] : List UInt8).drop 2) 2 1 = (⟨1, 2, 0⟩, 3) from rfl] at h2
    simp at h h2
    show lvalid ([49, 46, 49] : List UInt8) = true
    simp [lvalid, lparts, h, h2]
  | 2, _, _ => by
    have h := (prts_step [49, 46, 50] 0 0 (by simp)).2.2.2
    rw [show ffirst (([49, 46, 50] : List UInt8).drop 0) 0 0 = (⟨1, 0, 0⟩, 1) from rfl] at h
    have h2 := (prts_step [49, 46, 50] 2 1 (by simp)).2.2.2
    rw [show ffirst (([49, 46, 50] : List UInt8).drop 2) 2 1 = (⟨2, 2, 0⟩, 3) from rfl] at h2
    simp at h h2
    show lvalid ([49, 46, 50] : List UInt8) = true
    simp [lvalid, lparts, h, h2]
  | 3, _, _ => by
    have h := (prts_step [49, 46, 51] 0 0 (by simp)).2.2.2
    rw [show ffirst (([49, 46, 51] : List UInt8).drop 0) 0 0 = (⟨1, 0, 0⟩, 1) from rfl] at h
    have h2 := (prts_step [49, 46, 51] 2 1 (by simp)).2.2.2
    rw [show ffirst (([49, 46, 51] : List UInt8).drop 2) 2 1 = (⟨3, 2, 0⟩, 3) from rfl] at h2
    simp at h h2
    show lvalid ([49, 46, 51] : List UInt8) = true
    simp [lvalid, lparts, h, h2]
  | 4, _, _ => by
    have h := (prts_step [49, 46, 52] 0 0 (by simp)).2.2.2
    rw [show ffirst (([49, 46, 52] : List UInt8).drop 0) 0 0 = (⟨1, 0, 0⟩, 1) from rfl] at h
    have h2 := (prts_step [49, 46, 52] 2 1 (by simp)).2.2.2
    rw [show ffirst (([49, 46, 52] : List UInt8).drop 2) 2 1 = (⟨4, 2, 0⟩, 3) from rfl] at h2
    simp at h h2
    show lvalid ([49, 46, 52] : List UInt8) = true
    simp [lvalid, lparts, h, h2]
  | 5, _, _ => by
    have h := (prts_step [49, 46, 53] 0 0 (by simp)).2.2.2
    rw [show ffirst (([49, 46, 53] : List UInt8).drop 0) 0 0 = (⟨1, 0, 0⟩, 1) from rfl] at h
    have h2 := (prts_step [49, 46, 53] 2 1 (by simp)).2.2.2
    rw [show ffirst (([49, 46, 53] : List UInt8).drop 2) 2 1 = (⟨5, 2, 0⟩, 3) from rfl] at h2
    simp at h h2
    show lvalid ([49, 46, 53] : List UInt8) = true
    simp [lvalid, lparts, h, h2]
  | 6, _, _ => by
    have h := (prts_step [49, 46, 54] 0 0 (by simp)).2.2.2
    rw [show ffirst (([49, 46, 54] : List UInt8).drop 0) 0 0 = (⟨1, 0, 0⟩, 1) from rfl] at h
    have h2 := (prts_step [49, 46, 54] 2 1 (by simp)).2.2.2
    rw [show ffirst (([49, 46, 54] : List UInt8).drop 2) 2 1 = (⟨6, 2, 0⟩, 3) from rfl] at h2
    simp at h h2
    show lvalid ([49, 46, 54] : List UInt8) = true
    simp [lvalid, lparts, h, h2]
  | 7, _, _ => by
    have h := (prts_step [49, 46, 55] 0 0 (by simp)).2.2.2
    rw [show ffirst (([49, 46, 55] : List UInt8).drop 0) 0 0 = (⟨1, 0, 0⟩, 1) from rfl] at h
    have h2 := (prts_step [49, 46, 55] 2 1 (by simp)).2.2.2
    rw [show ffirst (([49, 46, 55] : List UInt8).drop 2) 2 1 = (⟨7, 2, 0⟩, 3) from rfl] at h2
    simp at h h2
    show lvalid ([49, 46, 55] : List UInt8) = true
    simp [lvalid, lparts, h, h2]
  | 8, _, _ => by
    have h := (prts_step [49, 46, 56] 0 0 (by simp)).2.2.2
    rw [show ffirst (([49, 46, 56] : List UInt8).drop 0) 0 0 = (⟨1, 0, 0⟩, 1) from rfl] at h
    have h2 := (prts_step [49, 46, 56] 2 1 (by simp)).2.2.2
    rw [show ffirst (([49, 46, 56] : List UInt8).drop 2) 2 1 = (⟨8, 2, 0⟩, 3) from rfl] at h2
    simp at h h2
    show lvalid ([49, 46, 56] : List UInt8) = true
    simp [lvalid, lparts, h, h2]
theorem chK_size (k : Nat) : (chK k).size = 3 := rfl
theorem chK_inj : ∀ j, j ≤ 9 → ∀ k, k ≤ 9 → chK j = chK k → j = k := by decide
theorem chK_o1 : ∀ k, k ≤ 9 → chK k ≠ o1 := by decide
/-- A child in a state. -/
def kidQ (k : Nat) (s : Int × Int) : Pr := ⟨1, s.1, s.2, 0, 7, [1, 5], chK k, 2, ⟨⟨#[]⟩, 0⟩, 3⟩
def SOK (s : Int × Int) : Prop := (s.1 = 1 ∧ s.2 = 0) ∨ ((s.1 = 2 ∨ s.1 = 3) ∧ 0 ≤ s.2 ∧ s.2 ≤ 410)
theorem kidQ_chk {k : Nat} {s : Int × Int} (h1 : 1 ≤ k) (h8 : k ≤ 8) (h : SOK s) : pchk (kidQ k s) = 0 := by
  unfold SOK at h
  exact pr_chk (by omega) (by omega) (by omega) (chK_valid k h1 h8)
/-- What a view holds of the process 1 and its children. -/
structure WI (cs : List Ch) (m : Nat) (f : Nat → Int × Int) : Prop where
  o : vget [] cs (pnm o1) = (pencS one35, true)
  e : vget [] cs enm = (⟨#[]⟩, false)
  k : ∀ j, 1 ≤ j → j ≤ m → vget [] cs (pnm (chK j)) = (pencS (kidQ j (f j)), true)
  n : ∀ j, m < j → j ≤ 9 → (vget [] cs (pnm (chK j))).2 = false
  c : vget [] cs (cnm o1) = if m = 0 then (⟨#[]⟩, false) else (cvs ⟨0, 0, (m : Int)⟩, true)
  r : (vget [] cs (rnm o1)).2 = false
  g : ∀ i : Nat, (vget [] cs (gnm o1 (i : Int))).2 = false
  s : ∀ j, SOK (f j)
theorem WI.at1 {cs : List Ch} {m : Nat} {f : Nat → Int × Int} (h : WI cs m f) : PrAt [] cs o1 one35 := one_at h.o h.e
theorem WI.atK {cs : List Ch} {m : Nat} {f : Nat → Int × Int} (h : WI cs m f) {j : Nat} (h1 : 1 ≤ j) (hj : j ≤ m) (h8 : j ≤ 8) : PrAt [] cs (chK j) (kidQ j (f j)) :=
  ⟨chK_valid j h1 h8, by rw [chK_size]; decide, h.k j h1 hj, kidQ_chk h1 h8 (h.s j), by show (chK j).size ≤ 1000; rw [chK_size]; decide, by show (0 : Nat) ≤ 1000; decide, rfl, h.e⟩
theorem WI.made {cs : List Ch} {m : Nat} {f : Nat → Int × Int} (h : WI cs m f) (hm : m ≤ 8) : madeE [] cs o1 = (⟨0, 0, (m : Int)⟩, 0) ∧ (vget [] cs (cnm o1)).1.size ≤ 1099511627776 := by
  have hc := h.c
  by_cases h0 : m = 0
  · subst h0
    rw [if_pos rfl] at hc
    rw [madeE, if_pos o1_valid, hc]
    exact ⟨rfl, Nat.zero_le _⟩
  · rw [if_neg h0] at hc
    exact made_at (by omega) hc
theorem WI.init : WI cA 0 (fun _ => (1, 0)) := by
  refine ⟨by rw [vA_p, if_pos rfl], vA_o _ (by decide), fun j h1 h2 => by omega, fun j _ h9 => ?_, by rw [vA_o _ (by decide), if_pos rfl], by rw [vA_o _ (by decide)], fun i => by rw [vA_o _ (by simp [gnm])], fun _ => .inl ⟨rfl, rfl⟩⟩
  rw [vA_p, if_neg (chK_o1 j h9)]
/-- One more child. -/
theorem WI.fork {cs : List Ch} {m : Nat} (h : WI cs m (fun _ => (1, 0))) (hm : m < 8) : WI (frkC cs o1 (chK (m + 1)) ⟨0, 0, (m : Int)⟩ one35) (m + 1) (fun _ => (1, 0)) := by
  have hv := chK_valid (m + 1) (by omega) (by omega)
  refine ⟨?_, ?_, fun j h1 h2 => ?_, fun j h1 h9 => ?_, ?_, ?_, fun i => ?_, h.s⟩
  · rw [vF_p hv, if_neg (fun e => chK_o1 (m + 1) (by omega) e.symm)]; exact h.o
  · rw [vF_o _ (by decide) (by decide)]; exact h.e
  · rw [vF_p hv]
    by_cases hj : j = m + 1
    · subst hj; rw [if_pos rfl]; rfl
    · rw [if_neg (fun e => hj (chK_inj j (by omega) (m + 1) (by omega) e))]
      exact h.k j h1 (by omega)
  · rw [vF_p hv, if_neg (fun e => by have := chK_inj j h9 (m + 1) (by omega) e; omega)]
    exact h.n j (by omega) h9
  · rw [vF_c o1_valid, if_neg (by omega)]
    show (cvs ⟨0, 0, (m : Int) + 1⟩, true) = (cvs ⟨0, 0, ((m + 1 : Nat) : Int)⟩, true)
    rw [show ((m + 1 : Nat) : Int) = (m : Int) + 1 by omega]
  · rw [vF_o _ (by decide) (by decide)]; exact h.r
  · rw [vF_o _ (by simp [gnm]) (by simp [gnm])]; exact h.g i
def updF (f : Nat → Int × Int) (k : Nat) (s : Int × Int) : Nat → Int × Int := fun j => if j = k then s else f j
/-- A child changes. -/
theorem WI.put {cs : List Ch} {f : Nat → Int × Int} (h : WI cs 8 f) {k : Nat} (h1 : 1 ≤ k) (h8 : k ≤ 8) {s : Int × Int} (hs : SOK s) : WI (cs ++ [⟨pnm (chK k), pencS (kidQ k s), false⟩]) 8 (updF f k s) := by
  have hne : ∀ n : Nm, n.kind ≠ 1 → pnm (chK k) ≠ n := fun n hn e => hn (by rw [← e]; rfl)
  refine ⟨?_, ?_, fun j j1 j8 => ?_, fun j j1 j9 => ?_, ?_, ?_, fun i => ?_, fun j => ?_⟩
  · rw [vg_ne (fun e => chK_o1 k (by omega) (by simpa [pnm] using e))]; exact h.o
  · rw [vg_ne (hne _ (by decide))]; exact h.e
  · by_cases hj : j = k
    · subst hj
      rw [vg_eq rfl (chk_pnm (chK_valid j j1 j8)), updF, if_pos rfl]; rfl
    · rw [vg_ne (fun e => hj (chK_inj j (by omega) k (by omega) (by simpa [pnm] using e.symm))), updF, if_neg hj]
      exact h.k j j1 j8
  · rw [vg_ne (fun e => by have := chK_inj k (by omega) j j9 (by simpa [pnm] using e); omega)]
    exact h.n j j1 j9
  · rw [vg_ne (hne _ (by decide))]; exact h.c
  · rw [vg_ne (hne _ (by decide))]; exact h.r
  · rw [vg_ne (hne _ (by simp [gnm]))]; exact h.g i
  · unfold updF; split
    · exact hs
    · exact h.s j
end Go.Proofs.YtlpkdblnlkoedaaGreatDoor
