/-
  The law ProcessWaits, walked.
  Conditions: those that each theorem states.
-/
import Derived.Test.YtlpkdblnlkoedaaGreatDoorProW
set_option maxRecDepth 10000
namespace Go.Proofs.YtlpkdblnlkoedaaGreatDoor
open Go.RowKit

def blf (b : Bool) : List Value := [.bool b]
/-- Nine elements. -/
def arL {α : Type} (g : Nat → α) : List α := [g 0, g 1, g 2, g 3, g 4, g 5, g 6, g 7, g 8]
theorem arL_get {α : Type} (g : Nat → α) : ∀ k : Nat, k ≤ 8 → (arL g)[k]? = some (g k)
  | 0, _ => rfl | 1, _ => rfl | 2, _ => rfl | 3, _ => rfl | 4, _ => rfl | 5, _ => rfl | 6, _ => rfl | 7, _ => rfl | 8, _ => rfl
theorem arL_set {α : Type} (g : Nat → α) (x : α) : ∀ k : Nat, k ≤ 8 → (arL g).set k x = arL (fun j => if j = k then x else g j)
  | 0, _ => by simp [arL] | 1, _ => by simp [arL] | 2, _ => by simp [arL] | 3, _ => by simp [arL] | 4, _ => by simp [arL] | 5, _ => by simp [arL] | 6, _ => by simp [arL] | 7, _ => by simp [arL] | 8, _ => by simp [arL]
theorem arL_eq {α : Type} {g g' : Nat → α} (h : ∀ j, j ≤ 8 → g j = g' j) : arL g = arL g' := by
  unfold arL
  rw [h 0 (by decide), h 1 (by decide), h 2 (by decide), h 3 (by decide), h 4 (by decide), h 5 (by decide), h 6 (by decide), h 7 (by decide), h 8 (by decide)]
def g1 (m j : Nat) : Int := if 1 ≤ j ∧ j ≤ m then -1 else 0
def cG (f : Nat → Int × Int) (j : Nat) : Int := if j = 0 then 0 else if (f j).1 = 1 then -1 else (f j).2
def sG (f : Nat → Int × Int) (j : Nat) : Bool := if j = 0 then false else decide ((f j).1 = 3)
theorem g1_set {m : Nat} (h : m < 8) : (arL (g1 m)).set (m + 1) (-1) = arL (g1 (m + 1)) := by
  rw [arL_set _ _ _ (by omega)]
  refine arL_eq fun j hj => ?_
  unfold g1
  split <;> split <;> first | rfl | omega | (split <;> first | rfl | omega)
theorem g1_cG : arL (g1 8) = arL (cG fun _ => (1, 0)) := arL_eq fun j hj => by
  unfold g1 cG
  dsimp only
  split <;> split <;> first | rfl | omega | simp_all
theorem sG_0 : arL (fun _ => false) = arL (sG fun _ => (1, 0)) := arL_eq fun j hj => by
  unfold sG
  split <;> simp
theorem cG_set {f : Nat → Int × Int} {k : Nat} (h1 : 1 ≤ k) (h8 : k ≤ 8) (s : Int × Int) (hs : s.1 ≠ 1) : (arL (cG f)).set k s.2 = arL (cG (updF f k s)) := by
  rw [arL_set _ _ _ h8]
  refine arL_eq fun j hj => ?_
  unfold cG updF
  by_cases hj : j = k
  · subst hj
    rw [if_pos rfl, if_neg (by omega), if_pos rfl, if_neg hs]
  · rw [if_neg hj, if_neg hj]
theorem sG_set {f : Nat → Int × Int} {k : Nat} (h1 : 1 ≤ k) (h8 : k ≤ 8) (s : Int × Int) (b : Bool) (hs : b = decide (s.1 = 3)) : (arL (sG f)).set k b = arL (sG (updF f k s)) := by
  rw [arL_set _ _ _ h8]
  refine arL_eq fun j hj => ?_
  unfold sG updF
  by_cases hj : j = k
  · subst hj
    rw [if_pos rfl, if_neg (by omega), if_pos rfl, hs]
  · rw [if_neg hj, if_neg hj]
theorem cG_upd {f : Nat → Int × Int} {k : Nat} (s : Int × Int) (h : cG (updF f k s) k = cG f k) : arL (cG (updF f k s)) = arL (cG f) := arL_eq fun j hj => by
  by_cases hj : j = k
  · subst hj; exact h
  · unfold cG updF; rw [if_neg hj]
theorem sG_upd {f : Nat → Int × Int} {k : Nat} (s : Int × Int) (h : sG (updF f k s) k = sG f k) : arL (sG (updF f k s)) = arL (sG f) := arL_eq fun j hj => by
  by_cases hj : j = k
  · subst hj; exact h
  · unfold sG updF; rw [if_neg hj]
theorem set_same {α : Type} {l : List α} {k : Nat} {x : α} (h : l[k]? = some x) : l.set k x = l := by
  obtain ⟨h1, h2⟩ := List.getElem?_eq_some_iff.1 h
  rw [← h2, List.set_getElem_self]

section
variable {cs : List Ch} {m : Nat} {f : Nat → Int × Int}
theorem o1_ne : isE o1 = false := by simp [isE, o1, toList_data]
theorem forkS (h : WI cs m fun _ => (1, 0)) (hm : m < 8) (hl : cs.length ≤ 900000) (v s : Nat) (rs : List (Nm × Ch)) : Enters 6 ∧ Spec Tryz.prog 6 #[.pointer (some ⟨v, 0, none⟩), .string o1] [St (some ⟨s, 0, none⟩) [], Usg, P10] [Vw v (some ⟨s, 0, none⟩) rs cs]
    ⟨List (Nm × Ch), fun _ => .tuple #[.string (chK (m + 1)), .int .i64 0], fun _ => True, fun _ => [], fun rs' => [Vw v (some ⟨s, 0, none⟩) rs' (frkC cs o1 (chK (m + 1)) ⟨0, 0, (m : Int)⟩ one35)]⟩ := by
  have e1 : chN o1 ((Ct.mk 0 0 (m : Int)).c + 1) = chK (m + 1) := by
    have := chN_K (m + 1) (by omega) (by omega)
    rwa [show ((m + 1 : Nat) : Int) = (m : Int) + 1 by omega] at this
  have e2 := itoa_K (m + 1) (by omega) (by omega)
  rw [show ((m + 1 : Nat) : Int) = (m : Int) + 1 by omega] at e2
  have hmd := h.made (by omega)
  have := fork2_ok (fork_ok v (some ⟨s, 0, none⟩) [] rs cs o1 one35 h.at1 rfl rfl ⟨0, 0, (m : Int)⟩ hmd.1 hmd.2 ⟨Int.le_refl 0, by show (0 : Int) ≤ 1048576; decide, Int.le_refl 0, by show (0 : Int) ≤ 1048576; decide, by show (0 : Int) ≤ (m : Int); omega, by show (m : Int) ≤ 1048576; omega⟩ (by show (m : Int) + 1 ≤ 999999; omega) o1_lords o1_ne e2
    (by rw [e1]; exact chK_valid (m + 1) (by omega) (by omega)) (by rw [e1, chK_size]; decide) (by rw [e1]; exact h.n (m + 1) (by omega) (by omega)) h.r h.g hl)
  rwa [e1] at this
theorem exitS (h : WI cs 8 f) {k : Nat} (h1 : 1 ≤ k) (h8 : k ≤ 8) (hr : (f k).1 = 1) (hl : cs.length ≤ 900000) {i : Int} (hi : 0 ≤ i ∧ i ≤ 410) (v s : Nat) (rs : List (Nm × Ch)) : Enters 8 ∧ Spec Tryz.prog 8 #[.pointer (some ⟨v, 0, none⟩), .string (chK k), .int .i64 i] [St (some ⟨s, 0, none⟩) [], Usg] [Vw v (some ⟨s, 0, none⟩) rs cs]
    ⟨Unit, fun _ => .int .i64 0, fun _ => True, fun _ => [], fun _ => [Vw v (some ⟨s, 0, none⟩) (pgR [] rs cs (chK k)) (cs ++ [⟨pnm (chK k), pencS (kidQ k (2, i)), false⟩])]⟩ :=
  proExit_ok v (some ⟨s, 0, none⟩) [] rs cs (chK k) (kidQ k (f k)) (h.atK h1 h8 h8) hr i hi (kidQ_chk (s := (2, i)) h1 h8 (.inr ⟨.inl rfl, hi⟩)) (by omega)
theorem exitN (h : WI cs 8 f) {k : Nat} (h1 : 1 ≤ k) (h8 : k ≤ 8) (hr : (f k).1 ≠ 1) {i : Int} (v s : Nat) (rs : List (Nm × Ch)) : Enters 8 ∧ Spec Tryz.prog 8 #[.pointer (some ⟨v, 0, none⟩), .string (chK k), .int .i64 i] [St (some ⟨s, 0, none⟩) [], Usg] [Vw v (some ⟨s, 0, none⟩) rs cs]
    ⟨Unit, fun _ => .int .i64 10, fun _ => True, fun _ => [], fun _ => [Vw v (some ⟨s, 0, none⟩) (pgR [] rs cs (chK k)) cs]⟩ :=
  proExitSt_ok v (some ⟨s, 0, none⟩) [] rs cs (chK k) (kidQ k (f k)) (h.atK h1 h8 h8) hr i
theorem waitS (h : WI cs 8 f) {k : Nat} (h1 : 1 ≤ k) (h8 : k ≤ 8) (hl : cs.length ≤ 900000) (v s : Nat) (rs : List (Nm × Ch)) : ∃ rs', Enters 9 ∧ Spec Tryz.prog 9 #[.pointer (some ⟨v, 0, none⟩), .string o1, .int .i64 (k : Int)] [St (some ⟨s, 0, none⟩) [], Usg, P10] [Vw v (some ⟨s, 0, none⟩) rs cs]
    ⟨Unit, fun _ => .tuple #[.int .i64 (if (f k).1 = 2 then (f k).2 else 0), .int .i64 (if (f k).1 = 1 then 19 else if (f k).1 = 3 then 10 else 0)], fun _ => True, fun _ => [], fun _ => [Vw v (some ⟨s, 0, none⟩) rs' (if (f k).1 = 2 then cs ++ [⟨pnm (chK k), pencS (kidQ k (3, (f k).2)), false⟩] else cs)]⟩ := by
  have hmd := h.made (by omega)
  have e1 := chN_K k h1 h8
  have hs := h.s k
  have := proWait_ok v (some ⟨s, 0, none⟩) [] rs cs o1 one35 h.at1 ⟨0, 0, ((8 : Nat) : Int)⟩ hmd.1 hmd.2 (k : Int) ⟨by omega, by show (k : Int) ≤ ((8 : Nat) : Int); omega⟩ (by omega) o1_lords o1_ne (itoa_K k h1 h8) (kidQ k (f k)) (by rw [e1]; exact h.atK h1 h8 h8) (by omega)
    (fun h2 => kidQ_chk (s := (3, (f k).2)) h1 h8 (.inr ⟨.inr rfl, by
      have h2' : (f k).1 = 2 := h2
      unfold SOK at hs
      omega⟩))
  rw [e1] at this
  exact ⟨_, this⟩
theorem waitN (h : WI cs 8 f) (k : Int) (hk : k < 1 ∨ 8 < k) (v s : Nat) (rs : List (Nm × Ch)) : Enters 9 ∧ Spec Tryz.prog 9 #[.pointer (some ⟨v, 0, none⟩), .string o1, .int .i64 k] [St (some ⟨s, 0, none⟩) [], Usg] [Vw v (some ⟨s, 0, none⟩) rs cs]
    ⟨Unit, fun _ => .tuple #[.int .i64 0, .int .i64 22], fun _ => True, fun _ => [], fun _ => [Vw v (some ⟨s, 0, none⟩) (madeR [] (pgR [] rs cs o1) cs o1) cs]⟩ := by
  have hmd := h.made (by omega)
  exact proWaitNo_ok v (some ⟨s, 0, none⟩) [] rs cs o1 one35 h.at1 ⟨0, 0, ((8 : Nat) : Int)⟩ hmd.1 hmd.2 k hk
theorem childS {k : Nat} (h1 : 1 ≤ k) (h8 : k ≤ 8) : Enters 7 ∧ Spec Tryz.prog 7 #[.string o1, .int .i64 (k : Int)] [P10] [] (RetV (.tuple #[.string (chK k), .int .i64 0])) := by
  have := child_ok o1 (k : Int) o1_valid (by decide) ⟨by omega, by omega⟩ o1_lords o1_ne (itoa_K k h1 h8)
  rwa [chN_K k h1 h8] at this
end
/-- What holds in the rounds of the second loop. -/
def WJ (i : Nat) (cs : List Ch) (lc : List Int) (lb : List Bool) : Prop := ∃ f, WI cs 8 f ∧ lc = arL (cG f) ∧ lb = arL (sG f) ∧ cs.length ≤ 17 + i
def X2 := Nat × List (Nm × Ch) × List Ch × List Int × List Bool

set_option maxHeartbeats 4000000 in
theorem lawPWaits_ok (o : Option Addr) (cap : Nat) (es : List UInt8) (_hl : es.length ≤ 1099511627776) : Enters 3 ∧ Spec Tryz.prog 3 #[.slice o es.length cap] [Sl 5 bf o cap es, Usg, P10] [] (RetV (.bool true)) := by
  have n0 := begun_ok
  have n1 := known35_ok
  generalize hcA : cA = cs0 at *
  refine ⟨enters_of Tryz.func3 (by kernel_rfl) rfl, spec_of (vs := [_]) Tryz.func3 rfl Tryz.ntmps3 rfl fun G w hp => ?_⟩
  repeat' (first | refine l_run ?_ | refine l_nil ?_ | refine l_one ?_ | refine k_reg ?_ | refine l_ld ?_ | refine l_ldF ?_ | refine l_st ?_ | refine l_al (fun b => ?_) | refine l_bs (fun b => ?_) | refine k_condT ?_ | refine k_condF ?_ | refine k_brk ?_ | refine l_call (n0) (fun _ _ => ?_) | refine l_call0 (n0) (fun _ _ => ?_) | refine l_call (n1) (fun _ _ => ?_) | refine l_call0 (n1) (fun _ _ => ?_) | (refine l_split (fun hc => ?_) (fun hc => ?_) <;> (try simp at hc) <;> (try omega)) | (refine k_cond (fun hc => ?_) (fun hc => ?_) <;> (try simp at hc) <;> (try omega)))
  rename_i q _ _ _
  generalize b = bc at *
  obtain ⟨v, s, rs0⟩ := q
  dsimp only
  refine k_lp (X := { q : Nat × List (Nm × Ch) × List Ch × List Int // q.1 ≤ 8 ∧ WI q.2.2.1 q.1 (fun _ => (1, 0)) ∧ q.2.2.2 = arL (g1 q.1) ∧ q.2.2.1.length ≤ 1 + 2 * q.1 }) (fun q => [(0, .slice o es.length cap), (3, .pointer (some ⟨v, 0, none⟩)), (5, .pointer (some ⟨bc, 0, none⟩)), (6, .int .i64 ((q.1.1 : Int) + 1))]) (fun _ => [Sl 5 bf o cap es, St (some ⟨s, 0, none⟩) [], Usg, P10]) (fun q => [Vw v (some ⟨s, 0, none⟩) q.1.2.1 q.1.2.2.1, Ar 27 zf bc q.1.2.2.2]) (fun q => 8 - q.1.1) ⟨(0, rs0, cs0, [0, 0, 0, 0, 0, 0, 0, 0, 0]), Nat.zero_le _, hcA ▸ WI.init, rfl, by subst hcA; show cA.length ≤ 1 + 2 * 0; decide⟩ ⟨rfl, rfl, rfl, rfl, trivial⟩ ?_
  rintro ⟨⟨m, rs, cs, lc⟩, hm8, hW, hc1, hlen⟩
  dsimp only at hm8 hW hc1 hlen ⊢
  by_cases hm : m < 8
  · have f1 := forkS hW hm (by omega) v s rs
    have hW2 := hW.fork hm
    have hl2 : (frkC cs o1 (chK (m + 1)) ⟨0, 0, (m : Int)⟩ one35).length ≤ 1 + 2 * (m + 1) := by unfold frkC; simp; omega
    have hc2 := g1_set hm
    rw [← hc1] at hc2
    obtain ⟨x, hx⟩ : ∃ x, lc[m + 1]? = some x := by rw [hc1]; exact ⟨_, arL_get _ _ (by omega)⟩
    generalize frkC cs o1 (chK (m + 1)) ⟨0, 0, (m : Int)⟩ one35 = cs2 at *
    repeat' (first | refine l_run ?_ | refine l_nil ?_ | refine l_one ?_ | refine k_reg ?_ | refine l_ld ?_ | refine l_ldF ?_ | refine l_st ?_ | refine l_al (fun b => ?_) | refine l_bs (fun b => ?_) | refine k_condT ?_ | refine k_condF ?_ | refine l_call (f1) (fun _ _ => ?_) | refine l_call0 (f1) (fun _ _ => ?_) | refine l_ixA (m := 9) (sz := 1) (m + 1) (by omega) ?_ | refine l_stA 1 (m + 1) 0 (-1) hx ?_ | (refine l_split (fun hc => ?_) (fun hc => ?_) <;> (try simp at hc) <;> (try omega)) | (refine k_cond (fun hc => ?_) (fun hc => ?_) <;> (try simp at hc) <;> (try omega)))
    rename_i rs2 _
    rw [wrapi (z := (m : Int) + 1 + 1) (by omega) (by omega)]
    exact k_next ⟨(m + 1, rs2, cs2, lc.set (m + 1) (-1)), by omega, hW2, hc2, hl2⟩ (by show 8 - (m + 1) < 8 - m; omega) ⟨rfl, rfl, rfl, (by show _ = some (Value.int .i64 (((m + 1 : Nat) : Int) + 1)); rw [Int.natCast_add]; rfl), trivial⟩
  obtain rfl : m = 8 := by omega
  rw [g1_cG] at hc1
  have hJ : WJ 0 cs lc [false, false, false, false, false, false, false, false, false] := ⟨fun _ => (1, 0), hW, hc1, sG_0, by omega⟩
  repeat' (first | refine l_run ?_ | refine l_nil ?_ | refine l_one ?_ | refine k_reg ?_ | refine l_ld ?_ | refine l_ldF ?_ | refine l_st ?_ | refine l_al (fun b => ?_) | refine l_bs (fun b => ?_) | refine k_condT ?_ | refine k_condF ?_ | refine k_brk ?_ | (refine l_split (fun hc => ?_) (fun hc => ?_) <;> (try simp at hc) <;> (try omega)) | (refine k_cond (fun hc => ?_) (fun hc => ?_) <;> (try simp at hc) <;> (try omega)))
  generalize b = bs at *
  refine k_lp (X := { q : Nat × List (Nm × Ch) × List Ch × List Int × List Bool // q.1 ≤ es.length ∧ q.1 ≤ 40 ∧ WJ q.1 q.2.2.1 q.2.2.2.1 q.2.2.2.2 }) (fun q => [(0, .slice o es.length cap), (3, .pointer (some ⟨v, 0, none⟩)), (5, .pointer (some ⟨bc, 0, none⟩)), (9, .pointer (some ⟨bs, 0, none⟩)), (10, .int .i64 (q.1.1 : Int))]) (fun _ => [Sl 5 bf o cap es, St (some ⟨s, 0, none⟩) [], Usg, P10]) (fun q => [Vw v (some ⟨s, 0, none⟩) q.1.2.1 q.1.2.2.1, Ar 27 zf bc q.1.2.2.2.1, Ar 32 blf bs q.1.2.2.2.2]) (fun q => 41 - q.1.1) ⟨(0, rs, cs, lc, _), Nat.zero_le _, Nat.zero_le _, hJ⟩ ⟨rfl, rfl, rfl, rfl, rfl, trivial⟩ ?_
  rintro ⟨⟨i, rs, cs, lc, lb⟩, hi1, hi2, f, hW, hc1, hb1, hlen⟩
  dsimp only at hi1 hi2 hW hc1 hb1 hlen ⊢
  by_cases hgo : i < es.length ∧ i < 40
  · obtain ⟨hgo1, hgo2⟩ := hgo
    obtain ⟨c, hgt⟩ : ∃ c, es[i]? = some c := ⟨_, List.getElem?_eq_getElem hgo1⟩
    have hn8 : c.toNat % 8 < 8 := Nat.mod_lt _ (by decide)
    have hcl := c.toNat_lt
    have t1 : (c.toNat : Int).tmod 8 = ((c.toNat % 8 : Nat) : Int) := by rw [Int.tmod_eq_emod_of_nonneg (Int.natCast_nonneg _)]; exact (Int.natCast_emod _ 8).symm
    have t2 : (c.toNat : Int).tdiv 8 = ((c.toNat / 8 : Nat) : Int) := by rw [Int.tdiv_eq_ediv_of_nonneg (Int.natCast_nonneg _)]; exact (Int.natCast_ediv _ 8).symm
    have t3 : ((c.toNat / 8 : Nat) : Int).tmod 2 = ((c.toNat / 8 % 2 : Nat) : Int) := by rw [Int.tmod_eq_emod_of_nonneg (Int.natCast_nonneg _)]; exact (Int.natCast_emod _ 2).symm
    have w2 : IntKind.u8.wrap ((c.toNat / 8 : Nat) : Int) = ((c.toNat / 8 : Nat) : Int) := wu8 (by omega) (by omega)
    obtain ⟨k, hk⟩ : ∃ k, k = c.toNat % 8 + 1 := ⟨_, rfl⟩
    have w0 : IntKind.i64.wrap ((c.toNat % 8 : Nat) : Int) = ((c.toNat % 8 : Nat) : Int) := wrapi (by omega) (by omega)
    have w1 : IntKind.i64.wrap (1 + ((c.toNat % 8 : Nat) : Int)) = (k : Int) := by rw [wrapi (by omega) (by omega)]; omega
    have w9 : IntKind.i64.wrap ((i : Int) + 1) = ((i + 1 : Nat) : Int) := by rw [wrapi (by omega) (by omega)]; omega
    have hk1 : 1 ≤ k := by omega
    have hk8 : k ≤ 8 := by omega
    clear hk
    have hx : lc[k]? = some (cG f k) := by rw [hc1]; exact arL_get _ _ hk8
    have hy : lb[k]? = some (sG f k) := by rw [hb1]; exact arL_get _ _ hk8
    have hS := hW.s k
    unfold SOK at hS
    have n3 := childS hk1 hk8
    by_cases hbit : c.toNat / 8 % 2 = 0
    · have b1 : (((c.toNat / 8 % 2 : Nat) : Int) == 0) = true := by rw [hbit]; rfl
      by_cases h1 : (f k).1 = 1
      · have n4 := exitS hW hk1 hk8 h1 (by omega) (i := (i : Int)) (by omega) v s rs
        have hW2 := hW.put hk1 hk8 (s := (2, (i : Int))) (.inr ⟨.inl rfl, by omega⟩)
        have hc2 := cG_set (f := f) hk1 hk8 (2, (i : Int)) (by show (2 : Int) ≠ 1; decide)
        have hb2 := sG_upd (f := f) (k := k) (2, (i : Int)) (by unfold sG updF; rw [if_pos rfl, h1]; rfl)
        rw [← hc1] at hc2
        rw [← hb1] at hb2
        have hl2 : (cs ++ [(⟨pnm (chK k), pencS (kidQ k (2, (i : Int))), false⟩ : Ch)]).length ≤ 17 + (i + 1) := by simp; omega
        have e1 : cG f k = -1 := by unfold cG; rw [if_neg (by omega), if_pos h1]
        rw [e1] at hx
        generalize pgR [] rs cs (chK k) = rs2 at *
        generalize (cs ++ [⟨pnm (chK k), pencS (kidQ k (2, (i : Int))), false⟩] : List Ch) = cs2 at *
        generalize chK k = ch at *
        repeat' (first | refine l_run ?_ | refine l_nil ?_ | refine l_one ?_ | refine k_reg ?_ | refine l_ld ?_ | refine l_ldF ?_ | refine l_st ?_ | refine l_al (fun b => ?_) | refine l_bs (fun b => ?_) | refine k_condT ?_ | refine k_condF ?_ | refine l_call (n3) (fun _ _ => ?_) | refine l_call0 (n3) (fun _ _ => ?_) | refine l_call (n4) (fun _ _ => ?_) | refine l_call0 (n4) (fun _ _ => ?_) | rw [t1] | rw [t2] | rw [t3] | rw [w0] | rw [w1] | rw [w2] | rw [b1] | refine l_ixe i c hgt (fun b off => ?_) | refine l_ldC ?_ | refine l_ixA (m := 9) (sz := 1) k (by omega) ?_ | refine l_ldA 1 k 0 hx ?_ | refine l_stA 1 k 0 (i : Int) hx ?_ | (refine l_split (fun hc => ?_) (fun hc => ?_) <;> (try simp at hc) <;> (try omega)) | (refine k_cond (fun hc => ?_) (fun hc => ?_) <;> (try simp at hc) <;> (try omega)))
        rw [w9]
        exact k_next ⟨(i + 1, rs2, cs2, lc.set k (i : Int), lb), by dsimp only; omega, by dsimp only; omega, _, hW2, hc2, hb2.symm, hl2⟩ (by show 41 - (i + 1) < 41 - i; omega) ⟨rfl, rfl, rfl, rfl, rfl, trivial⟩
      · have n4 := exitN hW hk1 hk8 h1 (i := (i : Int)) v s rs
        have e1 : 0 ≤ cG f k := by unfold cG; rw [if_neg (by omega), if_neg h1]; omega
        have hnx : WJ (i + 1) cs lc lb := ⟨f, hW, hc1, hb1, by omega⟩
        generalize cG f k = z at *
        generalize pgR [] rs cs (chK k) = rs2 at *
        generalize chK k = ch at *
        repeat' (first | refine l_run ?_ | refine l_nil ?_ | refine l_one ?_ | refine k_reg ?_ | refine l_ld ?_ | refine l_ldF ?_ | refine l_st ?_ | refine l_al (fun b => ?_) | refine l_bs (fun b => ?_) | refine k_condT ?_ | refine k_condF ?_ | refine l_call (n3) (fun _ _ => ?_) | refine l_call0 (n3) (fun _ _ => ?_) | refine l_call (n4) (fun _ _ => ?_) | refine l_call0 (n4) (fun _ _ => ?_) | rw [t1] | rw [t2] | rw [t3] | rw [w0] | rw [w1] | rw [w2] | rw [b1] | refine l_ixe i c hgt (fun b off => ?_) | refine l_ldC ?_ | refine l_ixA (m := 9) (sz := 1) k (by omega) ?_ | refine l_ldA 1 k 0 hx ?_ | (refine l_split (fun hc => ?_) (fun hc => ?_) <;> (try simp at hc) <;> (try omega)) | (refine k_cond (fun hc => ?_) (fun hc => ?_) <;> (try simp at hc) <;> (try omega)))
        rw [w9]
        exact k_next ⟨(i + 1, rs2, cs, lc, lb), by dsimp only; omega, by dsimp only; omega, hnx⟩ (by show 41 - (i + 1) < 41 - i; omega) ⟨rfl, rfl, rfl, rfl, rfl, trivial⟩
    · have b1 : (((c.toNat / 8 % 2 : Nat) : Int) == 0) = false := by rw [beq_eq_false_iff_ne]; omega
      obtain ⟨rs2, n4⟩ := waitS hW hk1 hk8 (by omega) v s rs
      have hnx : WJ (i + 1) cs lc lb := ⟨f, hW, hc1, hb1, by omega⟩
      rcases (show (f k).1 = 1 ∨ (f k).1 = 2 ∨ (f k).1 = 3 by omega) with h1 | h1 | h1
      · rw [h1] at n4
        simp only [show ¬ (1 : Int) = 2 by decide, if_false, if_true] at n4
        have e1 : cG f k = -1 := by unfold cG; rw [if_neg (by omega), if_pos h1]
        have e2 : sG f k = false := by unfold sG; rw [if_neg (by omega), h1]; rfl
        rw [e1] at hx
        rw [e2] at hy
        have es2 := set_same hy
        generalize chK k = ch at *
        repeat' (first | refine l_run ?_ | refine l_nil ?_ | refine l_one ?_ | refine k_reg ?_ | refine l_ld ?_ | refine l_ldF ?_ | refine l_st ?_ | refine l_al (fun b => ?_) | refine l_bs (fun b => ?_) | refine k_condT ?_ | refine k_condF ?_ | refine l_call (n3) (fun _ _ => ?_) | refine l_call0 (n3) (fun _ _ => ?_) | refine l_call (n4) (fun _ _ => ?_) | refine l_call0 (n4) (fun _ _ => ?_) | rw [t1] | rw [t2] | rw [t3] | rw [w0] | rw [w1] | rw [w2] | rw [b1] | refine l_ixe i c hgt (fun b off => ?_) | refine l_ldC ?_ | refine l_ixA (m := 9) (sz := 1) k (by omega) ?_ | refine l_ldA 1 k 0 hx ?_ | refine l_ldA 1 k 0 hy ?_ | refine l_stA 1 k 0 false hy ?_ | (refine l_split (fun hc => ?_) (fun hc => ?_) <;> (try simp at hc) <;> (try omega)) | (refine k_cond (fun hc => ?_) (fun hc => ?_) <;> (try simp at hc) <;> (try omega)))
        rw [w9]
        exact k_next ⟨(i + 1, rs2, cs, lc, lb.set k false), by dsimp only; omega, by dsimp only; omega, by rw [es2]; exact hnx⟩ (by show 41 - (i + 1) < 41 - i; omega) ⟨rfl, rfl, rfl, rfl, rfl, trivial⟩
      · rw [h1] at n4
        simp only [show ¬ (2 : Int) = 1 by decide, show ¬ (2 : Int) = 3 by decide, if_false, if_true] at n4
        have e1 : cG f k = (f k).2 := by unfold cG; rw [if_neg (by omega), if_neg (by omega)]
        have e2 : sG f k = false := by unfold sG; rw [if_neg (by omega), h1]; rfl
        have hW2 := hW.put hk1 hk8 (s := (3, (f k).2)) (.inr ⟨.inr rfl, by show 0 ≤ (f k).2 ∧ (f k).2 ≤ 410; omega⟩)
        have hc2 := cG_upd (f := f) (k := k) (3, (f k).2) (by rw [e1]; unfold cG updF; rw [if_neg (by omega), if_pos rfl, if_neg (by show ¬ (3 : Int) = 1; decide)])
        have hb2 := sG_set (f := f) hk1 hk8 (3, (f k).2) true rfl
        rw [← hc1] at hc2
        rw [← hb1] at hb2
        rw [e1] at hx
        rw [e2] at hy
        have hl2 : (cs ++ [(⟨pnm (chK k), pencS (kidQ k (3, (f k).2)), false⟩ : Ch)]).length ≤ 17 + (i + 1) := by simp; omega
        have hnx2 : WJ (i + 1) (cs ++ [(⟨pnm (chK k), pencS (kidQ k (3, (f k).2)), false⟩ : Ch)]) lc (lb.set k true) := ⟨_, hW2, hc2.symm, hb2, hl2⟩
        have hz : 0 ≤ (f k).2 := by omega
        clear hc2 hb2 e1 hS hl2 hW2
        generalize (cs ++ [⟨pnm (chK k), pencS (kidQ k (3, (f k).2)), false⟩] : List Ch) = cs2 at *
        generalize chK k = ch at *
        generalize (f k).2 = z at *
        repeat' (first | refine l_run ?_ | refine l_nil ?_ | refine l_one ?_ | refine k_reg ?_ | refine l_ld ?_ | refine l_ldF ?_ | refine l_st ?_ | refine l_al (fun b => ?_) | refine l_bs (fun b => ?_) | refine k_condT ?_ | refine k_condF ?_ | refine l_call (n3) (fun _ _ => ?_) | refine l_call0 (n3) (fun _ _ => ?_) | refine l_call (n4) (fun _ _ => ?_) | refine l_call0 (n4) (fun _ _ => ?_) | rw [t1] | rw [t2] | rw [t3] | rw [w0] | rw [w1] | rw [w2] | rw [b1] | refine l_ixe i c hgt (fun b off => ?_) | refine l_ldC ?_ | refine l_ixA (m := 9) (sz := 1) k (by omega) ?_ | refine l_ldA 1 k 0 hx ?_ | refine l_ldA 1 k 0 hy ?_ | refine l_stA 1 k 0 true hy ?_ | (refine l_split (fun hc => ?_) (fun hc => ?_) <;> (try simp at hc) <;> (try omega)) | (refine k_cond (fun hc => ?_) (fun hc => ?_) <;> (try simp at hc) <;> (try omega)))
        rw [w9]
        exact k_next ⟨(i + 1, rs2, cs2, lc, lb.set k true), by dsimp only; omega, by dsimp only; omega, hnx2⟩ (by show 41 - (i + 1) < 41 - i; omega) ⟨rfl, rfl, rfl, rfl, rfl, trivial⟩
      · rw [h1] at n4
        simp only [show ¬ (3 : Int) = 2 by decide, show ¬ (3 : Int) = 1 by decide, if_false, if_true] at n4
        have e1 : cG f k = (f k).2 := by unfold cG; rw [if_neg (by omega), if_neg (by omega)]
        have e2 : sG f k = true := by unfold sG; rw [if_neg (by omega), h1]; rfl
        rw [e1] at hx
        rw [e2] at hy
        have es2 := set_same hy
        have hz : 0 ≤ (f k).2 := by omega
        clear e1 hS
        generalize chK k = ch at *
        generalize (f k).2 = z at *
        repeat' (first | refine l_run ?_ | refine l_nil ?_ | refine l_one ?_ | refine k_reg ?_ | refine l_ld ?_ | refine l_ldF ?_ | refine l_st ?_ | refine l_al (fun b => ?_) | refine l_bs (fun b => ?_) | refine k_condT ?_ | refine k_condF ?_ | refine l_call (n3) (fun _ _ => ?_) | refine l_call0 (n3) (fun _ _ => ?_) | refine l_call (n4) (fun _ _ => ?_) | refine l_call0 (n4) (fun _ _ => ?_) | rw [t1] | rw [t2] | rw [t3] | rw [w0] | rw [w1] | rw [w2] | rw [b1] | refine l_ixe i c hgt (fun b off => ?_) | refine l_ldC ?_ | refine l_ixA (m := 9) (sz := 1) k (by omega) ?_ | refine l_ldA 1 k 0 hx ?_ | refine l_ldA 1 k 0 hy ?_ | refine l_stA 1 k 0 true hy ?_ | (refine l_split (fun hc => ?_) (fun hc => ?_) <;> (try simp at hc) <;> (try omega)) | (refine k_cond (fun hc => ?_) (fun hc => ?_) <;> (try simp at hc) <;> (try omega)))
        rw [w9]
        exact k_next ⟨(i + 1, rs2, cs, lc, lb.set k true), by dsimp only; omega, by dsimp only; omega, by rw [es2]; exact hnx⟩ (by show 41 - (i + 1) < 41 - i; omega) ⟨rfl, rfl, rfl, rfl, rfl, trivial⟩
  · have n6 := fun rs => waitN hW 9 (.inr (by decide)) v s rs
    have n7 := fun rs => waitN hW 0 (.inl (by decide)) v s rs
    repeat' (first | refine l_run ?_ | refine l_nil ?_ | refine l_one ?_ | refine k_reg ?_ | refine l_ld ?_ | refine l_ldF ?_ | refine l_st ?_ | refine l_al (fun b => ?_) | refine l_bs (fun b => ?_) | refine k_condT ?_ | refine k_condF ?_ | refine k_brk ?_ | refine l_call (n6 _) (fun _ _ => ?_) | refine l_call0 (n6 _) (fun _ _ => ?_) | refine l_call (n7 _) (fun _ _ => ?_) | refine l_call0 (n7 _) (fun _ _ => ?_) | (refine l_split (fun hc => ?_) (fun hc => ?_) <;> (try simp at hc) <;> (try omega)) | (refine k_cond (fun hc => ?_) (fun hc => ?_) <;> (try simp at hc) <;> (try omega)))
    all_goals (refine k_ret () ?_ trivial; simp [RetV, resV])
end Go.Proofs.YtlpkdblnlkoedaaGreatDoor
