/-
  The example of layer 35, known.
  Conditions: those that each theorem states.
-/
import Derived.Test.YtgaipgbgppdfeaaGreatDoorPro11
import Derived.Test.YtgaipgbgppdfeaaGreatDoorMK
set_option maxRecDepth 10000
namespace Go.Proofs.YtgaipgbgppdfeaaGreatDoor
open Go.RowKit

def c11 : ByteArray := ⟨#[49, 46, 49]⟩
def c12 : ByteArray := ⟨#[49, 46, 50]⟩
theorem itoa1 : Lib.itoa 1 = [49] := by decide +kernel
theorem itoa2 : Lib.itoa 2 = [50] := by decide +kernel
theorem chN1 : chN o1 1 = c11 := by rw [chN, itoa1]; decide
theorem chN2 : chN o1 2 = c12 := by rw [chN, itoa2]; decide
theorem o1_parts : lparts o1.data.toList = [⟨1, 0, 0⟩] := by
  have h := (prts_step [49] 0 0 (by simp)).2.2.2
  rw [show ffirst (([49] : List UInt8).drop 0) 0 0 = (⟨1, 0, 0⟩, 1) from rfl] at h
  simp at h
  simp [o1, lparts, h]
theorem o1_lords : (lords o1.data.toList).length ≠ 8 := by
  rw [lords, if_pos o1_valid, o1_parts]; decide
theorem c11_valid : lvalid c11.data.toList = true := by
  have h := (prts_step [49, 46, 49] 0 0 (by simp)).2.2.2
  rw [show ffirst (([49, 46, 49] : List UInt8).drop 0) 0 0 = (⟨1, 0, 0⟩, 1) from rfl] at h
  have h2 := (prts_step [49, 46, 49] 2 1 (by simp)).2.2.2
  rw [show ffirst (([49, 46, 49] : List UInt8).drop 2) 2 1 = (⟨1, 2, 0⟩, 3) from rfl] at h2
  simp at h h2
  simp [c11, lvalid, lparts, h, h2]
theorem c12_valid : lvalid c12.data.toList = true := by
  have h := (prts_step [49, 46, 50] 0 0 (by simp)).2.2.2
  rw [show ffirst (([49, 46, 50] : List UInt8).drop 0) 0 0 = (⟨1, 0, 0⟩, 1) from rfl] at h
  have h2 := (prts_step [49, 46, 50] 2 1 (by simp)).2.2.2
  rw [show ffirst (([49, 46, 50] : List UInt8).drop 2) 2 1 = (⟨2, 2, 0⟩, 3) from rfl] at h2
  simp at h h2
  simp [c12, lvalid, lparts, h, h2]
def one35 : Pr := ⟨1, 1, 0, 0, 7, [1, 5], o1, 2, ⟨⟨#[]⟩, 0⟩, 3⟩
theorem pr_chk {st cd : Int} {sp : ByteArray} (hs : 1 ≤ st ∧ st ≤ 3) (hc : 0 ≤ cd ∧ cd ≤ 410) (h1 : st = 1 → cd = 0) (hv : lvalid sp.data.toList = true) : pchk ⟨1, st, cd, 0, 7, [1, 5], sp, 2, ⟨⟨#[]⟩, 0⟩, 3⟩ = 0 := by
  have hg : gchk [1, 5] = 0 := by decide
  have hb : bchk ⟨⟨#[]⟩, 0⟩ = 0 := by
    have h3 : lvalid mk3.data.toList = true := mk27_valid 2
    unfold bchk
    rw [if_neg (by show ¬ lvalid mk3.data.toList = false; simp [h3]), if_pos (by decide)]
  unfold pchk pfit
  dsimp only
  rw [if_neg (by omega), if_neg (by omega), if_neg (by simp only [Decidable.not_not]; omega), hg, if_neg (by simp), if_neg (by simp [hv]), hb]
theorem one35_chk : pchk one35 = 0 := pr_chk (by decide) (by decide) (fun _ => rfl) o1_valid

theorem one35_ok : Enters 32 ∧ Spec Tryz.prog 32 #[] [] [] ⟨Nat, fun b => one35.v (some ⟨b, 0, none⟩) 2, fun _ => True, fun b => [Sl 3 zf (some ⟨b, 0, none⟩) 2 one35.gs], fun _ => []⟩ := by
  refine ⟨enters_of Tryz.func32 (by kernel_rfl) rfl, spec_of (vs := []) Tryz.func32 rfl Tryz.ntmps32 rfl fun G w hp => ?_⟩
  repeat' (first | refine l_run ?_ | refine l_nil ?_ | refine l_one ?_ | refine k_reg ?_ | refine l_ld ?_ | refine l_ldF ?_ | refine l_st ?_ | refine l_al (fun b => ?_) | refine l_bs (fun b => ?_) | refine k_condT ?_ | refine k_condF ?_ | refine k_brk ?_ | (refine l_split (fun hc => ?_) (fun hc => ?_) <;> (try simp at hc)) | (refine k_cond (fun hc => ?_) (fun hc => ?_) <;> (try simp at hc)))
  refine k_shut (r := Row 3 1 (some ⟨b, 0, none⟩) 2 2 [.int .i64 1, .int .i64 5]) (Lx := [Pt b (.cells #[.int .i64 1, .int .i64 5] 3)]) (fun h hh => by
    obtain ⟨h1, h2, _, s1, _, hx, _⟩ := hh
    exact .inr ⟨b, [], (0, 0), rfl, s1 _ _ hx, rfl, rfl, Nat.le_refl _, .inl rfl⟩) ?_
  refine k_frz (T := 3) (f := zf) one35.gs ?_ rfl rfl
  exact k_ret b rfl trivial
def cA : List Ch := [] ++ [⟨pnm o1, pencS one35, false⟩]
theorem begun_ok : Enters 11 ∧ Spec Tryz.prog 11 #[] [Usg] [] ⟨Nat × Nat × List (Nm × Ch), fun q => .tuple #[.pointer (some ⟨q.1, 0, none⟩), .bool true], fun _ => True, fun q => [St (some ⟨q.2.1, 0, none⟩) []], fun q => [Vw q.1 (some ⟨q.2.1, 0, none⟩) q.2.2 cA]⟩ := by
  have n1 := fun v s o c => proStart_ok v (some ⟨s, 0, none⟩) [] [] [] o1 one35 o c one35_chk rfl (by decide) (by decide) (by decide) o1_valid (by simp [isE, o1, toList_data]) rfl (by simp) (vget_nil _) (by rw [vget_nil])
  rw [show ([] ++ [⟨pnm o1, pencS one35, false⟩] : List Ch) = cA from rfl] at n1
  generalize cA = cs1 at *
  generalize (vread [] (vread [] [] [] enm) [] (pnm o1)) = rs1 at *
  refine ⟨enters_of Tryz.func11 (by kernel_rfl) rfl, spec_of (vs := []) Tryz.func11 rfl Tryz.ntmps11 rfl fun G w hp => ?_⟩
  repeat' (first | refine l_run ?_ | refine l_nil ?_ | refine l_one ?_ | refine k_reg ?_ | refine l_ld ?_ | refine l_ldF ?_ | refine l_st ?_ | refine l_al (fun b => ?_) | refine l_bs (fun b => ?_) | refine k_condT ?_ | refine k_condF ?_ | refine k_brk ?_ | refine l_call (stateNew_ok) (fun _ _ => ?_) | refine l_call0 (stateNew_ok) (fun _ _ => ?_) | refine l_call (viewNew_ok _) (fun _ _ => ?_) | refine l_call0 (viewNew_ok _) (fun _ _ => ?_) | refine l_call (one35_ok) (fun _ _ => ?_) | refine l_call0 (one35_ok) (fun _ _ => ?_) | refine l_call (n1 _ _ _ _) (fun _ _ => ?_) | refine l_call0 (n1 _ _ _ _) (fun _ _ => ?_) | (refine l_split (fun hc => ?_) (fun hc => ?_) <;> (try simp at hc)) | (refine k_cond (fun hc => ?_) (fun hc => ?_) <;> (try simp at hc)))
  rename_i s _ v _ _ _ _ _
  exact k_ret (v, s, rs1) rfl trivial
theorem fork2_ok {b : Nat} {ps : Option Addr} {es : Al} {rs : List (Nm × Ch)} {cs cs' : List Ch} {who s : ByteArray} (h : Enters 67 ∧ Spec Tryz.prog 67 #[.pointer (some ⟨b, 0, none⟩), .string who, .bool false] [St ps es, Usg, P10] [Vw b ps rs cs] ⟨List (Nm × Ch), fun _ => .tuple #[.string s, .int .i64 0], fun _ => True, fun _ => [], fun rs' => [Vw b ps rs' cs']⟩) :
    Enters 17 ∧ Spec Tryz.prog 17 #[.pointer (some ⟨b, 0, none⟩), .string who] [St ps es, Usg, P10] [Vw b ps rs cs] ⟨List (Nm × Ch), fun _ => .tuple #[.string s, .int .i64 0], fun _ => True, fun _ => [], fun rs' => [Vw b ps rs' cs']⟩ := by
  refine ⟨enters_of Tryz.func17 (by kernel_rfl) rfl, spec_of (vs := [_, _]) Tryz.func17 rfl Tryz.ntmps17 rfl fun G w hp => ?_⟩
  repeat' (first | refine l_run ?_ | refine l_nil ?_ | refine l_one ?_ | refine k_reg ?_ | refine l_ld ?_ | refine l_ldF ?_ | refine l_st ?_ | refine l_al (fun b => ?_) | refine l_bs (fun b => ?_) | refine k_condT ?_ | refine k_condF ?_ | refine k_brk ?_ | refine l_call (h) (fun _ _ => ?_) | refine l_call0 (h) (fun _ _ => ?_) | (refine l_split (fun hc => ?_) (fun hc => ?_) <;> (try simp at hc)) | (refine k_cond (fun hc => ?_) (fun hc => ?_) <;> (try simp at hc)))
  rename_i x _
  exact k_ret x rfl trivial
section
variable {es : Al} {cs : List Ch} {w ch : ByteArray} {c : Ct} {p : Pr}
theorem vF_p (hv : lvalid ch.data.toList = true) (x : ByteArray) : vget es (frkC cs w ch c p) (pnm x) = if x = ch then (pencS (kidP p ch), true) else vget es cs (pnm x) := by
  unfold frkC
  by_cases h : x = ch
  · subst h
    rw [if_pos rfl, vg_eq rfl (chk_pnm hv)]; rfl
  · rw [if_neg h, vg_ne (fun e => h (by simpa [pnm] using e.symm)), vg_ne (by simp [pnm, cnm])]
theorem vF_c (hv : lvalid w.data.toList = true) : vget es (frkC cs w ch c p) (cnm w) = (cvs { c with c := c.c + 1 }, true) := by
  unfold frkC
  rw [vg_ne (by simp [pnm, cnm]), vg_eq rfl (chk_cnm hv)]; rfl
theorem vF_o (n : Nm) (h1 : n.kind ≠ 1) (h5 : n.kind ≠ 5) : vget es (frkC cs w ch c p) n = vget es cs n := by
  unfold frkC
  rw [vg_ne (fun e => h1 (by rw [← e]; rfl)), vg_ne (fun e => h5 (by rw [← e]; rfl))]
end
def cB : List Ch := frkC cA o1 c11 ⟨0, 0, 0⟩ one35
def cC : List Ch := frkC cB o1 c12 ⟨0, 0, 1⟩ one35
def q4 : Pr := { kidP one35 c11 with st := 2, cd := 9 }
def q5 : Pr := { q4 with st := 3 }
def cD : List Ch := cC ++ [⟨pnm c11, pencS q4, false⟩]
def cE : List Ch := cD ++ [⟨pnm c11, pencS q5, false⟩]
theorem one_at {cs : List Ch} (h1 : vget [] cs (pnm o1) = (pencS one35, true)) (h2 : vget [] cs enm = (⟨#[]⟩, false)) : PrAt [] cs o1 one35 := ⟨o1_valid, by decide, h1, one35_chk, by decide, by decide, rfl, h2⟩
theorem kid_at {cs : List Ch} {q : Pr} (hc : pchk q = 0) (hs : q.sp = c11) (hd : q.dr = ⟨⟨#[]⟩, 0⟩) (he : q.ep = 0) (h1 : vget [] cs (pnm c11) = (pencS q, true)) (h2 : vget [] cs enm = (⟨#[]⟩, false)) : PrAt [] cs c11 q := ⟨c11_valid, by decide, h1, hc, by rw [hs]; decide, by rw [hd]; decide, he, h2⟩
theorem made_at {cs : List Ch} {z : Int} (hz : 0 ≤ z ∧ z ≤ 1000) (h : vget [] cs (cnm o1) = (cvs ⟨0, 0, z⟩, true)) : madeE [] cs o1 = (⟨0, 0, z⟩, 0) ∧ (vget [] cs (cnm o1)).1.size ≤ 1099511627776 := by
  have hc : CtOK ⟨0, 0, z⟩ := ⟨Int.le_refl 0, by show (0 : Int) ≤ 1048576; decide, Int.le_refl 0, by show (0 : Int) ≤ 1048576; decide, hz.1, by show z ≤ 1048576; omega⟩
  have := cvs_size hc
  rw [madeE, if_pos o1_valid, h]
  refine ⟨?_, by dsimp only; omega⟩
  simp only [if_true, enc_cdec hc]
  rfl
theorem vA_p (x : ByteArray) : vget [] cA (pnm x) = if x = o1 then (pencS one35, true) else (⟨#[]⟩, false) := by
  unfold cA
  by_cases h : x = o1
  · subst h
    rw [if_pos rfl, vg_eq rfl (chk_pnm o1_valid)]; rfl
  · rw [if_neg h, vg_ne (fun e => h (by simpa [pnm] using e.symm)), vget_nil]
theorem vA_o (n : Nm) (h1 : n.kind ≠ 1) : vget [] cA n = (⟨#[]⟩, false) := by
  unfold cA
  rw [vg_ne (fun e => h1 (by rw [← e]; rfl)), vget_nil]
theorem d1 : c11 ≠ o1 := by decide
theorem d2 : c12 ≠ o1 := by decide
theorem d3 : c11 ≠ c12 := by decide
theorem q4_chk : pchk q4 = 0 := pr_chk (by decide) (by decide) (fun h => by cases h) c11_valid
theorem q5_chk : pchk q5 = 0 := pr_chk (by decide) (by decide) (fun h => by cases h) c11_valid
theorem k11_chk : pchk (kidP one35 c11) = 0 := pr_chk (by decide) (by decide) (fun _ => rfl) c11_valid

set_option maxHeartbeats 4000000 in
theorem known35_ok : Enters 12 ∧ Spec Tryz.prog 12 #[] [Usg, P10] [] (RetV (.bool true)) := by
  have hne : isE o1 = false := by simp [isE, o1, toList_data]
  have i1 : (Lib.itoa 1).length ≤ 100 := by rw [itoa1]; decide
  have i2 : (Lib.itoa 2).length ≤ 100 := by rw [itoa2]; decide
  -- the first child
  have a1 : PrAt [] cA o1 one35 := one_at (by rw [vA_p, if_pos rfl]) (vA_o _ (by decide))
  have a2 : madeE [] cA o1 = (⟨0, 0, 0⟩, 0) := by rw [madeE, if_pos o1_valid, vA_o _ (by decide)]; rfl
  have f1 := fun v s rs => fork2_ok (fork_ok v (some ⟨s, 0, none⟩) [] rs cA o1 one35 a1 rfl rfl ⟨0, 0, 0⟩ a2 (by rw [vA_o _ (by decide)]; exact Nat.zero_le _) ⟨by decide, by decide, by decide, by decide, by decide, by decide⟩ (by decide) o1_lords hne i1 (by show lvalid (chN o1 1).data.toList = true; rw [chN1]; exact c11_valid) (by show (chN o1 1).size ≤ _; rw [chN1]; decide)
    (by show (vget [] cA (pnm (chN o1 1))).2 = false; rw [chN1, vA_p, if_neg d1]) (by rw [vA_o _ (by decide)]) (fun i => by rw [vA_o _ (by simp [gnm])]) (by decide))
  rw [show chN o1 ((Ct.mk 0 0 0).c + 1) = c11 from chN1, show frkC cA o1 c11 ⟨0, 0, 0⟩ one35 = cB from rfl] at f1
  -- the second child
  have b1 : PrAt [] cB o1 one35 := one_at (by unfold cB; rw [vF_p c11_valid, if_neg (fun e => d1 e.symm), vA_p, if_pos rfl]) (by unfold cB; rw [vF_o _ (by decide) (by decide), vA_o _ (by decide)])
  obtain ⟨b2, b3⟩ := made_at (cs := cB) (z := 1) (by decide) (by unfold cB; rw [vF_c o1_valid]; rfl)
  have f2 := fun v s rs => fork2_ok (fork_ok v (some ⟨s, 0, none⟩) [] rs cB o1 one35 b1 rfl rfl ⟨0, 0, 1⟩ b2 b3 ⟨by decide, by decide, by decide, by decide, by decide, by decide⟩ (by decide) o1_lords hne i2 (by show lvalid (chN o1 2).data.toList = true; rw [chN2]; exact c12_valid) (by show (chN o1 2).size ≤ _; rw [chN2]; decide)
    (by show (vget [] cB (pnm (chN o1 2))).2 = false; unfold cB; rw [chN2, vF_p c11_valid, if_neg (fun e => d3 e.symm), vA_p, if_neg d2]) (by unfold cB; rw [vF_o _ (by decide) (by decide), vA_o _ (by decide)]) (fun i => by unfold cB; rw [vF_o _ (by simp [gnm]) (by simp [gnm]), vA_o _ (by simp [gnm])]) (by decide))
  rw [show chN o1 ((Ct.mk 0 0 1).c + 1) = c12 from chN2, show frkC cB o1 c12 ⟨0, 0, 1⟩ one35 = cC from rfl] at f2
  -- what is there then
  have e1 : vget [] cC enm = (⟨#[]⟩, false) := by unfold cC cB; rw [vF_o _ (by decide) (by decide), vF_o _ (by decide) (by decide), vA_o _ (by decide)]
  have e2 : vget [] cC (pnm o1) = (pencS one35, true) := by unfold cC cB; rw [vF_p c12_valid, if_neg (fun e => d2 e.symm), vF_p c11_valid, if_neg (fun e => d1 e.symm), vA_p, if_pos rfl]
  have e3 : vget [] cC (pnm c11) = (pencS (kidP one35 c11), true) := by unfold cC cB; rw [vF_p c12_valid, if_neg d3, vF_p c11_valid, if_pos rfl]
  have e4 : vget [] cC (cnm o1) = (cvs ⟨0, 0, 2⟩, true) := by unfold cC; rw [vF_c o1_valid]; rfl
  have hpo : pnm c11 ≠ pnm o1 := fun e => d1 (by simpa [pnm] using e)
  have hpe : pnm c11 ≠ enm := by simp [pnm, enm]
  have hpc : pnm c11 ≠ cnm o1 := by simp [pnm, cnm]
  have g1 : vget [] cD enm = (⟨#[]⟩, false) := by unfold cD; rw [vg_ne hpe]; exact e1
  have g2 : vget [] cD (pnm o1) = (pencS one35, true) := by unfold cD; rw [vg_ne hpo]; exact e2
  have g3 : vget [] cD (pnm c11) = (pencS q4, true) := by unfold cD; rw [vg_eq rfl (chk_pnm c11_valid)]; rfl
  have g4 : vget [] cD (cnm o1) = (cvs ⟨0, 0, 2⟩, true) := by unfold cD; rw [vg_ne hpc]; exact e4
  have h1 : vget [] cE enm = (⟨#[]⟩, false) := by unfold cE; rw [vg_ne hpe]; exact g1
  have h2 : vget [] cE (pnm o1) = (pencS one35, true) := by unfold cE; rw [vg_ne hpo]; exact g2
  have h3 : vget [] cE (pnm c11) = (pencS q5, true) := by unfold cE; rw [vg_eq rfl (chk_pnm c11_valid)]; rfl
  have h4 : vget [] cE (cnm o1) = (cvs ⟨0, 0, 2⟩, true) := by unfold cE; rw [vg_ne hpc]; exact g4
  obtain ⟨m1, m2⟩ := made_at (z := 2) (by decide) e4
  obtain ⟨m3, m4⟩ := made_at (z := 2) (by decide) g4
  obtain ⟨m5, m6⟩ := made_at (z := 2) (by decide) h4
  have k1 : PrAt [] cC c11 (kidP one35 c11) := kid_at k11_chk rfl rfl rfl e3 e1
  have k2 : PrAt [] cD c11 q4 := kid_at q4_chk rfl rfl rfl g3 g1
  have k3 : PrAt [] cE c11 q5 := kid_at q5_chk rfl rfl rfl h3 h1
  have w1 := fun v s rs => proWait_ok v (some ⟨s, 0, none⟩) [] rs cC o1 one35 (one_at e2 e1) ⟨0, 0, 2⟩ m1 m2 1 (by decide) (by decide) o1_lords hne i1 (kidP one35 c11) (by rw [chN1]; exact k1) (by decide) (fun h => by cases h)
  have x1 := fun v s rs => proExit_ok v (some ⟨s, 0, none⟩) [] rs cC c11 (kidP one35 c11) k1 rfl 9 (by decide) q4_chk (by decide)
  have w2 := fun v s rs => proWait_ok v (some ⟨s, 0, none⟩) [] rs cD o1 one35 (one_at g2 g1) ⟨0, 0, 2⟩ m3 m4 1 (by decide) (by decide) o1_lords hne i1 q4 (by rw [chN1]; exact k2) (by decide) (fun _ => q5_chk)
  have w3 := fun v s rs => proWait_ok v (some ⟨s, 0, none⟩) [] rs cE o1 one35 (one_at h2 h1) ⟨0, 0, 2⟩ m5 m6 1 (by decide) (by decide) o1_lords hne i1 q5 (by rw [chN1]; exact k3) (by decide) (fun h => by cases h)
  rw [show (kidP one35 c11).st = 1 from rfl] at w1
  rw [show q4.st = 2 from rfl, show q4.cd = 9 from rfl, chN1] at w2
  rw [show q5.st = 3 from rfl] at w3
  simp only [show ¬ (1 : Int) = 2 by decide, if_false, if_true] at w1
  simp only [show ¬ (2 : Int) = 1 by decide, show ¬ (2 : Int) = 3 by decide, if_false, if_true] at w2
  simp only [show ¬ (3 : Int) = 2 by decide, show ¬ (3 : Int) = 1 by decide, if_false, if_true] at w3
  rw [show (cC ++ [⟨pnm c11, pencS { kidP one35 c11 with st := 2, cd := 9 }, false⟩] : List Ch) = cD from rfl] at x1
  clear a1 a2 b1 b2 b3 e1 e2 e3 e4 g1 g2 g3 g4 h1 h2 h3 h4 m1 m2 m3 m4 m5 m6 k1 k2 k3
  have n0 := begun_ok
  generalize cC = sC at *
  generalize cB = sB at *
  generalize cA = sA at *
  have y1 : (c11.toList == (⟨#[49, 46, 49]⟩ : ByteArray).toList) = true := by simp [c11]
  have y2 : (c12.toList == (⟨#[49, 46, 50]⟩ : ByteArray).toList) = true := by simp [c12]
  refine ⟨enters_of Tryz.func12 (by kernel_rfl) rfl, spec_of (vs := []) Tryz.func12 rfl Tryz.ntmps12 rfl fun G w hp => ?_⟩
  repeat' (first | refine l_run ?_ | refine l_nil ?_ | refine l_one ?_ | refine k_reg ?_ | refine l_ld ?_ | refine l_ldF ?_ | refine l_st ?_ | refine l_al (fun b => ?_) | refine l_bs (fun b => ?_) | refine k_condT ?_ | refine k_condF ?_ | refine k_brk ?_ | refine l_call (n0) (fun _ _ => ?_) | refine l_call0 (n0) (fun _ _ => ?_) | refine l_call (f1 _ _ _) (fun _ _ => ?_) | refine l_call0 (f1 _ _ _) (fun _ _ => ?_) | refine l_call (f2 _ _ _) (fun _ _ => ?_) | refine l_call0 (f2 _ _ _) (fun _ _ => ?_) | refine l_call (w1 _ _ _) (fun _ _ => ?_) | refine l_call0 (w1 _ _ _) (fun _ _ => ?_) | refine l_call (x1 _ _ _) (fun _ _ => ?_) | refine l_call0 (x1 _ _ _) (fun _ _ => ?_) | refine l_call (w2 _ _ _) (fun _ _ => ?_) | refine l_call0 (w2 _ _ _) (fun _ _ => ?_) | refine l_call (w3 _ _ _) (fun _ _ => ?_) | refine l_call0 (w3 _ _ _) (fun _ _ => ?_) | rw [y1] | rw [y2] | (refine l_split (fun hc => ?_) (fun hc => ?_) <;> (try simp at hc) <;> (try omega)) | (refine k_cond (fun hc => ?_) (fun hc => ?_) <;> (try simp at hc) <;> (try omega)))
  all_goals (refine k_ret () ?_ trivial; simp [RetV, resV])
end Go.Proofs.YtgaipgbgppdfeaaGreatDoor
