/-
  The contract of the statements' example, known.
  Conditions: those that each theorem states.
-/
import Derived.Test.YtijaglinajfplaaGreatDoorLaw
import Derived.Test.YtijaglinajfplaaGreatDoorRound
set_option maxRecDepth 10000
namespace Go.Proofs.YtijaglinajfplaaGreatDoor
open Go.RowKit

def kx : It := ⟨1, 0, 0, 0, ⟨#[120]⟩⟩
def ky : It := ⟨1, 0, 0, 0, ⟨#[121]⟩⟩
def kc : Cq := ⟨3, nm1, 0, 0, ito ky, 0, ito kx, 0⟩

theorem all_one (x : It) : allE (stF [] [x]) = [⟨who3 (x.who.toNat % 3), (x.nu.toNat % 4 : Nat), (x.tk.toNat % 8 : Nat), ito x⟩] := by
  have h0 : cmpO (itn x) (itn x) = 0 := ord_obj.self _
  have h1 : stF [] [x] = [(itn x, oencS (ito x))] := rfl
  have h2 : kn [(itn x, oencS (ito x))] 18 = [itn x] := by simp [kn, itn]
  have h3 : getO (itn x) [(itn x, oencS (ito x))] = some (oencS (ito x)) := by simp [getO, h0]
  rw [allE, h1, h2]
  unfold allN
  simp only [List.filterMap_cons, List.filterMap_nil, entO, h3, Option.getD_some, odec_enc (ito_chk x), Option.map_some]
  rfl

theorem known_cons : consE (allE (stF [] ([kx].take 20))) (ldF ([ky].take 20)) = [kc] := by
  have h1 : allE (stF [] ([kx].take 20)) = [⟨nm1, 0, 0, ito kx⟩] := all_one kx
  have h2 : ldF ([ky].take 20) = [⟨⟨nm1, 0, 0, ito ky⟩, 9, 0⟩] := rfl
  have h3 : ito ky ≠ ito kx := fun h => by
    have := congrArg Ou.tx h
    exact absurd this (by decide)
  rw [h1, h2]
  simp [consE, cons1, cons2, con1, knw, h3, En.sd, kc]

set_option maxHeartbeats 1000000 in
theorem known_ok : Enters 15 ∧ Spec Tryz.prog 15 #[] [Usg] [] (RetV (.bool true)) := by
  have n1 := fun o1 o2 c1 c2 => build_ok o1 o2 c1 c2 [kx] [ky] (by decide) (by decide) (by decide) (by decide)
  have n2 := fun b bs => consCompare_ok b bs (stF [] ([kx].take 20)) (ldF ([ky].take 20)) (by decide) (by rw [show allE (stF [] ([kx].take 20)) = _ from all_one kx]; decide)
  simp only [known_cons] at n2
  have hy : (kc.old.tx.toList == ByteArray.toList ⟨#[121]⟩) = true := by rw [toList_data, toList_data]; decide
  have hxx : (kc.new.tx.toList == ByteArray.toList ⟨#[120]⟩) = true := by rw [toList_data, toList_data]; decide
  refine ⟨enters_of Tryz.func15 (by kernel_rfl) rfl, spec_of (vs := []) Tryz.func15 rfl Tryz.ntmps15 rfl fun G w hp => ?_⟩
  repeat' (first | refine l_run ?_ | refine l_nil ?_ | refine l_one ?_ | refine k_reg ?_ | refine l_ld ?_ | refine l_ldF ?_ | refine l_st ?_ | refine l_al (fun b => ?_) | refine l_bs (fun b => ?_) | refine k_condT ?_ | refine k_condF ?_ | refine k_brk ?_ | refine l_split (fun hc => ?_) (fun hc => ?_) | refine k_cond (fun hc => ?_) (fun hc => ?_))
  refine l_shut (Lx := [Pt b (.cells #[.int .u8 1, .int .u8 0, .int .u8 0, .int .u8 0, .string ⟨#[121]⟩] 132)]) (r := Row 132 5 (some ⟨b, 0, none⟩) 1 1 (itf ky)) (fun h hh => row_pt rfl h hh) ?_
  refine l_frz (T := 132) (sz := 5) (f := itf) (o := some ⟨b, 0, none⟩) (cap := 1) [ky] ?_ rfl rfl
  rename_i b1
  refine l_shut (Lx := [Pt b1 (.cells #[.int .u8 1, .int .u8 0, .int .u8 0, .int .u8 0, .string ⟨#[120]⟩] 132)]) (r := Row 132 5 (some ⟨b1, 0, none⟩) 1 1 (itf kx)) (fun h hh => row_pt rfl h hh) ?_
  refine l_frz (T := 132) (sz := 5) (f := itf) (o := some ⟨b1, 0, none⟩) (cap := 1) [kx] ?_ rfl rfl
  repeat' (first | refine l_run ?_ | refine l_nil ?_ | refine l_one ?_ | refine k_reg ?_ | refine l_ld ?_ | refine l_ldF ?_ | refine l_st ?_ | refine l_al (fun b => ?_) | refine l_bs (fun b => ?_) | refine k_condT ?_ | refine k_condF ?_ | refine k_brk ?_ | refine l_call (n1 _ _ _ _) (fun _ _ => ?_) | refine l_call0 (n1 _ _ _ _) (fun _ _ => ?_) | refine l_call (n2 _ _) (fun _ _ => ?_) | refine l_call0 (n2 _ _) (fun _ _ => ?_) | refine l_ixe (es := [kc]) 0 kc rfl (fun b off => ?_) | refine l_ldC ?_ | rw [hy] | rw [hxx] | refine l_split (fun hc => ?_) (fun hc => ?_) | refine k_cond (fun hc => ?_) (fun hc => ?_))
  exact k_ret () rfl trivial
end Go.Proofs.YtijaglinajfplaaGreatDoor
