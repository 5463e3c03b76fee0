/-
  The counts of a process once more: SetMade where it fails, what DecodeCounts accepts, the statement's own counts.
  Conditions: those that each theorem states.
-/
import Derived.Test.YtgciahedpaencaaGreatDoorMJ
set_option maxRecDepth 10000
namespace Go.Proofs.YtgciahedpaencaaGreatDoor
open Go.RowKit

theorem setMadeName_ok (b : Nat) (ps : Option Addr) (rs : List (Nm × Ch)) (cs : List Ch) (who : ByteArray) (c : Ct) (hw : who.size ≤ 1099511627770) (hv : lvalid who.data.toList = false) :
    Enters 15 ∧ Spec Tryz.prog 15 #[.pointer (some ⟨b, 0, none⟩), .string who, c.v] [] [Vw b ps rs cs] ⟨Unit, fun _ => .int .i64 12, fun _ => True, fun _ => [], fun _ => [Vw b ps rs cs]⟩ := by
  have n1 := valid_ok who (by omega)
  rw [hv] at n1
  refine ⟨enters_of Tryz.func15 (by kernel_rfl) rfl, spec_of (vs := [_, _, _]) Tryz.func15 rfl Tryz.ntmps15 rfl fun G w hp => ?_⟩
  repeat' (first | refine l_run ?_ | refine l_nil ?_ | refine l_one ?_ | refine k_reg ?_ | refine l_ld ?_ | refine l_ldF ?_ | refine l_st ?_ | refine l_al (fun b => ?_) | refine l_bs (fun b => ?_) | refine k_condT ?_ | refine k_condF ?_ | refine k_brk ?_ | refine l_call (n1) (fun _ _ => ?_) | refine l_call0 (n1) (fun _ _ => ?_) | (refine l_split (fun hc => ?_) (fun hc => ?_) <;> (try simp at hc)) | (refine k_cond (fun hc => ?_) (fun hc => ?_) <;> (try simp at hc)))
  exact k_ret () rfl trivial
theorem cchk_two {c : Ct} (h : cchk c ≠ 0) : cchk c = 2 := by
  unfold cchk at h ⊢
  split at h
  · exact absurd rfl h
  · rename_i hn; rw [if_neg hn]
theorem cchk_fit {c : Ct} (h : cchk c = 0) : CtOK c := by
  unfold cchk at h
  split at h
  · rename_i hn
    obtain ⟨h1, h2, h3, h4, h5, h6⟩ := hn
    exact ⟨h1, h2, h3, h4, h5, h6⟩
  · cases h
theorem setMadeRange_ok (b : Nat) (ps : Option Addr) (rs : List (Nm × Ch)) (cs : List Ch) (who : ByteArray) (c : Ct) (hw : who.size ≤ 1099511627770) (hv : lvalid who.data.toList = true) (h : cchk c ≠ 0) (hz : ∀ z ∈ [c.b, c.o, c.c], z < 9223372036854775808) :
    Enters 15 ∧ Spec Tryz.prog 15 #[.pointer (some ⟨b, 0, none⟩), .string who, c.v] [] [Vw b ps rs cs] ⟨Unit, fun _ => .int .i64 2, fun _ => True, fun _ => [], fun _ => [Vw b ps rs cs]⟩ := by
  have n1 := valid_ok who (by omega)
  rw [hv] at n1
  have n2 := cntEncodeBad_ok c h hz
  rw [cchk_two h] at n2
  refine ⟨enters_of Tryz.func15 (by kernel_rfl) rfl, spec_of (vs := [_, _, _]) Tryz.func15 rfl Tryz.ntmps15 rfl fun G w hp => ?_⟩
  repeat' (first | refine l_run ?_ | refine l_nil ?_ | refine l_one ?_ | refine k_reg ?_ | refine l_ld ?_ | refine l_ldF ?_ | refine l_st ?_ | refine l_al (fun b => ?_) | refine l_bs (fun b => ?_) | refine k_condT ?_ | refine k_condF ?_ | refine k_brk ?_ | refine l_call (n1) (fun _ _ => ?_) | refine l_call0 (n1) (fun _ _ => ?_) | refine l_call (n2) (fun _ _ => ?_) | refine l_call0 (n2) (fun _ _ => ?_) | (refine l_split (fun hc => ?_) (fun hc => ?_) <;> (try simp at hc)) | (refine k_cond (fun hc => ?_) (fun hc => ?_) <;> (try simp at hc)))
  exact k_ret () rfl trivial

theorem cdec_inv {s : ByteArray} {c : Ct} (h : cdec s = some c) : CtOK c ∧ s.data.toList = cenc c := by
  refine ⟨cdec_ok h, ?_⟩
  unfold cdec at h
  dsimp only at h
  split at h
  · rename_i hc
    obtain ⟨h1, h2⟩ := hc
    obtain rfl := Option.some.inj h
    unfold cread at h1 h2 ⊢
    dsimp only at h1 h2 ⊢
    obtain ⟨b1, b2, b3, b4, b5⟩ := rnum_inv h1
    obtain ⟨c1, c2, c3, c4, c5⟩ := rnum_inv b1
    obtain ⟨d1, d2, d3, d4, d5⟩ := rnum_inv c1
    rw [h2] at b5
    refine Eq.trans (show s.data.toList = _ from d5) ?_
    rw [c5, b5]
    simp [cenc]
  · cases h
theorem cdec_canon {s : ByteArray} {c : Ct} (h : cdec s = some c) : cvs c = s := by
  obtain ⟨h1, h2⟩ := cdec_inv h
  rw [cvs, ← h2]

set_option maxHeartbeats 1000000 in
theorem counts27_ok (c : Ct) (h : CtOK c) : Enters 19 ∧ Spec Tryz.prog 19 #[c.v] [] [] (RetV (.string (cvs c))) := by
  obtain ⟨h1, h2, h3, h4, h5, h6⟩ := h
  have hl := cenc_len (c := c) ⟨h1, h2, h3, h4, h5, h6⟩
  have e1 : c.b = ((c.b.toNat : Nat) : Int) := by omega
  have e2 : c.o = ((c.o.toNat : Nat) : Int) := by omega
  have e3 : c.c = ((c.c.toNat : Nat) : Int) := by omega
  have hS : cenc c = [] ++ venc c.b.toNat ++ venc c.o.toNat ++ venc c.c.toNat := by simp [cenc]
  have hl2 := hl
  rw [hS] at hl2
  simp only [List.length_append] at hl2
  have n1 := fun bw => wtrNumber_ok bw [] c.b.toNat (by omega) (by simp)
  have n2 := fun bw => wtrNumber_ok bw ([] ++ venc c.b.toNat) c.o.toNat (by omega) (by simp only [List.length_append]; omega)
  have n3 := fun bw => wtrNumber_ok bw ([] ++ venc c.b.toNat ++ venc c.o.toNat) c.c.toNat (by omega) (by simp only [List.length_append]; omega)
  simp only [← e1] at n1
  simp only [← e2] at n2
  simp only [← e3] at n3
  have n8 := fun bw => wtrBytes_ok bw ([] ++ venc c.b.toNat ++ venc c.o.toNat ++ venc c.c.toNat) (by rw [← hS]; omega)
  rw [cvs, hS]
  generalize hB : ([] ++ venc c.b.toNat ++ venc c.o.toNat ++ venc c.c.toNat : List UInt8) = B at *
  refine ⟨enters_of Tryz.func19 (by kernel_rfl) rfl, spec_of (vs := [_]) Tryz.func19 rfl Tryz.ntmps19 rfl fun G w hp => ?_⟩
  repeat' (first | refine l_run ?_ | refine l_nil ?_ | refine l_one ?_ | refine k_reg ?_ | refine l_ld ?_ | refine l_ldF ?_ | refine l_st ?_ | refine l_al (fun b => ?_) | refine l_bs (fun b => ?_) | refine k_condT ?_ | refine k_condF ?_ | refine k_brk ?_ | refine l_call (newWriter_ok) (fun _ _ => ?_) | refine l_call0 (newWriter_ok) (fun _ _ => ?_) | refine l_call (n1 _) (fun _ _ => ?_) | refine l_call0 (n1 _) (fun _ _ => ?_) | refine l_call (n2 _) (fun _ _ => ?_) | refine l_call0 (n2 _) (fun _ _ => ?_) | refine l_call (n3 _) (fun _ _ => ?_) | refine l_call0 (n3 _) (fun _ _ => ?_) | refine l_call (n8 _) (fun _ _ => ?_) | refine l_call0 (n8 _) (fun _ _ => ?_) | (refine l_split (fun hc => ?_) (fun hc => ?_) <;> (try simp at hc)) | (refine k_cond (fun hc => ?_) (fun hc => ?_) <;> (try simp at hc)))
  refine l_frz (sz := 1) (f := bf) B ?_ (byt_flat _) rfl
  refine l_b2s ?_
  repeat' (first | refine l_run ?_ | refine l_nil ?_ | refine l_one ?_ | refine k_reg ?_ | refine l_ld ?_ | refine l_ldF ?_ | refine l_st ?_ | refine l_al (fun b => ?_) | refine l_bs (fun b => ?_) | refine k_condT ?_ | refine k_condF ?_ | refine k_brk ?_ | (refine l_split (fun hc => ?_) (fun hc => ?_) <;> (try simp at hc)) | (refine k_cond (fun hc => ?_) (fun hc => ?_) <;> (try simp at hc)))
  exact k_ret () rfl trivial
end Go.Proofs.YtgciahedpaencaaGreatDoor
