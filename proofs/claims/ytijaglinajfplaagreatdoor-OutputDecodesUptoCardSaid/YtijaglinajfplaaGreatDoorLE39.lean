/-
  The laws OutputEncodes and OutputDecodes, walked.
  Conditions: those that each theorem states.
-/
import Derived.Test.YtijaglinajfplaaGreatDoorMI
import Derived.Test.YtijaglinajfplaaGreatDoorMG
set_option maxRecDepth 10000
namespace Go.Proofs.YtijaglinajfplaaGreatDoor
open Go.RowKit

theorem lencsS_size {ls : List Lf} (hl : ls.length ≤ 150) (hx : ∀ x ∈ ls, EncOK x) : (lencsS ls).size ≤ 1000000 := by
  have h1 := lencs_len ls hx
  have h2 := venc_len10 ls.length (by omega)
  show (lencs ls).toArray.size ≤ _
  rw [List.size_toArray, lencs, List.length_append]; omega

set_option maxHeartbeats 4000000 in
theorem lawOEncodes_ok (o1 : Option Addr) (c1 : Nat) (l : List Lf) (hl : l.length ≤ 1099511627776) :
    Enters 13 ∧ Spec Tryz.prog 13 #[.slice o1 l.length c1] [Sl 80 lff o1 c1 l, Usg] [] (RetV (.bool true)) := by
  have n1 := build39_ok o1 c1 l hl
  obtain ⟨h1, h2, h3⟩ := bldL_ok (l.take 30)
  have h4 : (l.take 30).length ≤ 30 := by simp; omega
  unfold B39P at n1
  generalize bldL (l.take 30) = ls at *
  have n2 := fun b => lgEncode_ok b ls (by omega) h2
  have n3 := decodeLedger_ok (lencsS ls) (lencsS_size (by omega) h2)
  rw [ldec_enc h1 (by omega) h2] at n3
  have n4 := fun o c => encoding_ok o c ls (by omega) h2
  have n5 := fun b c => lgEqual_ok b c ls ls (by omega) (by omega)
  simp only [decide_true] at n5
  have n6 := fun b => lgLen_ok b ls
  refine ⟨enters_of Tryz.func13 (by kernel_rfl) rfl, spec_of (vs := [_]) Tryz.func13 rfl Tryz.ntmps13 rfl fun G w hp => ?_⟩
  repeat' (first | refine k_frz (T := 80) (sz := 9) (f := lff) ls ?_ rfl rfl | refine k_lgz ?_ | refine l_run ?_ | refine l_nil ?_ | refine l_one ?_ | refine k_reg ?_ | refine l_ld ?_ | refine l_ldF ?_ | refine l_st ?_ | refine l_al (fun b => ?_) | refine l_bs (fun b => ?_) | refine k_condT ?_ | refine k_condF ?_ | refine k_brk ?_ | refine l_call (n1) (fun _ _ => ?_) | refine l_call0 (n1) (fun _ _ => ?_) | refine l_call (n2 _) (fun _ _ => ?_) | refine l_call0 (n2 _) (fun _ _ => ?_) | refine l_call (n3) (fun _ _ => ?_) | refine l_call0 (n3) (fun _ _ => ?_) | refine l_call (n4 _ _) (fun _ _ => ?_) | refine l_call0 (n4 _ _) (fun _ _ => ?_) | refine l_call (n5 _ _) (fun _ _ => ?_) | refine l_call0 (n5 _ _) (fun _ _ => ?_) | refine l_call (n6 _) (fun _ _ => ?_) | refine l_call0 (n6 _) (fun _ _ => ?_) | refine l_call (known39_ok) (fun _ _ => ?_) | refine l_call0 (known39_ok) (fun _ _ => ?_) | (refine l_split (fun hc => ?_) (fun hc => ?_) <;> (try simp at hc)) | (refine k_cond (fun hc => ?_) (fun hc => ?_) <;> (try simp at hc)))
  all_goals refine k_ret () ?_ trivial
  all_goals simp [RetV, resV]

theorem venc_pos (u : Nat) : 1 ≤ (venc u).length := by
  rw [venc]; split <;> simp
theorem lenc_bounds : ∀ l : List Lf, l.length ≤ (l.flatMap lenc).length ∧ ∀ x ∈ l, x.e.who.size ≤ (l.flatMap lenc).length
  | [] => ⟨by simp, by simp⟩
  | x :: l => by
    obtain ⟨h1, h2⟩ := lenc_bounds l
    have h3 := venc_pos x.e.who.size
    have s1 : x.e.who.data.toList.length = x.e.who.size := by simp
    have h4 : 1 + x.e.who.size ≤ (lenc x).length := by simp only [lenc, List.length_append]; omega
    refine ⟨by simp only [List.flatMap_cons, List.length_append, List.length_cons]; omega, fun y hy => ?_⟩
    simp only [List.flatMap_cons, List.length_append]
    rcases List.mem_cons.1 hy with rfl | hy
    · omega
    · have := h2 y hy; omega

structure D39 (ls : List Lf) where
  i : Nat
  o : Option Addr
  cap : Nat
  h1 : i ≤ ls.length

set_option maxHeartbeats 4000000 in
theorem lawODecodes_ok (s : ByteArray) : Enters 12 ∧ Spec Tryz.prog 12 #[.string s] [Usg] [] (RetV (.bool true)) := by
  have hsz := cutS_size s 400
  have n1 := decodeLedger_ok (cutS s 400) (by omega)
  cases hd : ldec (cutS s 400) with
  | none =>
    rw [hd] at n1
    refine ⟨enters_of Tryz.func12 (by kernel_rfl) rfl, spec_of (vs := [_]) Tryz.func12 rfl Tryz.ntmps12 rfl fun G w hp => ?_⟩
    repeat' (first | refine l_run ?_ | refine l_nil ?_ | refine l_one ?_ | refine k_reg ?_ | refine l_ld ?_ | refine l_ldF ?_ | refine l_st ?_ | refine l_al (fun b => ?_) | refine l_bs (fun b => ?_) | refine k_condT ?_ | refine k_condF ?_ | refine k_brk ?_ | refine l_call (n1) (fun _ _ => ?_) | refine l_call0 (n1) (fun _ _ => ?_) | refine l_call (known39_ok) (fun _ _ => ?_) | refine l_call0 (known39_ok) (fun _ _ => ?_) | refine l_cutS 400 ?_ | (refine l_split (fun hc => ?_) (fun hc => ?_) <;> (try simp at hc)) | (refine k_cond (fun hc => ?_) (fun hc => ?_) <;> (try simp at hc)))
    all_goals refine k_ret () ?_ trivial
    all_goals simp [RetV, resV]
  | some ls =>
    rw [hd] at n1
    obtain ⟨h1, h2, h3⟩ := ldec_inv hd
    have hS : lencsS ls = cutS s 400 := by rw [lencsS, ← h3]
    have hb : ls.length ≤ 400 ∧ ∀ x ∈ ls, x.e.who.size ≤ 400 := by
      have h5 : (lencs ls).length ≤ 400 := by
        rw [← h3]
        have : (cutS s 400).data.toList.length = (cutS s 400).size := by simp
        omega
      obtain ⟨g1, g2⟩ := lenc_bounds ls
      rw [lencs, List.length_append] at h5
      exact ⟨by omega, fun x hx => by have := g2 x hx; omega⟩
    have hE : ∀ x ∈ ls, EncOK x := fun x hx => ⟨lok_chk h1 x hx, Nat.le_trans (hb.2 x hx) (by omega)⟩
    have n2 := fun b => lgEncode_ok b ls (by omega) hE
    have n3 := fun o c => encoding_ok o c ls (by omega) hE
    rw [hS] at n2 n3
    have n4 := fun b => lgLen_ok b ls
    refine ⟨enters_of Tryz.func12 (by kernel_rfl) rfl, spec_of (vs := [_]) Tryz.func12 rfl Tryz.ntmps12 rfl fun G w hp => ?_⟩
    repeat' (first | refine k_lgz ?_ | refine l_run ?_ | refine l_nil ?_ | refine l_one ?_ | refine k_reg ?_ | refine l_ld ?_ | refine l_ldF ?_ | refine l_st ?_ | refine l_al (fun b => ?_) | refine l_bs (fun b => ?_) | refine k_condT ?_ | refine k_condF ?_ | refine k_brk ?_ | refine l_call (n1) (fun _ _ => ?_) | refine l_call0 (n1) (fun _ _ => ?_) | refine l_call (n2 _) (fun _ _ => ?_) | refine l_call0 (n2 _) (fun _ _ => ?_) | refine l_call (n3 _ _) (fun _ _ => ?_) | refine l_call0 (n3 _ _) (fun _ _ => ?_) | refine l_call (n4 _) (fun _ _ => ?_) | refine l_call0 (n4 _) (fun _ _ => ?_) | refine l_call (known39_ok) (fun _ _ => ?_) | refine l_call0 (known39_ok) (fun _ _ => ?_) | refine l_cutS 400 ?_ | (refine l_split (fun hc => ?_) (fun hc => ?_) <;> (try simp at hc)) | (refine k_cond (fun hc => ?_) (fun hc => ?_) <;> (try simp at hc)))
    rename_i bl _ _ _
    refine k_shut (Lx := []) (r := Row 80 9 none 0 0 []) (fun h _ => row_nil _ _ h) ?_
    refine k_lpx (X := D39 ls) (Y := Option Addr × Nat) (fun x => [(0, .string (cutS s 400)), (3, .pointer (some ⟨bl, 0, none⟩)), (5, .slice x.o (ls.take x.i).length x.cap), (6, .int .i64 (x.i : Int))]) (fun _ => [LgF bl ls]) (fun x => [Row 80 9 x.o (ls.take x.i).length x.cap ((ls.take x.i).flatMap lff)]) (fun x => ls.length - x.i)
      (fun q => [(0, .string (cutS s 400)), (3, .pointer (some ⟨bl, 0, none⟩)), (5, .slice q.1 ls.length q.2)]) (fun _ => [LgF bl ls]) (fun q => [Row 80 9 q.1 ls.length q.2 (ls.flatMap lff)]) ⟨0, none, 0, by omega⟩ ⟨rfl, rfl, rfl, rfl, trivial⟩ ?_ ?_
    · rintro ⟨o, cap⟩
      refine k_frz (T := 80) (sz := 9) (f := lff) ls ?_ rfl rfl
      repeat' (first | refine l_run ?_ | refine l_nil ?_ | refine l_one ?_ | refine k_reg ?_ | refine l_ld ?_ | refine l_ldF ?_ | refine l_st ?_ | refine l_al (fun b => ?_) | refine l_bs (fun b => ?_) | refine k_condT ?_ | refine k_condF ?_ | refine k_brk ?_ | refine l_call (n2 _) (fun _ _ => ?_) | refine l_call0 (n2 _) (fun _ _ => ?_) | refine l_call (n3 _ _) (fun _ _ => ?_) | refine l_call0 (n3 _ _) (fun _ _ => ?_) | (refine l_split (fun hc => ?_) (fun hc => ?_) <;> (try simp at hc)) | (refine k_cond (fun hc => ?_) (fun hc => ?_) <;> (try simp at hc)))
      all_goals refine k_ret () ?_ trivial
      all_goals simp [RetV, resV]
    · rintro hxx ⟨i, o, cap, hi⟩
      dsimp only
      by_cases hlt : i < ls.length
      · obtain ⟨x, hx⟩ : ∃ x, ls[i]? = some x := ⟨_, List.getElem?_eq_getElem hlt⟩
        have htk : ls.take (i + 1) = ls.take i ++ [x] := by rw [List.take_add_one, hx]; rfl
        have hlt2 : (ls.take i).length ≤ 400 := by simp; omega
        have m1 := lgGet_ok bl ls i x hx
        have m2 := mleave_ok o cap (ls.take i) x (Nat.le_trans (hb.2 x (List.mem_of_getElem? hx)) (by omega)) (by omega)
        rw [← mleave_leave (by omega), h1 i x hx] at m2
        have e1 : (ls.take (i + 1)).length = (ls.take i).length + 1 := by rw [htk]; simp
        repeat' (first | refine l_run ?_ | refine l_nil ?_ | refine l_one ?_ | refine k_reg ?_ | refine l_ld ?_ | refine l_ldF ?_ | refine l_st ?_ | refine l_al (fun b => ?_) | refine l_bs (fun b => ?_) | refine k_condT ?_ | refine k_condF ?_ | refine l_call (n4 _) (fun _ _ => ?_) | refine l_call0 (n4 _) (fun _ _ => ?_) | refine l_call (m1) (fun _ _ => ?_) | refine l_call0 (m1) (fun _ _ => ?_) | refine l_call (m2) (fun _ _ => ?_) | refine l_call0 (m2) (fun _ _ => ?_) | refine l_app1 (fun o' cap' => ?_) | (refine l_split (fun hc => ?_) (fun hc => ?_) <;> (try simp at hc) <;> (try omega)) | (refine k_cond (fun hc => ?_) (fun hc => ?_) <;> (try simp at hc) <;> (try omega)))
        rw [wrapi (z := (i : Int) + 1) (by omega) (by omega)]
        refine k_rowc (T := 80) (sz := 9) (o := o') (cap := cap') (m := (ls.take i).length + 1) (m' := (ls.take (i + 1)).length) ((ls.take i).flatMap lff ++ lff x) ((ls.take (i + 1)).flatMap lff) e1.symm (by rw [htk]; simp) ?_
        exact k_next ⟨i + 1, o', cap', by omega⟩ (by show ls.length - (i + 1) < ls.length - i; omega) ⟨rfl, rfl, by (show _ = some (Value.slice o' (ls.take (i + 1)).length cap')); rw [e1]; rfl, rfl, trivial⟩
      · obtain rfl : i = ls.length := by omega
        rw [List.take_length]
        repeat' (first | refine l_run ?_ | refine l_nil ?_ | refine l_one ?_ | refine k_reg ?_ | refine l_ld ?_ | refine l_ldF ?_ | refine l_st ?_ | refine l_al (fun b => ?_) | refine l_bs (fun b => ?_) | refine k_condT ?_ | refine k_condF ?_ | refine l_call (n4 _) (fun _ _ => ?_) | refine l_call0 (n4 _) (fun _ _ => ?_) | (refine l_split (fun hc => ?_) (fun hc => ?_) <;> (try simp at hc) <;> (try omega)) | (refine k_cond (fun hc => ?_) (fun hc => ?_) <;> (try simp at hc) <;> (try omega)))
        exact k_out hxx (o, cap) ⟨rfl, rfl, rfl, trivial⟩
end Go.Proofs.YtijaglinajfplaaGreatDoor
