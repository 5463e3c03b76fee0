/-
  Contracts of a process's memory: process.Store.
  Conditions: those that each theorem states.
-/
import Derived.Test.YtgaipgbgppdfeaaGreatDoorSpc7
set_option maxRecDepth 10000
namespace Go.Proofs.YtgaipgbgppdfeaaGreatDoor
open Go.RowKit

theorem chk_gnm {who : ByteArray} {i : Int} (h : lvalid who.data.toList = true) (hi : 0 ≤ i ∧ i ≤ 63) : nchk (gnm who i) = 0 := by
  have h2 : isE ⟨#[]⟩ = true := by simp [isE]
  rw [nchk, if_pos (by simp [gnm])]
  show uchk ⟨_, true, false, true, false, 63⟩ (gnm who i) = 0
  simp [uchk, gnm, h, h2, within, hi]
/-- A change of a page, as a view has it. -/
def pgC (sp : ByteArray) (x : Sc) : Ch := ⟨gnm sp (x.pg : Int), x.val, false⟩
theorem chLi_mem {M : Nat → Pg} {n : Nat} {x : Sc} (h : x ∈ chLi M n) : x.pg < n ∧ ∃ bs, M x.pg = .h bs true ∧ x.val = ⟨bs.toArray⟩ := by
  unfold chLi at h
  obtain ⟨i, hi, hx⟩ := List.mem_filterMap.1 h
  rw [List.mem_range] at hi
  unfold chO at hx
  split at hx
  · rename_i bs hm
    cases hx
    exact ⟨hi, bs, hm, rfl⟩
  · cases hx
set_option maxHeartbeats 4000000 in
theorem pstore_ok (s : Sr) (ps : Option Addr) (es : Al) (cs : List Ch) (who : ByteArray) (p o : Pr) (h : PrAt es cs who p) (ho : Own es cs who p o) (hv : lvalid p.sp.data.toList = true) (bk : Nat) (M : Nat → Pg) (q0 : (Nat → Bool) × (Nat → Nat) × List (Nm × Ch))
    (hall : ∀ i, i < 64 → isH (M i) = true → okP (M i)) (hch : ∀ i, i < 64 → (M i).chg = true → (i : Int) < o.pg) (hl : cs.length ≤ 900000) :
    Enters 16 ∧ Spec Tryz.prog 16 #[.pointer (some ⟨s.vb, 0, none⟩), .string who, .pointer (some ⟨bk, 0, none⟩)] [St ps es, Usg] (MmL s bk ps cs M q0)
    ⟨List (Nm × Ch), fun _ => .int .i64 0, fun _ => True, fun _ => [], fun r => [Vw s.vb ps r (cs ++ (chLi M 64).map (pgC p.sp))]⟩ := by
  obtain ⟨ak, bl, rs⟩ := q0
  have n1 := memoryOf_ok s.vb ps es rs cs who p o h ho
  have n2 := vwMark_ok s.vb ps (mmR es rs cs who p) cs
  have n3 := changes_ok bk s.fv M ak bl hall
  have hsp := h.s
  have hmem := fun x => chLi_mem (M := M) (n := 64) (x := x)
  have hpgl : ∀ x ∈ chLi M 64, (x.pg : Int) < o.pg := fun x hx => by
    obtain ⟨h1, bs, h2, _⟩ := hmem x hx
    exact hch _ h1 (by rw [h2]; rfl)
  have hvl : ∀ x ∈ chLi M 64, x.val.size = 64 := fun x hx => by
    obtain ⟨h1, bs, h2, h3⟩ := hmem x hx
    have := hall x.pg h1 (by rw [h2]; rfl)
    rw [h2] at this
    rw [h3]; show (List.toArray bs).size = 64; rw [List.size_toArray]; exact this
  have hp64 : ∀ x ∈ chLi M 64, x.pg < 64 := fun x hx => (hmem x hx).1
  have hlen := chLi_len M 64
  dsimp only [MmL]
  generalize spcL s.fv M ak bl = L0 at *
  generalize hL : chLi M 64 = L at *
  generalize mmR es rs cs who p = rs3 at *
  generalize s.vb = bv at *
  clear h ho hmem hall hch
  obtain ⟨a1, a2, a3, a4, a5, gs, a7, a8, ⟨a9, a9'⟩, a10⟩ := p
  obtain ⟨o1, o2, o3, o4, o5, os, o7, o8, ⟨o9, o9'⟩, o10⟩ := o
  simp only [Pr.v] at n1
  dsimp only at *
  refine ⟨enters_of Tryz.func16 (by kernel_rfl) rfl, spec_of (vs := [_, _, _]) Tryz.func16 rfl Tryz.ntmps16 rfl fun G w hp => ?_⟩
  repeat' (first | refine l_run ?_ | refine l_nil ?_ | refine l_one ?_ | refine k_reg ?_ | refine l_ld ?_ | refine l_ldF ?_ | refine l_st ?_ | refine l_al (fun b => ?_) | refine l_bs (fun b => ?_) | refine k_condT ?_ | refine k_condF ?_ | refine l_call (n1) (fun _ _ => ?_) | refine l_call0 (n1) (fun _ _ => ?_) | refine l_call (n2) (fun _ _ => ?_) | refine l_call0 (n2) (fun _ _ => ?_) | refine l_call (n3) (fun _ _ => ?_) | refine l_call0 (n3) (fun _ _ => ?_) | (refine l_split (fun hc => ?_) (fun hc => ?_) <;> (try simp at hc) <;> (try omega)) | (refine k_cond (fun hc => ?_) (fun hc => ?_) <;> (try simp at hc) <;> (try omega)))
  rename_i q _ b7 _ _ lst _
  obtain ⟨⟨qa, qc⟩, qa', qc'⟩ := q
  obtain ⟨lo, lc⟩ := lst
  dsimp only
  refine k_frz (T := 143) (f := scf) L ?_ rfl rfl
  refine k_lp (X := { i : Nat // i ≤ L.length }) (fun i => [(0, .pointer (some ⟨bv, 0, none⟩)), (7, .pointer (some ⟨b7, 0, none⟩)), (8, .pointer (some ⟨b, 0, none⟩)), (10, .int .i64 (cs.length : Int)), (33, .slice lo L.length lc), (34, .int .i64 (L.length : Int)), (35, .int .i64 (i.1 : Int))]) (fun _ => [Sl 143 scf lo lc L, Usg])
    (fun i => [Vw bv ps rs3 (cs ++ (L.take i.1).map (pgC a7)), Pt b7 (.cells #[.int .i64 a1, .int .i64 a2, .int .i64 a3, .int .i64 a4, .int .i64 a5, .slice qa gs.length qc, .string a7, .int .i64 a8, .string a9, .int .i64 a9', .int .i64 a10] 80), Pt b (.cells #[.int .i64 o1, .int .i64 o2, .int .i64 o3, .int .i64 o4, .int .i64 o5, .slice qa' os.length qc', .string o7, .int .i64 o8, .string o9, .int .i64 o9', .int .i64 o10] 80)]) (fun i => L.length - i.1)
    ⟨0, Nat.zero_le _⟩ ⟨rfl, rfl, rfl, rfl, rfl, rfl, rfl, trivial⟩ ?_ (hr := by rw [List.take_zero, List.map_nil, List.append_nil]; (repeat (first | exact Sels.nil | exact Sel.here | apply Sel.there | apply Sels.cons)))
  rintro ⟨i, hi⟩
  dsimp only
  by_cases hlt : i < L.length
  · obtain ⟨x, hx⟩ : ∃ x, L[i]? = some x := ⟨_, List.getElem?_eq_getElem hlt⟩
    have hxm := List.mem_of_getElem? hx
    have g1 := hpgl x hxm
    have g2 := hvl x hxm
    have g3 := hp64 x hxm
    have htk : (L.take (i + 1)).map (pgC a7) = (L.take i).map (pgC a7) ++ [pgC a7 x] := by rw [List.take_add_one, hx]; simp
    have hlen2 : (cs ++ (L.take i).map (pgC a7)).length ≤ 1000000 := by simp; omega
    have hcat : cs ++ (L.take (i + 1)).map (pgC a7) = (cs ++ (L.take i).map (pgC a7)) ++ [⟨gnm a7 (x.pg : Int), x.val, false⟩] := by rw [htk, List.append_assoc]; rfl
    generalize cs ++ (L.take i).map (pgC a7) = cs2 at *
    have m1 := ofPage_ok a7 (x.pg : Int)
    have m2 := vwSet_ok bv ps rs3 cs2 (gnm a7 (x.pg : Int)) x.val (by show a7.size ≤ _; omega) (Nat.zero_le _) hlen2
    have e2 : vset cs2 (gnm a7 (x.pg : Int)) x.val = (0, cs2 ++ [⟨gnm a7 (x.pg : Int), x.val, false⟩]) := by
      unfold vset
      rw [if_neg (by rw [chk_gnm hv (by omega)]; simp), if_neg (by omega)]
    rw [e2] at m2
    have wi : IntKind.i64.wrap ((i : Int) + 1) = ((i + 1 : Nat) : Int) := by rw [wrapi (by omega) (by omega)]; omega
    obtain ⟨xp, xv⟩ := x
    dsimp only at *
    repeat' (first | refine l_run ?_ | refine l_nil ?_ | refine l_one ?_ | refine k_reg ?_ | refine l_ld ?_ | refine l_ldF ?_ | refine l_st ?_ | refine l_al (fun b => ?_) | refine l_bs (fun b => ?_) | refine k_condT ?_ | refine k_condF ?_ | refine r_run ?_ | refine r_one ?_ | refine r_ld ?_ | refine r_ldF ?_ | refine r_ldN ?_ | refine r_al (fun b => ?_) | refine r_bs (fun b => ?_) | refine r_st ?_ | refine r_end ?_ | refine l_call (m1) (fun _ _ => ?_) | refine l_call0 (m1) (fun _ _ => ?_) | refine r_call (m1) (fun _ _ => ?_) | refine l_call (m2) (fun _ _ => ?_) | refine l_call0 (m2) (fun _ _ => ?_) | refine r_call (m2) (fun _ _ => ?_) | refine l_ixe (es := L) (f := scf) i ⟨xp, xv⟩ hx (fun b off => ?_) | refine l_ldC ?_ | rw [wi] | (refine l_split (fun hc => ?_) (fun hc => ?_) <;> (try simp at hc) <;> (try omega)) | (refine r_split (fun hc => ?_) (fun hc => ?_) <;> (try simp at hc) <;> (try omega)) | refine k_draw 11 [Vw _ _ _ _] [(0, 0), (1, 0), (2, 0), (3, 0), (4, 0), (6, 0), (7, 0), (5, 4), (8, 4), (9, 0)] [] ?_ | (refine k_cond (fun hc => ?_) (fun hc => ?_) <;> (try simp at hc) <;> (try omega)))
    exact k_next ⟨i + 1, by omega⟩ (by show L.length - (i + 1) < L.length - i; omega) ⟨rfl, rfl, rfl, rfl, rfl, rfl, rfl, trivial⟩ (hr := by dsimp only; rw [hcat]; (repeat (first | exact Sels.nil | exact Sel.here | apply Sel.there | apply Sels.cons)))
  · obtain rfl : i = L.length := by omega
    rw [List.take_length]
    repeat' (first | refine l_run ?_ | refine l_nil ?_ | refine l_one ?_ | refine k_reg ?_ | refine l_ld ?_ | refine l_ldF ?_ | refine l_st ?_ | refine l_al (fun b => ?_) | refine l_bs (fun b => ?_) | refine k_condT ?_ | refine k_condF ?_ | refine k_brk ?_ | (refine l_split (fun hc => ?_) (fun hc => ?_) <;> (try simp at hc) <;> (try omega)) | (refine k_cond (fun hc => ?_) (fun hc => ?_) <;> (try simp at hc) <;> (try omega)))
    exact k_ret rs3 rfl trivial
end Go.Proofs.YtgaipgbgppdfeaaGreatDoor
