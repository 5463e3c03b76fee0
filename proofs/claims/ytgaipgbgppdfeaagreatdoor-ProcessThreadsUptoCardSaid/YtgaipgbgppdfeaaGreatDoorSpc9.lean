/-
  Contracts of a process's memory: Pages; the law's bytes.
  Conditions: those that each theorem states.
-/
import Derived.Test.YtgaipgbgppdfeaaGreatDoorSpc8
import Derived.Test.YtgaipgbgppdfeaaGreatDoorCat
set_option maxRecDepth 10000
namespace Go.Proofs.YtgaipgbgppdfeaaGreatDoor
open Go.RowKit

/-- The first pages asked for. -/
def alM (src : Nat → Pg) (i : Nat) : Nat → Pg := fun j => if j < i then src j else .u
theorem alM_0 (src : Nat → Pg) : alM src 0 = fun _ => .u := by funext j; simp [alM]
theorem alM_nd (src : Nat → Pg) (i : Nat) : ndM src (alM src i) i = alM src (i + 1) := by
  have h : alM src i i = .u := by simp [alM]
  unfold ndM
  rw [h]
  funext j
  show up (alM src i) i (src i) j = _
  unfold up alM
  by_cases h1 : j = i
  · subst h1; simp
  · rw [if_neg h1]
    by_cases h2 : j < i
    · rw [if_pos h2, if_pos (by omega)]
    · rw [if_neg h2, if_neg (by omega)]
theorem alM_nd' (src : Nat → Pg) (i n : Nat) (h : i < n) (hs : (src i).kn = true) : ndM src (alM src n) i = alM src n := by
  have h1 : alM src n i = src i := by simp [alM, h]
  unfold ndM
  rw [h1]
  cases hm : src i with
  | u => rw [hm] at hs; cases hs
  | _ => rfl
def pgL (n : Nat) : List Int := (List.range n).map fun j : Nat => (j : Int)
theorem pgL_succ (n : Nat) : pgL (n + 1) = pgL n ++ [(n : Int)] := by simp [pgL, List.range_succ]
theorem pgL_len (n : Nat) : (pgL n).length = n := by simp [pgL]
section
variable (s : Sr) (ps : Option Addr) (es : Al) (cs : List Ch) (hsp : s.p.sp.size ≤ 1000)
include hsp
set_option maxHeartbeats 1000000 in
theorem pages_ok (bk : Nat) (q0 : (Nat → Bool) × (Nat → Nat) × List (Nm × Ch)) (pg : Nat) (hpg : s.o.pg = (pg : Int)) (hp64 : pg ≤ 64) :
    Enters 69 ∧ Spec Tryz.prog 69 #[.pointer (some ⟨bk, 0, none⟩)] (s.fs ps es) (MmL s bk ps cs (fun _ => .u) q0)
    ⟨(Option Addr × Nat) × (Nat → Bool) × (Nat → Nat) × List (Nm × Ch), fun q => .slice q.1.1 (pgL pg).length q.1.2, fun _ => True, fun _ => [], fun q => Row 3 1 q.1.1 (pgL pg).length q.1.2 ((pgL pg).flatMap zf) :: MmL s bk ps cs (alM (srP es cs s) 64) q.2⟩ := by
  have nH := fun q i hi => has_ok s ps es cs hsp bk (alM (srP es cs s) i) q i hi
  simp only [alM_nd] at nH
  have hH : ∀ i, isH (alM (srP es cs s) (i + 1) i) = decide (i < pg) := fun i => by
    have : alM (srP es cs s) (i + 1) i = srP es cs s i := by simp [alM]
    rw [this]
    unfold srP
    rw [hpg]
    by_cases h : i < pg
    · rw [if_pos (by omega)]; simp [h, isH]
    · rw [if_neg (by omega)]; simp [h, isH]
  simp only [hH] at nH
  rw [← alM_0 (srP es cs s)]
  generalize srP es cs s = src at *
  clear hH
  refine ⟨enters_of Tryz.func69 (by kernel_rfl) rfl, spec_of (vs := [_]) Tryz.func69 rfl Tryz.ntmps69 rfl fun G w hp => ?_⟩
  refine k_shut (r := Row 3 1 none 0 0 []) (Lx := []) (fun h _ => row_nil _ _ h) ?_
  repeat' (first | refine l_run ?_ | refine l_nil ?_ | refine l_one ?_ | refine k_reg ?_ | refine l_ld ?_ | refine l_ldF ?_ | refine l_st ?_ | refine l_al (fun b => ?_) | refine l_bs (fun b => ?_) | refine k_condT ?_ | refine k_condF ?_ | (refine l_split (fun hc => ?_) (fun hc => ?_) <;> (try simp at hc)) | (refine k_cond (fun hc => ?_) (fun hc => ?_) <;> (try simp at hc)))
  refine k_lp (X := { t : Nat × (Option Addr × Nat) × (Nat → Bool) × (Nat → Nat) × List (Nm × Ch) // t.1 ≤ 64 }) (fun t => [(0, .pointer (some ⟨bk, 0, none⟩)), (3, .slice t.1.2.1.1 (pgL (min t.1.1 pg)).length t.1.2.1.2), (5, .int .i64 (t.1.1 : Int))]) (fun _ => s.fs ps es) (fun t => Row 3 1 t.1.2.1.1 (pgL (min t.1.1 pg)).length t.1.2.1.2 ((pgL (min t.1.1 pg)).flatMap zf) :: MmL s bk ps cs (alM src t.1.1) t.1.2.2) (fun t => 64 - t.1.1)
    ⟨(0, (none, 0), q0), by omega⟩ ⟨rfl, by rw [Nat.zero_min]; rfl, rfl, trivial⟩ ?_ (hr := by dsimp only; rw [Nat.zero_min]; (repeat (first | exact Sels.nil | exact Sel.here | apply Sel.there | apply Sels.cons)))
  rintro ⟨⟨i, ⟨o, cap⟩, q⟩, hi⟩
  dsimp only at hi ⊢
  by_cases hlt : i < 64
  · have wi : IntKind.i64.wrap ((i : Int) + 1) = ((i + 1 : Nat) : Int) := by rw [wrapi (by omega) (by omega)]; omega
    have n1 := nH q i hlt
    by_cases hip : i < pg
    · have e1 : min (i + 1) pg = i + 1 := by omega
      have e2 : min i pg = i := by omega
      rw [e2]
      have hs := pgL_succ i
      have hpl := pgL_len i
      rw [show decide (i < pg) = true by simp [hip]] at n1
      generalize pgL i = pre at *
      dsimp only [Sr.fs] at *
      repeat' (first | refine l_run ?_ | refine l_nil ?_ | refine l_one ?_ | refine k_reg ?_ | refine l_ld ?_ | refine l_ldF ?_ | refine l_st ?_ | refine l_al (fun b => ?_) | refine l_bs (fun b => ?_) | refine k_condT ?_ | refine k_condF ?_ | refine l_call (n1) (fun _ _ => ?_) | refine l_call0 (n1) (fun _ _ => ?_) | refine l_app1 (fun o' cap' => ?_) | rw [wi] | (refine l_split (fun hc => ?_) (fun hc => ?_) <;> (try simp at hc) <;> (try omega)) | (refine k_cond (fun hc => ?_) (fun hc => ?_) <;> (try simp at hc) <;> (try omega)))
      rename_i q' _
      refine k_rowc (T := 3) (sz := 1) (o := o') (cap := cap') (m := pre.length + 1) (m' := (pgL (i + 1)).length) (pre.flatMap zf ++ zf (i : Int)) ((pgL (i + 1)).flatMap zf) (by rw [hs]; simp) (by rw [hs]; simp) ?_
      exact k_next ⟨(i + 1, (o', cap'), q'), by omega⟩ (by show 64 - (i + 1) < 64 - i; omega) ⟨rfl, (by show look _ _ = some (Value.slice o' (pgL (min (i + 1) pg)).length cap'); rw [e1, hs, List.length_append]; rfl), rfl, trivial⟩ (hr := by dsimp only; rw [e1]; (repeat (first | exact Sels.nil | exact Sel.here | apply Sel.there | apply Sels.cons)))
    · have e1 : min (i + 1) pg = min i pg := by omega
      rw [show decide (i < pg) = false by simp [hip]] at n1
      dsimp only [Sr.fs] at *
      repeat' (first | refine l_run ?_ | refine l_nil ?_ | refine l_one ?_ | refine k_reg ?_ | refine l_ld ?_ | refine l_ldF ?_ | refine l_st ?_ | refine l_al (fun b => ?_) | refine l_bs (fun b => ?_) | refine k_condT ?_ | refine k_condF ?_ | refine l_call (n1) (fun _ _ => ?_) | refine l_call0 (n1) (fun _ _ => ?_) | rw [wi] | (refine l_split (fun hc => ?_) (fun hc => ?_) <;> (try simp at hc) <;> (try omega)) | (refine k_cond (fun hc => ?_) (fun hc => ?_) <;> (try simp at hc) <;> (try omega)))
      rename_i q' _
      exact k_next ⟨(i + 1, (o, cap), q'), by omega⟩ (by show 64 - (i + 1) < 64 - i; omega) ⟨rfl, (by show look _ _ = some (Value.slice o (pgL (min (i + 1) pg)).length cap); rw [e1]; rfl), rfl, trivial⟩ (hr := by dsimp only; rw [e1]; (repeat (first | exact Sels.nil | exact Sel.here | apply Sel.there | apply Sels.cons)))
  · obtain rfl : i = 64 := by omega
    rw [show min 64 pg = pg by omega]
    dsimp only [Sr.fs] at *
    repeat' (first | refine l_run ?_ | refine l_nil ?_ | refine l_one ?_ | refine k_reg ?_ | refine l_ld ?_ | refine l_ldF ?_ | refine l_st ?_ | refine l_al (fun b => ?_) | refine l_bs (fun b => ?_) | refine k_condT ?_ | refine k_condF ?_ | refine k_brk ?_ | (refine l_split (fun hc => ?_) (fun hc => ?_) <;> (try simp at hc) <;> (try omega)) | (refine k_cond (fun hc => ?_) (fun hc => ?_) <;> (try simp at hc) <;> (try omega)))
    exact k_ret ((o, cap), q) rfl trivial
end
/-- The bytes of the first pages of a memory. -/
def memS (es : Al) (cs : List Ch) (sp : ByteArray) : Nat → ByteArray
  | 0 => ⟨#[]⟩
  | i + 1 => memS es cs sp i ++ ⟨(padS (vget es cs (gnm sp (i : Int))).1).toArray⟩
theorem memS_size (es : Al) (cs : List Ch) (sp : ByteArray) : ∀ i, (memS es cs sp i).size = 64 * i
  | 0 => rfl
  | i + 1 => by
    rw [memS, ByteArray.size_append, memS_size es cs sp i]
    show _ + (List.toArray _).size = _
    rw [List.size_toArray, padS_len]; omega
set_option maxHeartbeats 1000000 in
theorem bytes35_ok (b : Nat) (ps : Option Addr) (es : Al) (rs : List (Nm × Ch)) (cs : List Ch) (who : ByteArray) (p o : Pr) (h : PrAt es cs who p) (ho : Own es cs who p o) (pg : Nat) (hpg : o.pg = (pg : Int)) (hp64 : pg ≤ 64) :
    Enters 19 ∧ Spec Tryz.prog 19 #[.pointer (some ⟨b, 0, none⟩), .string who] [St ps es, Usg] [Vw b ps rs cs]
    ⟨List (Nm × Ch), fun _ => .tuple #[.string (memS es cs p.sp pg), .int .i64 0], fun _ => True, fun _ => [], fun r => [Vw b ps r cs]⟩ := by
  have n1 := memory_ok b ps es rs cs who p o h ho
  have n2 := fun (x : Mb) q0 => pages_ok (x.s b p o) ps es cs h.s x.bk q0 pg hpg hp64
  have hsrc : ∀ (x : Mb) (i : Nat), i < pg → srP es cs (x.s b p o) i = .h (padS (vget es cs (gnm p.sp (i : Int))).1) false := fun x i hi => by
    unfold srP
    rw [if_pos (by show (i : Int) < o.pg; omega)]; rfl
  have n3 := fun (x : Mb) q0 (i : Nat) (hi : i < pg) => page_ok (x.s b p o) ps es cs h.s x.bk (alM (srP es cs (x.s b p o)) 64) q0 i (by omega) (padS (vget es cs (gnm p.sp (i : Int))).1) false (by
    rw [alM_nd' _ _ _ (by omega) srP_kn.1]
    show (if i < 64 then srP es cs (x.s b p o) i else .u) = _
    rw [if_pos (by omega), hsrc x i hi]) (padS_len _)
  have n3' : ∀ (x : Mb) (i : Nat), i < pg → ndM (srP es cs (x.s b p o)) (alM (srP es cs (x.s b p o)) 64) i = alM (srP es cs (x.s b p o)) 64 := fun x i hi => alM_nd' _ _ _ (by omega) srP_kn.1
  have hms := memS_size es cs p.sp
  have hstep : ∀ i, memS es cs p.sp (i + 1) = memS es cs p.sp i ++ ⟨(padS (vget es cs (gnm p.sp (i : Int))).1).toArray⟩ := fun _ => rfl
  have h0 : memS es cs p.sp 0 = ⟨#[]⟩ := rfl
  generalize b = bv at *
  refine ⟨enters_of Tryz.func19 (by kernel_rfl) rfl, spec_of (vs := [_, _]) Tryz.func19 rfl Tryz.ntmps19 rfl fun G w hp => ?_⟩
  repeat' (first | refine l_run ?_ | refine l_nil ?_ | refine l_one ?_ | refine k_reg ?_ | refine l_ld ?_ | refine l_ldF ?_ | refine l_st ?_ | refine l_al (fun b => ?_) | refine l_bs (fun b => ?_) | refine k_condT ?_ | refine k_condF ?_ | refine l_call (n1) (fun _ _ => ?_) | refine l_call0 (n1) (fun _ _ => ?_) | refine l_call (n2 _ _) (fun _ _ => ?_) | refine l_call0 (n2 _ _) (fun _ _ => ?_) | (refine l_split (fun hc => ?_) (fun hc => ?_) <;> (try simp at hc) <;> (try omega)) | (refine k_cond (fun hc => ?_) (fun hc => ?_) <;> (try simp at hc) <;> (try omega)))
  rename_i x _ lst _
  obtain ⟨⟨lo, lc⟩, q2⟩ := lst
  dsimp only
  refine k_frz (T := 3) (f := zf) (pgL pg) ?_ rfl rfl
  refine k_lp (X := { t : Nat × (Nat → Bool) × (Nat → Nat) × List (Nm × Ch) // t.1 ≤ pg }) (fun t => [(6, .pointer (some ⟨x.bk, 0, none⟩)), (8, .string (memS es cs p.sp t.1.1)), (9, .slice lo (pgL pg).length lc), (10, .int .i64 (t.1.1 : Int))]) (fun _ => Sl 3 zf lo lc (pgL pg) :: (x.s bv p o).fs ps es) (fun t => MmL (x.s bv p o) x.bk ps cs (alM (srP es cs (x.s bv p o)) 64) t.1.2) (fun t => pg - t.1.1)
    ⟨(0, q2), Nat.zero_le _⟩ ⟨rfl, rfl, rfl, rfl, trivial⟩ ?_
  rintro ⟨⟨i, q⟩, hi⟩
  dsimp only at hi ⊢
  have hpl := pgL_len pg
  have hsb : (x.s bv p o).vb = bv := rfl
  by_cases hlt : i < pg
  · have m1 := n3 x q i hlt
    rw [n3' x i hlt] at m1
    have hst := hstep i
    have hs1 := hms i
    have hs2 := hms (i + 1)
    rw [hst] at hs2
    have hx : (pgL pg)[i]? = some (i : Int) := by unfold pgL; rw [List.getElem?_map, List.getElem?_range hlt]; rfl
    have wi : IntKind.i64.wrap ((i : Int) + 1) = ((i + 1 : Nat) : Int) := by rw [wrapi (by omega) (by omega)]; omega
    generalize alM (srP es cs (x.s bv p o)) 64 = M at *
    generalize memS es cs p.sp i = m0 at *
    generalize (⟨(padS (vget es cs (gnm p.sp (i : Int))).1).toArray⟩ : ByteArray) = m9 at *
    generalize x.s bv p o = s at *
    have hcat : m0.size + m9.size ≤ 9223372036854775807 := by rw [ByteArray.size_append] at hs2; omega
    dsimp only [Sr.fs] at *
    repeat' (first | refine l_run ?_ | refine l_nil ?_ | refine l_one ?_ | refine k_reg ?_ | refine l_ld ?_ | refine l_ldF ?_ | refine l_st ?_ | refine l_al (fun b => ?_) | refine l_bs (fun b => ?_) | refine k_condT ?_ | refine k_condF ?_ | refine l_call (m1) (fun _ _ => ?_) | refine l_call0 (m1) (fun _ _ => ?_) | refine l_ixe (es := pgL pg) (f := zf) i (i : Int) hx (fun b off => ?_) | refine l_ldC ?_ | refine l_cat ?_ (h := hcat) | rw [wi] | (refine l_split (fun hc => ?_) (fun hc => ?_) <;> (try simp at hc) <;> (try omega)) | (refine k_cond (fun hc => ?_) (fun hc => ?_) <;> (try simp at hc) <;> (try omega)))
    rename_i q' _
    exact k_next ⟨(i + 1, q'), by omega⟩ (by show pg - (i + 1) < pg - i; omega) ⟨rfl, (by show look _ _ = some (Value.string (memS es cs p.sp (i + 1))); rw [hst]; rfl), rfl, rfl, trivial⟩
  · obtain rfl : i = pg := by omega
    generalize x.s bv p o = s at *
    subst hsb
    dsimp only [Sr.fs]
    repeat' (first | refine l_run ?_ | refine l_nil ?_ | refine l_one ?_ | refine k_reg ?_ | refine l_ld ?_ | refine l_ldF ?_ | refine l_st ?_ | refine l_al (fun b => ?_) | refine l_bs (fun b => ?_) | refine k_condT ?_ | refine k_condF ?_ | refine k_brk ?_ | (refine l_split (fun hc => ?_) (fun hc => ?_) <;> (try simp at hc) <;> (try omega)) | (refine k_cond (fun hc => ?_) (fun hc => ?_) <;> (try simp at hc) <;> (try omega)))
    exact k_ret q.2.2 rfl trivial
end Go.Proofs.YtgaipgbgppdfeaaGreatDoor
