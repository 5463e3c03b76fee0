/-
  The contract of the statements' sends of layer 39.
  Conditions: those that each theorem states.
-/
import Derived.Test.YtiggkcknmjgicaaGreatDoorSnP
import Derived.Test.YtiggkcknmjgicaaGreatDoorCou
import Derived.Test.YtiggkcknmjgicaaGreatDoorMT
import Derived.Test.YtiggkcknmjgicaaGreatDoorMF
import Derived.Test.YtiggkcknmjgicaaGreatDoorME
set_option maxRecDepth 10000
namespace Go.Proofs.YtiggkcknmjgicaaGreatDoor
open Go.RowKit

def stf (s : ByteArray) : List Value := [.string s]
theorem makers39_ok : Enters 63 ∧ Spec Tryz.prog 63 #[] [] []
    ⟨Nat, fun b => .slice (some ⟨b, 0, none⟩) 5 5, fun _ => True, fun _ => [], fun b => [Ax 40 stf b m39 ([], (0, 0))]⟩ := by
  refine ⟨enters_of Tryz.func63 (by kernel_rfl) rfl, spec_of (vs := []) Tryz.func63 rfl Tryz.ntmps63 rfl fun G w hp => ?_⟩
  repeat' (first | refine l_run ?_ | refine l_nil ?_ | refine l_one ?_ | refine k_reg ?_ | refine l_ld ?_ | refine l_ldF ?_ | refine l_st ?_ | refine l_al (fun b => ?_) | refine l_bs (fun b => ?_) | refine k_condT ?_ | refine k_condF ?_ | refine k_brk ?_ | (refine l_split (fun hc => ?_) (fun hc => ?_) <;> (try simp at hc)) | (refine k_cond (fun hc => ?_) (fun hc => ?_) <;> (try simp at hc)))
  exact k_ret b rfl trivial
/-- Send, where it does not send. -/
theorem sendErr_ok (b : Nat) (w : ByteArray) (x : Sn) (hw : w.size ≤ 1099511627776) (hv : lvalid w.data.toList = true) (h : errS x ≠ 0) : Enters 62 ∧ Spec Tryz.prog 62 #[.pointer (some ⟨b, 0, none⟩), .string w, .int .i64 x.tk, (shO x.o).v] [] [] (RetV (.tuple #[.int .i64 0, .int .i64 (errS x)])) := by
  have n1 := valid_ok w hw
  rw [hv] at n1
  have n2 := outCheck_ok (shO x.o)
  have n3 := isTick_ok x.tk
  unfold errS at h ⊢
  by_cases h0 : ochk (shO x.o) = 0
  · rw [if_neg (by simp [h0])] at h ⊢
    rw [h0] at n2
    have h1 : ¬ (0 ≤ x.tk ∧ x.tk ≤ 1073741824) := fun hh => h (if_pos hh)
    rw [if_neg h1]
    have h2 : (decide (0 ≤ x.tk) && decide (x.tk ≤ 1073741824)) = false := by
      rw [Bool.eq_false_iff]; simp; omega
    rw [h2] at n3
    refine ⟨enters_of Tryz.func62 (by kernel_rfl) rfl, spec_of (vs := [_, _, _, _]) Tryz.func62 rfl Tryz.ntmps62 rfl fun G w hp => ?_⟩
    repeat' (first | refine l_run ?_ | refine l_nil ?_ | refine l_one ?_ | refine k_reg ?_ | refine l_ld ?_ | refine l_ldF ?_ | refine l_st ?_ | refine l_al (fun b => ?_) | refine l_bs (fun b => ?_) | refine k_condT ?_ | refine k_condF ?_ | refine k_brk ?_ | refine l_call (n1) (fun _ _ => ?_) | refine l_call0 (n1) (fun _ _ => ?_) | refine l_call (n2) (fun _ _ => ?_) | refine l_call0 (n2) (fun _ _ => ?_) | refine l_call (n3) (fun _ _ => ?_) | refine l_call0 (n3) (fun _ _ => ?_) | (refine l_split (fun hc => ?_) (fun hc => ?_) <;> (try simp at hc) <;> (try omega)) | (refine k_cond (fun hc => ?_) (fun hc => ?_) <;> (try simp at hc) <;> (try omega)))
    exact k_ret () rfl trivial
  · rw [if_pos h0]
    generalize ochk (shO x.o) = e at *
    refine ⟨enters_of Tryz.func62 (by kernel_rfl) rfl, spec_of (vs := [_, _, _, _]) Tryz.func62 rfl Tryz.ntmps62 rfl fun G w hp => ?_⟩
    repeat' (first | refine l_run ?_ | refine l_nil ?_ | refine l_one ?_ | refine k_reg ?_ | refine l_ld ?_ | refine l_ldF ?_ | refine l_st ?_ | refine l_al (fun b => ?_) | refine l_bs (fun b => ?_) | refine k_condT ?_ | refine k_condF ?_ | refine k_brk ?_ | refine l_call (n1) (fun _ _ => ?_) | refine l_call0 (n1) (fun _ _ => ?_) | refine l_call (n2) (fun _ _ => ?_) | refine l_call0 (n2) (fun _ _ => ?_) | refine l_call (n3) (fun _ _ => ?_) | refine l_call0 (n3) (fun _ _ => ?_) | (refine l_split (fun hc => ?_) (fun hc => ?_) <;> (try simp at hc) <;> (try omega)) | (refine k_cond (fun hc => ?_) (fun hc => ?_) <;> (try simp at hc) <;> (try omega)))
    exact k_ret () rfl trivial
theorem sendsCmp_ok (a c : En) (ha : a.who.size ≤ 1099511627770) (hc : c.who.size ≤ 1099511627770) : Enters 66 ∧ Spec Tryz.prog 66 #[a.w, c.w] [] [] (RetV (.int .i64 (cmpE a c))) := by
  have n1 := ofOut_ok a.who a.nu a.tk
  have n2 := ofOut_ok c.who c.nu c.tk
  have n3 := compareO_ok (nmE a) (nmE c) ha hc
  refine ⟨enters_of Tryz.func66 (by kernel_rfl) rfl, spec_of (vs := [_, _]) Tryz.func66 rfl Tryz.ntmps66 rfl fun G w hp => ?_⟩
  repeat' (first | refine l_run ?_ | refine l_nil ?_ | refine l_one ?_ | refine k_reg ?_ | refine l_ld ?_ | refine l_ldF ?_ | refine l_st ?_ | refine l_al (fun b => ?_) | refine l_bs (fun b => ?_) | refine k_condT ?_ | refine k_condF ?_ | refine k_brk ?_ | refine r_run ?_ | refine r_one ?_ | refine r_ld ?_ | refine r_ldF ?_ | refine r_ldN ?_ | refine r_al (fun b => ?_) | refine r_bs (fun b => ?_) | refine r_st ?_ | refine r_end ?_ | refine l_call (n1) (fun _ _ => ?_) | refine l_call0 (n1) (fun _ _ => ?_) | refine r_call (n1) (fun _ _ => ?_) | refine l_call (n2) (fun _ _ => ?_) | refine l_call0 (n2) (fun _ _ => ?_) | refine r_call (n2) (fun _ _ => ?_) | refine l_call (n3) (fun _ _ => ?_) | refine l_call0 (n3) (fun _ _ => ?_) | refine r_call (n3) (fun _ _ => ?_) | (refine l_split (fun hc => ?_) (fun hc => ?_) <;> (try simp at hc)) | (refine r_split (fun hc => ?_) (fun hc => ?_) <;> (try simp at hc)) | refine k_draw 1 [] [(0, 0), (1, 0), (2, 0), (3, 0), (4, 0), (5, 0), (7, 0), (8, 0), (9, 0), (10, 0), (11, 0), (12, 0), (6, 4), (13, 4), (14, 4), (15, 0)] [] ?_ | (refine k_cond (fun hc => ?_) (fun hc => ?_) <;> (try simp at hc)))
  exact k_ret () rfl trivial
def snf (x : Sn) : List Value := [.int .u8 x.by_.toNat, .int .i64 x.tk, .int .i64 x.o.ch, .string x.o.tg, .string x.o.tx, .int .i64 x.o.us]
def nf8 (n : Nat) : List Value := [.int .i64 (n : Int)]

theorem made_n {s : SS} (h : SOk s) (hl : s.all.length ≤ 20) {k : Nat} (hk : k < 5) : madeE s.es [] (mk39 k) = (ctK (s.n k), 0) ∧ (vget s.es [] (cnm (mk39 k))).1.size ≤ 1000 := by
  have hv := mk39_valid ⟨k, hk⟩
  have hc := h.ct k hk
  have hb := h.cb k
  have hct : CtOK (ctK (s.n k)) := ⟨by show (0 : Int) ≤ 0; decide, by show (0 : Int) ≤ _; decide, by show (0 : Int) ≤ (s.n k : Int); omega, by show (s.n k : Int) ≤ _; omega, by show (0 : Int) ≤ 0; decide, by show (0 : Int) ≤ _; decide⟩
  have hvc : vcall [] (cnm (mk39 k)) = none := rfl
  have e1 : vget s.es [] (cnm (mk39 k)) = ((getO (cnm (mk39 k)) s.es).getD ⟨#[]⟩, (getO (cnm (mk39 k)) s.es).isSome) := by
    unfold vget
    rw [if_neg (by simp [cnm_chk hv]), hvc]
  unfold madeE
  rw [if_pos hv, e1, hc]
  by_cases h0 : s.n k = 0
  · rw [if_pos h0, h0]
    refine ⟨rfl, Nat.zero_le _⟩
  · rw [if_neg h0]
    have hd : cdec (cvl (ctK (s.n k))) = some (ctK (s.n k)) := cdec_enc hct
    have hl := cenc_len hct
    simp only [Option.getD_some, Option.isSome_some, if_true, hd]
    refine ⟨by simp, ?_⟩
    show (cenc _).toArray.size ≤ _
    rw [List.size_toArray]; omega
theorem chS_last (s : SS) (x : Sn) : (vwr (chS s x)).length = 2 := by
  rw [vwr_len]
  have hne : nmE (entS s x) ≠ cnm (mk39 x.k) := fun h => by
    have := congrArg Nm.kind h
    simp [nmE, onm, cnm] at this
  show (lastG [⟨nmE (entS s x), oencS (shO x.o), false⟩, ⟨cnm (mk39 x.k), cvl (ctK (s.n x.k + 1)), false⟩] 0 []).length = 2
  simp [lastG, mset, hne.symm]
theorem madeR_n {es : Al} {k : Nat} (hk : k < 5) : madeR es [] [] (mk39 k) = [(cnm (mk39 k), ⟨cnm (mk39 k), (getO (cnm (mk39 k)) es).getD ⟨#[]⟩, !(getO (cnm (mk39 k)) es).isSome⟩)] := by
  have hv := mk39_valid ⟨k, hk⟩
  unfold madeR
  rw [if_pos hv]
  unfold vread
  rw [if_neg (by simp [cnm_chk hv])]
  rfl

theorem eqNmS (a : Nm) : eqC eqS 20 78 a.v a.v = some true := by
  rw [show eqC eqS 20 78 a.v a.v = some ((a.kind == a.kind) && ((a.owner.toList == a.owner.toList) && ((a.number == a.number) && ((a.index == a.index) && ((a.text.toList == a.text.toList) && true))))) from rfl]
  simp
def SnPost (l : List Sn) : Post := ⟨Nat × Option Addr × Nat, fun q => .tuple #[.pointer (some ⟨q.1, 0, none⟩), .slice q.2.1 (allE (sRun l).es).length q.2.2, .bool true], fun _ => True, fun q => [St (some ⟨q.1, 0, none⟩) (sRun l).es],
  fun q => [Row 74 7 q.2.1 (allE (sRun l).es).length q.2.2 ((allE (sRun l).es).flatMap enf)]⟩

set_option maxHeartbeats 8000000 in
theorem sends39_ok (o1 : Option Addr) (c1 : Nat) (l : List Sn) (hl : l.length ≤ 1099511627776) :
    Enters 22 ∧ Spec Tryz.prog 22 #[.slice o1 l.length c1] [Sl 135 snf o1 c1 l, Usg] [] (SnPost (l.take 20)) := by
  refine ⟨enters_of Tryz.func22 (by kernel_rfl) rfl, spec_of (vs := [_]) Tryz.func22 rfl Tryz.ntmps22 rfl fun G w hp => ?_⟩
  repeat' (first | refine l_run ?_ | refine l_nil ?_ | refine l_one ?_ | refine k_reg ?_ | refine l_ld ?_ | refine l_ldF ?_ | refine l_st ?_ | refine l_al (fun b => ?_) | refine l_bs (fun b => ?_) | refine k_condT ?_ | refine k_condF ?_ | refine l_call (stateNew_ok) (fun _ _ => ?_) | refine l_call0 (stateNew_ok) (fun _ _ => ?_) | (refine l_split (fun hc => ?_) (fun hc => ?_) <;> (try simp at hc)) | (refine k_cond (fun hc => ?_) (fun hc => ?_) <;> (try simp at hc)))
  rename_i s0 _
  refine k_shut (Lx := []) (r := Row 74 7 none 0 0 []) (fun h _ => row_nil _ _ h) ?_
  refine k_ptc (b := b) (.cells (SS.z.cn.flatMap nf8 ++ []).toArray 133 (0, 0)) rfl ?_
  refine k_lp (X := { t : Nat × Nat × Option Addr × Nat // t.1 ≤ 20 ∧ t.1 ≤ l.length }) (fun t => [(0, .slice o1 l.length c1), (2, .pointer (some ⟨t.1.2.1, 0, none⟩)), (3, .slice t.1.2.2.1 (sRun (l.take t.1.1)).all.length t.1.2.2.2), (5, .pointer (some ⟨b, 0, none⟩)), (6, .int .i64 (t.1.1 : Int))]) (fun t => [Sl 135 snf o1 c1 l, Usg, St (some ⟨t.1.2.1, 0, none⟩) (sRun (l.take t.1.1)).es])
    (fun t => [Ax 133 nf8 b (sRun (l.take t.1.1)).cn ([], (0, 0)), Row 74 7 t.1.2.2.1 (sRun (l.take t.1.1)).all.length t.1.2.2.2 ((sRun (l.take t.1.1)).all.flatMap enf)]) (fun t => 20 - t.1.1) ⟨(0, s0, none, 0), by omega, by show 0 ≤ l.length; omega⟩ ⟨rfl, rfl, rfl, rfl, rfl, trivial⟩ ?_
  rintro ⟨⟨i, bs, o, cap⟩, hi1, hi2⟩
  dsimp only at hi1 hi2 ⊢
  obtain ⟨hS, hSl⟩ := sok_run (l.take i)
  have hSl2 : (sRun (l.take i)).all.length ≤ 20 := by rw [List.length_take] at hSl; omega
  by_cases hlt : i < l.length ∧ i < 20
  · obtain ⟨x, hx⟩ : ∃ x, l[i]? = some x := ⟨_, List.getElem?_eq_getElem hlt.1⟩
    have htk : l.take (i + 1) = l.take i ++ [x] := by rw [List.take_add_one, hx]; rfl
    have hbs := sRun_snoc (l.take i) x
    rw [← htk] at hbs
    have hS2 := (sok_run (l.take (i + 1))).1
    have hSl3 : (sRun (l.take (i + 1))).all.length ≤ 20 := by
      have := (sok_run (l.take (i + 1))).2
      rw [List.length_take] at this; omega
    generalize sRun (l.take i) = s at *
    have hk := x.k5
    have hk' : (⟨x.k, hk⟩ : Fin 5).val = x.k := rfl
    have hmv := mk39_valid ⟨x.k, hk⟩
    have hms := mk39_size ⟨x.k, hk⟩
    rw [hk'] at hmv hms
    have n1 := shortO_ok x.o
    have n2 := mcheck_ok (shO x.o)
    have wk : IntKind.i64.wrap (Int.tmod (x.by_.toNat : Int) 5) = (x.k : Int) := by
      have h1 : Int.tmod (x.by_.toNat : Int) 5 = (x.k : Int) := (Int.ofNat_tmod x.by_.toNat 5).symm
      rw [h1, wrapi (by omega) (by omega)]
    have wi : IntKind.i64.wrap ((i : Int) + 1) = ((i + 1 : Nat) : Int) := by rw [wrapi (by omega) (by omega)]; omega
    have gk := m39_get hk
    have q1 := fun b0 : Nat => viewNew_ok b0
    by_cases h0 : errS x = 0
    · obtain ⟨g1, g2, g3⟩ := errS_zero h0
      have hse : sRun (l.take (i + 1)) = ⟨applyE s.es (vwr (chS s x)), s.cn.set x.k (s.n x.k + 1), s.all ++ [entS s x]⟩ := by rw [hbs, sStep, if_pos h0]
      rw [hse] at hS2 hSl3
      obtain ⟨hm1, hm2⟩ := made_n hS hSl2 hk
      obtain ⟨hm3, hm4⟩ := made_n hS2 hSl3 hk
      have hn2 : SS.n ⟨applyE s.es (vwr (chS s x)), s.cn.set x.k (s.n x.k + 1), s.all ++ [entS s x]⟩ x.k = s.n x.k + 1 := by
        show (s.cn.set x.k (s.n x.k + 1)).getD x.k 0 = _
        rw [set_n hS.cl hk, if_pos rfl]
      rw [hn2] at hm3
      dsimp only at hm3 hm4
      have hnb := hS.cb x.k
      have hct : CtOK (ctK (s.n x.k)) := ⟨by show (0 : Int) ≤ 0; decide, by show (0 : Int) ≤ _; decide, by show (0 : Int) ≤ (s.n x.k : Int); omega, by show (s.n x.k : Int) ≤ _; omega, by show (0 : Int) ≤ 0; decide, by show (0 : Int) ≤ _; decide⟩
      have hch := fit_snt (c := ctK (s.n x.k)) (tk := x.tk) (o := shO x.o) (who := mk39 x.k) (by omega) hmv hct (by show (s.n x.k : Int) < _; omega) ⟨g2, g3⟩ g1
      have q2 := fun bv : Nat => send_ok bv (some ⟨bs, 0, none⟩) s.es [] [] (mk39 x.k) x.tk (shO x.o) (ctK (s.n x.k)) (by omega) hmv (by omega) g1 (by simp [g2, g3]) hm1 hct (by show (s.n x.k : Int) < _; omega) (onm_chk hmv ⟨by show (0 : Int) ≤ (s.n x.k : Int); omega, by show (s.n x.k : Int) ≤ _; omega⟩ ⟨g2, g3⟩) (cnm_chk hmv) (Nat.zero_le _)
      simp only [List.nil_append] at q2
      rw [madeR_n hk] at q2
      have hcs : snt (mk39 x.k) (ctK (s.n x.k)) x.tk (shO x.o) = chS s x := rfl
      rw [hcs] at q2
      obtain ⟨cR, hcR⟩ : ∃ cR : Ch, cR = ⟨cnm (mk39 x.k), (getO (cnm (mk39 x.k)) s.es).getD ⟨#[]⟩, !(getO (cnm (mk39 x.k)) s.es).isSome⟩ := ⟨_, rfl⟩
      have hcn : cR.nm = cnm (mk39 x.k) := by rw [hcR]
      rw [← hcR] at q2
      have hlc := chS_last s x
      have hll : (lastL (chS s x)).length = 2 := by rw [← vwr_len]; exact hlc
      have q3 := fun bv : Nat => vwReads_ok bv (some ⟨bs, 0, none⟩) [(cnm (mk39 x.k), cR)] (chS s x) ⟨by simp, by simp [hcn], by simp; show (mk39 x.k).size ≤ _; omega⟩ (by simp)
      rw [show vrd [(cnm (mk39 x.k), cR)] = [cR] from rfl] at q3
      have q4 := fun bv : Nat => vwAfter_ok bv bs s.es [(cnm (mk39 x.k), cR)] (chS s x) (by omega) hch (by have := hS.el; omega)
      have q5 := fun bv : Nat => vwWrites_ok bv (some ⟨bs, 0, none⟩) [(cnm (mk39 x.k), cR)] (chS s x) (by omega) (fun c hc => (hch c hc).own)
      unfold WrPost at q5
      rw [hlc] at q5
      have q6 := fun (bq bv : Nat) => count_ok bv (some ⟨bq, 0, none⟩) (applyE s.es (vwr (chS s x))) [] [] (mk39 x.k) (by omega) (by omega)
      rw [hm3, if_pos rfl] at q6
      rw [g1] at n2
      have q7 := ofCounter_ok (mk39 x.k)
      generalize hes2 : applyE s.es (vwr (chS s x)) = es2 at *
      generalize vwr (chS s x) = wr at *
      generalize chS s x = ch at *
      have hcnk : s.cn[x.k]? = some (s.n x.k) := by
        unfold SS.n
        have : x.k < s.cn.length := by rw [hS.cl]; exact hk
        rw [List.getD_eq_getElem?_getD, List.getElem?_eq_getElem this]; rfl
      have hen : entS s x = ⟨mk39 x.k, (s.n x.k : Nat), x.tk, shO x.o⟩ := rfl
      generalize hnk : s.n x.k = nk at *
      have wn : IntKind.i64.wrap ((nk : Int) + 1) = ((nk + 1 : Nat) : Int) := by rw [wrapi (by omega) (by omega)]; omega
      have ho : ∀ n, (ctK n).o = (n : Int) := fun _ => rfl
      simp only [ho] at q2 q6
      generalize shO x.o = ov at *
      repeat' (first | refine l_run ?_ | refine l_nil ?_ | refine l_one ?_ | refine k_reg ?_ | refine l_ld ?_ | refine l_ldF ?_ | refine l_st ?_ | refine l_al (fun b => ?_) | refine l_bs (fun b => ?_) | refine k_condT ?_ | refine k_condF ?_ | refine r_run ?_ | refine r_one ?_ | refine r_ld ?_ | refine r_ldF ?_ | refine r_ldN ?_ | refine r_al (fun b => ?_) | refine r_bs (fun b => ?_) | refine r_st ?_ | refine r_end ?_ | refine l_call (q1 _) (fun _ _ => ?_) | refine l_call0 (q1 _) (fun _ _ => ?_) | refine r_call (q1 _) (fun _ _ => ?_) | refine l_call (n1) (fun _ _ => ?_) | refine l_call0 (n1) (fun _ _ => ?_) | refine r_call (n1) (fun _ _ => ?_) | refine l_call (n2) (fun _ _ => ?_) | refine l_call0 (n2) (fun _ _ => ?_) | refine r_call (n2) (fun _ _ => ?_) | refine l_call (makers39_ok) (fun _ _ => ?_) | refine l_call0 (makers39_ok) (fun _ _ => ?_) | refine r_call (makers39_ok) (fun _ _ => ?_) | refine l_call (q2 _) (fun _ _ => ?_) | refine l_call0 (q2 _) (fun _ _ => ?_) | refine r_call (q2 _) (fun _ _ => ?_) | refine l_call (q3 _) (fun _ _ => ?_) | refine l_call0 (q3 _) (fun _ _ => ?_) | refine r_call (q3 _) (fun _ _ => ?_) | refine l_call (q4 _) (fun _ _ => ?_) | refine l_call0 (q4 _) (fun _ _ => ?_) | refine r_call (q4 _) (fun _ _ => ?_) | rw [wk] | refine l_ixe (es := l) i x hx (fun b off => ?_) | refine r_ixe (es := l) i x hx (fun b off => ?_) | refine l_ldC ?_ | refine r_ldC ?_ | refine r_ixP (m := 5) x.k hk ?_ | refine r_ldEN 1 x.k 0 gk ?_ | (refine l_split (fun hc => ?_) (fun hc => ?_) <;> (try simp at hc) <;> (try omega)) | (refine r_split (fun hc => ?_) (fun hc => ?_) <;> (try simp at hc) <;> (try omega)) | refine k_draw 12 [Vw _ _ _ _] [(0, 0), (2, 0), (5, 0), (6, 0), (7, 0), (8, 0), (9, 0), (10, 0), (1, 4), (3, 0), (4, 3), (11, 4), (12, 0), (13, 0), (14, 0), (15, 0), (16, 0)] [] ?_ | (refine k_cond (fun hc => ?_) (fun hc => ?_) <;> (try simp at hc) <;> (try omega)))
      rename_i q _ rr _
      obtain ⟨qo, qc⟩ := rr
      dsimp only
      refine k_frz (T := 119) (sz := 7) (f := chf) (o := qo) (cap := qc) (m := [cR].length) (xs := [cR].flatMap chf) [cR] ?_ rfl rfl
      have heN : eqC eqS 20 78 cR.nm.v (cnm (mk39 x.k)).v = some true := by rw [hcn]; exact eqNmS _
      clear hcR
      have oK : 0 + x.k * 1 = x.k * 1 + 0 := by omega
      repeat' (first | refine r_sneq (b := true) ?_ (he := heN) | refine l_run ?_ | refine l_nil ?_ | refine l_one ?_ | refine k_reg ?_ | refine l_ld ?_ | refine l_ldF ?_ | refine l_st ?_ | refine l_al (fun b => ?_) | refine l_bs (fun b => ?_) | refine k_condT ?_ | refine k_condF ?_ | refine r_run ?_ | refine r_one ?_ | refine r_ld ?_ | refine r_ldF ?_ | refine r_ldN ?_ | refine r_al (fun b => ?_) | refine r_bs (fun b => ?_) | refine r_st ?_ | refine r_end ?_ | refine l_call (q1 _) (fun _ _ => ?_) | refine l_call0 (q1 _) (fun _ _ => ?_) | refine r_call (q1 _) (fun _ _ => ?_) | refine l_call (makers39_ok) (fun _ _ => ?_) | refine l_call0 (makers39_ok) (fun _ _ => ?_) | refine r_call (makers39_ok) (fun _ _ => ?_) | refine l_call (q5 _) (fun _ _ => ?_) | refine l_call0 (q5 _) (fun _ _ => ?_) | refine r_call (q5 _) (fun _ _ => ?_) | refine l_call (q6 _ _) (fun _ _ => ?_) | refine l_call0 (q6 _ _) (fun _ _ => ?_) | refine r_call (q6 _ _) (fun _ _ => ?_) | refine l_call (q7) (fun _ _ => ?_) | refine l_call0 (q7) (fun _ _ => ?_) | refine r_call (q7) (fun _ _ => ?_) | rw [wn] | refine r_ixe (es := [cR]) 0 cR rfl (fun b off => ?_) | refine r_ixe (es := l) i x hx (fun b off => ?_) | refine r_ldC ?_ | refine r_ixA (m := 5) x.k hk ?_ | refine l_ixA (m := 5) x.k hk ?_ | refine r_ldE 1 x.k 0 hcnk ?_ (ho := oK) | refine l_ldE 1 x.k 0 hcnk ?_ (ho := oK) | refine l_stE 1 x.k 0 (nk + 1) hcnk (.inl rfl) ?_ (ho := oK) | refine r_ixP (m := 5) x.k hk ?_ | refine r_ldEN 1 x.k 0 gk ?_ | refine r_app1 (fun o' cap' => ?_) | (refine l_split (fun hc => ?_) (fun hc => ?_) <;> (try simp at hc) <;> (try omega)) | (refine r_split (fun hc => ?_) (fun hc => ?_) <;> (try simp at hc) <;> (try omega)) | refine k_draw 12 [] [(0, 0), (2, 0), (5, 0), (6, 0), (7, 0), (8, 0), (9, 0), (10, 0), (1, 4), (3, 0), (4, 0), (11, 4), (12, 0), (13, 0), (14, 0), (15, 0), (16, 0)] [] ?_ | refine k_draw 21 [Vw _ _ _ _] [(0, 0), (1, 0), (2, 0), (3, 0), (4, 0), (5, 0), (6, 0), (7, 0), (8, 0), (9, 0), (10, 0), (11, 0), (12, 0), (13, 0), (14, 0), (16, 0), (15, 4), (17, 0), (18, 3), (19, 4), (20, 0), (21, 0), (22, 0), (23, 0), (24, 4), (25, 0), (26, 0), (27, 0), (28, 0), (29, 0), (32, 0), (36, 0), (37, 0), (30, 4), (31, 4), (33, 0), (34, 3), (35, 4), (38, 0), (39, 0)] [] ?_ | refine k_draw 24 [Row 74 7 _ _ _ _] [(0, 0), (2, 0), (5, 0), (6, 0), (7, 0), (8, 0), (9, 0), (10, 0), (11, 0), (1, 4), (3, 0), (4, 3), (12, 0), (13, 1), (14, 4), (15, 0)] [] ?_ | (refine k_cond (fun hc => ?_) (fun hc => ?_) <;> (try simp at hc) <;> (try omega)))
      rw [wi]
      refine k_rowc (T := 74) (sz := 7) (o := o') (cap := cap') (m := s.all.length + 1) (m' := (s.all ++ [entS s x]).length) (s.all.flatMap enf ++ enf ⟨mk39 x.k, nk, x.tk, ov⟩) ((s.all ++ [entS s x]).flatMap enf) (by simp) (by rw [hen, List.flatMap_append, List.flatMap_cons, List.flatMap_nil, List.append_nil]) ?_
      exact k_next ⟨(i + 1, q, o', cap'), by omega, by omega⟩ (by show 20 - (i + 1) < 20 - i; omega) ⟨rfl, rfl, (by show look _ _ = some (Value.slice o' (sRun (l.take (i + 1))).all.length cap'); rw [hse, List.length_append]; rfl), rfl, rfl, trivial⟩ (hf := by dsimp only; rw [hse]; (repeat (first | exact trivial | exact Sel.here | apply Sel.there | apply EntF.cons))) (hr := by dsimp only; rw [hse]; (repeat (first | exact Sels.nil | exact Sel.here | apply Sel.there | apply Sels.cons)))
    · have hse : sRun (l.take (i + 1)) = s := by rw [hbs, sStep, if_neg h0]
      have q2 := fun bv : Nat => sendErr_ok bv (mk39 x.k) x (by omega) hmv h0
      have q3 := fun bv : Nat => vwWrites_ok bv (some ⟨bs, 0, none⟩) [] [] (Nat.zero_le _) (fun _ h => by cases h)
      have q4 := fun bv : Nat => vwAfter_ok bv bs s.es [] [] (Nat.zero_le _) (fun _ h => by cases h) (by have := hS.el; omega)
      rw [show vwr [] = [] from rfl] at q4
      unfold WrPost at q3
      rw [show vwr [] = [] from rfl] at q3
      rw [show applyE s.es [] = s.es from rfl] at q4
      by_cases h1 : ochk (shO x.o) = 0
      · have h2 : ¬ (0 ≤ x.tk ∧ x.tk ≤ 1073741824) := fun hh => h0 (by unfold errS; rw [if_neg (by simp [h1]), if_pos hh])
        have he : errS x = 2 := by unfold errS; rw [if_neg (by simp [h1]), if_neg h2]
        rw [he] at q2
        rw [h1] at n2
        generalize shO x.o = o' at *
        repeat' (first | refine l_run ?_ | refine l_nil ?_ | refine l_one ?_ | refine k_reg ?_ | refine l_ld ?_ | refine l_ldF ?_ | refine l_st ?_ | refine l_al (fun b => ?_) | refine l_bs (fun b => ?_) | refine k_condT ?_ | refine k_condF ?_ | refine r_run ?_ | refine r_one ?_ | refine r_ld ?_ | refine r_ldF ?_ | refine r_ldN ?_ | refine r_al (fun b => ?_) | refine r_bs (fun b => ?_) | refine r_st ?_ | refine r_end ?_ | refine l_call (q1 _) (fun _ _ => ?_) | refine l_call0 (q1 _) (fun _ _ => ?_) | refine r_call (q1 _) (fun _ _ => ?_) | refine l_call (n1) (fun _ _ => ?_) | refine l_call0 (n1) (fun _ _ => ?_) | refine r_call (n1) (fun _ _ => ?_) | refine l_call (n2) (fun _ _ => ?_) | refine l_call0 (n2) (fun _ _ => ?_) | refine r_call (n2) (fun _ _ => ?_) | refine l_call (makers39_ok) (fun _ _ => ?_) | refine l_call0 (makers39_ok) (fun _ _ => ?_) | refine r_call (makers39_ok) (fun _ _ => ?_) | refine l_call (q2 _) (fun _ _ => ?_) | refine l_call0 (q2 _) (fun _ _ => ?_) | refine r_call (q2 _) (fun _ _ => ?_) | refine l_call (q3 _) (fun _ _ => ?_) | refine l_call0 (q3 _) (fun _ _ => ?_) | refine r_call (q3 _) (fun _ _ => ?_) | refine l_call (q4 _) (fun _ _ => ?_) | refine l_call0 (q4 _) (fun _ _ => ?_) | refine r_call (q4 _) (fun _ _ => ?_) | rw [wk] | refine l_ixe (es := l) i x hx (fun b off => ?_) | refine r_ixe (es := l) i x hx (fun b off => ?_) | refine l_ldC ?_ | refine r_ldC ?_ | refine r_ixP (m := 5) x.k hk ?_ | refine r_ldEN 1 x.k 0 gk ?_ | (refine l_split (fun hc => ?_) (fun hc => ?_) <;> (try simp at hc) <;> (try omega)) | (refine r_split (fun hc => ?_) (fun hc => ?_) <;> (try simp at hc) <;> (try omega)) | refine k_draw 12 [] [(0, 0), (2, 0), (5, 0), (6, 0), (7, 0), (8, 0), (9, 0), (10, 0), (1, 4), (3, 0), (4, 3), (11, 4), (12, 0), (13, 0), (14, 0), (15, 0), (16, 0)] [] ?_ | (refine k_cond (fun hc => ?_) (fun hc => ?_) <;> (try simp at hc) <;> (try omega)))
        all_goals
          rename_i q _
          rw [wi]
          exact k_next ⟨(i + 1, q, o, cap), by omega, by omega⟩ (by show 20 - (i + 1) < 20 - i; omega) ⟨rfl, rfl, (by show look _ _ = some (Value.slice o (sRun (l.take (i + 1))).all.length cap); rw [hse]; rfl), rfl, rfl, trivial⟩ (hf := by dsimp only; rw [hse]; (repeat (first | exact trivial | exact Sel.here | apply Sel.there | apply EntF.cons))) (hr := by dsimp only; rw [hse]; (repeat (first | exact Sels.nil | exact Sel.here | apply Sel.there | apply Sels.cons)))
      · have he : errS x = ochk (shO x.o) := by unfold errS; rw [if_pos h1]
        rw [he] at q2
        generalize hoc : ochk (shO x.o) = e at *
        generalize shO x.o = o' at *
        repeat' (first | refine l_run ?_ | refine l_nil ?_ | refine l_one ?_ | refine k_reg ?_ | refine l_ld ?_ | refine l_ldF ?_ | refine l_st ?_ | refine l_al (fun b => ?_) | refine l_bs (fun b => ?_) | refine k_condT ?_ | refine k_condF ?_ | refine r_run ?_ | refine r_one ?_ | refine r_ld ?_ | refine r_ldF ?_ | refine r_ldN ?_ | refine r_al (fun b => ?_) | refine r_bs (fun b => ?_) | refine r_st ?_ | refine r_end ?_ | refine l_call (q1 _) (fun _ _ => ?_) | refine l_call0 (q1 _) (fun _ _ => ?_) | refine r_call (q1 _) (fun _ _ => ?_) | refine l_call (n1) (fun _ _ => ?_) | refine l_call0 (n1) (fun _ _ => ?_) | refine r_call (n1) (fun _ _ => ?_) | refine l_call (n2) (fun _ _ => ?_) | refine l_call0 (n2) (fun _ _ => ?_) | refine r_call (n2) (fun _ _ => ?_) | refine l_call (makers39_ok) (fun _ _ => ?_) | refine l_call0 (makers39_ok) (fun _ _ => ?_) | refine r_call (makers39_ok) (fun _ _ => ?_) | refine l_call (q2 _) (fun _ _ => ?_) | refine l_call0 (q2 _) (fun _ _ => ?_) | refine r_call (q2 _) (fun _ _ => ?_) | refine l_call (q3 _) (fun _ _ => ?_) | refine l_call0 (q3 _) (fun _ _ => ?_) | refine r_call (q3 _) (fun _ _ => ?_) | refine l_call (q4 _) (fun _ _ => ?_) | refine l_call0 (q4 _) (fun _ _ => ?_) | refine r_call (q4 _) (fun _ _ => ?_) | rw [wk] | refine l_ixe (es := l) i x hx (fun b off => ?_) | refine r_ixe (es := l) i x hx (fun b off => ?_) | refine l_ldC ?_ | refine r_ldC ?_ | refine r_ixP (m := 5) x.k hk ?_ | refine r_ldEN 1 x.k 0 gk ?_ | (refine l_split (fun hc => ?_) (fun hc => ?_) <;> (try simp at hc) <;> (try omega)) | (refine r_split (fun hc => ?_) (fun hc => ?_) <;> (try simp at hc) <;> (try omega)) | refine k_draw 12 [] [(0, 0), (2, 0), (5, 0), (6, 0), (7, 0), (8, 0), (9, 0), (10, 0), (1, 4), (3, 0), (4, 3), (11, 4), (12, 0), (13, 0), (14, 0), (15, 0), (16, 0)] [] ?_ | (refine k_cond (fun hc => ?_) (fun hc => ?_) <;> (try simp at hc) <;> (try omega)))
        all_goals
          rename_i q _
          rw [wi]
          exact k_next ⟨(i + 1, q, o, cap), by omega, by omega⟩ (by show 20 - (i + 1) < 20 - i; omega) ⟨rfl, rfl, (by show look _ _ = some (Value.slice o (sRun (l.take (i + 1))).all.length cap); rw [hse]; rfl), rfl, rfl, trivial⟩ (hf := by dsimp only; rw [hse]; (repeat (first | exact trivial | exact Sel.here | apply Sel.there | apply EntF.cons))) (hr := by dsimp only; rw [hse]; (repeat (first | exact Sels.nil | exact Sel.here | apply Sel.there | apply Sels.cons)))
  · have hti : l.take i = l.take 20 := by
      by_cases h20 : i = 20
      · rw [h20]
      · rw [List.take_of_length_le (by omega), List.take_of_length_le (by omega)]
    rw [hti] at hS hSl hSl2 ⊢
    have hmem : ∀ e ∈ (sRun (l.take 20)).all, e.who.size ≤ 1099511627770 := fun e he => by
      obtain ⟨_, _, k, hk, hw, _⟩ := hS.al e he
      have := mk39_size ⟨k, hk⟩
      rw [hw]
      exact Nat.le_trans this (by omega)
    have n1 := sortE_ok o cap (sRun (l.take 20)).all 66 Usg cmpE (by omega) cmpE_w.a (fun a b d => cmpE_w.t a b d) (fun x y hx hy => ⟨(sendsCmp_ok x y (hmem x hx) (hmem y hy)).1, (sendsCmp_ok x y (hmem x hx) (hmem y hy)).2.more⟩)
    repeat' (first | refine l_run ?_ | refine l_nil ?_ | refine l_one ?_ | refine k_reg ?_ | refine l_ld ?_ | refine l_ldF ?_ | refine l_st ?_ | refine l_al (fun b => ?_) | refine l_bs (fun b => ?_) | refine k_condT ?_ | refine k_condF ?_ | refine k_brk ?_ | refine l_call (n1) (fun _ _ => ?_) | refine l_call0 (n1) (fun _ _ => ?_) | (refine l_split (fun hc => ?_) (fun hc => ?_) <;> (try simp at hc) <;> (try omega)) | (refine k_cond (fun hc => ?_) (fun hc => ?_) <;> (try simp at hc) <;> (try omega)))
    all_goals
      rename_i l' hl'
      have hall := allE_eq hS hl'.1 hl'.2
      have hlen := hl'.1.length_eq
      refine k_rowc (T := 74) (sz := 7) (o := o) (cap := cap) (m := (sRun (l.take 20)).all.length) (m' := (allE (sRun (l.take 20)).es).length) (l'.flatMap enf) ((allE (sRun (l.take 20)).es).flatMap enf) (by rw [hall, hlen]) (by rw [hall]) ?_
      refine k_ret (post := SnPost (l.take 20)) (bs, o, cap) ?_ trivial
      show resV [_, Value.slice o (sRun (l.take 20)).all.length cap, _] = _
      rw [← hlen, ← hall]; rfl
end Go.Proofs.YtiggkcknmjgicaaGreatDoor
