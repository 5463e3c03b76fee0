/-
  The law InodeBirths, walked.
  Conditions: those that each theorem states.
-/
import Derived.Test.YtgciahedpaencaaGreatDoorBiP
import Derived.Test.YtgciahedpaencaaGreatDoorME
import Derived.Test.YtgciahedpaencaaGreatDoorMG
set_option maxRecDepth 10000
namespace Go.Proofs.YtgciahedpaencaaGreatDoor
open Go.RowKit

section
variable {n : Nat} {C : Cx} {Q : Exit → Act → World → Prop} {E E' : List (Nat × Value)} {F F' F1 Fs F0 : List Pf} {R R' R0 Rs N N' A : List HP} {k k' : List Fr} {ops l : List Oper} {L L' : List (Nat × Nat)} {Tl : List Nat}
  {i d : Nat} {t ty0 : TypeId} {x y z : Operand} {pos : String} {aft : Array Edge} {gd : Option (Nat × Bool)} {α β : Type} [DecidableEq α] {K : α → Value} {V : β → Value}
/-- An element of a map that stays is looked up. -/
theorem r_mgetF {kt et r : Nat} {rs te : TRow} {m : List (α × β)} {zv : Value} (hk : KeyOK kt K) (a : α) (o : Option β) (ho : mget a m = o) (nx : Wr n C ops k Q Tl Fs R L ((d, (o.map V).getD zv) :: E) F N)
    (hop : nth ops i = some ⟨some d, .lookup t x y false, ty0, pos, aft, gd⟩ := by rfl) (hw : wantL ops E ⟨some d, .lookup t x y false, ty0, pos, aft, gd⟩ = some true := by rfl)
    (hx : ev E x = some (.map (some r)) := by rfl) (hy : ev E y = some (K a) := by rfl) (hts : lookT tab t = some rs := by rfl) (hrs : rs.k = .map kt et := by rfl) (hte : lookT tab et = some te := by rfl) (hzv : zval te = some zv := by rfl)
    (hs : Sel (Mp K V r m) R R0 := by (repeat (first | exact Sel.here | apply Sel.there)); first | done | fail) : Wr n C ops k Q Tl Fs R ((i, 0) :: L) E F N :=
  wr_go hop fun hp hr w st hz sb => by
    simp only [wantL_ok hw]
    refine ⟨(o.map V).getD zv, fun ac w ha hin => ?_, nx hp hr w st hz sb⟩
    obtain ⟨h1, h2, _, s1, _, hmp, _⟩ := hs.sep st.r
    obtain ⟨es, clock, hes, he, hB⟩ := hmp
    have hb : w.heap[r]? = some (.map es clock) := hin _ _ (sb _ _ (sub_un_left _ _ _ _ (s1 _ _ hes)))
    have hu := run_undM (w := w) hts hrs
    have hg : (getObj r).run Tryz.prog w = .ok (.map es clock) w := by simp [getObj, Sem.run, hb]
    have hc := hk.chk a es.isEmpty w
    have hf := findKey_ok hk a es.toList m w he
    have hz0 := zval_ok hte hzv w
    have hfg := mfind_get a m 0
    simp only [execOp, ha.ev (x := x) (by rw [evf_look]; exact hx), ha.ev (x := y) (by rw [evf_look]; exact hy), Instr.lookup, Sem.run_bind, hu, Result.andThen, hg, hc, hf, Sem.run_pure]
    cases hm : mfind a m 0 with
    | none =>
      rw [hm] at hfg
      simp only [Option.map_none, Sem.run_bind, hz0, Result.andThen, Sem.run_pure, Bool.false_eq_true, if_false]
      rw [← ho, ← hfg]; rfl
    | some q =>
      rw [hm] at hfg
      simp only [Option.map_some, Bool.false_eq_true, if_false]
      rw [← ho, ← hfg]; rfl
end
theorem eqBi2 (a b : Bi) : eqC eqS 20 31 a.v b.v = some (decide (a = b)) := by
  rw [show eqC eqS 20 31 a.v b.v = some ((a.mkr.toList == b.mkr.toList) && ((a.nu == b.nu) && true)) from rfl]
  congr 1
  obtain ⟨a1, a2⟩ := a
  obtain ⟨b1, b2⟩ := b
  simp only [beqSw, beqIw, Bi.mk.injEq]
  rw [Bool.eq_iff_iff]; simp
theorem key_bi : KeyOK 31 Bi.v where
  eq a b w := equal_ok (t := 31) (x := Bi.v a) (y := Bi.v b) (eqBi2 a b) w
  chk a em w := ckC_ok eqS_ok em 20 10000 _ _ w (by omega) rfl
  bits a := by simp [Bi.v, Instr.sameBits, beq_toListBytes]
  now := ⟨_, rfl, fun a b => .inl rfl⟩
def blv (u : Bool) : Value := .bool u
def svf (s : ByteArray) : List Value := [.string s]
theorem makers27_ok : Enters 12 ∧ Spec Tryz.prog 12 #[] [] []
    ⟨Nat, fun b => .slice (some ⟨b, 0, none⟩) 3 3, fun _ => True, fun _ => [], fun b => [Ax 29 svf b [o1, mk2, mk3] ([], (0, 0))]⟩ := by
  refine ⟨enters_of Tryz.func12 (by kernel_rfl) rfl, spec_of (vs := []) Tryz.func12 rfl Tryz.ntmps12 rfl fun G w hp => ?_⟩
  repeat' (first | refine l_run ?_ | refine l_nil ?_ | refine l_one ?_ | refine k_reg ?_ | refine l_ld ?_ | refine l_ldF ?_ | refine l_st ?_ | refine l_al (fun b => ?_) | refine l_bs (fun b => ?_) | refine k_condT ?_ | refine k_condF ?_ | refine k_brk ?_ | (refine l_split (fun hc => ?_) (fun hc => ?_) <;> (try simp at hc)) | (refine k_cond (fun hc => ?_) (fun hc => ?_) <;> (try simp at hc)))
  exact k_ret b rfl trivial
theorem makers_get {j : Nat} (h : j < 3) : ([o1, mk2, mk3] : List ByteArray)[j]? = some (mk27 j) := by
  match j, h with
  | 0, _ => rfl
  | 1, _ => rfl
  | 2, _ => rfl

set_option maxHeartbeats 4000000 in
theorem lawIBirths_ok (o : Option Addr) (cap : Nat) (es : List UInt8) (hl : es.length ≤ 1099511627776) : Enters 3 ∧ Spec Tryz.prog 3 #[.slice o es.length cap] [Sl 5 bf o cap es, Usg] [] (RetV (.bool true)) := by
  refine ⟨enters_of Tryz.func3 (by kernel_rfl) rfl, spec_of (vs := [_]) Tryz.func3 rfl Tryz.ntmps3 rfl fun G w hp => ?_⟩
  repeat' (first | refine l_run ?_ | refine l_nil ?_ | refine l_one ?_ | refine k_reg ?_ | refine l_ld ?_ | refine l_ldF ?_ | refine l_st ?_ | refine l_al (fun b => ?_) | refine l_bs (fun b => ?_) | refine k_condT ?_ | refine k_condF ?_ | refine k_brk ?_ | refine r_run ?_ | refine r_one ?_ | refine r_ld ?_ | refine r_ldF ?_ | refine r_ldN ?_ | refine r_al (fun b => ?_) | refine r_bs (fun b => ?_) | refine r_st ?_ | refine r_end ?_ | refine l_call (stateNew_ok) (fun _ _ => ?_) | refine l_call0 (stateNew_ok) (fun _ _ => ?_) | refine r_call (stateNew_ok) (fun _ _ => ?_) | refine l_call (viewNew_ok _) (fun _ _ => ?_) | refine l_call0 (viewNew_ok _) (fun _ _ => ?_) | refine r_call (viewNew_ok _) (fun _ _ => ?_) | refine l_mkm (K := Bi.v) (kt := 31) (et := 4) key_bi blv (fun r => ?_) | (refine l_split (fun hc => ?_) (fun hc => ?_) <;> (try simp at hc)) | (refine r_split (fun hc => ?_) (fun hc => ?_) <;> (try simp at hc)) | refine k_draw 9 [] [(0, 0), (1, 0), (2, 0), (3, 0), (5, 0), (8, 0), (9, 0), (10, 0), (11, 0), (4, 4), (6, 0), (7, 0), (12, 0), (13, 0), (14, 0), (15, 0), (16, 0), (17, 0), (18, 4), (19, 0)] [] ?_ | (refine k_cond (fun hc => ?_) (fun hc => ?_) <;> (try simp at hc)))
  rename_i s0 _ v0 _
  refine k_lp (X := { q : Nat × List Ch × List (Nm × Ch) × List Int × List (Bi × Bool) // (q.1 ≤ 30 ∧ q.1 ≤ es.length) ∧ BI q.1 q.2.1 q.2.2.2.1 q.2.2.2.2 }) (fun q => [(0, .slice o es.length cap), (3, .pointer (some ⟨v0, 0, none⟩)), (4, .slice (some ⟨b, 0, none⟩) 3 3), (5, .map (some r)), (6, .int .i64 (q.1.1 : Int))]) (fun _ => [Sl 5 bf o cap es, St (some ⟨s0, 0, none⟩) [], Usg]) (fun q => [Vw v0 (some ⟨s0, 0, none⟩) q.1.2.2.1 q.1.2.1, Ax 3 zf b q.1.2.2.2.1 ([], (0, 0)), Mp Bi.v blv r q.1.2.2.2.2]) (fun q => 31 - q.1.1) ⟨(0, [], [], [0, 0, 0], []), ⟨by omega, by omega⟩, BI.init⟩ ⟨rfl, rfl, rfl, rfl, rfl, trivial⟩ ?_
  rintro ⟨⟨i, cs, rs, ns, m⟩, ⟨hi1, hi2⟩, hB⟩
  dsimp only at hi1 hi2 hB ⊢
  by_cases hlt : i < es.length ∧ i < 30
  · obtain ⟨c, hgt⟩ : ∃ c, es[i]? = some c := ⟨_, List.getElem?_eq_getElem hlt.1⟩
    have hk3 : c.toNat % 3 < 3 := Nat.mod_lt _ (by decide)
    have hch : (c.toNat : Int).tmod 3 = ((c.toNat % 3 : Nat) : Int) := by rw [Int.tmod_eq_emod_of_nonneg (Int.natCast_nonneg _)]; exact (Int.natCast_emod c.toNat 3).symm
    obtain ⟨z, hz⟩ : ∃ z, ns[c.toNat % 3]? = some z := ⟨_, List.getElem?_eq_getElem (by rw [hB.len]; exact hk3)⟩
    generalize c.toNat % 3 = k at *
    have w1 : IntKind.i64.wrap (k : Int) = (k : Int) := wrapi (by omega) (by omega)
    obtain ⟨g1, g2⟩ := hB.made (by omega) hz
    obtain ⟨e1, e2⟩ := hB.step (by omega) hz
    have hg := hB.g k z hz
    have w2 : IntKind.i64.wrap (z + 1) = z + 1 := wrapi (by omega) (by omega)
    have n2 := make_ok v0 (some ⟨s0, 0, none⟩) [] rs cs (mk27 k) ndF (by have := mk27_size k; omega) g1 (by have := hB.cl; omega)
    rw [e1] at n2
    have hfr := hB.fresh hz hk3
    have hnx := hB.next (by omega) hz hk3 true
    generalize mkC [] cs (mk27 k) ndF = cs2 at *
    generalize mkR [] rs cs (mk27 k) ndF = rs2 at *
    repeat' (first | refine r_sneq (b := true) ?_ (he := eqBi ⟨mk27 k, z⟩) | refine l_run ?_ | refine l_nil ?_ | refine l_one ?_ | refine k_reg ?_ | refine l_ld ?_ | refine l_ldF ?_ | refine l_st ?_ | refine l_al (fun b => ?_) | refine l_bs (fun b => ?_) | refine k_condT ?_ | refine k_condF ?_ | refine r_run ?_ | refine r_one ?_ | refine r_ld ?_ | refine r_ldF ?_ | refine r_ldN ?_ | refine r_al (fun b => ?_) | refine r_bs (fun b => ?_) | refine r_st ?_ | refine r_end ?_ | refine l_call (makers27_ok) (fun _ _ => ?_) | refine l_call0 (makers27_ok) (fun _ _ => ?_) | refine r_call (makers27_ok) (fun _ _ => ?_) | refine l_call (n2) (fun _ _ => ?_) | refine l_call0 (n2) (fun _ _ => ?_) | refine r_call (n2) (fun _ _ => ?_) | rw [hch] | rw [w1] | rw [w2] | refine l_ixe i c hgt (fun b off => ?_) | refine l_ldC ?_ | refine l_ixS (m := 3) k hk3 ?_ | refine l_ldE 1 k 0 (makers_get hk3) ?_ | refine l_ldE 1 k 0 hz ?_ | refine l_stE 1 k 0 (z + 1) hz (.inl rfl) ?_ | refine r_ixP (m := 3) k hk3 ?_ | refine r_ldEN 1 k 0 (makers_get hk3) ?_ | refine r_ldE 1 k 0 hz ?_ | refine r_mgetF key_bi ⟨mk27 k, z⟩ none hfr ?_ | refine l_mset key_bi ⟨mk27 k, z⟩ true ?_ | (refine l_split (fun hc => ?_) (fun hc => ?_) <;> (try simp at hc) <;> (try omega)) | (refine r_split (fun hc => ?_) (fun hc => ?_) <;> (try simp at hc) <;> (try omega)) | refine k_draw 9 [] [(0, 0), (1, 0), (2, 0), (3, 0), (5, 0), (8, 0), (9, 0), (10, 0), (11, 0), (4, 4), (6, 0), (7, 3), (12, 0), (13, 0), (14, 0), (15, 0), (16, 0), (17, 0), (18, 0), (19, 0)] [] ?_ | (refine k_cond (fun hc => ?_) (fun hc => ?_) <;> (try simp at hc) <;> (try omega)))
    rw [wrapi (z := (i : Int) + 1) (by omega) (by omega)]
    exact k_next ⟨(i + 1, cs2, rs2, ns.set k (z + 1), mset ⟨mk27 k, z⟩ true m), ⟨by dsimp only; omega, by dsimp only; omega⟩, hnx⟩ (by show 31 - (i + 1) < 31 - i; omega) ⟨rfl, rfl, rfl, rfl, rfl, trivial⟩
  · repeat' (first | refine l_run ?_ | refine l_nil ?_ | refine l_one ?_ | refine k_reg ?_ | refine l_ld ?_ | refine l_ldF ?_ | refine l_st ?_ | refine l_al (fun b => ?_) | refine l_bs (fun b => ?_) | refine k_condT ?_ | refine k_condF ?_ | refine k_brk ?_ | refine r_run ?_ | refine r_one ?_ | refine r_ld ?_ | refine r_ldF ?_ | refine r_ldN ?_ | refine r_al (fun b => ?_) | refine r_bs (fun b => ?_) | refine r_st ?_ | refine r_end ?_ | refine l_call (known27_ok) (fun _ _ => ?_) | refine l_call0 (known27_ok) (fun _ _ => ?_) | refine r_call (known27_ok) (fun _ _ => ?_) | (refine l_split (fun hc => ?_) (fun hc => ?_) <;> (try simp at hc) <;> (try omega)) | (refine r_split (fun hc => ?_) (fun hc => ?_) <;> (try simp at hc) <;> (try omega)) | refine k_draw 9 [] [(0, 0), (1, 0), (2, 0), (3, 0), (5, 0), (8, 0), (9, 0), (10, 0), (11, 0), (4, 4), (6, 0), (7, 0), (12, 0), (13, 0), (14, 0), (15, 0), (16, 0), (17, 0), (18, 4), (19, 0)] [] ?_ | (refine k_cond (fun hc => ?_) (fun hc => ?_) <;> (try simp at hc) <;> (try omega)))
    all_goals exact k_ret () rfl trivial
end Go.Proofs.YtgciahedpaencaaGreatDoor
