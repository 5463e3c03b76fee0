/-
  Contracts of a process's memory: Changes, Has, Pages, Page.
  Conditions: those that each theorem states.
-/
import Derived.Test.YtgaipgbgppdfeaaGreatDoorSpc5
set_option maxRecDepth 10000
namespace Go.Proofs.YtgaipgbgppdfeaaGreatDoor
open Go.RowKit

theorem cutF_take {β : Type} : ∀ (l : List Value) (o m : Nat) (k : List Value → Option β), o + m ≤ l.length → cutF l o m k = k ((l.drop o).take m)
  | l, o, 0, k, _ => by unfold cutF; simp
  | [], o, m + 1, k, h => by simp at h
  | x :: l, 0, m + 1, k, h => by
    rw [cutF, cutF_take l 0 m _ (by simp at h ⊢; omega)]; simp
  | x :: l, o + 1, m + 1, k, h => by
    rw [cutF, cutF_take l o (m + 1) k (by simp at h ⊢; omega)]; simp
section
variable {n : Nat} {C : Cx} {Q : Exit → Act → World → Prop} {E E' : List (Nat × Value)} {F F' F1 Fs F0 : List Pf} {R R' R0 Rs N N' A : List HP} {k k' : List Fr} {ops l : List Oper} {L L' : List (Nat × Nat)} {Tl : List Nat}
  {i d b off : Nat} {t ty0 : TypeId} {x y : Operand} {pos : String} {aft : Array Edge} {gd : Option (Nat × Bool)} {v : Value}
/-- A whole array out of an owned block of single cells. -/
theorem l_ldAr {T T1 m : Nat} {es : List Value} {rs : TRow} (xs : List Value) (hxs : (es.drop off).take m = xs) (hle : off + m ≤ es.length) (nx : Wl n C ops.toArray k Q l ((d, .agg xs.toArray) :: E) F R) (hw : wantL ops E ⟨some d, .load t x, ty0, pos, aft, gd⟩ = some true := by rfl) (hn : Nat.blt d n = true := by rfl)
    (hx : ev E x = some (.pointer (some ⟨b, off, none⟩)) := by rfl) (hs : Sel (Ar T cf b es) R R0 := by (repeat (first | exact Sel.here | apply Sel.there)); first | done | fail) (hts : lookT tab t = some rs := by rfl) (hrs : rs.k = .arr m T1 := by rfl) (hsz : rs.size = m := by rfl) :
    Wl n C ops.toArray k Q (⟨some d, .load t x, ty0, pos, aft, gd⟩ :: l) E F R :=
  wl_op (fun t ht => by cases ht; exact Nat.le_of_ble_eq_true hn) (fun c hc => by cases hc) hw fun a w ha hsat => by
    have hfl : es.flatMap cf = es := by simp [cf]
    have hv : ldv t (es.flatMap cf).toArray.toList off = some (.agg xs.toArray) := by
      rw [List.toList_toArray, hfl]
      unfold ldv
      rw [hts]
      obtain ⟨k0, s0, b0, z0⟩ := rs
      dsimp only at hrs hsz
      subst hrs hsz
      dsimp only
      rw [cutF_take _ _ _ _ hle, hxs]
    have hr := ldv_ok (hsat.pt (show Sel (Pt b (.cells (es.flatMap cf).toArray T (0, 0))) R R0 from hs)) hv
    unfold OpRes
    simp only [execOp, Instr.loadAt, ha.ev (by rw [evf_look]; exact hx), Instr.sureAddr, Sem.run_bind, Sem.run_pure, Result.andThen, hr]
    exact fun a' ha' => nx a' w ha' hsat
/-- An element of an array's value. -/
theorem l_aixV {cs : Array Value} {kd : IntKind} {m T : Nat} {z : Int} {rs tr : TRow} (j : Nat) (v : Value) (hv : cs[j]? = some v) (nx : Wl n C ops.toArray k Q l ((d, v) :: E) F R) (hw : wantL ops E ⟨some d, .index t x y, ty0, pos, aft, gd⟩ = some true := by rfl) (hn : Nat.blt d n = true := by rfl) (hx : ev E x = some (.agg cs) := by rfl) (hy : ev E y = some (.int kd z) := by rfl)
    (hts : lookT tab t = some rs := by rfl) (hrs : rs.k = .arr m T := by rfl) (hT : lookT tab T = some tr := by rfl) (hsz : tr.size = 1 := by rfl) (hag : tr.k.isAgg = false := by rfl) (hot : tr.k ≠ .other := by simp) (hm : cs.size = m := by rfl) (hz : z = (j : Int) := by first | rfl | omega) : Wl n C ops.toArray k Q (⟨some d, .index t x y, ty0, pos, aft, gd⟩ :: l) E F R :=
  l_q (fun a w ha => by
    subst hz
    have hlt : j < m := by rw [← hm]; exact (Array.getElem?_eq_some_iff.1 hv).1
    obtain ⟨d1, hd1, hk1⟩ := tab_ok.und hts
    rw [hrs] at hk1
    have hu1 : (underlying t).run Tryz.prog w = .ok (.array m T) w := by
      cases d1 <;> simp [chkKind] at hk1
      obtain ⟨rfl, rfl⟩ := hk1
      simp [underlying, hd1, go_sem]
    have hs1 := tab_ok.sizeOf hT w
    rw [hsz] at hs1
    have hia := tab_ok.isAgg hT hot w
    rw [hag] at hia
    have hp : (part T cs j).run Tryz.prog w = .ok v w := by
      unfold part
      simp only [Sem.run_bind, hia, Result.andThen, Bool.false_eq_true, if_false, hv, Sem.run_pure]
    have hr : (Instr.index t (.agg cs) (.int kd (j : Int))).run Tryz.prog w = .ok v w := by
      unfold Instr.index
      simp only [asIntOf, Sem.run_bind, Sem.run_pure, Result.andThen, hu1]
      have hc : (0 : Int) ≤ (j : Int) ∧ (j : Int) < ((m : Nat) : Int) := ⟨by omega, by omega⟩
      rw [if_pos hc]
      simp only [Sem.run_bind, hs1, Result.andThen, Int.toNat_natCast, Nat.mul_one]
      exact hp
    simp only [execOp, ha.ev (x := x) (by rw [evf_look]; exact hx), ha.ev (x := y) (by rw [evf_look]; exact hy), Sem.run_bind, hr, Result.andThen, Sem.run_pure]) nx (by intro c h; cases h) hw hn
/-- A page's block is put back as it was. -/
theorem k_hdZ {M : Nat → Pg} {bl : Nat → Nat} {j : Nat} {bs : List UInt8} {c : Bool} (hi : j < 64) (hm : M j = .h bs c) (t : Wk n C k Q E F (Hd M bl :: R0)) (hs : Sels [Hld (bl j) bs, HdX j M bl] R R0 := by (repeat (first | exact Sels.nil | exact Sel.here | apply Sel.there | apply Sels.cons)); first | done | fail) : Wk n C k Q E F R :=
  k_shut (fun h hh => (hd_split hi).2 (by rw [hm]; exact hh)) t hs
end
section
variable {n : Nat} {C : Cx} {Q : Exit → Act → World → Prop} {E E' : List (Nat × Value)} {F F' : List Pf} {R R' R0 : List HP} {k k' : List Fr} {ops l : List Oper}
theorem l_hd {M : Nat → Pg} {bl : Nat → Nat} {i : Nat} {bs : List UInt8} {c : Bool} (hi : i < 64) (hm : M i = .h bs c) (t : Wl n C ops.toArray k Q l E F (Hld (bl i) bs :: HdX i M bl :: R0)) (hs : Sel (Hd M bl) R R0 := by (repeat (first | exact Sel.here | apply Sel.there)); first | done | fail) : Wl n C ops.toArray k Q l E F R :=
  l_open (X := Unit) (Lx := fun _ => [Hld (bl i) bs, HdX i M bl]) (p := fun _ => True) hs (fun h hh => ⟨(), trivial, by have := (hd_split hi).1 hh; rw [hm] at this; exact this⟩) (fun _ _ => t)
end
/-- A change of a space: a page and its bytes. -/
structure Sc where
  pg : Nat
  val : ByteArray
def scf (x : Sc) : List Value := [.int .i64 (x.pg : Int), .string x.val, .bool false]
def chO (M : Nat → Pg) (i : Nat) : Option Sc := match M i with
  | .h bs true => some ⟨i, ⟨bs.toArray⟩⟩
  | _ => none
def chLi (M : Nat → Pg) (i : Nat) : List Sc := (List.range i).filterMap (chO M)
theorem chLi_succ (M : Nat → Pg) (i : Nat) : chLi M (i + 1) = chLi M i ++ (chO M i).toList := by
  unfold chLi
  rw [List.range_succ, List.filterMap_append]
  cases h : chO M i <;> simp [h]
theorem chLi_len (M : Nat → Pg) (i : Nat) : (chLi M i).length ≤ i := by
  have := List.length_filterMap_le (chO M) (List.range i)
  rwa [List.length_range] at this
def chgV (M : Nat → Pg) : List Value := (List.range 64).map fun i => .bool (M i).chg
theorem chg_take (fv : Value) (M : Nat → Pg) (ak : Nat → Bool) (bl : Nat → Nat) : ((spcL fv M ak bl).drop 129).take 64 = chgV M := by
  apply List.ext_getElem?
  intro k
  unfold chgV
  rw [List.getElem?_take, List.getElem?_map]
  by_cases hk : k < 64
  · rw [if_pos hk, List.getElem?_drop, spc_ch hk, List.getElem?_range hk]; rfl
  · rw [if_neg hk, List.getElem?_eq_none (by simp; omega)]; rfl
theorem chgV_get {M : Nat → Pg} {i : Nat} (hi : i < 64) : (chgV M).toArray[i]? = some (.bool (M i).chg) := by
  unfold chgV
  rw [List.getElem?_toArray, List.getElem?_map, List.getElem?_range hi]; rfl

set_option maxHeartbeats 2000000 in
theorem changes_ok (bk : Nat) (fv : Value) (M : Nat → Pg) (ak : Nat → Bool) (bl : Nat → Nat) (hall : ∀ i, i < 64 → isH (M i) = true → okP (M i)) :
    Enters 65 ∧ Spec Tryz.prog 65 #[.pointer (some ⟨bk, 0, none⟩)] [] [Ar 138 cf bk (spcL fv M ak bl), Hd M bl]
      ⟨Option Addr × Nat, fun q => .slice q.1 (chLi M 64).length q.2, fun _ => True, fun _ => [], fun q => [Ar 138 cf bk (spcL fv M ak bl), Hd M bl, Row 143 3 q.1 (chLi M 64).length q.2 ((chLi M 64).flatMap scf)]⟩ := by
  have hct := chg_take fv M ak bl
  have hl64 : (chgV M).toArray.size = 64 := by simp [chgV]
  have hle : 0 + (0 + 129) + 64 ≤ (spcL fv M ak bl).length := by rw [spc_len]; omega
  have gpg := fun i (hi : i < 64) => spc_pg (fv := fv) (M := M) (ak := ak) (bl := bl) hi
  obtain ⟨L0, hL0⟩ : ∃ L0, L0 = spcL fv M ak bl := ⟨_, rfl⟩
  rw [← hL0] at hct hle ⊢
  simp only [← hL0] at gpg
  refine ⟨enters_of Tryz.func65 (by kernel_rfl) rfl, spec_of (vs := [_]) Tryz.func65 rfl Tryz.ntmps65 rfl fun G w hp => ?_⟩
  refine k_shut (r := Row 143 3 none 0 0 []) (Lx := []) (fun h _ => row_nil _ _ h) ?_
  repeat' (first | refine l_run ?_ | refine l_nil ?_ | refine l_one ?_ | refine k_reg ?_ | refine l_ld ?_ | refine l_ldF ?_ | refine l_st ?_ | refine l_al (fun b => ?_) | refine l_bs (fun b => ?_) | refine k_condT ?_ | refine k_condF ?_ | refine l_qS ?_ | refine l_ldAr (chgV M) hct hle ?_ | (refine l_split (fun hc => ?_) (fun hc => ?_) <;> (try simp at hc)) | (refine k_cond (fun hc => ?_) (fun hc => ?_) <;> (try simp at hc)))
  refine k_lp (X := { t : Nat × Option Addr × Nat // t.1 ≤ 64 }) (fun t => [(0, .pointer (some ⟨bk, 0, none⟩)), (3, .slice t.1.2.1 (chLi M t.1.1).length t.1.2.2), (12, .agg (chgV M).toArray), (13, .int .i64 (t.1.1 : Int))]) (fun _ => []) (fun t => [Ar 138 cf bk L0, Hd M bl, Row 143 3 t.1.2.1 (chLi M t.1.1).length t.1.2.2 ((chLi M t.1.1).flatMap scf)]) (fun t => 64 - t.1.1)
    ⟨(0, none, 0), by omega⟩ ⟨rfl, rfl, rfl, rfl, trivial⟩ ?_
  rintro ⟨⟨i, o, cap⟩, hi⟩
  dsimp only at hi ⊢
  have hcl := chLi_len M i
  by_cases hlt : i < 64
  · have wi : IntKind.i64.wrap ((i : Int) + 1) = ((i + 1 : Nat) : Int) := by rw [wrapi (by omega) (by omega)]; omega
    have hs := chLi_succ M i
    have hg := chgV_get (M := M) hlt
    have hp := gpg i hlt
    have hok := hall i hlt
    have o4 : 0 + (0 + 193) + i = (193 + i) * 1 + 0 := by omega
    by_cases hc : (M i).chg = true
    · cases hm : M i with
      | h bs c =>
        rw [hm] at hc hg hp hok
        obtain rfl : c = true := hc
        have hbs : bs.length = 64 := hok rfl
        have hco : chO M i = some ⟨i, ⟨bs.toArray⟩⟩ := by unfold chO; rw [hm]
        rw [hco] at hs
        refine k_hd (M := M) (bl := bl) hlt hm ?_
        generalize chLi M i = pre at *
        repeat' (first | refine l_run ?_ | refine l_nil ?_ | refine l_one ?_ | refine k_reg ?_ | refine l_ld ?_ | refine l_ldF ?_ | refine l_st ?_ | refine l_al (fun b => ?_) | refine l_bs (fun b => ?_) | refine k_condT ?_ | refine k_condF ?_ | refine l_qS ?_ | refine l_aixV i (.bool true) hg ?_ (hm := hl64) | refine l_ixA1 (m := 64) i hlt ?_ | refine l_ldA 1 (193 + i) 0 hp ?_ (ho := o4) | refine l_sla0 ?_ | refine l_b2sH ?_ hbs.symm | refine l_app1 (fun o' cap' => ?_) | rw [wi] | (refine l_split (fun hc => ?_) (fun hc => ?_) <;> (try simp at hc) <;> (try omega)) | (refine k_cond (fun hc => ?_) (fun hc => ?_) <;> (try simp at hc) <;> (try omega)))
        refine k_hdZ (M := M) (bl := bl) hlt hm ?_
        refine k_rowc (T := 143) (sz := 3) (o := o') (cap := cap') (m := pre.length + 1) (m' := (chLi M (i + 1)).length) (pre.flatMap scf ++ scf ⟨i, ⟨bs.toArray⟩⟩) ((chLi M (i + 1)).flatMap scf) (by rw [hs]; simp) (by rw [hs]; simp) ?_
        exact k_next ⟨(i + 1, o', cap'), by omega⟩ (by show 64 - (i + 1) < 64 - i; omega) ⟨rfl, (by show look _ _ = some (Value.slice o' (chLi M (i + 1)).length cap'); rw [hs, List.length_append]; rfl), rfl, rfl, trivial⟩
      | _ => rw [hm] at hc; cases hc
    · have hcf : (M i).chg = false := by simpa using hc
      have hco : chO M i = none := by
        unfold chO
        cases hm : M i with
        | h bs c =>
          rw [hm] at hcf
          obtain rfl : c = false := hcf
          rfl
        | _ => rfl
      rw [hco, Option.toList_none, List.append_nil] at hs
      rw [hcf] at hg
      repeat' (first | refine l_run ?_ | refine l_nil ?_ | refine l_one ?_ | refine k_reg ?_ | refine l_ld ?_ | refine l_ldF ?_ | refine l_st ?_ | refine l_al (fun b => ?_) | refine l_bs (fun b => ?_) | refine k_condT ?_ | refine k_condF ?_ | refine l_qS ?_ | refine l_aixV i (.bool false) hg ?_ (hm := hl64) | rw [wi] | (refine l_split (fun hc => ?_) (fun hc => ?_) <;> (try simp at hc) <;> (try omega)) | (refine k_cond (fun hc => ?_) (fun hc => ?_) <;> (try simp at hc) <;> (try omega)))
      rw [← hs]
      exact k_next ⟨(i + 1, o, cap), by omega⟩ (by show 64 - (i + 1) < 64 - i; omega) ⟨rfl, rfl, rfl, rfl, trivial⟩
  · obtain rfl : i = 64 := by omega
    repeat' (first | refine l_run ?_ | refine l_nil ?_ | refine l_one ?_ | refine k_reg ?_ | refine l_ld ?_ | refine l_ldF ?_ | refine l_st ?_ | refine l_al (fun b => ?_) | refine l_bs (fun b => ?_) | refine k_condT ?_ | refine k_condF ?_ | refine k_brk ?_ | (refine l_split (fun hc => ?_) (fun hc => ?_) <;> (try simp at hc) <;> (try omega)) | (refine k_cond (fun hc => ?_) (fun hc => ?_) <;> (try simp at hc) <;> (try omega)))
    subst hL0
    exact k_ret (o, cap) rfl trivial

theorem isPage_ok (z : Int) : Enters 104 ∧ Spec Tryz.prog 104 #[.int .i64 z] [] [] (RetV (.bool (decide (0 ≤ z) && decide (z < 64)))) := by
  refine ⟨enters_of Tryz.func104 (by kernel_rfl) rfl, spec_of (vs := [_]) Tryz.func104 rfl Tryz.ntmps104 rfl fun G w hp => ?_⟩
  repeat' (first | refine l_run ?_ | refine l_nil ?_ | refine l_one ?_ | refine k_reg ?_ | refine l_ld ?_ | refine l_ldF ?_ | refine l_st ?_ | refine l_al (fun b => ?_) | refine l_bs (fun b => ?_) | refine k_condT ?_ | refine k_condF ?_ | refine k_brk ?_ | (refine l_split (fun hc => ?_) (fun hc => ?_) <;> (try simp at hc)) | (refine k_cond (fun hc => ?_) (fun hc => ?_) <;> (try simp at hc)))
  all_goals refine k_ret () ?_ trivial
  all_goals first | (simp_all [RetV, resV]; done) | (simp_all [RetV, resV]; omega)
section
variable (s : Sr) (ps : Option Addr) (es : Al) (cs : List Ch) (hsp : s.p.sp.size ≤ 1000)
include hsp
theorem has_ok (bk : Nat) (M : Nat → Pg) (q0 : (Nat → Bool) × (Nat → Nat) × List (Nm × Ch)) (i : Nat) (hi : i < 64) :
    Enters 122 ∧ Spec Tryz.prog 122 #[.pointer (some ⟨bk, 0, none⟩), .int .i64 (i : Int)] (s.fs ps es) (MmL s bk ps cs M q0)
    ⟨(Nat → Bool) × (Nat → Nat) × List (Nm × Ch), fun _ => .bool (isH (ndM (srP es cs s) M i i)), fun _ => True, fun _ => [], fun q => MmL s bk ps cs (ndM (srP es cs s) M i) q⟩ := by
  obtain ⟨ak, bl, rs⟩ := q0
  have n1 := need_ok s ps es rs cs hsp bk M ak bl i hi
  have n2 := isPage_ok (i : Int)
  have e2 : (decide (0 ≤ (i : Int)) && decide ((i : Int) < 64)) = true := by simp; omega
  rw [e2] at n2
  generalize srP es cs s = src at *
  cases hp : ndM src M i i with
  | h bs c =>
    simp only [hp, pgv] at n1
    dsimp only [Sr.fs] at *
    refine ⟨enters_of Tryz.func122 (by kernel_rfl) rfl, spec_of (vs := [_, _]) Tryz.func122 rfl Tryz.ntmps122 rfl fun G w hp => ?_⟩
    repeat' (first | refine l_run ?_ | refine l_nil ?_ | refine l_one ?_ | refine k_reg ?_ | refine l_ld ?_ | refine l_ldF ?_ | refine l_st ?_ | refine l_al (fun b => ?_) | refine l_bs (fun b => ?_) | refine k_condT ?_ | refine k_condF ?_ | refine k_brk ?_ | refine l_call (n1) (fun _ _ => ?_) | refine l_call0 (n1) (fun _ _ => ?_) | refine l_call (n2) (fun _ _ => ?_) | refine l_call0 (n2) (fun _ _ => ?_) | (refine l_split (fun hc => ?_) (fun hc => ?_) <;> (try simp at hc) <;> (try omega)) | (refine k_cond (fun hc => ?_) (fun hc => ?_) <;> (try simp at hc) <;> (try omega)))
    rename_i q _
    exact k_ret q rfl trivial
  | _ =>
    simp only [hp, pgv] at n1
    dsimp only [Sr.fs] at *
    refine ⟨enters_of Tryz.func122 (by kernel_rfl) rfl, spec_of (vs := [_, _]) Tryz.func122 rfl Tryz.ntmps122 rfl fun G w hp => ?_⟩
    repeat' (first | refine l_run ?_ | refine l_nil ?_ | refine l_one ?_ | refine k_reg ?_ | refine l_ld ?_ | refine l_ldF ?_ | refine l_st ?_ | refine l_al (fun b => ?_) | refine l_bs (fun b => ?_) | refine k_condT ?_ | refine k_condF ?_ | refine k_brk ?_ | refine l_call (n1) (fun _ _ => ?_) | refine l_call0 (n1) (fun _ _ => ?_) | refine l_call (n2) (fun _ _ => ?_) | refine l_call0 (n2) (fun _ _ => ?_) | (refine l_split (fun hc => ?_) (fun hc => ?_) <;> (try simp at hc) <;> (try omega)) | (refine k_cond (fun hc => ?_) (fun hc => ?_) <;> (try simp at hc) <;> (try omega)))
    rename_i q _
    exact k_ret q rfl trivial
theorem page_ok (bk : Nat) (M : Nat → Pg) (q0 : (Nat → Bool) × (Nat → Nat) × List (Nm × Ch)) (i : Nat) (hi : i < 64) (bs : List UInt8) (c : Bool) (hm : ndM (srP es cs s) M i i = .h bs c) (hbs : bs.length = 64) :
    Enters 52 ∧ Spec Tryz.prog 52 #[.pointer (some ⟨bk, 0, none⟩), .int .i64 (i : Int)] (s.fs ps es) (MmL s bk ps cs M q0)
    ⟨(Nat → Bool) × (Nat → Nat) × List (Nm × Ch), fun _ => .tuple #[.string ⟨bs.toArray⟩, .int .i64 0], fun _ => True, fun _ => [], fun q => MmL s bk ps cs (ndM (srP es cs s) M i) q⟩ := by
  obtain ⟨ak, bl, rs⟩ := q0
  have n1 := need_ok s ps es rs cs hsp bk M ak bl i hi
  have n2 := isPage_ok (i : Int)
  have e2 : (decide (0 ≤ (i : Int)) && decide ((i : Int) < 64)) = true := by simp; omega
  rw [e2] at n2
  generalize srP es cs s = src at *
  simp only [hm, pgv] at n1
  dsimp only [Sr.fs] at *
  refine ⟨enters_of Tryz.func52 (by kernel_rfl) rfl, spec_of (vs := [_, _]) Tryz.func52 rfl Tryz.ntmps52 rfl fun G w hp => ?_⟩
  repeat' (first | refine l_run ?_ | refine l_nil ?_ | refine l_one ?_ | refine k_reg ?_ | refine l_ld ?_ | refine l_ldF ?_ | refine l_st ?_ | refine l_al (fun b => ?_) | refine l_bs (fun b => ?_) | refine k_condT ?_ | refine k_condF ?_ | refine k_brk ?_ | refine l_call (n1) (fun _ _ => ?_) | refine l_call0 (n1) (fun _ _ => ?_) | refine l_call (n2) (fun _ _ => ?_) | refine l_call0 (n2) (fun _ _ => ?_) | (refine l_split (fun hc => ?_) (fun hc => ?_) <;> (try simp at hc) <;> (try omega)) | (refine k_cond (fun hc => ?_) (fun hc => ?_) <;> (try simp at hc) <;> (try omega)))
  rename_i q _
  obtain ⟨ak2, bl2, rs2⟩ := q
  dsimp only
  refine l_hd (M := ndM src M i) (bl := bl2) hi hm ?_
  unfold Hld
  repeat' (first | refine l_run ?_ | refine l_nil ?_ | refine l_one ?_ | refine k_reg ?_ | refine l_ld ?_ | refine l_ldF ?_ | refine l_st ?_ | refine l_al (fun b => ?_) | refine l_bs (fun b => ?_) | refine k_condT ?_ | refine k_condF ?_ | refine k_brk ?_ | refine l_sla0 ?_ | refine l_b2sH ?_ hbs.symm | (refine l_split (fun hc => ?_) (fun hc => ?_) <;> (try simp at hc) <;> (try omega)) | (refine k_cond (fun hc => ?_) (fun hc => ?_) <;> (try simp at hc) <;> (try omega)))
  refine k_hdZ (M := ndM src M i) (bl := bl2) (j := i) hi hm ?_
  exact k_ret (ak2, bl2, rs2) rfl trivial
end
end Go.Proofs.YtgaipgbgppdfeaaGreatDoor
