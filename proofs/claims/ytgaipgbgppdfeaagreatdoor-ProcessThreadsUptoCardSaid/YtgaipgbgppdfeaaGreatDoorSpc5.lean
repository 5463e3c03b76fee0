/-
  Contracts of a process's memory: own, Store.
  Conditions: those that each theorem states.
-/
import Derived.Test.YtgaipgbgppdfeaaGreatDoorSpc4
import Derived.Test.YtgaipgbgppdfeaaGreatDoorME
set_option maxRecDepth 10000
namespace Go.Proofs.YtgaipgbgppdfeaaGreatDoor
open Go.RowKit

section
variable {n : Nat} {C : Cx} {Q : Exit → Act → World → Prop} {E E' : List (Nat × Value)} {F F' F1 Fs F0 : List Pf} {R R' R0 Rs N N' A : List HP} {k k' : List Fr} {ops l : List Oper} {L L' : List (Nat × Nat)} {Tl : List Nat}
  {i d b off : Nat} {t ty0 : TypeId} {x y : Operand} {pos : String} {aft : Array Edge} {gd : Option (Nat × Bool)} {v : Value}
/-- A load out of what lies behind the elements of an owned slice. -/
theorem l_ldQ {α : Type} {T : Nat} {f : α → List Value} {es : List α} {q : List Value × (Nat × Nat)} (sz o : Nat) (nx : Wl n C ops.toArray k Q l ((d, v) :: E) F R) (hf : ∀ e, (f e).length = sz) (ho : off = es.length * sz + o) (hv : ldv t q.1 o = some v) (hw : wantL ops E ⟨some d, .load t x, ty0, pos, aft, gd⟩ = some true := by rfl) (hn : Nat.blt d n = true := by rfl)
    (hx : ev E x = some (.pointer (some ⟨b, off, none⟩)) := by rfl) (hs : Sel (Ax T f b es q) R R0 := by (repeat (first | exact Sel.here | apply Sel.there)); first | done | fail) :
    Wl n C ops.toArray k Q (⟨some d, .load t x, ty0, pos, aft, gd⟩ :: l) E F R :=
  wl_op (fun t ht => by cases ht; exact Nat.le_of_ble_eq_true hn) (fun c hc => by cases hc) hw fun a w ha hsat => by
    have hv' : ldv t (es.flatMap f ++ q.1).toArray.toList off = some v := by
      rw [ho, ← flat_len hf es]
      have h := ldv_in (pre := es.flatMap f) (post := []) hv
      rwa [List.append_nil] at h
    have hr := ldv_ok (hsat.pt hs) hv'
    unfold OpRes
    simp only [execOp, Instr.loadAt, ha.ev (by rw [evf_look]; exact hx), Instr.sureAddr, Sem.run_bind, Sem.run_pure, Result.andThen, hr]
    exact fun a' ha' => nx a' w ha' hsat
end

/-- own, where only this space holds the page. -/
theorem own_ok (bk : Nat) (fv : Value) (M : Nat → Pg) (ak : Nat → Bool) (bl : Nat → Nat) (i : Nat) (hi : i < 64) (bs : List UInt8) (c : Bool) (hm : M i = .h bs c) (hbs : bs.length = 64) :
    Enters 63 ∧ Spec Tryz.prog 63 #[.pointer (some ⟨bk, 0, none⟩), .int .i64 (i : Int)] [] [Ar 138 cf bk (spcL fv M ak bl), Hld (bl i) bs]
      ⟨Unit, fun _ => .pointer (some ⟨bl i, 0, none⟩), fun _ => True, fun _ => [], fun _ => [Ar 138 cf bk (spcL fv M ak bl), Hld (bl i) bs]⟩ := by
  have o4 : 0 + (0 + 193) + i = (193 + i) * 1 + 0 := by omega
  have o5 : 0 + (0 + 64) = bs.length * 1 + 0 := by omega
  have g2 := spc_pg (fv := fv) (M := M) (ak := ak) (bl := bl) hi
  rw [hm] at g2
  have hf1 : ∀ e : UInt8, (bf e).length = 1 := fun _ => rfl
  refine ⟨enters_of Tryz.func63 (by kernel_rfl) rfl, spec_of (vs := [_, _]) Tryz.func63 rfl Tryz.ntmps63 rfl fun G w hp => ?_⟩
  repeat' (first | refine l_run ?_ | refine l_nil ?_ | refine l_one ?_ | refine k_reg ?_ | refine l_ld ?_ | refine l_ldF ?_ | refine l_st ?_ | refine l_al (fun b => ?_) | refine l_bs (fun b => ?_) | refine k_condT ?_ | refine k_condF ?_ | refine k_brk ?_ | refine l_qS ?_ | refine l_ixA1 (m := 64) i hi ?_ | refine l_ldA 1 (193 + i) 0 g2 ?_ (ho := o4) | refine l_ldQ (q := ([Value.bool false], (0, 0))) 1 0 ?_ hf1 o5 rfl | (refine l_split (fun hc => ?_) (fun hc => ?_) <;> (try simp at hc) <;> (try omega)) | (refine k_cond (fun hc => ?_) (fun hc => ?_) <;> (try simp at hc) <;> (try omega)))
  exact k_ret () rfl trivial

/-- One byte is stored. -/
def setB (M : Nat → Pg) (k : Nat) (c : UInt8) : Nat → Pg := match M (k / 64) with
  | .h bs _ => up M (k / 64) (.h (bs.set (k % 64) c) true)
  | _ => M
def stM (M : Nat → Pg) (k : Nat) : List UInt8 → (Nat → Pg)
  | [] => M
  | c :: l => stM (setB M k c) (k + 1) l
theorem stM_snoc (c : UInt8) : ∀ (l : List UInt8) (M : Nat → Pg) (k : Nat), stM M k (l ++ [c]) = setB (stM M k l) (k + l.length) c
  | [], M, k => rfl
  | d :: l, M, k => by
    rw [List.cons_append, stM, stM_snoc c l, stM, List.length_cons, Nat.add_right_comm, Nat.add_assoc]
/-- A page that is there, of 64 bytes. -/
def okP : Pg → Prop
  | .h bs _ => bs.length = 64
  | _ => False
theorem setB_ok {M : Nat → Pg} {k j : Nat} {c : UInt8} (h : okP (M j)) : okP (setB M k c j) := by
  unfold setB
  cases hm : M (k / 64) with
  | h bs d =>
    show okP (up M (k / 64) (.h (bs.set (k % 64) c) true) j)
    by_cases hj : j = k / 64
    · subst hj
      rw [up_eq]
      rw [hm] at h
      show (bs.set _ _).length = 64
      rw [List.length_set]; exact h
    · rw [up_ne _ _ hj]; exact h
  | _ => exact h
theorem stM_ok : ∀ (l : List UInt8) {M : Nat → Pg} {k j : Nat}, okP (M j) → okP (stM M k l j)
  | [], _, _, _, h => h
  | _ :: l, _, _, _, h => stM_ok l (setB_ok h)

section
variable {n : Nat} {C : Cx} {Q : Exit → Act → World → Prop} {E : List (Nat × Value)} {F : List Pf} {R R0 : List HP} {k : List Fr}
/-- A page's block is put back, at its place. -/
theorem k_hdS {M : Nat → Pg} {bl : Nat → Nat} {i : Nat} {bs : List UInt8} (c : Bool) (hi : i < 64) (t : Wk n C k Q E F (Hd (up M i (.h bs c)) bl :: R0)) (hs : Sels [Hld (bl i) bs, HdX i M bl] R R0 := by (repeat (first | exact Sels.nil | exact Sel.here | apply Sel.there | apply Sels.cons)); first | done | fail) : Wk n C k Q E F R :=
  k_hd' c hi (by rw [up_id]; exact t) hs
end

set_option maxHeartbeats 4000000 in
/-- The bytes of a text stored where all pages are there. -/
theorem storeL_ok (s : Sr) (ps : Option Addr) (es : Al) (cs : List Ch) (hsp : s.p.sp.size ≤ 1000) (bk : Nat) (M : Nat → Pg) (q0 : (Nat → Bool) × (Nat → Nat) × List (Nm × Ch)) (z : Int) (tx : ByteArray) (htx : tx.size ≤ 1099511627776)
    (hall : ∀ j, isH ((accR (srP es cs s) M z tx.size).1 j) = true → okP ((accR (srP es cs s) M z tx.size).1 j)) :
    Enters 15 ∧ Spec Tryz.prog 15 #[.pointer (some ⟨bk, 0, none⟩), .int .i64 z, .string tx] (s.fs ps es) (MmL s bk ps cs M q0)
    ⟨(Nat → Bool) × (Nat → Nat) × List (Nm × Ch), fun _ => .int .i64 (accR (srP es cs s) M z tx.size).2, fun _ => True, fun _ => [], fun q => MmL s bk ps cs (if (accR (srP es cs s) M z tx.size).2 = 0 then stM (accR (srP es cs s) M z tx.size).1 z.toNat tx.data.toList else (accR (srP es cs s) M z tx.size).1) q⟩ := by
  have n1 := access_ok s ps es cs hsp bk M q0 z tx.size (by omega)
  have hin : tx.size ≠ 0 → (accR (srP es cs s) M z tx.size).2 = 0 → ∃ a : Nat, z = (a : Int) ∧ a + tx.size ≤ 4096 ∧ ∀ k, a ≤ k → k < a + tx.size → isH ((accR (srP es cs s) M z tx.size).1 (k / 64)) = true := fun h0 h1 => by
    unfold accR at h1 ⊢
    rw [if_neg h0] at h1 ⊢
    by_cases h2 : z < 0 ∨ 4096 ≤ z ∨ 4096 - z < tx.size
    · rw [if_pos h2] at h1
      cases h1
    · rw [if_neg h2] at h1 ⊢
      have h3 : (accM (srP es cs s) M (z.toNat / 64) ((z.toNat + tx.size - 1) / 64 + 1 - z.toNat / 64)).2 = true := by
        cases hb : (accM (srP es cs s) M (z.toNat / 64) ((z.toNat + tx.size - 1) / 64 + 1 - z.toNat / 64)).2 with
        | true => rfl
        | false => simp [hb] at h1
      refine ⟨z.toNat, by omega, by omega, fun k k1 k2 => ?_⟩
      have := accM_h h3 (k / 64 - z.toNat / 64) (by omega)
      rwa [show z.toNat / 64 + (k / 64 - z.toNat / 64) = k / 64 by omega] at this
  generalize hr : accR (srP es cs s) M z tx.size = r at *
  obtain ⟨M1, e⟩ := r
  dsimp only at n1 hin hall ⊢
  have hsz : tx.data.toList.length = tx.size := by simp
  by_cases he : e = 0
  rotate_left
  · rw [if_neg he]
    dsimp only [Sr.fs] at *
    refine ⟨enters_of Tryz.func15 (by kernel_rfl) rfl, spec_of (vs := [_, _, _]) Tryz.func15 rfl Tryz.ntmps15 rfl fun G w hp => ?_⟩
    repeat' (first | refine l_run ?_ | refine l_nil ?_ | refine l_one ?_ | refine k_reg ?_ | refine l_ld ?_ | refine l_ldF ?_ | refine l_st ?_ | refine l_al (fun b => ?_) | refine l_bs (fun b => ?_) | refine k_condT ?_ | refine k_condF ?_ | refine k_brk ?_ | refine l_call (n1) (fun _ _ => ?_) | refine l_call0 (n1) (fun _ _ => ?_) | (refine l_split (fun hc => ?_) (fun hc => ?_) <;> (try simp at hc) <;> (try omega)) | (refine k_cond (fun hc => ?_) (fun hc => ?_) <;> (try simp at hc) <;> (try omega)))
    rename_i q _
    exact k_ret q rfl trivial
  subst he
  rw [if_pos rfl]
  refine ⟨enters_of Tryz.func15 (by kernel_rfl) rfl, spec_of (vs := [_, _, _]) Tryz.func15 rfl Tryz.ntmps15 rfl fun G w hp => ?_⟩
  dsimp only [Sr.fs] at n1 ⊢
  repeat' (first | refine l_run ?_ | refine l_nil ?_ | refine l_one ?_ | refine k_reg ?_ | refine l_ld ?_ | refine l_ldF ?_ | refine l_st ?_ | refine l_al (fun b => ?_) | refine l_bs (fun b => ?_) | refine k_condT ?_ | refine k_condF ?_ | refine l_call (n1) (fun _ _ => ?_) | refine l_call0 (n1) (fun _ _ => ?_) | (refine l_split (fun hc => ?_) (fun hc => ?_) <;> (try simp at hc) <;> (try omega)) | (refine k_cond (fun hc => ?_) (fun hc => ?_) <;> (try simp at hc) <;> (try omega)))
  rename_i q _
  obtain ⟨ak, bl, rs⟩ := q
  refine k_lp (X := { i : Nat // i ≤ tx.size }) (fun i => [(0, .pointer (some ⟨bk, 0, none⟩)), (1, .int .i64 z), (2, .string tx), (21, .int .i64 (tx.size : Int)), (22, .int .i64 (i.1 : Int))]) (fun _ => []) (fun i => MmL s bk ps cs (stM M1 z.toNat (tx.data.toList.take i.1)) (ak, bl, rs)) (fun i => tx.size - i.1) ⟨0, Nat.zero_le _⟩ ⟨rfl, rfl, rfl, rfl, rfl, trivial⟩ ?_
  rintro ⟨i, hi⟩
  dsimp only
  by_cases hlt : i < tx.size
  · obtain ⟨a, rfl, ha2, ha3⟩ := hin (by omega) rfl
    rw [show ((a : Int)).toNat = a from rfl]
    have hpg := ha3 (a + i) (by omega) (by omega)
    have hok := stM_ok (tx.data.toList.take i) (k := a) (hall _ hpg)
    obtain ⟨ch, hch⟩ : ∃ ch, tx.data.toList[i]? = some ch := ⟨_, List.getElem?_eq_getElem (by omega)⟩
    have htk : tx.data.toList.take (i + 1) = tx.data.toList.take i ++ [ch] := by rw [List.take_add_one, hch]; rfl
    have hst := stM_snoc ch (tx.data.toList.take i) M1 a
    rw [← htk, List.length_take, Nat.min_eq_left (by omega)] at hst
    generalize stM M1 a (tx.data.toList.take i) = M2 at *
    obtain ⟨p, hp⟩ : ∃ p, p = (a + i) / 64 := ⟨_, rfl⟩
    obtain ⟨o, ho⟩ : ∃ o, o = (a + i) % 64 := ⟨_, rfl⟩
    unfold setB at hst
    rw [← hp] at hst hok
    rw [← ho] at hst
    cases hm : M2 p with
    | h bs d =>
      rw [hm] at hok
      have hbs : bs.length = 64 := hok
      simp only [hm] at hst
      have hp64 : p < 64 := by omega
      have ho64 : o < 64 := by omega
      have w1 : IntKind.i64.wrap ((IntKind.i64.wrap ((a : Int) + (i : Int))).tdiv 64) = (p : Int) := by
        rw [wrapi (z := (a : Int) + i) (by omega) (by omega)]
        have : ((a : Int) + i).tdiv 64 = (p : Int) := by rw [show (a : Int) + i = ((a + i : Nat) : Int) by omega, hp]; exact (Int.ofNat_tdiv _ _).symm
        rw [this, wrapi (by omega) (by omega)]
      have w2 : (IntKind.i64.wrap ((a : Int) + (i : Int))).tmod 64 = (o : Int) := by
        rw [wrapi (z := (a : Int) + i) (by omega) (by omega)]
        rw [show (a : Int) + i = ((a + i : Nat) : Int) by omega, ho]; exact (Int.ofNat_tmod _ _).symm
      have wi : IntKind.i64.wrap ((i : Int) + 1) = ((i + 1 : Nat) : Int) := by rw [wrapi (by omega) (by omega)]; omega
      have n2 := own_ok bk s.fv M2 ak bl p hp64 bs d hm hbs
      obtain ⟨c0, hc0⟩ : ∃ c0, bs[o]? = some c0 := ⟨_, List.getElem?_eq_getElem (by omega)⟩
      refine k_hd (M := M2) (bl := bl) hp64 hm ?_
      unfold Hld at n2
      have g1 := spc_ch (fv := s.fv) (M := M2) (ak := ak) (bl := bl) hp64
      have hmk := spc_mark (fv := s.fv) (ak := ak) (bl := bl) (bs' := bs.set o ch) hp64 hm
      have o1 : 0 + (0 + 129) + p = (129 + p) * 1 + 0 := by omega
      have o2 : 0 + 0 + o * 1 = o * 1 + 0 := by omega
      generalize spcL s.fv M2 ak bl = L0 at *
      repeat' (first | refine l_run ?_ | refine l_nil ?_ | refine l_one ?_ | refine k_reg ?_ | refine l_ld ?_ | refine l_ldF ?_ | refine l_st ?_ | refine l_al (fun b => ?_) | refine l_bs (fun b => ?_) | refine k_condT ?_ | refine k_condF ?_ | refine r_run ?_ | refine r_one ?_ | refine r_ld ?_ | refine r_ldF ?_ | refine r_ldN ?_ | refine r_al (fun b => ?_) | refine r_bs (fun b => ?_) | refine r_st ?_ | refine r_end ?_ | refine l_call (n2) (fun _ _ => ?_) | refine l_call0 (n2) (fun _ _ => ?_) | refine r_call (n2) (fun _ _ => ?_) | rw [w1] | rw [w2] | rw [wi] | refine l_qS ?_ | refine r_six i ch hch ?_ | refine r_ixA (m := 64) o ho64 ?_ | refine r_stE 1 o 0 ch hc0 (.inl rfl) ?_ (ho := o2) | refine l_ixA1 (m := 64) p hp64 ?_ | refine l_stA 1 (129 + p) 0 (.bool true) g1 ?_ (ho := o1) | (refine l_split (fun hc => ?_) (fun hc => ?_) <;> (try simp at hc) <;> (try omega)) | (refine r_split (fun hc => ?_) (fun hc => ?_) <;> (try simp at hc) <;> (try omega)) | refine k_draw 10 [Ar _ _ _ _, Hld _ _] [(0, 0), (1, 0), (3, 0), (4, 0), (5, 0), (6, 0), (7, 0), (8, 0), (9, 0), (2, 4), (10, 0), (11, 0), (12, 0), (13, 4)] [] ?_ | (refine k_cond (fun hc => ?_) (fun hc => ?_) <;> (try simp at hc) <;> (try omega)))
      rw [hmk]
      refine k_hdS (M := M2) (bl := bl) (i := p) (bs := bs.set o ch) true hp64 ?_
      rw [← hst]
      exact k_next ⟨i + 1, by omega⟩ (by show tx.size - (i + 1) < tx.size - i; omega) ⟨rfl, rfl, rfl, rfl, rfl, trivial⟩
    | _ => rw [hm] at hok; cases hok
  · obtain rfl : i = tx.size := by omega
    have et : stM M1 z.toNat (tx.data.toList.take tx.size) = stM M1 z.toNat tx.data.toList := by rw [List.take_of_length_le (by omega)]
    rw [et]
    repeat' (first | refine l_run ?_ | refine l_nil ?_ | refine l_one ?_ | refine k_reg ?_ | refine l_ld ?_ | refine l_ldF ?_ | refine l_st ?_ | refine l_al (fun b => ?_) | refine l_bs (fun b => ?_) | refine k_condT ?_ | refine k_condF ?_ | refine k_brk ?_ | (refine l_split (fun hc => ?_) (fun hc => ?_) <;> (try simp at hc) <;> (try omega)) | (refine k_cond (fun hc => ?_) (fun hc => ?_) <;> (try simp at hc) <;> (try omega)))
    exact k_ret (ak, bl, rs) rfl trivial
end Go.Proofs.YtgaipgbgppdfeaaGreatDoor
