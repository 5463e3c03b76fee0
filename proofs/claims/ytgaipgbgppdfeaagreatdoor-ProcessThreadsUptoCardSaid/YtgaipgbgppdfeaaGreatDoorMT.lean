/-
  What is there in the law ProcessForks: before the fork, after it, after each store; and rules that its walk needs.
  The contracts of process.Grow by one page, and of process.Thread, where they succeed.
  What is there in the law ProcessThreads.
  What holds in the turns of the law ProcessThreads.
  Rules for loads out of an owned slice that is also appended to.
  Conditions: those that each theorem states.
-/
import Derived.Test.YtgaipgbgppdfeaaGreatDoorPut
import Derived.Test.YtgaipgbgppdfeaaGreatDoorKn35
import Derived.Test.YtgaipgbgppdfeaaGreatDoorEnc
import Derived.Test.YtgaipgbgppdfeaaGreatDoorRep
set_option maxRecDepth 10000
namespace Go.Proofs.YtgaipgbgppdfeaaGreatDoor
open Go.RowKit

section
variable {n : Nat} {C : Cx} {Q : Exit → Act → World → Prop} {E E' : List (Nat × Value)} {F F' F1 Fs F0 : List Pf} {R R' R0 Rs N N' A : List HP} {k k' : List Fr} {ops l : List Oper} {L L' : List (Nat × Nat)} {Tl : List Nat}
  {i d : Nat} {t t2 ty0 : TypeId} {x y y2 : Operand} {pos : String} {aft : Array Edge} {gd : Option (Nat × Bool)} {xs ys : Array Value}
/-- The beginning of a text. -/
theorem r_sH {s : ByteArray} {z : Int} {rs : TRow} (hi : Nat) (hle : hi ≤ s.size) (nx : Wr n C ops k Q Tl Fs R L ((d, .string (s.extract 0 hi)) :: E) F N)
    (ho : nth ops i = some ⟨some d, .slice t x none (some y) none, ty0, pos, aft, gd⟩ := by rfl) (hw : wantL ops E ⟨some d, .slice t x none (some y) none, ty0, pos, aft, gd⟩ = some true := by rfl) (hx : ev E x = some (.string s) := by rfl) (hy : ev E y = some (.int .i64 z) := by rfl)
    (hts : lookT tab t = some rs := by rfl) (hrs : rs.k = .str := by rfl) (hz : z = (hi : Int) := by first | rfl | omega) : Wr n C ops k Q Tl Fs R ((i, 0) :: L) E F N :=
  r_q (fun a w ha => by
    simp only [execOp, Option.map_some, Option.map_none, ha.ev (x := x) (by rw [evf_look]; exact hx), ha.ev (x := y) (by rw [evf_look]; exact hy), Sem.run_bind, run_scut (w := w) hi hle hts hrs hz, Result.andThen, Sem.run_pure]) nx ho hw
end
def eqS35 : List Nat := [26]
section
variable {n : Nat} {C : Cx} {Q : Exit → Act → World → Prop} {E E' : List (Nat × Value)} {F F' F1 Fs F0 : List Pf} {R R' R0 : List HP} {k k' : List Fr} {ops l : List Oper}
  {i d : Nat} {t t2 ty0 : TypeId} {x y : Operand} {pos : String} {aft : Array Edge} {gd : Option (Nat × Bool)} {xs ys : Array Value}
end

def kid35 : Pr := kidS false one35 one35 c11
/-- What holds after the fork and after each store. -/
structure FJ (i : Nat) (cs : List Ch) (w0 w1 : ByteArray) : Prop where
  a : PrAt [] cs o1 one35
  b : PrAt [] cs c11 kid35
  m0 : memS [] cs o1 2 = w0
  m1 : memS [] cs c11 2 = w1
  l : cs.length ≤ 300 + 64 * i
theorem prAt_put {cs : List Ch} {who : ByteArray} {p : Pr} {sp : ByteArray} {pg k : Nat} {tx : ByteArray} (h : PrAt [] cs who p) : PrAt [] (putS [] cs sp pg k tx) who p :=
  ⟨h.v, h.w, by rw [putS_ne fun j => by simp [gnm, pnm]]; exact h.g, h.c, h.s, h.d, h.e, by rw [putS_ne fun j => by simp [gnm, enm]]; exact h.n⟩
theorem FJ.s0 {i : Nat} {cs : List Ch} {w0 w1 : ByteArray} (h : FJ i cs w0 w1) {k : Nat} {tx : ByteArray} (hk : k + tx.size ≤ 128) : FJ (i + 1) (putS [] cs o1 2 k tx) (spl w0 k tx) w1 :=
  ⟨prAt_put h.a, prAt_put h.b, by rw [putS_spl o1_valid (by decide) (by omega), h.m0], by rw [putS_mem' (fun e => d1 e.symm), h.m1], by have := putS_len (es := []) (cs := cs) (sp := o1) (pg := 2) (k := k) (tx := tx); have := h.l; omega⟩
theorem FJ.s1 {i : Nat} {cs : List Ch} {w0 w1 : ByteArray} (h : FJ i cs w0 w1) {k : Nat} {tx : ByteArray} (hk : k + tx.size ≤ 128) : FJ (i + 1) (putS [] cs c11 2 k tx) w0 (spl w1 k tx) :=
  ⟨prAt_put h.a, prAt_put h.b, by rw [putS_mem' d1, h.m0], by rw [putS_spl c11_valid (by decide) (by omega), h.m1], by have := putS_len (es := []) (cs := cs) (sp := c11) (pg := 2) (k := k) (tx := tx); have := h.l; omega⟩

section
variable (ec : ByteArray) (tx : ByteArray)
def fk1 : List Ch := cA ++ [⟨rnm o1, ec, false⟩]
def fk2 : List Ch := putS [] (fk1 ec) o1 2 20 tx
def fk3 : List Ch := spC [] (fk2 ec tx) o1 c11 ⟨0, 0, 0⟩ one35 kid35
end
end Go.Proofs.YtgaipgbgppdfeaaGreatDoor

set_option maxRecDepth 10000
namespace Go.Proofs.YtgaipgbgppdfeaaGreatDoor
open Go.RowKit

abbrev sf1 : ByteArray → List Value := fun s => [Value.string s]
theorem thread2_ok {b : Nat} {ps : Option Addr} {es : Al} {rs : List (Nm × Ch)} {cs cs' : List Ch} {who s : ByteArray} (h : Enters 67 ∧ Spec Tryz.prog 67 #[.pointer (some ⟨b, 0, none⟩), .string who, .bool true] [St ps es, Usg, P10] [Vw b ps rs cs] ⟨List (Nm × Ch), fun _ => .tuple #[.string s, .int .i64 0], fun _ => True, fun _ => [], fun rs' => [Vw b ps rs' cs']⟩) :
    Enters 20 ∧ Spec Tryz.prog 20 #[.pointer (some ⟨b, 0, none⟩), .string who] [St ps es, Usg, P10] [Vw b ps rs cs] ⟨List (Nm × Ch), fun _ => .tuple #[.string s, .int .i64 0], fun _ => True, fun _ => [], fun rs' => [Vw b ps rs' cs']⟩ := by
  refine ⟨enters_of Tryz.func20 (by kernel_rfl) rfl, spec_of (vs := [_, _]) Tryz.func20 rfl Tryz.ntmps20 rfl fun G w hp => ?_⟩
  repeat' (first | refine l_run ?_ | refine l_nil ?_ | refine l_one ?_ | refine k_reg ?_ | refine l_ld ?_ | refine l_ldF ?_ | refine l_st ?_ | refine l_al (fun b => ?_) | refine l_bs (fun b => ?_) | refine k_condT ?_ | refine k_condF ?_ | refine k_brk ?_ | refine l_call (h) (fun _ _ => ?_) | refine l_call0 (h) (fun _ _ => ?_) | (refine l_split (fun hc => ?_) (fun hc => ?_) <;> (try simp at hc)) | (refine k_cond (fun hc => ?_) (fun hc => ?_) <;> (try simp at hc)))
  rename_i x _
  exact k_ret x rfl trivial
/-- A memory with one page more. -/
def grP (o : Pr) : Pr := { o with pg := o.pg + 1 }
set_option maxHeartbeats 4000000 in
theorem grow1_ok (b : Nat) (ps : Option Addr) (es : Al) (rs : List (Nm × Ch)) (cs : List Ch) (who : ByteArray) (p o : Pr) (h : PrAt es cs who p) (ho : Own es cs who p o) (hv : lvalid p.sp.data.toList = true) (pg : Nat) (hpg : o.pg = (pg : Int)) (hp63 : pg ≤ 63) (hc : pchk (grP o) = 0) (hos : o.sp.size ≤ 1000) (hod : o.dr.mkr.size ≤ 1000) (hl : cs.length ≤ 900000) :
    Enters 22 ∧ Spec Tryz.prog 22 #[.pointer (some ⟨b, 0, none⟩), .string who, .int .i64 1] [St ps es, Usg] [Vw b ps rs cs]
    ⟨Unit, fun _ => .tuple #[.int .i64 (pg : Int), .int .i64 0], fun _ => True, fun _ => [], fun _ => [Vw b ps (mmR es rs cs who p) (cs ++ [⟨pnm p.sp, pencS (grP o), false⟩] ++ [⟨gnm p.sp (pg : Int), z64B, false⟩])]⟩ := by
  have n1 := memoryOf_ok b ps es rs cs who p o h ho
  have n2 := pin_ok 1 64
  rw [show (decide ((0 : Int) ≤ 1) && decide ((1 : Int) ≤ 64)) = true by decide] at n2
  have n3 := vwMark_ok b ps (mmR es rs cs who p) cs
  have n4 := fun a c => proPut_ok b ps (mmR es rs cs who p) cs p.sp (grP o) a c hc hos hod h.s hv (by omega)
  have n5 := fun a c => setPage1_ok b ps (mmR es rs cs who p) (cs ++ [⟨pnm p.sp, pencS (grP o), false⟩]) p.sp h.s hv pg hp63 (by simp; omega) z64B (by decide) a c
  have n6 := repeat64_ok
  have hsp := h.s
  generalize cs ++ [⟨pnm p.sp, pencS (grP o), false⟩] ++ [⟨gnm p.sp (pg : Int), z64B, false⟩] = cs3 at *
  generalize cs ++ [⟨pnm p.sp, pencS (grP o), false⟩] = cs2 at *
  generalize mmR es rs cs who p = rs3 at *
  generalize b = bv at *
  clear h ho hc
  obtain ⟨a1, a2, a3, a4, a5, gs, a7, a8, ⟨a9, a9'⟩, a10⟩ := p
  obtain ⟨o1, o2, o3, o4, o5, os, o7, o8, ⟨o9, o9'⟩, o10⟩ := o
  simp only [Pr.v, grP] at n1 n4
  dsimp only at *
  subst hpg
  have w1 : IntKind.i64.wrap ((pg : Int) + 1) = (pg : Int) + 1 := wrapi (by omega) (by omega)
  refine ⟨enters_of Tryz.func22 (by kernel_rfl) rfl, spec_of (vs := [_, _, _]) Tryz.func22 rfl Tryz.ntmps22 rfl fun G w hp => ?_⟩
  repeat' (first | refine l_run ?_ | refine l_nil ?_ | refine l_one ?_ | refine k_reg ?_ | refine l_ld ?_ | refine l_ldF ?_ | refine l_st ?_ | refine l_al (fun b => ?_) | refine l_bs (fun b => ?_) | refine k_condT ?_ | refine k_condF ?_ | refine l_call (n1) (fun _ _ => ?_) | refine l_call0 (n1) (fun _ _ => ?_) | refine l_call (n2) (fun _ _ => ?_) | refine l_call0 (n2) (fun _ _ => ?_) | rw [w1] | refine l_mks (f := sf1) (z0 := ⟨#[]⟩) (m := 1) (bytes := 16) (by decide) (by decide) (fun b => ?_) | (refine l_split (fun hc => ?_) (fun hc => ?_) <;> (try simp at hc) <;> (try omega)) | (refine k_cond (fun hc => ?_) (fun hc => ?_) <;> (try simp at hc) <;> (try omega)))
  rename_i q _ b8 b9
  obtain ⟨⟨qa, qc⟩, qa', qc'⟩ := q
  dsimp only
  refine k_lp (X := { i : Nat // i ≤ 1 }) (fun i => [(0, .pointer (some ⟨bv, 0, none⟩)), (2, .int .i64 1), (8, .pointer (some ⟨b8, 0, none⟩)), (9, .pointer (some ⟨b9, 0, none⟩)), (11, .int .i64 (pg : Int)), (12, .slice (some ⟨b, 0, none⟩) 1 1), (42, .int .i64 ((1 : Nat) : Int)), (43, .int .i64 (i.1 : Int))]) (fun _ => [Sl 3 zf qa' qc' os, St ps es, Usg])
    (fun i => [Vw bv ps rs3 cs, Ar 9 sf1 b [if i.1 = 0 then ⟨#[]⟩ else z64B], Pt b8 (.cells #[.int .i64 a1, .int .i64 a2, .int .i64 a3, .int .i64 a4, .int .i64 a5, .slice qa gs.length qc, .string a7, .int .i64 a8, .string a9, .int .i64 a9', .int .i64 a10] 80), Pt b9 (.cells #[.int .i64 o1, .int .i64 o2, .int .i64 o3, .int .i64 o4, .int .i64 o5, .slice qa' os.length qc', .string o7, .int .i64 (pg : Int), .string o9, .int .i64 o9', .int .i64 o10] 80)]) (fun i => 1 - i.1)
    ⟨0, Nat.zero_le _⟩ ⟨rfl, rfl, rfl, rfl, rfl, rfl, rfl, rfl, trivial⟩ ?_
  rintro ⟨i, hi⟩
  dsimp only
  by_cases h : i = 0
  · subst h
    rw [if_pos rfl]
    have w9 : IntKind.i64.wrap (((0 : Nat) : Int) + 1) = ((1 : Nat) : Int) := by rw [wrapi (by omega) (by omega)]; omega
    have hv0 : [(⟨#[]⟩ : ByteArray)][0]? = some ⟨#[]⟩ := rfl
    repeat' (first | refine l_run ?_ | refine l_nil ?_ | refine l_one ?_ | refine k_reg ?_ | refine l_ld ?_ | refine l_ldF ?_ | refine l_st ?_ | refine l_al (fun b => ?_) | refine l_bs (fun b => ?_) | refine k_condT ?_ | refine k_condF ?_ | refine l_call (n6) (fun _ _ => ?_) | refine l_call0 (n6) (fun _ _ => ?_) | rw [w9] | refine l_ixO (m := 1) (sz := 1) 0 (by decide) ?_ | refine l_stA 1 0 0 z64B hv0 ?_ | (refine l_split (fun hc => ?_) (fun hc => ?_) <;> (try simp at hc) <;> (try omega)) | (refine k_cond (fun hc => ?_) (fun hc => ?_) <;> (try simp at hc) <;> (try omega)))
    exact k_next ⟨1, Nat.le_refl _⟩ (by show 1 - 1 < 1 - 0; decide) ⟨rfl, rfl, rfl, rfl, rfl, rfl, rfl, rfl, trivial⟩
  · obtain rfl : i = 1 := by omega
    rw [if_neg h]
    refine k_shut (r := Row 9 1 (some ⟨b, 0, none⟩) 1 1 [.string z64B]) (Lx := [Ar 9 sf1 b [z64B]]) (fun h hh => by
      obtain ⟨h1, h2, _, s1, _, hx, _⟩ := hh
      exact .inr ⟨b, [], (0, 0), rfl, s1 _ _ hx, rfl, rfl, Nat.le_refl _, .inl rfl⟩) ?_
    refine k_frz (T := 9) (f := sf1) [z64B] ?_ rfl rfl
    repeat' (first | refine l_run ?_ | refine l_nil ?_ | refine l_one ?_ | refine k_reg ?_ | refine l_ld ?_ | refine l_ldF ?_ | refine l_st ?_ | refine l_al (fun b => ?_) | refine l_bs (fun b => ?_) | refine k_condT ?_ | refine k_condF ?_ | refine k_brk ?_ | refine l_call (n3) (fun _ _ => ?_) | refine l_call0 (n3) (fun _ _ => ?_) | refine l_call (n4 _ _) (fun _ _ => ?_) | refine l_call0 (n4 _ _) (fun _ _ => ?_) | refine l_call (n5 _ _) (fun _ _ => ?_) | refine l_call0 (n5 _ _) (fun _ _ => ?_) | rw [w1] | (refine l_split (fun hc => ?_) (fun hc => ?_) <;> (try simp at hc) <;> (try omega)) | (refine k_cond (fun hc => ?_) (fun hc => ?_) <;> (try simp at hc) <;> (try omega)))
    exact k_ret () rfl trivial
end Go.Proofs.YtgaipgbgppdfeaaGreatDoor

set_option maxRecDepth 10000
namespace Go.Proofs.YtgaipgbgppdfeaaGreatDoor
open Go.RowKit

def c111 : ByteArray := ⟨#[49, 46, 49, 46, 49]⟩
theorem chN11 : chN c11 1 = c111 := by rw [chN, itoa1]; decide
theorem c111_valid : lvalid c111.data.toList = true := by
  have h := (prts_step [49, 46, 49, 46, 49] 0 0 (by simp)).2.2.2
  rw [show ffirst (([49, 46, 49, 46, 49] : List UInt8).drop 0) 0 0 = (⟨1, 0, 0⟩, 1) from rfl] at h
  have h2 := (prts_step [49, 46, 49, 46, 49] 2 1 (by simp)).2.2.2
  rw [show ffirst (([49, 46, 49, 46, 49] : List UInt8).drop 2) 2 1 = (⟨1, 2, 0⟩, 3) from rfl] at h2
  have h3 := (prts_step [49, 46, 49, 46, 49] 4 2 (by simp)).2.2.2
  rw [show ffirst (([49, 46, 49, 46, 49] : List UInt8).drop 4) 4 2 = (⟨1, 4, 0⟩, 5) from rfl] at h3
  simp at h h2 h3
  simp [c111, lvalid, lparts, h, h2, h3]
theorem c11_parts : lparts c11.data.toList = [⟨1, 0, 0⟩, ⟨1, 2, 0⟩] := by
  have h := (prts_step [49, 46, 49] 0 0 (by simp)).2.2.2
  rw [show ffirst (([49, 46, 49] : List UInt8).drop 0) 0 0 = (⟨1, 0, 0⟩, 1) from rfl] at h
  have h2 := (prts_step [49, 46, 49] 2 1 (by simp)).2.2.2
  rw [show ffirst (([49, 46, 49] : List UInt8).drop 2) 2 1 = (⟨1, 2, 0⟩, 3) from rfl] at h2
  simp at h h2
  simp [c11, lparts, h, h2]
theorem c11_lords : (lords c11.data.toList).length ≠ 8 := by
  rw [lords, if_pos c11_valid, c11_parts]; decide
/-- A thread of the first process. -/
def thr35 : Pr := kidS true one35 one35 c11
theorem thr35_chk : pchk thr35 = 0 := kidS_chk (share := true) one35_chk c11_valid (by decide)
theorem e1 : c111 ≠ o1 := by decide
theorem e2 : c111 ≠ c11 := by decide
theorem e3 : c111 ≠ c12 := by decide
theorem thr_at {cs : List Ch} {who : ByteArray} (hv : lvalid who.data.toList = true) (hw : who.size ≤ 1000) (h1 : vget [] cs (pnm who) = (pencS thr35, true)) (h2 : vget [] cs enm = (⟨#[]⟩, false)) : PrAt [] cs who thr35 := ⟨hv, hw, h1, thr35_chk, by decide, by decide, rfl, h2⟩
/-- A thread is made: nothing is there to be copied. -/
theorem spT {cs : List Ch} {who ch : ByteArray} {c : Ct} {p : Pr} (hr : (vget [] cs (rnm who)).2 = false) : spC [] cs who ch c p thr35 = cs ++ [⟨cnm who, cvs { c with c := c.c + 1 }, false⟩] ++ [⟨pnm ch, pencS thr35, false⟩] := by
  unfold spC
  rw [show thr35.pg.toNat = 0 from rfl]
  show cpC _ _ _ _ = _
  unfold cpC
  rw [vg_ne (by simp [pnm, rnm]), vg_ne (by simp [cnm, rnm]), hr]
  rfl
def tA : List Ch := cA
def tB : List Ch := tA ++ [⟨cnm o1, cvs ⟨0, 0, 1⟩, false⟩] ++ [⟨pnm c11, pencS thr35, false⟩]
def tC : List Ch := tB ++ [⟨cnm c11, cvs ⟨0, 0, 1⟩, false⟩] ++ [⟨pnm c111, pencS thr35, false⟩]
def tD : List Ch := tC ++ [⟨cnm o1, cvs ⟨0, 0, 2⟩, false⟩] ++ [⟨pnm c12, pencS thr35, false⟩]
section
variable {cs : List Ch} {who ch : ByteArray} {z : Int}
theorem tv_p (hv : lvalid ch.data.toList = true) (x : ByteArray) : vget [] (cs ++ [⟨cnm who, cvs ⟨0, 0, z⟩, false⟩] ++ [⟨pnm ch, pencS thr35, false⟩]) (pnm x) = if x = ch then (pencS thr35, true) else vget [] cs (pnm x) := by
  by_cases h : x = ch
  · subst h
    rw [if_pos rfl, vg_eq rfl (chk_pnm hv)]; rfl
  · rw [if_neg h, vg_ne (fun e => h (by simpa [pnm] using e.symm)), vg_ne (by simp [cnm, pnm])]
theorem tv_o (m : Nm) (h1 : m.kind ≠ 1) (h5 : m.kind ≠ 5) : vget [] (cs ++ [⟨cnm who, cvs ⟨0, 0, z⟩, false⟩] ++ [⟨pnm ch, pencS thr35, false⟩]) m = vget [] cs m := by
  rw [vg_ne (fun e => h1 (by rw [← e]; rfl)), vg_ne (fun e => h5 (by rw [← e]; rfl))]
theorem tv_c (hv : lvalid who.data.toList = true) (x : ByteArray) : vget [] (cs ++ [⟨cnm who, cvs ⟨0, 0, z⟩, false⟩] ++ [⟨pnm ch, pencS thr35, false⟩]) (cnm x) = if x = who then (cvs ⟨0, 0, z⟩, true) else vget [] cs (cnm x) := by
  rw [vg_ne (by simp [pnm, cnm])]
  by_cases h : x = who
  · subst h
    rw [if_pos rfl, vg_eq rfl (chk_cnm hv)]; rfl
  · rw [if_neg h, vg_ne (fun e => h (by simpa [cnm] using e.symm))]
end
theorem tA_1 : PrAt [] tA o1 one35 := one_at (by unfold tA; rw [vA_p, if_pos rfl]) (vA_o _ (by decide))
theorem tB_1 : PrAt [] tB o1 one35 := one_at (by unfold tB; rw [tv_p c11_valid, if_neg (fun e => d1 e.symm)]; exact tA_1.g) (by unfold tB; rw [tv_o _ (by decide) (by decide)]; exact tA_1.n)
theorem tB_2 : PrAt [] tB c11 thr35 := thr_at c11_valid (by decide) (by unfold tB; rw [tv_p c11_valid, if_pos rfl]) tB_1.n
theorem tC_1 : PrAt [] tC o1 one35 := one_at (by unfold tC; rw [tv_p c111_valid, if_neg (fun e => e1 e.symm)]; exact tB_1.g) (by unfold tC; rw [tv_o _ (by decide) (by decide)]; exact tB_1.n)
theorem tC_2 : PrAt [] tC c11 thr35 := thr_at c11_valid (by decide) (by unfold tC; rw [tv_p c111_valid, if_neg (fun e => e2 e.symm)]; exact tB_2.g) tC_1.n
theorem tC_3 : PrAt [] tC c111 thr35 := thr_at c111_valid (by decide) (by unfold tC; rw [tv_p c111_valid, if_pos rfl]) tC_1.n
theorem tD_1 : PrAt [] tD o1 one35 := one_at (by unfold tD; rw [tv_p c12_valid, if_neg (fun e => d2 e.symm)]; exact tC_1.g) (by unfold tD; rw [tv_o _ (by decide) (by decide)]; exact tC_1.n)
theorem tD_2 : PrAt [] tD c11 thr35 := thr_at c11_valid (by decide) (by unfold tD; rw [tv_p c12_valid, if_neg d3]; exact tC_2.g) tD_1.n
theorem tD_3 : PrAt [] tD c111 thr35 := thr_at c111_valid (by decide) (by unfold tD; rw [tv_p c12_valid, if_neg e3]; exact tC_3.g) tD_1.n
theorem tD_4 : PrAt [] tD c12 thr35 := thr_at c12_valid (by decide) (by unfold tD; rw [tv_p c12_valid, if_pos rfl]) tD_1.n
theorem t_g (x : ByteArray) (i : Int) : vget [] tA (gnm x i) = (⟨#[]⟩, false) ∧ vget [] tB (gnm x i) = (⟨#[]⟩, false) ∧ vget [] tC (gnm x i) = (⟨#[]⟩, false) ∧ vget [] tD (gnm x i) = (⟨#[]⟩, false) := by
  have hA : vget [] tA (gnm x i) = (⟨#[]⟩, false) := vA_o _ (by simp [gnm])
  have hB : vget [] tB (gnm x i) = (⟨#[]⟩, false) := by unfold tB; rw [tv_o _ (by simp [gnm]) (by simp [gnm])]; exact hA
  have hC : vget [] tC (gnm x i) = (⟨#[]⟩, false) := by unfold tC; rw [tv_o _ (by simp [gnm]) (by simp [gnm])]; exact hB
  exact ⟨hA, hB, hC, by unfold tD; rw [tv_o _ (by simp [gnm]) (by simp [gnm])]; exact hC⟩
theorem t_r (x : ByteArray) : vget [] tA (rnm x) = (⟨#[]⟩, false) ∧ vget [] tB (rnm x) = (⟨#[]⟩, false) ∧ vget [] tC (rnm x) = (⟨#[]⟩, false) := by
  have hA : vget [] tA (rnm x) = (⟨#[]⟩, false) := vA_o _ (by simp [rnm])
  have hB : vget [] tB (rnm x) = (⟨#[]⟩, false) := by unfold tB; rw [tv_o _ (by simp [rnm]) (by simp [rnm])]; exact hA
  exact ⟨hA, hB, by unfold tC; rw [tv_o _ (by simp [rnm]) (by simp [rnm])]; exact hB⟩
theorem ctT_ok {z : Int} (h : 0 ≤ z ∧ z ≤ 1000) : CtOK ⟨0, 0, z⟩ := ⟨Int.le_refl 0, by show (0 : Int) ≤ 1048576; decide, Int.le_refl 0, by show (0 : Int) ≤ 1048576; decide, h.1, by show z ≤ 1048576; omega⟩
theorem th1_ok (v s : Nat) (rs : List (Nm × Ch)) : Enters 20 ∧ Spec Tryz.prog 20 #[.pointer (some ⟨v, 0, none⟩), .string o1] [St (some ⟨s, 0, none⟩) [], Usg, P10] [Vw v (some ⟨s, 0, none⟩) rs tA] ⟨List (Nm × Ch), fun _ => .tuple #[.string c11, .int .i64 0], fun _ => True, fun _ => [], fun rs' => [Vw v (some ⟨s, 0, none⟩) rs' tB]⟩ := by
  have hne : isE o1 = false := by simp [isE, o1, toList_data]
  have i1 : (Lib.itoa 1).length ≤ 100 := by rw [itoa1]; decide
  have hc : vget [] tA (cnm o1) = (⟨#[]⟩, false) := vA_o _ (by decide)
  have h := spawn_ok v (some ⟨s, 0, none⟩) [] rs tA o1 one35 one35 true tA_1 rfl (by unfold Own; rw [if_pos (show one35.sp = o1 from rfl)]) ⟨0, 0, 0⟩ (by rw [madeE, if_pos o1_valid, hc]; rfl) (by rw [hc]; exact Nat.zero_le _) (ctT_ok (by decide)) (by decide) o1_lords hne i1
    (by show lvalid (chN o1 1).data.toList = true; rw [chN1]; exact c11_valid) (by show (chN o1 1).size ≤ _; rw [chN1]; decide) (by show (vget [] tA (pnm (chN o1 1))).2 = false; rw [chN1]; unfold tA; rw [vA_p, if_neg d1]) (by show chN o1 1 ≠ o1; rw [chN1]; exact d1) (by rw [(t_r _).1]; exact Nat.zero_le _)
    (fun i _ => by rw [(t_g _ _).1]; exact Nat.zero_le _) (by decide)
  rw [show chN o1 ((Ct.mk 0 0 0).c + 1) = c11 from chN1, show kidS true one35 one35 c11 = thr35 from rfl, spT (by rw [(t_r _).1])] at h
  exact thread2_ok h
theorem th2_ok (v s : Nat) (rs : List (Nm × Ch)) : Enters 20 ∧ Spec Tryz.prog 20 #[.pointer (some ⟨v, 0, none⟩), .string c11] [St (some ⟨s, 0, none⟩) [], Usg, P10] [Vw v (some ⟨s, 0, none⟩) rs tB] ⟨List (Nm × Ch), fun _ => .tuple #[.string c111, .int .i64 0], fun _ => True, fun _ => [], fun rs' => [Vw v (some ⟨s, 0, none⟩) rs' tC]⟩ := by
  have hne : isE c11 = false := by simp [isE, c11, toList_data]
  have i1 : (Lib.itoa 1).length ≤ 100 := by rw [itoa1]; decide
  have hc : vget [] tB (cnm c11) = (⟨#[]⟩, false) := by unfold tB; rw [tv_c o1_valid, if_neg d1]; exact vA_o _ (by decide)
  have h := spawn_ok v (some ⟨s, 0, none⟩) [] rs tB c11 thr35 one35 true tB_2 rfl (by unfold Own; rw [if_neg (show ¬ thr35.sp = c11 from fun e => d1 e.symm)]; exact tB_1) ⟨0, 0, 0⟩ (by rw [madeE, if_pos c11_valid, hc]; rfl) (by rw [hc]; exact Nat.zero_le _) (ctT_ok (by decide)) (by decide) c11_lords hne i1
    (by show lvalid (chN c11 1).data.toList = true; rw [chN11]; exact c111_valid) (by show (chN c11 1).size ≤ _; rw [chN11]; decide) (by show (vget [] tB (pnm (chN c11 1))).2 = false; rw [chN11]; unfold tB; rw [tv_p c11_valid, if_neg e2]; unfold tA; rw [vA_p, if_neg e1]) (by show chN c11 1 ≠ o1; rw [chN11]; exact e1) (by rw [(t_r _).2.1]; exact Nat.zero_le _)
    (fun i _ => by rw [(t_g _ _).2.1]; exact Nat.zero_le _) (by decide)
  rw [show chN c11 ((Ct.mk 0 0 0).c + 1) = c111 from chN11, show kidS true thr35 one35 c111 = thr35 from rfl, spT (by rw [(t_r _).2.1])] at h
  exact thread2_ok h
theorem th3_ok (v s : Nat) (rs : List (Nm × Ch)) : Enters 20 ∧ Spec Tryz.prog 20 #[.pointer (some ⟨v, 0, none⟩), .string o1] [St (some ⟨s, 0, none⟩) [], Usg, P10] [Vw v (some ⟨s, 0, none⟩) rs tC] ⟨List (Nm × Ch), fun _ => .tuple #[.string c12, .int .i64 0], fun _ => True, fun _ => [], fun rs' => [Vw v (some ⟨s, 0, none⟩) rs' tD]⟩ := by
  have hne : isE o1 = false := by simp [isE, o1, toList_data]
  have i2 : (Lib.itoa 2).length ≤ 100 := by rw [itoa2]; decide
  have hc : vget [] tC (cnm o1) = (cvs ⟨0, 0, 1⟩, true) := by unfold tC; rw [tv_c c11_valid, if_neg (fun e => d1 e.symm)]; unfold tB; rw [tv_c o1_valid, if_pos rfl]
  obtain ⟨m1, m2⟩ := made_at (z := 1) (by decide) hc
  have h := spawn_ok v (some ⟨s, 0, none⟩) [] rs tC o1 one35 one35 true tC_1 rfl (by unfold Own; rw [if_pos (show one35.sp = o1 from rfl)]) ⟨0, 0, 1⟩ m1 m2 (ctT_ok (by decide)) (by decide) o1_lords hne i2
    (by show lvalid (chN o1 2).data.toList = true; rw [chN2]; exact c12_valid) (by show (chN o1 2).size ≤ _; rw [chN2]; decide) (by show (vget [] tC (pnm (chN o1 2))).2 = false; rw [chN2]; unfold tC; rw [tv_p c111_valid, if_neg (fun e => e3 e.symm)]; unfold tB; rw [tv_p c11_valid, if_neg (fun e => d3 e.symm)]; unfold tA; rw [vA_p, if_neg d2]) (by show chN o1 2 ≠ o1; rw [chN2]; exact d2) (by rw [(t_r _).2.2]; exact Nat.zero_le _)
    (fun i _ => by rw [(t_g _ _).2.2.1]; exact Nat.zero_le _) (by decide)
  rw [show chN o1 ((Ct.mk 0 0 1).c + 1) = c12 from chN2, show kidS true one35 one35 c12 = thr35 from rfl, spT (by rw [(t_r _).2.2])] at h
  exact thread2_ok h
end Go.Proofs.YtgaipgbgppdfeaaGreatDoor

set_option maxRecDepth 10000
namespace Go.Proofs.YtgaipgbgppdfeaaGreatDoor
open Go.RowKit

/-- The first process: it may have grown, it may have ended. -/
def fstP (g e : Bool) : Pr := ⟨1, if e then 2 else 1, 0, 0, 7, [1, 5], o1, if g then 3 else 2, ⟨⟨#[]⟩, 0⟩, 3⟩
theorem fstP_chk (g e : Bool) : pchk (fstP g e) = 0 := by
  have hg : gchk [1, 5] = 0 := by decide
  have hb : bchk ⟨⟨#[]⟩, 0⟩ = 0 := (pchk_zero one35_chk).2.2.2.2.2
  unfold pchk pfit fstP
  dsimp only
  cases g <;> cases e <;> rw [if_neg (by decide), if_neg (by decide), if_neg (by decide), hg, if_neg (by simp), if_neg (by simp [o1_valid]), hb]
theorem fst_at {cs : List Ch} {g e : Bool} (h1 : vget [] cs (pnm o1) = (pencS (fstP g e), true)) (h2 : vget [] cs enm = (⟨#[]⟩, false)) : PrAt [] cs o1 (fstP g e) := ⟨o1_valid, by decide, h1, fstP_chk g e, by show o1.size ≤ 1000; decide, by show (0 : Nat) ≤ 1000; decide, rfl, h2⟩
/-- The pages. -/
def pgN (g : Bool) : Nat := if g then 3 else 2
theorem fst_pg (g e : Bool) : (fstP g e).pg = (pgN g : Int) := by cases g <;> rfl
structure TJ (i : Nat) (g e : Bool) (cs : List Ch) (w : ByteArray) : Prop where
  p1 : PrAt [] cs o1 (fstP g e)
  p2 : PrAt [] cs c11 thr35
  p3 : PrAt [] cs c111 thr35
  p4 : PrAt [] cs c12 thr35
  m : memS [] cs o1 (pgN g) = w
  l : cs.length ≤ 100 + 70 * i
theorem TJ.size {i : Nat} {g e : Bool} {cs : List Ch} {w : ByteArray} (h : TJ i g e cs w) : w.size = 64 * pgN g := by rw [← h.m]; exact memS_size _ _ _ _
theorem TJ.st {i : Nat} {g e : Bool} {cs : List Ch} {w : ByteArray} (h : TJ i g e cs w) {k : Nat} {tx : ByteArray} (hk : k + tx.size ≤ 64 * pgN g) : TJ (i + 1) g e (putS [] cs o1 (pgN g) k tx) (spl w k tx) :=
  ⟨prAt_put h.p1, prAt_put h.p2, prAt_put h.p3, prAt_put h.p4, by rw [putS_spl o1_valid (by cases g <;> decide) hk, h.m], by have := putS_len (es := []) (cs := cs) (sp := o1) (pg := pgN g) (k := k) (tx := tx); have := h.l; omega⟩
theorem prAt_snoc {cs : List Ch} {who x : ByteArray} {p : Pr} {v : ByteArray} (h : PrAt [] cs who p) (hne : x ≠ who) : PrAt [] (cs ++ [⟨pnm x, v, false⟩]) who p :=
  ⟨h.v, h.w, by rw [vg_ne (fun e => hne (by simpa [pnm] using e))]; exact h.g, h.c, h.s, h.d, h.e, by rw [vg_ne (by simp [pnm, enm])]; exact h.n⟩
theorem prAt_gnm {cs : List Ch} {who x : ByteArray} {i : Int} {p : Pr} {v : ByteArray} (h : PrAt [] cs who p) : PrAt [] (cs ++ [⟨gnm x i, v, false⟩]) who p :=
  ⟨h.v, h.w, by rw [vg_ne (by simp [gnm, pnm])]; exact h.g, h.c, h.s, h.d, h.e, by rw [vg_ne (by simp [gnm, enm])]; exact h.n⟩
/-- The first process ends. -/
theorem TJ.end_ {i : Nat} {g : Bool} {cs : List Ch} {w : ByteArray} (h : TJ i g false cs w) (hl : cs.length ≤ 100 + 70 * i - 3) : TJ i g true (cs ++ [⟨pnm o1, pencS (fstP g true), false⟩]) w :=
  ⟨fst_at (by rw [vg_eq rfl (chk_pnm o1_valid)]; rfl) (by rw [vg_ne (by simp [pnm, enm])]; exact h.p1.n), prAt_snoc h.p2 (fun e => d1 e.symm), prAt_snoc h.p3 (fun e => e1 e.symm), prAt_snoc h.p4 (fun e => d2 e.symm),
    by rw [← h.m]; exact memS_congr fun j _ => by rw [vg_ne (by simp [pnm, gnm])], by simp; omega⟩
theorem padz : padS z64B = z64 := by decide +kernel
/-- A page more. -/
theorem TJ.gr {i : Nat} {e : Bool} {cs : List Ch} {w : ByteArray} (h : TJ i false e cs w) (hl : cs.length + 2 ≤ 100 + 70 * i) : TJ i true e (cs ++ [⟨pnm o1, pencS (fstP true e), false⟩] ++ [⟨gnm o1 ((2 : Nat) : Int), z64B, false⟩]) (w ++ z64B) :=
  ⟨fst_at (by rw [vg_ne (by simp [gnm, pnm]), vg_eq rfl (chk_pnm o1_valid)]; rfl) (by rw [vg_ne (by simp [gnm, enm]), vg_ne (by simp [pnm, enm])]; exact h.p1.n), prAt_gnm (prAt_snoc h.p2 (fun e => d1 e.symm)), prAt_gnm (prAt_snoc h.p3 (fun e => e1 e.symm)), prAt_gnm (prAt_snoc h.p4 (fun e => d2 e.symm)), by
    show memS [] _ o1 2 ++ _ = _
    rw [vg_eq rfl (chk_gnm o1_valid (by decide))]
    have h2 : memS [] (cs ++ [⟨pnm o1, pencS (fstP true e), false⟩] ++ [⟨gnm o1 ((2 : Nat) : Int), z64B, false⟩]) o1 2 = w := by
      rw [← h.m]
      exact memS_congr fun j hj => by rw [vg_ne (gnm_ne (.inr (by omega))), vg_ne (by simp [pnm, gnm])]
    rw [h2]
    show w ++ ⟨(padS z64B).toArray⟩ = _
    rw [padz]; rfl, by simp; omega⟩
end Go.Proofs.YtgaipgbgppdfeaaGreatDoor

set_option maxRecDepth 10000
namespace Go.Proofs.YtgaipgbgppdfeaaGreatDoor
open Go.RowKit

section
variable {n : Nat} {C : Cx} {Q : Exit → Act → World → Prop} {E E' : List (Nat × Value)} {F F' F1 Fs F0 : List Pf} {R R' R0 : List HP} {k k' : List Fr} {ops l : List Oper}
  {i d b off : Nat} {t ty0 : TypeId} {x y : Operand} {pos : String} {aft : Array Edge} {gd : Option (Nat × Bool)} {v : Value}
/-- An owned slice that is not empty has a block. -/
theorem k_rowo {T sz m cap : Nat} {o : Option Addr} {xs : List Value} (hm : 0 < m) (t : ∀ b, o = some ⟨b, 0, none⟩ → Wk n C k Q E F R) (hs : Sel (Row T sz o m cap xs) R R0 := by (repeat (first | exact Sel.here | apply Sel.there)); first | done | fail) : Wk n C k Q E F R := fun a w ha hsat => by
  have h0 := hsat
  obtain ⟨hp, hr, st⟩ := hsat
  obtain ⟨h1, h2, _, _, _, hx, _⟩ := hs.sep st.r
  rcases hx with ⟨_, h3, _⟩ | ⟨b, _, _, h3, _⟩
  · omega
  · exact t b h3 a w ha h0
theorem l_ldR {T sz m cap : Nat} {xs : List Value} (nx : Wl n C ops.toArray k Q l ((d, v) :: E) F R) (hw : wantL ops E ⟨some d, .load t x, ty0, pos, aft, gd⟩ = some true := by rfl) (hn : Nat.blt d n = true := by rfl)
    (hx : ev E x = some (.pointer (some ⟨b, off, none⟩)) := by rfl) (hs : Sel (Row T sz (some ⟨b, 0, none⟩) m cap xs) R R0 := by (repeat (first | exact Sel.here | apply Sel.there)); first | done | fail) (hv : ldv t xs off = some v := by rfl) :
    Wl n C ops.toArray k Q (⟨some d, .load t x, ty0, pos, aft, gd⟩ :: l) E F R :=
  wl_op (fun t ht => by cases ht; exact Nat.le_of_ble_eq_true hn) (fun c hc => by cases hc) hw fun a w ha hsat => by
    have h0 := hsat
    obtain ⟨hp, hr, st⟩ := hsat
    obtain ⟨h1, h2, _, s1, _, hrow, _⟩ := hs.sep st.r
    obtain ⟨rest, fz, hb⟩ : ∃ rest fz, h1 b = some (.cells (xs ++ rest).toArray T fz) := by
      rcases hrow with ⟨h3, _⟩ | ⟨b', rest, fz, h3, h4, _⟩
      · cases h3
      · cases h3; exact ⟨rest, fz, h4⟩
    have hv' : ldv t (xs ++ rest).toArray.toList off = some v := by
      have h := ldv_in (pre := []) (post := rest) hv
      simpa using h
    have hr1 := ldv_ok (st.inr _ _ (s1 _ _ hb)) hv'
    unfold OpRes
    simp only [execOp, Instr.loadAt, ha.ev (by rw [evf_look]; exact hx), Instr.sureAddr, Sem.run_bind, Sem.run_pure, Result.andThen, hr1]
    exact fun a' ha' => nx a' w ha' h0
/-- The address of an element of a slice. -/
theorem l_ixP5 {T sz m cap : Nat} {z : Int} {rs tr : TRow} (j : Nat) (hlt : j < m) (nx : Wl n C ops.toArray k Q l ((d, .pointer (some ⟨b, j * sz, none⟩)) :: E) F R)
    (hw : wantL ops E ⟨some d, .indexAddr t x y, ty0, pos, aft, gd⟩ = some true := by rfl) (hn : Nat.blt d n = true := by rfl) (hx : ev E x = some (.slice (some ⟨b, 0, none⟩) m cap) := by rfl) (hy : ev E y = some (.int .i64 z) := by rfl)
    (hts : lookT tab t = some rs := by rfl) (hrs : rs.k = .slice T := by rfl) (hT : lookT tab T = some tr := by rfl) (hsz : tr.size = sz := by rfl) (hz : z = (j : Int) := by first | rfl | omega) : Wl n C ops.toArray k Q (⟨some d, .indexAddr t x y, ty0, pos, aft, gd⟩ :: l) E F R :=
  l_q (fun a w ha => by
    have hr1 := run_indexAt (o := some ⟨b, 0, none⟩) (m := m) (cap := cap) (w := w) hts hrs hT hsz hz hlt (p := ⟨b, j * sz, none⟩) (by simp [add_add rfl])
    simp only [execOp, ha.ev (x := x) (by rw [evf_look]; exact hx), ha.ev (x := y) (by rw [evf_look]; exact hy), Sem.run_bind, Result.andThen, hr1, Sem.run_pure]) nx (by intro c h; cases h) hw hn
end
end Go.Proofs.YtgaipgbgppdfeaaGreatDoor
