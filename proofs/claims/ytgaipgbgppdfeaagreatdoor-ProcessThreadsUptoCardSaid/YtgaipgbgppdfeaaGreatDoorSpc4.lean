/-
  Contracts of a process's memory: access, own.
  Conditions: those that each theorem states.
-/
import Derived.Test.YtgaipgbgppdfeaaGreatDoorSpc3
import Derived.Test.YtgaipgbgppdfeaaGreatDoorMK
set_option maxRecDepth 10000
namespace Go.Proofs.YtgaipgbgppdfeaaGreatDoor
open Go.RowKit

section
variable {n : Nat} {C : Cx} {Q : Exit → Act → World → Prop} {E E' : List (Nat × Value)} {F F' F1 Fs F0 : List Pf} {R R' R0 Rs N N' A : List HP} {k k' : List Fr} {ops l : List Oper} {L L' : List (Nat × Nat)} {Tl : List Nat}
  {i d b : Nat} {t ty0 : TypeId} {x y y1 y2 : Operand} {pos : String} {aft : Array Edge} {gd : Option (Nat × Bool)}
/-- The address of an element of a slice that begins within a block. -/
theorem l_ixO {T sz m cap off : Nat} {z : Int} {rs tr : TRow} (j : Nat) (hlt : j < m) (nx : Wl n C ops.toArray k Q l ((d, .pointer (some ⟨b, off + j * sz, none⟩)) :: E) F R)
    (hw : wantL ops E ⟨some d, .indexAddr t x y, ty0, pos, aft, gd⟩ = some true := by rfl) (hn : Nat.blt d n = true := by rfl) (hx : ev E x = some (.slice (some ⟨b, off, none⟩) m cap) := by rfl) (hy : ev E y = some (.int .i64 z) := by rfl)
    (hts : lookT tab t = some rs := by rfl) (hrs : rs.k = .slice T := by rfl) (hT : lookT tab T = some tr := by rfl) (hsz : tr.size = sz := by rfl) (hz : z = (j : Int) := by first | rfl | omega) : Wl n C ops.toArray k Q (⟨some d, .indexAddr t x y, ty0, pos, aft, gd⟩ :: l) E F R :=
  l_q (fun a w ha => by
    have hr1 := run_indexAt (o := some ⟨b, off, none⟩) (m := m) (cap := cap) (w := w) hts hrs hT hsz hz hlt (p := ⟨b, off + j * sz, none⟩) (by simp [add_add rfl])
    simp only [execOp, ha.ev (x := x) (by rw [evf_look]; exact hx), ha.ev (x := y) (by rw [evf_look]; exact hy), Sem.run_bind, Result.andThen, hr1, Sem.run_pure]) nx (by intro c h; cases h) hw hn
/-- A part of an array within a block, as a slice. -/
theorem l_slO {T m off : Nat} {z1 z2 : Int} {rs tr : TRow} (lo hi : Nat) (hlo : lo < hi) (hhi : hi ≤ m) (nx : Wl n C ops.toArray k Q l ((d, .slice (some ⟨b, off + lo, none⟩) (hi - lo) (m - lo)) :: E) F R)
    (hw : wantL ops E ⟨some d, .slice t x (some y1) (some y2) none, ty0, pos, aft, gd⟩ = some true := by rfl) (hn : Nat.blt d n = true := by rfl) (hx : ev E x = some (.pointer (some ⟨b, off, none⟩)) := by rfl) (hy1 : ev E y1 = some (.int .i64 z1) := by rfl) (hy2 : ev E y2 = some (.int .i64 z2) := by rfl)
    (hts : lookT tab t = some rs := by rfl) (hrs : rs.k = .arr m T := by rfl) (hT : lookT tab T = some tr := by rfl) (hsz : tr.size = 1 := by rfl) (hz1 : z1 = (lo : Int) := by first | rfl | omega) (hz2 : z2 = (hi : Int) := by first | rfl | omega) : Wl n C ops.toArray k Q (⟨some d, .slice t x (some y1) (some y2) none, ty0, pos, aft, gd⟩ :: l) E F R :=
  l_q (fun a w ha => by
    have hr : (Instr.sliceAt t (.pointer (some ⟨b, off, none⟩)) (some (.int .i64 z1)) (some (.int .i64 z2)) none).run Tryz.prog w = .ok (.slice (some ⟨b, off + lo, none⟩) (hi - lo) (m - lo)) w := by
      subst hz1 hz2
      have hs1 := tab_ok.sizeOf hT w
      rw [hsz] at hs1
      have c1 : (0 : Int) ≤ (hi : Int) ∧ (hi : Int) ≤ (m : Int) := ⟨by omega, by omega⟩
      have c2 : (0 : Int) ≤ (lo : Int) ∧ (lo : Int) ≤ (hi : Int) := ⟨by omega, by omega⟩
      simp only [Instr.sliceAt, run_undA hts hrs, Instr.sureAddr, Instr.sliceBounds, Instr.sliceBound, asIntOf, Sem.run_bind, Sem.run_pure, Result.andThen, if_pos c1, if_pos c2, hs1, Int.toNat_natCast]
      rw [if_neg (by omega), add_add (b := b) (p := off) rfl]
      simp
    simp only [execOp, Option.map_some, Option.map_none, ha.ev (x := x) (by rw [evf_look]; exact hx), ha.ev (x := y1) (by rw [evf_look]; exact hy1), ha.ev (x := y2) (by rw [evf_look]; exact hy2), Sem.run_bind, hr, Result.andThen, Sem.run_pure]) nx (by intro c h; cases h) hw hn
end

/-- No pointer of a part of a space is nil. -/
theorem idxNone_ok (bk off m c : Nat) (Lv : List Value) (hL : ∀ j, j < m → ∃ a, Lv[off + j]? = some (.pointer (some ⟨a, 0, none⟩))) (hm : m ≤ 1000) :
    Enters 185 ∧ Spec Tryz.prog 185 #[.slice (some ⟨bk, off, none⟩) m c, .pointer none] [] [Ar 138 cf bk Lv] ⟨Unit, fun _ => .int .i64 (-1), fun _ => True, fun _ => [], fun _ => [Ar 138 cf bk Lv]⟩ := by
  refine ⟨enters_of Tryz.func185 (by kernel_rfl) rfl, spec_of (vs := [_, _]) Tryz.func185 rfl Tryz.ntmps185 rfl fun G w hp => ?_⟩
  repeat' (first | refine l_run ?_ | refine l_nil ?_ | refine l_one ?_ | refine k_reg ?_ | refine l_ld ?_ | refine l_ldF ?_ | refine l_st ?_ | refine l_al (fun b => ?_) | refine l_bs (fun b => ?_) | refine k_condT ?_ | refine k_condF ?_ | (refine l_split (fun hc => ?_) (fun hc => ?_) <;> (try simp at hc)) | (refine k_cond (fun hc => ?_) (fun hc => ?_) <;> (try simp at hc)))
  refine k_lp (X := { j : Nat // j ≤ m }) (fun j => [(0, .slice (some ⟨bk, off, none⟩) m c), (1, .pointer none), (7, .int .i64 (m : Int)), (8, .int .i64 (j.1 : Int))]) (fun _ => []) (fun _ => [Ar 138 cf bk Lv]) (fun j => m - j.1) ⟨0, Nat.zero_le _⟩ ⟨rfl, rfl, rfl, rfl, trivial⟩ ?_
  rintro ⟨j, hj⟩
  dsimp only
  by_cases hlt : j < m
  · obtain ⟨a, ha⟩ := hL j hlt
    have o1 : off + j * 1 = (off + j) * 1 + 0 := by omega
    have wj : IntKind.i64.wrap ((j : Int) + 1) = ((j + 1 : Nat) : Int) := by rw [wrapi (by omega) (by omega)]; omega
    repeat' (first | refine l_run ?_ | refine l_nil ?_ | refine l_one ?_ | refine k_reg ?_ | refine l_ld ?_ | refine l_ldF ?_ | refine l_st ?_ | refine l_al (fun b => ?_) | refine l_bs (fun b => ?_) | refine k_condT ?_ | refine k_condF ?_ | refine l_ixO j hlt ?_ | refine l_ldA 1 (off + j) 0 ha ?_ (ho := o1) | rw [wj] | (refine l_split (fun hc => ?_) (fun hc => ?_) <;> (try simp at hc) <;> (try omega)) | (refine k_cond (fun hc => ?_) (fun hc => ?_) <;> (try simp at hc) <;> (try omega)))
    exact k_next ⟨j + 1, by omega⟩ (by show m - (j + 1) < m - j; omega) ⟨rfl, rfl, rfl, rfl, trivial⟩
  · repeat' (first | refine l_run ?_ | refine l_nil ?_ | refine l_one ?_ | refine k_reg ?_ | refine l_ld ?_ | refine l_ldF ?_ | refine l_st ?_ | refine l_al (fun b => ?_) | refine l_bs (fun b => ?_) | refine k_condT ?_ | refine k_condF ?_ | refine k_brk ?_ | (refine l_split (fun hc => ?_) (fun hc => ?_) <;> (try simp at hc) <;> (try omega)) | (refine k_cond (fun hc => ?_) (fun hc => ?_) <;> (try simp at hc) <;> (try omega)))
    exact k_ret () rfl trivial
theorem conNone_ok (bk off m c : Nat) (Lv : List Value) (hL : ∀ j, j < m → ∃ a, Lv[off + j]? = some (.pointer (some ⟨a, 0, none⟩))) (hm : m ≤ 1000) :
    Enters 118 ∧ Spec Tryz.prog 118 #[.slice (some ⟨bk, off, none⟩) m c, .pointer none] [] [Ar 138 cf bk Lv] ⟨Unit, fun _ => .bool false, fun _ => True, fun _ => [], fun _ => [Ar 138 cf bk Lv]⟩ := by
  have n1 := idxNone_ok bk off m c Lv hL hm
  refine ⟨enters_of Tryz.func118 (by kernel_rfl) rfl, spec_of (vs := [_, _]) Tryz.func118 rfl Tryz.ntmps118 rfl fun G w hp => ?_⟩
  repeat' (first | refine l_run ?_ | refine l_nil ?_ | refine l_one ?_ | refine k_reg ?_ | refine l_ld ?_ | refine l_ldF ?_ | refine l_st ?_ | refine l_al (fun b => ?_) | refine l_bs (fun b => ?_) | refine k_condT ?_ | refine k_condF ?_ | refine k_brk ?_ | refine l_call (n1) (fun _ _ => ?_) | refine l_call0 (n1) (fun _ _ => ?_) | (refine l_split (fun hc => ?_) (fun hc => ?_) <;> (try simp at hc)) | (refine k_cond (fun hc => ?_) (fun hc => ?_) <;> (try simp at hc)))
  exact k_ret () rfl trivial

def isH : Pg → Bool
  | .h _ _ => true
  | _ => false
/-- Pages needed one after the other, up to the first that is not there. -/
def accM (src : Nat → Pg) (M : Nat → Pg) (p0 : Nat) : Nat → (Nat → Pg) × Bool
  | 0 => (M, true)
  | j + 1 => let r := accM src M p0 j; if r.2 then (ndM src r.1 (p0 + j), isH (ndM src r.1 (p0 + j) (p0 + j))) else r
def accR (src M : Nat → Pg) (z : Int) (n : Nat) : (Nat → Pg) × Int :=
  if n = 0 then (M, 0) else if z < 0 ∨ 4096 ≤ z ∨ 4096 - z < n then (M, 23)
  else ((accM src M (z.toNat / 64) ((z.toNat + n - 1) / 64 + 1 - z.toNat / 64)).1, if (accM src M (z.toNat / 64) ((z.toNat + n - 1) / 64 + 1 - z.toNat / 64)).2 then 0 else 23)
theorem ndM_self (src M : Nat → Pg) (i j : Nat) (h : isH (M j) = true) : ndM src M i j = M j := by
  unfold ndM
  cases hu : M i with
  | u =>
    by_cases hij : j = i
    · subst hij; rw [hu] at h; cases h
    · show up M i (src i) j = M j
      rw [up_ne _ _ hij]
  | _ => rfl
theorem accM_h {src M : Nat → Pg} {p0 : Nat} : ∀ {j : Nat}, (accM src M p0 j).2 = true → ∀ k, k < j → isH ((accM src M p0 j).1 (p0 + k)) = true
  | 0, _, k, hk => by omega
  | j + 1, h, k, hk => by
    by_cases hr : (accM src M p0 j).2 = true
    · have e : accM src M p0 (j + 1) = (ndM src (accM src M p0 j).1 (p0 + j), isH (ndM src (accM src M p0 j).1 (p0 + j) (p0 + j))) := by
        rw [accM]; simp only [hr, if_true]
      rw [e] at h ⊢
      by_cases hkj : k = j
      · subst hkj; exact h
      · have ih := accM_h hr k (by omega)
        show isH (ndM src (accM src M p0 j).1 (p0 + j) (p0 + k)) = true
        rw [ndM_self _ _ _ _ ih]; exact ih
    · have e : accM src M p0 (j + 1) = accM src M p0 j := by rw [accM]; simp only [hr]; rfl
      rw [e] at h; exact absurd h hr

theorem accM_no {src M : Nat → Pg} {p0 j : Nat} (h : (accM src M p0 j).2 = false) : ∀ {J : Nat}, j ≤ J → accM src M p0 J = accM src M p0 j
  | 0, hJ => by obtain rfl : j = 0 := by omega
                rfl
  | J + 1, hJ => by
    by_cases hj : j = J + 1
    · subst hj; rfl
    · have ih := accM_no h (J := J) (by omega)
      rw [accM]
      simp only [ih, h]
      rfl
theorem accM_step {src M : Nat → Pg} {p0 j : Nat} (h : (accM src M p0 j).2 = true) : accM src M p0 (j + 1) = (ndM src (accM src M p0 j).1 (p0 + j), isH (ndM src (accM src M p0 j).1 (p0 + j) (p0 + j))) := by
  rw [accM]; simp only [h, if_true]
section
variable (s : Sr) (ps : Option Addr) (es : Al) (cs : List Ch) (hsp : s.p.sp.size ≤ 1000)
abbrev MmL (s : Sr) (b : Nat) (ps : Option Addr) (cs : List Ch) (M : Nat → Pg) (q : (Nat → Bool) × (Nat → Nat) × List (Nm × Ch)) : List HP := [Ar 138 cf b (spcL s.fv M q.1 q.2.1), Hd M q.2.1, Vw s.vb ps q.2.2 cs]
include hsp
set_option maxHeartbeats 1000000 in
theorem access_ok (bk : Nat) (M : Nat → Pg) (q0 : (Nat → Bool) × (Nat → Nat) × List (Nm × Ch)) (z : Int) (n : Nat) (hn : n < 9223372036854775808) :
    Enters 62 ∧ Spec Tryz.prog 62 #[.pointer (some ⟨bk, 0, none⟩), .int .i64 z, .int .i64 (n : Int)] (s.fs ps es) (MmL s bk ps cs M q0)
    ⟨(Nat → Bool) × (Nat → Nat) × List (Nm × Ch), fun _ => .int .i64 (accR (srP es cs s) M z n).2, fun _ => True, fun _ => [], fun q => MmL s bk ps cs (accR (srP es cs s) M z n).1 q⟩ := by
  unfold accR
  by_cases h0 : n = 0
  · subst h0
    rw [if_pos rfl]
    refine ⟨enters_of Tryz.func62 (by kernel_rfl) rfl, spec_of (vs := [_, _, _]) Tryz.func62 rfl Tryz.ntmps62 rfl fun G w hp => ?_⟩
    repeat' (first | refine l_run ?_ | refine l_nil ?_ | refine l_one ?_ | refine k_reg ?_ | refine l_ld ?_ | refine l_ldF ?_ | refine l_st ?_ | refine l_al (fun b => ?_) | refine l_bs (fun b => ?_) | refine k_condT ?_ | refine k_condF ?_ | refine k_brk ?_ | (refine l_split (fun hc => ?_) (fun hc => ?_) <;> (try simp at hc) <;> (try omega)) | (refine k_cond (fun hc => ?_) (fun hc => ?_) <;> (try simp at hc) <;> (try omega)))
    exact k_ret q0 rfl trivial
  rw [if_neg h0]
  by_cases h1 : z < 0 ∨ 4096 ≤ z ∨ 4096 - z < n
  · rw [if_pos h1]
    refine ⟨enters_of Tryz.func62 (by kernel_rfl) rfl, spec_of (vs := [_, _, _]) Tryz.func62 rfl Tryz.ntmps62 rfl fun G w hp => ?_⟩
    by_cases h2 : z < 0 ∨ 4096 ≤ z
    · repeat' (first | refine l_run ?_ | refine l_nil ?_ | refine l_one ?_ | refine k_reg ?_ | refine l_ld ?_ | refine l_ldF ?_ | refine l_st ?_ | refine l_al (fun b => ?_) | refine l_bs (fun b => ?_) | refine k_condT ?_ | refine k_condF ?_ | refine k_brk ?_ | (refine l_split (fun hc => ?_) (fun hc => ?_) <;> (try simp at hc) <;> (try omega)) | (refine k_cond (fun hc => ?_) (fun hc => ?_) <;> (try simp at hc) <;> (try omega)))
      all_goals exact k_ret q0 rfl trivial
    · have w1 : IntKind.i64.wrap (4096 - z) = 4096 - z := wrapi (by omega) (by omega)
      repeat' (first | refine l_run ?_ | refine l_nil ?_ | refine l_one ?_ | refine k_reg ?_ | refine l_ld ?_ | refine l_ldF ?_ | refine l_st ?_ | refine l_al (fun b => ?_) | refine l_bs (fun b => ?_) | refine k_condT ?_ | refine k_condF ?_ | refine k_brk ?_ | rw [w1] | (refine l_split (fun hc => ?_) (fun hc => ?_) <;> (try simp at hc) <;> (try omega)) | (refine k_cond (fun hc => ?_) (fun hc => ?_) <;> (try simp at hc) <;> (try omega)))
      all_goals exact k_ret q0 rfl trivial
  rw [if_neg h1]
  obtain ⟨a, rfl⟩ : ∃ a : Nat, z = (a : Int) := ⟨z.toNat, by omega⟩
  rw [show ((a : Int)).toNat = a from rfl]
  obtain ⟨p0, hp0⟩ : ∃ p0, p0 = a / 64 := ⟨_, rfl⟩
  obtain ⟨p1, hp1⟩ : ∃ p1, p1 = (a + n - 1) / 64 := ⟨_, rfl⟩
  have w1 : IntKind.i64.wrap (4096 - (a : Int)) = 4096 - (a : Int) := wrapi (by omega) (by omega)
  have w2 : IntKind.i64.wrap ((a : Int).tdiv 64) = (p0 : Int) := by
    have : (a : Int).tdiv 64 = (p0 : Int) := by rw [hp0]; exact (Int.ofNat_tdiv _ _).symm
    rw [this, wrapi (by omega) (by omega)]
  have w3 : IntKind.i64.wrap ((IntKind.i64.wrap (IntKind.i64.wrap ((a : Int) + (n : Int)) - 1)).tdiv 64) = (p1 : Int) := by
    rw [wrapi (z := (a : Int) + n) (by omega) (by omega), wrapi (z := (a : Int) + n - 1) (by omega) (by omega)]
    have : ((a : Int) + n - 1).tdiv 64 = (p1 : Int) := by
      rw [show (a : Int) + n - 1 = ((a + n - 1 : Nat) : Int) by omega, hp1]; exact (Int.ofNat_tdiv _ _).symm
    rw [this, wrapi (by omega) (by omega)]
  rw [← hp0, ← hp1]
  obtain ⟨J, hJ⟩ : ∃ J, J = p1 + 1 - p0 := ⟨_, rfl⟩
  rw [← hJ]
  have hp1' : p1 < 64 := by omega
  have hp01 : p0 ≤ p1 := by omega
  generalize hsrc : srP es cs s = src at *
  refine ⟨enters_of Tryz.func62 (by kernel_rfl) rfl, spec_of (vs := [_, _, _]) Tryz.func62 rfl Tryz.ntmps62 rfl fun G w hp => ?_⟩
  repeat' (first | refine l_run ?_ | refine l_nil ?_ | refine l_one ?_ | refine k_reg ?_ | refine l_ld ?_ | refine l_ldF ?_ | refine l_st ?_ | refine l_al (fun b => ?_) | refine l_bs (fun b => ?_) | refine k_condT ?_ | refine k_condF ?_ | rw [w1] | rw [w2] | (refine l_split (fun hc => ?_) (fun hc => ?_) <;> (try simp at hc) <;> (try omega)) | (refine k_cond (fun hc => ?_) (fun hc => ?_) <;> (try simp at hc) <;> (try omega)))
  refine k_lp (X := { t : Nat × (Nat → Bool) × (Nat → Nat) × List (Nm × Ch) // t.1 ≤ J ∧ (accM src M p0 t.1).2 = true }) (fun t => [(0, .pointer (some ⟨bk, 0, none⟩)), (1, .int .i64 (a : Int)), (2, .int .i64 (n : Int)), (7, .int .i64 ((p0 + t.1.1 : Nat) : Int))]) (fun _ => s.fs ps es) (fun t => MmL s bk ps cs (accM src M p0 t.1.1).1 t.1.2) (fun t => J - t.1.1)
    ⟨(0, q0), Nat.zero_le _, rfl⟩ ⟨rfl, rfl, rfl, rfl, trivial⟩ ?_
  rintro ⟨⟨j, ak, bl, rs⟩, hj, hok⟩
  dsimp only at hj hok ⊢
  by_cases hjJ : j < J
  · have n1 := need_ok s ps es rs cs hsp bk (accM src M p0 j).1 ak bl (p0 + j) (by omega)
    rw [hsrc] at n1
    have hst := accM_step (src := src) (M := M) hok
    have wj : IntKind.i64.wrap (((p0 + j : Nat) : Int) + 1) = ((p0 + (j + 1) : Nat) : Int) := by rw [wrapi (by omega) (by omega)]; omega
    have hle : ((p0 + j : Nat) : Int) ≤ (p1 : Int) := by omega
    cases hp : ndM src (accM src M p0 j).1 (p0 + j) (p0 + j) with
    | h bs c =>
      simp only [hp, pgv] at n1
      rw [hp] at hst
      dsimp only [Sr.fs] at *
      repeat' (first | refine l_run ?_ | refine l_nil ?_ | refine l_one ?_ | refine k_reg ?_ | refine l_ld ?_ | refine l_ldF ?_ | refine l_st ?_ | refine l_al (fun b => ?_) | refine l_bs (fun b => ?_) | refine k_condT ?_ | refine k_condF ?_ | refine l_call (n1) (fun _ _ => ?_) | refine l_call0 (n1) (fun _ _ => ?_) | rw [w3] | rw [wj] | (refine l_split (fun hc => ?_) (fun hc => ?_) <;> (try simp at hc) <;> (try omega)) | (refine k_cond (fun hc => ?_) (fun hc => ?_) <;> (try simp at hc) <;> (try omega)))
      rename_i q _
      exact k_next ⟨(j + 1, q), by show j + 1 ≤ J; omega, by show (accM src M p0 (j + 1)).2 = true; rw [hst]; rfl⟩ (by show J - (j + 1) < J - j; omega) ⟨rfl, rfl, rfl, rfl, trivial⟩ (hr := by dsimp only; rw [hst]; (repeat (first | exact Sels.nil | exact Sel.here | apply Sel.there | apply Sels.cons)))
    | _ =>
      simp only [hp, pgv] at n1
      rw [hp] at hst
      have hJe := accM_no (src := src) (M := M) (p0 := p0) (j := j + 1) (by rw [hst]; rfl) (J := J) (by omega)
      rw [hJe, hst]
      dsimp only [Sr.fs] at *
      repeat' (first | refine l_run ?_ | refine l_nil ?_ | refine l_one ?_ | refine k_reg ?_ | refine l_ld ?_ | refine l_ldF ?_ | refine l_st ?_ | refine l_al (fun b => ?_) | refine l_bs (fun b => ?_) | refine k_condT ?_ | refine k_condF ?_ | refine l_call (n1) (fun _ _ => ?_) | refine l_call0 (n1) (fun _ _ => ?_) | rw [w3] | (refine l_split (fun hc => ?_) (fun hc => ?_) <;> (try simp at hc) <;> (try omega)) | (refine k_cond (fun hc => ?_) (fun hc => ?_) <;> (try simp at hc) <;> (try omega)))
      rename_i q _
      exact k_rt (w_lq (w_ret q rfl trivial))
  · obtain rfl : j = J := by omega
    have hall := accM_h hok
    have w4 : IntKind.i64.wrap ((p1 : Int) + 1) = ((p1 + 1 : Nat) : Int) := by rw [wrapi (by omega) (by omega)]; omega
    have nC := conNone_ok bk (193 + p0) (p1 + 1 - p0) (64 - p0) (spcL s.fv (accM src M p0 j).1 ak bl) (fun k hk => by
      have h1 := hall k (by omega)
      have h2 := spc_pg (fv := s.fv) (M := (accM src M p0 j).1) (ak := ak) (bl := bl) (i := p0 + k) (by omega)
      rw [show 193 + p0 + k = 193 + (p0 + k) by omega, h2]
      cases hm : (accM src M p0 j).1 (p0 + k) with
      | h bs c => exact ⟨_, rfl⟩
      | _ => rw [hm] at h1; cases h1) (by omega)
    have hA : p0 < p1 + 1 := by omega
    have hB : p1 + 1 ≤ 64 := by omega
    repeat' (first | refine l_run ?_ | refine l_nil ?_ | refine l_one ?_ | refine k_reg ?_ | refine l_ld ?_ | refine l_ldF ?_ | refine l_st ?_ | refine l_al (fun b => ?_) | refine l_bs (fun b => ?_) | refine k_condT ?_ | refine k_condF ?_ | refine k_brk ?_ | refine l_call (nC) (fun _ _ => ?_) | refine l_call0 (nC) (fun _ _ => ?_) | rw [w2] | rw [w3] | rw [w4] | refine l_qS ?_ | refine l_slO (m := 64) p0 (p1 + 1) hA hB ?_ | (refine l_split (fun hc => ?_) (fun hc => ?_) <;> (try simp at hc) <;> (try omega)) | (refine k_cond (fun hc => ?_) (fun hc => ?_) <;> (try simp at hc) <;> (try omega)))
    refine k_ret (ak, bl, rs) ?_ trivial
    show resV [Value.int .i64 0] = Value.int .i64 (if (accM src M p0 j).2 then 0 else 23)
    rw [hok]; rfl
end
end Go.Proofs.YtgaipgbgppdfeaaGreatDoor
