/-
  The law ConsequenceTexts, walked.
  Conditions: those that each theorem states.
-/
import Derived.Test.YtijaglinajfplaaGreatDoorTx2
set_option maxRecDepth 10000
namespace Go.Proofs.YtijaglinajfplaaGreatDoor
open Go.RowKit

section
variable {n : Nat} {C : Cx} {Q : Exit → Act → World → Prop} {E E' : List (Nat × Value)} {F F' F1 Fs F0 : List Pf} {R R' R0 Rs N N' A : List HP} {k k' : List Fr} {ops l : List Oper} {L L' : List (Nat × Nat)} {Tl : List Nat}
  {i d : Nat} {t t2 ty0 : TypeId} {x y : Operand} {pos : String} {aft : Array Edge} {gd : Option (Nat × Bool)}
theorem minN (m j : Nat) : (if (j : Int) < (m : Int) then (j : Int) else (m : Int)) = ((min m j : Nat) : Int) := by split <;> omega
/-- The beginning of a text, as long as it goes. -/
theorem l_cut {s : ByteArray} {z : Int} {rs : TRow} (hi : Nat) (nx : Wl n C ops.toArray k Q l ((d, .string (s.extract 0 (min s.size hi))) :: E) F R)
    (hw : wantL ops E ⟨some d, .slice t x none (some y) none, ty0, pos, aft, gd⟩ = some true := by rfl) (hn : Nat.blt d n = true := by rfl) (hx : ev E x = some (.string s) := by rfl) (hy : ev E y = some (.int .i64 z) := by rfl)
    (hts : lookT tab t = some rs := by rfl) (hrs : rs.k = .str := by rfl) (hz : z = (if (hi : Int) < (s.size : Int) then (hi : Int) else (s.size : Int)) := by rfl) : Wl n C ops.toArray k Q (⟨some d, .slice t x none (some y) none, ty0, pos, aft, gd⟩ :: l) E F R :=
  l_q (fun a w ha => by
    simp only [execOp, Option.map_some, Option.map_none, ha.ev (x := x) (by rw [evf_look]; exact hx), ha.ev (x := y) (by rw [evf_look]; exact hy), Sem.run_bind, run_sslice (w := w) (min s.size hi) (Nat.min_le_left _ _) hts hrs (hz.trans (minN _ _)), Result.andThen, Sem.run_pure]) nx (by intro c h; cases h) hw hn
theorem r_cut {s : ByteArray} {z : Int} {rs : TRow} (hi : Nat) (nx : Wr n C ops k Q Tl Fs R L ((d, .string (s.extract 0 (min s.size hi))) :: E) F N)
    (ho : nth ops i = some ⟨some d, .slice t x none (some y) none, ty0, pos, aft, gd⟩ := by rfl) (hw : wantL ops E ⟨some d, .slice t x none (some y) none, ty0, pos, aft, gd⟩ = some true := by rfl) (hx : ev E x = some (.string s) := by rfl) (hy : ev E y = some (.int .i64 z) := by rfl)
    (hts : lookT tab t = some rs := by rfl) (hrs : rs.k = .str := by rfl) (hz : z = (if (hi : Int) < (s.size : Int) then (hi : Int) else (s.size : Int)) := by rfl) : Wr n C ops k Q Tl Fs R ((i, 0) :: L) E F N :=
  r_q (fun a w ha => by
    simp only [execOp, Option.map_some, Option.map_none, ha.ev (x := x) (by rw [evf_look]; exact hx), ha.ev (x := y) (by rw [evf_look]; exact hy), Sem.run_bind, run_sslice (w := w) (min s.size hi) (Nat.min_le_left _ _) hts hrs (hz.trans (minN _ _)), Result.andThen, Sem.run_pure]) nx ho hw
end

/-- A text cut. -/
def cutB (s : ByteArray) (m : Nat) : ByteArray := s.extract 0 (min s.size m)
theorem cutB_size (s : ByteArray) (m : Nat) : (cutB s m).size ≤ m := by
  unfold cutB; rw [ByteArray.size_extract]; omega
def cutC (c : Cq) : Cq := { c with who := cutB c.who 300, old := { c.old with tg := cutB c.old.tg 300, tx := cutB c.old.tx 300 }, new := { c.new with tg := cutB c.new.tg 300, tx := cutB c.new.tx 300 } }

set_option maxHeartbeats 4000000 in
theorem lawTexts_ok (c : Cq) (h : CqOK c) : Enters 3 ∧ Spec Tryz.prog 3 #[c.v] [P10, Usg] [] (RetV (.bool true)) := by
  have h' : CqOK (cutC c) := ⟨h.n0, h.n1, h.p0, h.p1, h.o0, h.o1, h.w0, h.w1⟩
  have hs : CqSh (cutC c) := ⟨cutB_size _ _, cutB_size _ _, cutB_size _ _, cutB_size _ _, cutB_size _ _⟩
  have s1 := cText_ok (cutC c) h' hs
  have s2 := lText_ok (cutC c) h' hs
  refine ⟨enters_of Tryz.func3 (by kernel_rfl) rfl, spec_of (vs := [_]) Tryz.func3 rfl Tryz.ntmps3 rfl fun G w hp => ?_⟩
  repeat' (first | refine l_run ?_ | refine l_nil ?_ | refine l_one ?_ | refine k_reg ?_ | refine l_ld ?_ | refine l_ldF ?_ | refine l_st ?_ | refine l_al (fun b => ?_) | refine l_bs (fun b => ?_) | refine k_condT ?_ | refine k_condF ?_ | refine k_brk ?_ | refine r_run ?_ | refine r_one ?_ | refine r_ld ?_ | refine r_ldF ?_ | refine r_ldN ?_ | refine r_al (fun b => ?_) | refine r_bs (fun b => ?_) | refine r_st ?_ | refine r_end ?_ | refine l_call (known_ok) (fun _ _ => ?_) | refine l_call0 (known_ok) (fun _ _ => ?_) | refine r_call (known_ok) (fun _ _ => ?_) | refine l_call (s1) (fun _ _ => ?_) | refine l_call0 (s1) (fun _ _ => ?_) | refine r_call (s1) (fun _ _ => ?_) | refine l_call (s2) (fun _ _ => ?_) | refine l_call0 (s2) (fun _ _ => ?_) | refine r_call (s2) (fun _ _ => ?_) | refine l_cut 300 ?_ | refine r_cut 300 ?_ | refine r_up ?_ | (refine l_split (fun hc => ?_) (fun hc => ?_) <;> (try simp at hc)) | (refine r_split (fun hc => ?_) (fun hc => ?_) <;> (try simp at hc)) | refine k_draw 1 [Pt _ _] [(0, 0), (1, 0), (3, 0), (4, 0), (9, 0), (10, 0), (12, 0), (13, 0), (2, 3), (5, 3), (6, 0), (7, 0), (8, 0), (11, 3), (14, 3), (15, 0), (16, 0), (17, 0), (18, 0), (19, 0), (20, 4), (21, 0), (22, 0)] [23] ?_ | refine k_draw 2 [Pt _ _] [(0, 0), (1, 0), (3, 0), (4, 0), (9, 0), (10, 0), (12, 0), (13, 0), (2, 3), (5, 3), (6, 0), (7, 0), (8, 0), (11, 3), (14, 3), (15, 0), (16, 0), (17, 0), (18, 0), (19, 0), (20, 4), (21, 0), (22, 0)] [23] ?_ | refine k_draw 4 [] [(0, 4), (1, 0), (2, 0), (4, 0), (3, 4), (5, 4), (6, 0), (7, 0), (8, 0)] [] ?_ | (refine k_cond (fun hc => ?_) (fun hc => ?_) <;> (try simp at hc)))
  all_goals trace_state
  all_goals refine k_ret () ?_ trivial
  all_goals simp [RetV, resV]
end Go.Proofs.YtijaglinajfplaaGreatDoor
