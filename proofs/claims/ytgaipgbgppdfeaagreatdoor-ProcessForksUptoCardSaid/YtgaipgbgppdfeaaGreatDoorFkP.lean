/-
  What is there in the law ProcessForks: before the fork, after it, after each store; and rules that its walk needs.
  Conditions: those that each theorem states.
-/
import Derived.Test.YtgaipgbgppdfeaaGreatDoorPut
import Derived.Test.YtgaipgbgppdfeaaGreatDoorKn35
import Derived.Test.YtgaipgbgppdfeaaGreatDoorEnc
set_option maxRecDepth 10000
namespace Go.Proofs.YtgaipgbgppdfeaaGreatDoor
open Go.RowKit

section
variable {n : Nat} {C : Cx} {Q : Exit → Act → World → Prop} {E E' : List (Nat × Value)} {F F' F1 Fs F0 : List Pf} {R R' R0 Rs N N' A : List HP} {k k' : List Fr} {ops l : List Oper} {L L' : List (Nat × Nat)} {Tl : List Nat}
  {i d : Nat} {t t2 ty0 : TypeId} {x y y2 : Operand} {pos : String} {aft : Array Edge} {gd : Option (Nat × Bool)} {xs ys : Array Value}
theorem run_sLH2 {s : ByteArray} {z1 z2 : Int} {rs : TRow} {w : World} (lo hi : Nat) (h1 : lo ≤ hi) (h2 : hi ≤ s.size) (hts : lookT tab t = some rs) (hrs : rs.k = .str) (hz1 : z1 = (lo : Int)) (hz2 : z2 = (hi : Int)) : (Instr.sliceAt t (.string s) (some (.int .i64 z1)) (some (.int .i64 z2)) none).run Tryz.prog w = .ok (.string (s.extract lo hi)) w := by
  subst hz1 hz2
  have hu := run_undS (w := w) hts hrs
  have hb2 : (Instr.sliceBound (.int .i64 (hi : Int)) s.size .sliceAlen).run Tryz.prog w = .ok hi w := by
    simp only [Instr.sliceBound, asIntOf, Sem.run_bind, Sem.run_pure, Result.andThen]
    rw [if_pos ⟨by omega, by omega⟩]
    simp
  have hb1 : ∀ e, (Instr.sliceBound (.int .i64 (lo : Int)) hi e).run Tryz.prog w = .ok lo w := fun e => by
    simp only [Instr.sliceBound, asIntOf, Sem.run_bind, Sem.run_pure, Result.andThen]
    rw [if_pos ⟨by omega, by omega⟩]
    simp
  simp [Instr.sliceAt, Instr.slice, Instr.sliceBounds, Sem.run_bind, hu, Result.andThen, hb1, hb2]
/-- A part of a text. -/
theorem l_sLH2 {s : ByteArray} {z1 z2 : Int} {rs : TRow} (lo hi : Nat) (h1 : lo ≤ hi) (h2 : hi ≤ s.size) (nx : Wl n C ops.toArray k Q l ((d, .string (s.extract lo hi)) :: E) F R)
    (hw : wantL ops E ⟨some d, .slice t x (some y) (some y2) none, ty0, pos, aft, gd⟩ = some true := by rfl) (hn : Nat.blt d n = true := by rfl) (hx : ev E x = some (.string s) := by rfl) (hy : ev E y = some (.int .i64 z1) := by rfl) (hy2 : ev E y2 = some (.int .i64 z2) := by rfl)
    (hts : lookT tab t = some rs := by rfl) (hrs : rs.k = .str := by rfl) (hz1 : z1 = (lo : Int) := by first | rfl | omega) (hz2 : z2 = (hi : Int) := by first | rfl | omega) : Wl n C ops.toArray k Q (⟨some d, .slice t x (some y) (some y2) none, ty0, pos, aft, gd⟩ :: l) E F R :=
  l_q (fun a w ha => by
    simp only [execOp, Option.map_some, Option.map_none, ha.ev (x := x) (by rw [evf_look]; exact hx), ha.ev (x := y) (by rw [evf_look]; exact hy), ha.ev (x := y2) (by rw [evf_look]; exact hy2), Sem.run_bind, run_sLH2 (w := w) lo hi h1 h2 hts hrs hz1 hz2, Result.andThen, Sem.run_pure]) nx (by intro c h; cases h) hw hn
/-- The beginning of a text. -/
theorem r_sH {s : ByteArray} {z : Int} {rs : TRow} (hi : Nat) (hle : hi ≤ s.size) (nx : Wr n C ops k Q Tl Fs R L ((d, .string (s.extract 0 hi)) :: E) F N)
    (ho : nth ops i = some ⟨some d, .slice t x none (some y) none, ty0, pos, aft, gd⟩ := by rfl) (hw : wantL ops E ⟨some d, .slice t x none (some y) none, ty0, pos, aft, gd⟩ = some true := by rfl) (hx : ev E x = some (.string s) := by rfl) (hy : ev E y = some (.int .i64 z) := by rfl)
    (hts : lookT tab t = some rs := by rfl) (hrs : rs.k = .str := by rfl) (hz : z = (hi : Int) := by first | rfl | omega) : Wr n C ops k Q Tl Fs R ((i, 0) :: L) E F N :=
  r_q (fun a w ha => by
    simp only [execOp, Option.map_some, Option.map_none, ha.ev (x := x) (by rw [evf_look]; exact hx), ha.ev (x := y) (by rw [evf_look]; exact hy), Sem.run_bind, run_scut (w := w) hi hle hts hrs hz, Result.andThen, Sem.run_pure]) nx ho hw
end
def eqS35 : List Nat := [26]
theorem eqS35_ok : eqS35.all chkE = true := by decide +kernel
section
variable {n : Nat} {C : Cx} {Q : Exit → Act → World → Prop} {E E' : List (Nat × Value)} {F F' F1 Fs F0 : List Pf} {R R' R0 : List HP} {k k' : List Fr} {ops l : List Oper}
  {i d : Nat} {t t2 ty0 : TypeId} {x y : Operand} {pos : String} {aft : Array Edge} {gd : Option (Nat × Bool)} {xs ys : Array Value}
theorem l_sneq35 {b : Bool} (nx : Wl n C ops.toArray k Q l ((d, .bool (!b)) :: E) F R) (hw : wantL ops E ⟨some d, .binOp .neq t x y t2, ty0, pos, aft, gd⟩ = some true := by rfl) (hn : Nat.blt d n = true := by rfl)
    (hx : ev E x = some (.agg xs) := by rfl) (hy : ev E y = some (.agg ys) := by rfl) (hm : memN eqS35 t = true := by rfl) (he : eqC eqS35 20 t (.agg xs) (.agg ys) = some b := by rfl) : Wl n C ops.toArray k Q (⟨some d, .binOp .neq t x y t2, ty0, pos, aft, gd⟩ :: l) E F R :=
  l_q (fun a w ha => by
    have hc := List.all_eq_true.1 eqS35_ok t (memN_mem hm)
    simp only [chkE, Bool.and_eq_true, beq_iff_eq] at hc
    have h1 := eqC_ok eqS35_ok 20 10000 t _ _ b w (by omega) he
    simp only [execOp, ha.ev (x := x) (by rw [evf_look]; exact hx), ha.ev (x := y) (by rw [evf_look]; exact hy), Sem.run_bind, run_eqGuard_agg w .neq t x y xs ys hc.2, Result.andThen, run_neq_struct, h1, Sem.run_pure]) nx (by intro c h; cases h) hw hn
end

def kid35 : Pr := kidS false one35 one35 c11
theorem kid35_chk : pchk kid35 = 0 := pr_chk (by decide) (by decide) (fun _ => rfl) c11_valid
/-- What holds after the fork and after each store. -/
structure FJ (i : Nat) (cs : List Ch) (w0 w1 : ByteArray) : Prop where
  a : PrAt [] cs o1 one35
  b : PrAt [] cs c11 kid35
  m0 : memS [] cs o1 2 = w0
  m1 : memS [] cs c11 2 = w1
  l : cs.length ≤ 300 + 64 * i
theorem prAt_put {cs : List Ch} {who : ByteArray} {p : Pr} {sp : ByteArray} {pg k : Nat} {tx : ByteArray} (h : PrAt [] cs who p) : PrAt [] (putS [] cs sp pg k tx) who p :=
  ⟨h.v, h.w, by rw [putS_ne fun j => by simp [gnm, pnm]]; exact h.g, h.c, h.s, h.d, h.e, by rw [putS_ne fun j => by simp [gnm, enm]]; exact h.n⟩
theorem FJ.s0 {i : Nat} {cs : List Ch} {w0 w1 : ByteArray} (h : FJ i cs w0 w1) {k : Nat} {tx : ByteArray} (hk : k + tx.size ≤ 128) : FJ (i + 1) (putS [] cs o1 2 k tx) (spl w0 k tx) w1 :=
  ⟨prAt_put h.a, prAt_put h.b, by rw [putS_spl o1_valid (by decide) (by omega), h.m0], by rw [putS_mem' (fun e => d1 e.symm), h.m1], by have := putS_len (es := []) (cs := cs) (sp := o1) (pg := 2) (k := k) (tx := tx); have := h.l; omega⟩
theorem FJ.s1 {i : Nat} {cs : List Ch} {w0 w1 : ByteArray} (h : FJ i cs w0 w1) {k : Nat} {tx : ByteArray} (hk : k + tx.size ≤ 128) : FJ (i + 1) (putS [] cs c11 2 k tx) w0 (spl w1 k tx) :=
  ⟨prAt_put h.a, prAt_put h.b, by rw [putS_mem' d1, h.m0], by rw [putS_spl c11_valid (by decide) (by omega), h.m1], by have := putS_len (es := []) (cs := cs) (sp := c11) (pg := 2) (k := k) (tx := tx); have := h.l; omega⟩

section
variable (ec : ByteArray) (tx : ByteArray)
def fk1 : List Ch := cA ++ [⟨rnm o1, ec, false⟩]
def fk2 : List Ch := putS [] (fk1 ec) o1 2 20 tx
def fk3 : List Ch := spC [] (fk2 ec tx) o1 c11 ⟨0, 0, 0⟩ one35 kid35
theorem f1_at : PrAt [] (fk1 ec) o1 one35 := one_at (by unfold fk1; rw [vg_ne (by simp [rnm, pnm]), vA_p, if_pos rfl]) (by unfold fk1; rw [vg_ne (by simp [rnm, enm]), vA_o _ (by decide)])
theorem f2_at : PrAt [] (fk2 ec tx) o1 one35 := prAt_put (f1_at ec)
theorem f1_g (s : ByteArray) (i : Int) : vget [] (fk1 ec) (gnm s i) = (⟨#[]⟩, false) := by unfold fk1; rw [vg_ne (by simp [rnm, gnm]), vA_o _ (by simp [gnm])]
theorem f2_o (m : Nm) (h : m.kind ≠ 3) : vget [] (fk2 ec tx) m = vget [] (fk1 ec) m := putS_ne fun i e => h (by rw [← e]; rfl)
theorem f2_c : vget [] (fk2 ec tx) (cnm o1) = (⟨#[]⟩, false) := by rw [f2_o _ _ _ (by decide)]; unfold fk1; rw [vg_ne (by simp [rnm, cnm]), vA_o _ (by decide)]
theorem f2_r : vget [] (fk2 ec tx) (rnm o1) = (ec, true) := by rw [f2_o _ _ _ (by decide)]; unfold fk1; rw [vg_eq rfl (chk_rnm o1_valid)]; rfl
theorem f2_p : vget [] (fk2 ec tx) (pnm c11) = (⟨#[]⟩, false) := by rw [f2_o _ _ _ (by decide)]; unfold fk1; rw [vg_ne (by simp [rnm, pnm]), vA_p, if_neg d1]
theorem f2_g (ht : tx.size ≤ 100) (i : Nat) : (∃ s : ByteArray, s.size = 64 ∧ vget [] (fk2 ec tx) (gnm o1 (i : Int)) = (s, true)) ∨ vget [] (fk2 ec tx) (gnm o1 (i : Int)) = (⟨#[]⟩, false) := by
  rcases putS_pg (es := []) (cs := fk1 ec) (sp := o1) (pg := 2) (k := 20) (tx := tx) o1_valid (by decide) (by omega) i with h | h
  · exact .inl h
  · right
    have : vget [] (fk2 ec tx) (gnm o1 (i : Int)) = vget [] (fk1 ec) (gnm o1 (i : Int)) := h
    rw [this, f1_g]
theorem f2_gc (i : Int) : vget [] (fk2 ec tx) (gnm c11 i) = (⟨#[]⟩, false) := by
  have : vget [] (fk2 ec tx) (gnm c11 i) = vget [] (fk1 ec) (gnm c11 i) := putS_ne fun j => gnm_ne (.inl fun e => d1 e.symm)
  rw [this, f1_g]
theorem f3_o (m : Nm) (h1 : m.kind ≠ 1) (h5 : m.kind ≠ 5) (h3 : m.kind ≠ 3) (h2 : m ≠ rnm c11) : vget [] (fk3 ec tx) m = vget [] (fk2 ec tx) m := by
  unfold fk3 spC
  rw [vsp_ne fun i _ e => h3 (by rw [← e]; rfl), vcp_ne (Ne.symm h2), vg_ne (fun e => h1 (by rw [← e]; rfl)), vg_ne (fun e => h5 (by rw [← e]; rfl))]
theorem f3_p : vget [] (fk3 ec tx) (pnm c11) = (pencS kid35, true) := by
  unfold fk3 spC
  rw [vsp_ne fun i _ => by simp [gnm, pnm], vcp_ne (by simp [rnm, pnm]), vg_eq rfl (chk_pnm c11_valid)]; rfl
theorem f3_p1 : vget [] (fk3 ec tx) (pnm o1) = (pencS one35, true) := by
  unfold fk3 spC
  rw [vsp_ne fun i _ => by simp [gnm, pnm], vcp_ne (by simp [rnm, pnm]), vg_ne (fun e => d1 (by simpa [pnm] using e)), vg_ne (by simp [cnm, pnm])]
  exact (f2_at ec tx).g
theorem f3_n : vget [] (fk3 ec tx) enm = (⟨#[]⟩, false) := by rw [f3_o _ _ _ (by decide) (by decide) (by decide) (by simp [enm, rnm])]; exact (f2_at ec tx).n
theorem f3_r : vget [] (fk3 ec tx) (rnm c11) = (ec, true) := by
  have e1 : vget [] (fk2 ec tx ++ [⟨cnm o1, cvs { (⟨0, 0, 0⟩ : Ct) with c := (⟨0, 0, 0⟩ : Ct).c + 1 }, false⟩] ++ [⟨pnm c11, pencS kid35, false⟩]) (rnm o1) = (ec, true) := by
    rw [vg_ne (by simp [pnm, rnm]), vg_ne (by simp [cnm, rnm]), f2_r]
  unfold fk3 spC
  rw [vsp_ne fun i _ => by simp [gnm, rnm], vcp_eq (chk_rnm c11_valid), e1, if_pos rfl]
theorem f3_g (s : ByteArray) (i : Int) : vget [] (cpC [] (fk2 ec tx ++ [⟨cnm o1, cvs { (⟨0, 0, 0⟩ : Ct) with c := (⟨0, 0, 0⟩ : Ct).c + 1 }, false⟩] ++ [⟨pnm c11, pencS kid35, false⟩]) (rnm o1) (rnm c11)) (gnm s i) = vget [] (fk2 ec tx) (gnm s i) := by
  rw [vcp_ne (by simp [rnm, gnm]), vg_ne (by simp [pnm, gnm]), vg_ne (by simp [cnm, gnm])]
theorem f3_m0 : memS [] (fk3 ec tx) o1 2 = memS [] (fk2 ec tx) o1 2 := memS_congr fun i _ => by
  unfold fk3 spC
  rw [show one35.sp = o1 from rfl, vsp_f d1, f3_g]
theorem f3_m1 (ht : tx.size ≤ 100) : memS [] (fk3 ec tx) c11 2 = memS [] (fk2 ec tx) o1 2 := memS_congr fun i hi => by
  unfold fk3 spC
  rw [show one35.sp = o1 from rfl, show kid35.pg.toNat = 2 from rfl, vsp_eq d1 c11_valid (by decide) i hi, f3_g, f3_g, f2_gc]
  rcases f2_g ec tx ht i with ⟨s, _, h⟩ | h
  · rw [h]; rfl
  · rw [h]; rfl
theorem fk3_len : (fk3 ec tx).length ≤ 300 := by
  unfold fk3 spC
  have h3 : (fk2 ec tx).length ≤ (fk1 ec).length + 64 := putS_len
  have h4 : (fk1 ec).length = 2 := rfl
  refine Nat.le_trans (spP_len _ _ _ _ _) ?_
  refine Nat.le_trans (Nat.add_le_add_right (cpC_len _ _ _ _) _) ?_
  rw [List.length_append, List.length_append]
  show (fk2 ec tx).length + 1 + 1 + 1 + 2 ≤ 300
  omega
theorem fj0 (ht : tx.size ≤ 100) : FJ 0 (fk3 ec tx) (spl (memS [] (fk1 ec) o1 2) 20 tx) (spl (memS [] (fk1 ec) o1 2) 20 tx) := by
  have hm : memS [] (fk2 ec tx) o1 2 = spl (memS [] (fk1 ec) o1 2) 20 tx := putS_spl o1_valid (by decide) (by omega)
  exact ⟨one_at (f3_p1 ec tx) (f3_n ec tx), kid_at kid35_chk rfl rfl rfl (f3_p ec tx) (f3_n ec tx), by rw [f3_m0, hm], by rw [f3_m1 ec tx ht, hm], fk3_len ec tx⟩
end
end Go.Proofs.YtgaipgbgppdfeaaGreatDoor
