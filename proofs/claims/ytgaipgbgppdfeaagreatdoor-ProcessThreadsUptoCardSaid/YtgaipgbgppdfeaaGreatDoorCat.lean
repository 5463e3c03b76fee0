/-
  Rules for texts that are joined.
  Conditions: those that each theorem states.
-/
import Derived.Test.YtgaipgbgppdfeaaGreatDoorME
set_option maxRecDepth 10000
namespace Go.Proofs.YtgaipgbgppdfeaaGreatDoor
open Go.RowKit

theorem bsz (a : Array UInt8) : (ByteArray.mk a).size = a.size := rfl
section
variable {n : Nat} {C : Cx} {Q : Exit → Act → World → Prop} {E E' : List (Nat × Value)} {F F' F1 Fs F0 : List Pf} {R R' R0 Rs N N' A : List HP} {k k' : List Fr} {ops l : List Oper} {L L' : List (Nat × Nat)} {Tl : List Nat}
  {i d : Nat} {t t2 ty0 : TypeId} {x y : Operand} {pos : String} {aft : Array Edge} {gd : Option (Nat × Bool)}
theorem run_cat {a b : ByteArray} {ac : Act} {w : World} (h : a.size + b.size ≤ 9223372036854775807) (ha : Agree n C.ds (look E) ac) (hx : ev E x = some (.string a)) (hy : ev E y = some (.string b)) :
    (execOp ac.eval ⟨some d, .binOp .add t x y t2, ty0, pos, aft, gd⟩).run Tryz.prog w = .ok (.value (.string (a ++ b))) w := by
  have h1 : ¬ (((a.size + b.size : Nat) : Int) > IntKind.i64.max) := by
    have : IntKind.i64.max = 9223372036854775807 := by decide
    omega
  have hg : (eqGuard .add t x y (.string a) (.string b)).run Tryz.prog w = .ok () w := by simp [eqGuard]
  have hb : (binOp .add t (.string a) (.string b)).run Tryz.prog w = .ok (.string (a ++ b)) w := by
    simp only [binOp, Op.stringOp]
    rw [if_neg h1]; rfl
  simp only [execOp, ha.ev (x := x) (by rw [evf_look]; exact hx), ha.ev (x := y) (by rw [evf_look]; exact hy), Sem.run_bind, hg, Result.andThen, hb, Sem.run_pure]
/-- Two texts are joined. -/
theorem l_cat {a b : ByteArray} (nx : Wl n C ops.toArray k Q l ((d, .string (a ++ b)) :: E) F R) (hw : wantL ops E ⟨some d, .binOp .add t x y t2, ty0, pos, aft, gd⟩ = some true := by rfl) (hn : Nat.blt d n = true := by rfl)
    (hx : ev E x = some (.string a) := by rfl) (hy : ev E y = some (.string b) := by rfl) (h : a.size + b.size ≤ 9223372036854775807 := by simp only [ByteArray.size_append, bsz, List.size_toArray, List.length_cons, List.length_nil, List.length_append] <;> omega) :
    Wl n C ops.toArray k Q (⟨some d, .binOp .add t x y t2, ty0, pos, aft, gd⟩ :: l) E F R :=
  l_q (fun _ _ ha => run_cat h ha hx hy) nx (by intro c h; cases h) hw hn
theorem r_cat {a b : ByteArray} (nx : Wr n C ops k Q Tl Fs R L ((d, .string (a ++ b)) :: E) F N) (ho : nth ops i = some ⟨some d, .binOp .add t x y t2, ty0, pos, aft, gd⟩ := by rfl) (hw : wantL ops E ⟨some d, .binOp .add t x y t2, ty0, pos, aft, gd⟩ = some true := by rfl)
    (hx : ev E x = some (.string a) := by rfl) (hy : ev E y = some (.string b) := by rfl) (h : a.size + b.size ≤ 9223372036854775807 := by simp only [ByteArray.size_append, bsz, List.size_toArray, List.length_cons, List.length_nil, List.length_append] <;> omega) :
    Wr n C ops k Q Tl Fs R ((i, 0) :: L) E F N :=
  r_q (fun _ _ ha => run_cat h ha hx hy) nx ho hw
end
end Go.Proofs.YtgaipgbgppdfeaaGreatDoor
