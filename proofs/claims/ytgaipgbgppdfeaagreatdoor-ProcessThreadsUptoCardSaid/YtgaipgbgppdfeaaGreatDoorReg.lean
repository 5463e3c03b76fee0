/-
  Contracts of cpu.Decode, and of a process's registers over a view.
  Conditions: those that each theorem states.
-/
import Derived.Test.YtgaipgbgppdfeaaGreatDoorPro9
import Derived.Test.YtgaipgbgppdfeaaGreatDoorMJ
import Derived.Test.YtgaipgbgppdfeaaGreatDoorME
set_option maxRecDepth 10000
namespace Go.Proofs.YtgaipgbgppdfeaaGreatDoor
open Go.RowKit

section
variable {n : Nat} {C : Cx} {Q : Exit → Act → World → Prop} {E E' : List (Nat × Value)} {F F' F1 Fs F0 : List Pf} {R R' R0 Rs N N' A : List HP} {k k' : List Fr} {ops l : List Oper} {L L' : List (Nat × Nat)} {Tl : List Nat}
  {i d : Nat} {t t2 ty0 : TypeId} {x y : Operand} {pos : String} {aft : Array Edge} {gd : Option (Nat × Bool)}
/-- A byte of a text. -/
theorem r_six {s : ByteArray} {z : Int} {rs : TRow} (j : Nat) (c : UInt8) (hc : s.data.toList[j]? = some c) (nx : Wr n C ops k Q Tl Fs R L ((d, .int .u8 c.toNat) :: E) F N)
    (ho : nth ops i = some ⟨some d, .index t x y, ty0, pos, aft, gd⟩ := by rfl) (hw : wantL ops E ⟨some d, .index t x y, ty0, pos, aft, gd⟩ = some true := by rfl) (hx : ev E x = some (.string s) := by rfl) (hy : ev E y = some (.int .i64 z) := by rfl)
    (hts : lookT tab t = some rs := by rfl) (hrs : rs.k = .str := by rfl) (hz : z = (j : Int) := by first | rfl | omega) : Wr n C ops k Q Tl Fs R ((i, 0) :: L) E F N :=
  r_q (fun a w ha => by
    subst hz
    have h0 : (0 : Int) ≤ (j : Int) := by omega
    have h1 : s[j]? = some c := by
      obtain ⟨hlt, he⟩ := List.getElem?_eq_some_iff.1 hc
      have hlt' : j < s.size := by simpa using hlt
      rw [getElem?_pos s j hlt']
      exact congrArg some he
    simp only [execOp, ha.ev (x := x) (by rw [evf_look]; exact hx), ha.ev (x := y) (by rw [evf_look]; exact hy), Instr.index, asIntOf, run_undS hts hrs, Sem.run_bind, Result.andThen, Sem.run_pure, if_pos h0, Int.toNat_natCast, h1]) nx ho hw
end

def orW (a b : Int) : Int := IntKind.u32.wrap (BitVec.ofInt IntKind.u32.bits a ||| BitVec.ofInt IntKind.u32.bits b).toNat
def shW (a b : Int) : Int := IntKind.u32.wrap (a * 2 ^ (min b.toNat IntKind.u32.bits))
def wb (c : UInt8) : Int := IntKind.u32.wrap (c.toNat : Int)
/-- A word of four bytes. -/
def wv (c0 c1 c2 c3 : UInt8) : Int := orW (orW (orW (wb c0) (shW (wb c1) 8)) (shW (wb c2) 16)) (shW (wb c3) 24)
def wd (s : ByteArray) (i : Nat) : Int := wv (s.data.toList.getD (4 * i) 0) (s.data.toList.getD (4 * i + 1) 0) (s.data.toList.getD (4 * i + 2) 0) (s.data.toList.getD (4 * i + 3) 0)
abbrev u32f : Int → List Value := fun z => [.int .u32 z]
def rgV (g : List Int) : Value := .agg (g.flatMap u32f).toArray
def rgs (s : ByteArray) : List Int := [wd s 0, wd s 1, wd s 2, wd s 3, wd s 4, wd s 5, wd s 6, wd s 7, wd s 8]
def rg0 : List Int := [0, 0, 0, 0, 0, 0, 0, 0, 0]



section
variable (b : Nat) (ps : Option Addr) (es : Al) (rs : List (Nm × Ch)) (cs : List Ch) (who : ByteArray)
theorem chk_rnm {who : ByteArray} (h : lvalid who.data.toList = true) : nchk (rnm who) = 0 := by
  have h2 : isE ⟨#[]⟩ = true := by simp [isE]
  rw [nchk, if_pos (by simp [rnm])]
  show uchk ⟨_, true, false, false, false, 0⟩ (rnm who) = 0
  simp [uchk, rnm, h, h2]
abbrev rgZ : Value := .agg #[.int .u32 0, .int .u32 0, .int .u32 0, .int .u32 0, .int .u32 0, .int .u32 0, .int .u32 0, .int .u32 0, .int .u32 0]
end
end Go.Proofs.YtgaipgbgppdfeaaGreatDoor
