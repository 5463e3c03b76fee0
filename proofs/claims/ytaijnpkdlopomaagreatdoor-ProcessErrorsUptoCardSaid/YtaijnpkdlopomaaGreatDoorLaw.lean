/-
  Contracts of the statements' own functions: names, out, build.
  Conditions: those that each theorem states.
-/
import Derived.Test.YtaijnpkdlopomaaGreatDoorCons
set_option maxRecDepth 10000
namespace Go.Proofs.YtaijnpkdlopomaaGreatDoor
open Go.RowKit

section
variable {n : Nat} {C : Cx} {Q : Exit → Act → World → Prop} {E E' : List (Nat × Value)} {F F' F1 Fs F0 : List Pf} {R R' R0 Rs N N' A : List HP} {k k' : List Fr} {ops l : List Oper} {L L' : List (Nat × Nat)} {Tl : List Nat}
  {i d : Nat} {t ty0 : TypeId} {x y : Operand} {pos : String} {aft : Array Edge} {gd : Option (Nat × Bool)} {v : Value}
theorem run_sslice {s : ByteArray} {z : Int} {rs : TRow} {w : World} (hi : Nat) (hle : hi ≤ s.size) (hts : lookT tab t = some rs) (hrs : rs.k = .str) (hz : z = (hi : Int)) : (Instr.sliceAt t (.string s) none (some (.int .i64 z)) none).run Tryz.prog w = .ok (.string (s.extract 0 hi)) w := by
  subst hz
  have hu := run_undS (w := w) hts hrs
  have hb : (Instr.sliceBound (.int .i64 (hi : Int)) s.size .sliceAlen).run Tryz.prog w = .ok hi w := by
    simp only [Instr.sliceBound, asIntOf, Sem.run_bind, Sem.run_pure, Result.andThen]
    rw [if_pos ⟨by omega, by omega⟩]
    simp
  simp [Instr.sliceAt, Instr.slice, Instr.sliceBounds, Sem.run_bind, hu, Result.andThen, hb]
/-- The beginning of a text. -/
theorem r_ssl {s : ByteArray} {z : Int} {rs : TRow} (hi : Nat) (hle : hi ≤ s.size) (nx : Wr n C ops k Q Tl Fs R L ((d, .string (s.extract 0 hi)) :: E) F N)
    (ho : nth ops i = some ⟨some d, .slice t x none (some y) none, ty0, pos, aft, gd⟩ := by rfl) (hw : wantL ops E ⟨some d, .slice t x none (some y) none, ty0, pos, aft, gd⟩ = some true := by rfl) (hx : ev E x = some (.string s) := by rfl) (hy : ev E y = some (.int .i64 z) := by rfl)
    (hts : lookT tab t = some rs := by rfl) (hrs : rs.k = .str := by rfl) (hz : z = (hi : Int) := by first | rfl | omega) : Wr n C ops k Q Tl Fs R ((i, 0) :: L) E F N :=
  r_q (fun a w ha => by
    simp only [execOp, Option.map_some, Option.map_none, ha.ev (x := x) (by rw [evf_look]; exact hx), ha.ev (x := y) (by rw [evf_look]; exact hy), Sem.run_bind, run_sslice (w := w) hi hle hts hrs hz, Result.andThen, Sem.run_pure]) nx ho hw

/-- An element of an array of single cells. -/
theorem r_aix {cs : Array Value} {kd : IntKind} {m T : Nat} {z : Int} {rs tr : TRow} (j : Nat) (v : Value) (hv : cs[j]? = some v) (nx : Wr n C ops k Q Tl Fs R L ((d, v) :: E) F N)
    (ho : nth ops i = some ⟨some d, .index t x y, ty0, pos, aft, gd⟩ := by rfl) (hw : wantL ops E ⟨some d, .index t x y, ty0, pos, aft, gd⟩ = some true := by rfl) (hx : ev E x = some (.agg cs) := by rfl) (hy : ev E y = some (.int kd z) := by rfl)
    (hts : lookT tab t = some rs := by rfl) (hrs : rs.k = .arr m T := by rfl) (hT : lookT tab T = some tr := by rfl) (hsz : tr.size = 1 := by rfl) (hag : tr.k.isAgg = false := by rfl) (hot : tr.k ≠ .other := by simp) (hm : cs.size = m := by rfl) (hz : z = (j : Int) := by first | rfl | omega) : Wr n C ops k Q Tl Fs R ((i, 0) :: L) E F N :=
  r_q (fun a w ha => by
    subst hz
    have hlt : j < m := by rw [← hm]; exact (Array.getElem?_eq_some_iff.1 hv).1
    obtain ⟨d1, hd1, hk1⟩ := tab_ok.und hts
    rw [hrs] at hk1
    have hu1 : (underlying t).run Tryz.prog w = .ok (.array m T) w := by
      cases d1 <;> simp [chkKind] at hk1
      obtain ⟨rfl, rfl⟩ := hk1
      simp [underlying, hd1, go_sem]
    have hs1 := tab_ok.sizeOf hT w
    rw [hsz] at hs1
    have hia := tab_ok.isAgg hT hot w
    rw [hag] at hia
    have hp : (part T cs j).run Tryz.prog w = .ok v w := by
      unfold part
      simp only [Sem.run_bind, hia, Result.andThen, Bool.false_eq_true, if_false, hv, Sem.run_pure]
    have hr : (Instr.index t (.agg cs) (.int kd (j : Int))).run Tryz.prog w = .ok v w := by
      unfold Instr.index
      simp only [asIntOf, Sem.run_bind, Sem.run_pure, Result.andThen, hu1]
      have hc : (0 : Int) ≤ (j : Int) ∧ (j : Int) < ((m : Nat) : Int) := ⟨by omega, by omega⟩
      rw [if_pos hc]
      simp only [Sem.run_bind, hs1, Result.andThen, Int.toNat_natCast, Nat.mul_one]
      exact hp
    simp only [execOp, ha.ev (x := x) (by rw [evf_look]; exact hx), ha.ev (x := y) (by rw [evf_look]; exact hy), Sem.run_bind, hr, Result.andThen, Sem.run_pure]) nx ho hw
end

/-- An item of a statement's input. -/
structure It where
  who : UInt8
  nu : UInt8
  tk : UInt8
  ch : UInt8
  tx : ByteArray
def itf (x : It) : List Value := [.int .u8 x.who.toNat, .int .u8 x.nu.toNat, .int .u8 x.tk.toNat, .int .u8 x.ch.toNat, .string x.tx]
def It.v (x : It) : Value := .agg #[.int .u8 x.who.toNat, .int .u8 x.nu.toNat, .int .u8 x.tk.toNat, .int .u8 x.ch.toNat, .string x.tx]
def nm0 : ByteArray := ⟨#[49]⟩
def nm1 : ByteArray := ⟨#[49, 46, 50]⟩
def nm2 : ByteArray := ⟨#[51]⟩
def who3 (j : Nat) : ByteArray := if j = 0 then nm0 else if j = 1 then nm1 else nm2
def ito (x : It) : Ou := ⟨1 + (x.ch.toNat % 4 : Nat), ⟨#[116]⟩, x.tx.extract 0 (min x.tx.size 20), 5⟩
def itn (x : It) : Nm := ⟨18, who3 (x.who.toNat % 3), (x.nu.toNat % 4 : Nat), (x.tk.toNat % 8 : Nat), ⟨#[]⟩⟩
def itl (x : It) (p : Nat) : Lf := ⟨⟨who3 (x.who.toNat % 3), (x.nu.toNat % 4 : Nat), (x.tk.toNat % 8 : Nat), ito x⟩, (9 + p : Nat), (p / 5 : Nat)⟩

theorem nm3_get {j : Nat} (h : j < 3) : (#[Value.string nm0, .string nm1, .string nm2])[j]? = some (.string (who3 j)) := by
  match j, h with
  | 0, _ => rfl
  | 1, _ => rfl
  | 2, _ => rfl

theorem wrap_small {z : Int} (h1 : 0 ≤ z) (h2 : z < 9223372036854775808) : IntKind.i64.wrap z = z := wrapi (by omega) h2

theorem tmodN (a b : Nat) : (a : Int).tmod (b : Int) = ((a % b : Nat) : Int) := by
  rw [Int.tmod_eq_emod_of_nonneg (Int.natCast_nonneg a)]; exact (Int.natCast_emod a b).symm
theorem tdivN (a b : Nat) : (a : Int).tdiv (b : Int) = ((a / b : Nat) : Int) := by
  rw [Int.tdiv_eq_ediv_of_nonneg (Int.natCast_nonneg a)]; exact (Int.natCast_ediv a b).symm

theorem lvalid_who (j : Nat) : lvalid (who3 j).data.toList = true := by
  unfold who3
  split
  · have h := (prts_step [49] 0 0 (by simp)).2.2.2
    rw [show ffirst (([49] : List UInt8).drop 0) 0 0 = (⟨1, 0, 0⟩, 1) from rfl] at h
    simp at h
    simp [nm0, lvalid, lparts, h]
  · split
    · have h := (prts_step [49, 46, 50] 0 0 (by simp)).2.2.2
      rw [show ffirst (([49, 46, 50] : List UInt8).drop 0) 0 0 = (⟨1, 0, 0⟩, 1) from rfl] at h
      have h2 := (prts_step [49, 46, 50] 2 1 (by simp)).2.2.2
      rw [show ffirst (([49, 46, 50] : List UInt8).drop 2) 2 1 = (⟨2, 2, 0⟩, 3) from rfl] at h2
      simp at h h2
      simp [nm1, lvalid, lparts, h, h2]
    · have h := (prts_step [51] 0 0 (by simp)).2.2.2
      rw [show ffirst (([51] : List UInt8).drop 0) 0 0 = (⟨3, 0, 0⟩, 1) from rfl] at h
      simp at h
      simp [nm2, lvalid, lparts, h]
theorem who_size (j : Nat) : (who3 j).size ≤ 3 := by
  unfold who3
  split
  · decide
  · split <;> decide
theorem ito_chk (x : It) : ochk (ito x) = 0 := by
  have h1 : isE (ito x).tg = false := by simp [ito, isE, toList_data]
  have h2 : (ito x).tx.size ≤ 20 := by simp [ito, ByteArray.size_extract]; omega
  have h3 : ((ito x).tg.data.toList.any bad2) = false := by simp [ito, bad2]
  unfold ochk
  rw [if_neg (by simp only [ito]; omega), if_neg (by simp [h1]), if_neg (by show ¬ 64 < (ByteArray.mk #[116]).size; decide), if_neg (by simp [h3]), if_neg (by omega), if_neg (by simp [ito])]
theorem small_in (m : Nat) (h : m ≤ 1000) : within (m : Int) 1073741824 = true := by
  unfold within
  rw [decide_eq_true (by omega), decide_eq_true (by omega)]; rfl
theorem itn_chk (x : It) : nchk (itn x) = 0 := by
  have h1 : lvalid (itn x).owner.data.toList = true := lvalid_who (x.who.toNat % 3)
  have h2 : isE (itn x).text = true := by simp [itn, isE]
  have h3 : within (itn x).number 1073741824 = true := small_in (x.nu.toNat % 4) (by omega)
  have h4 : within (itn x).index 1073741824 = true := small_in (x.tk.toNat % 8) (by omega)
  rw [nchk, if_pos (by simp [itn])]
  show uchk ⟨_, true, true, true, false, 1073741824⟩ (itn x) = 0
  simp [uchk, h1, h2, h3, h4]

/-- The state of items. -/
def stF (es : Al) (l : List It) : Al := l.foldl (fun es x => insO (itn x) (oencS (ito x)) es) es
/-- The ledger of items. -/
def ldF (l : List It) : List Lf := l.mapIdx fun p x => itl x p

theorem oencS_size (x : It) : (oencS (ito x)).size ≤ 5000 := by
  rw [oencS, if_pos (ito_chk x)]
  exact oenc_len (ito_chk x)
theorem itl_chk (x : It) (p : Nat) (hp : p < 20) : lchk (itl x p) = 0 := by
  have h1 := lvalid_who (x.who.toNat % 3)
  have h2 := ito_chk x
  have h3 : tick (itl x p).e.tk = true := small_in (x.tk.toNat % 8) (by omega)
  have h4 : tick (itl x p).tm = true := small_in (9 + p) (by omega)
  have h5 : 0 ≤ (itl x p).e.nu ∧ (itl x p).e.nu ≤ 1048576 ∧ 0 ≤ (itl x p).rd ∧ (itl x p).rd ≤ 1048576 := by simp only [itl]; omega
  unfold lchk
  rw [if_neg (by simp [itl, h1]), if_neg (by rw [h3, h4]; simp; omega)]
  exact h2

structure B1 (now : List It) where
  i : Nat
  q : Option Addr
  es : Al
  h1 : i ≤ now.length ∧ i ≤ 20
  h2 : es = stF [] (now.take i)
  h3 : es.length ≤ i
structure B2 (left : List It) where
  i : Nat
  h1 : i ≤ left.length ∧ i ≤ 20

end Go.Proofs.YtaijnpkdlopomaaGreatDoor
