/-
  Contracts of cpu.Decode, and of a process's registers over a view.
  Conditions: those that each theorem states.
-/
import Derived.Test.YtgaipgbgppdfeaaGreatDoorPro9
import Derived.Test.YtgaipgbgppdfeaaGreatDoorMJ
import Derived.Test.YtgaipgbgppdfeaaGreatDoorME
set_option maxRecDepth 10000
namespace Go.Proofs.YtgaipgbgppdfeaaGreatDoor
open Go.RowKit

section
variable {n : Nat} {C : Cx} {Q : Exit → Act → World → Prop} {E E' : List (Nat × Value)} {F F' F1 Fs F0 : List Pf} {R R' R0 Rs N N' A : List HP} {k k' : List Fr} {ops l : List Oper} {L L' : List (Nat × Nat)} {Tl : List Nat}
  {i d : Nat} {t t2 ty0 : TypeId} {x y : Operand} {pos : String} {aft : Array Edge} {gd : Option (Nat × Bool)}
theorem l_send {s : ByteArray} {z : Int} {rs : TRow} (lo : Nat) (hle : lo ≤ s.size) (nx : Wl n C ops.toArray k Q l ((d, .string (s.extract lo s.size)) :: E) F R)
    (hw : wantL ops E ⟨some d, .slice t x (some y) none none, ty0, pos, aft, gd⟩ = some true := by rfl) (hn : Nat.blt d n = true := by rfl) (hx : ev E x = some (.string s) := by rfl) (hy : ev E y = some (.int .i64 z) := by rfl)
    (hts : lookT tab t = some rs := by rfl) (hrs : rs.k = .str := by rfl) (hz : z = (lo : Int) := by first | rfl | omega) : Wl n C ops.toArray k Q (⟨some d, .slice t x (some y) none none, ty0, pos, aft, gd⟩ :: l) E F R :=
  l_q (fun a w ha => by
    simp only [execOp, Option.map_some, Option.map_none, ha.ev (x := x) (by rw [evf_look]; exact hx), ha.ev (x := y) (by rw [evf_look]; exact hy), Sem.run_bind, run_send (w := w) lo hle hts hrs hz, Result.andThen, Sem.run_pure]) nx (by intro c h; cases h) hw hn
/-- A byte of a text. -/
theorem r_six {s : ByteArray} {z : Int} {rs : TRow} (j : Nat) (c : UInt8) (hc : s.data.toList[j]? = some c) (nx : Wr n C ops k Q Tl Fs R L ((d, .int .u8 c.toNat) :: E) F N)
    (ho : nth ops i = some ⟨some d, .index t x y, ty0, pos, aft, gd⟩ := by rfl) (hw : wantL ops E ⟨some d, .index t x y, ty0, pos, aft, gd⟩ = some true := by rfl) (hx : ev E x = some (.string s) := by rfl) (hy : ev E y = some (.int .i64 z) := by rfl)
    (hts : lookT tab t = some rs := by rfl) (hrs : rs.k = .str := by rfl) (hz : z = (j : Int) := by first | rfl | omega) : Wr n C ops k Q Tl Fs R ((i, 0) :: L) E F N :=
  r_q (fun a w ha => by
    subst hz
    have h0 : (0 : Int) ≤ (j : Int) := by omega
    have h1 : s[j]? = some c := by
      obtain ⟨hlt, he⟩ := List.getElem?_eq_some_iff.1 hc
      have hlt' : j < s.size := by simpa using hlt
      rw [getElem?_pos s j hlt']
      exact congrArg some he
    simp only [execOp, ha.ev (x := x) (by rw [evf_look]; exact hx), ha.ev (x := y) (by rw [evf_look]; exact hy), Instr.index, asIntOf, run_undS hts hrs, Sem.run_bind, Result.andThen, Sem.run_pure, if_pos h0, Int.toNat_natCast, h1]) nx ho hw
end

def orW (a b : Int) : Int := IntKind.u32.wrap (BitVec.ofInt IntKind.u32.bits a ||| BitVec.ofInt IntKind.u32.bits b).toNat
def shW (a b : Int) : Int := IntKind.u32.wrap (a * 2 ^ (min b.toNat IntKind.u32.bits))
def wb (c : UInt8) : Int := IntKind.u32.wrap (c.toNat : Int)
/-- A word of four bytes. -/
def wv (c0 c1 c2 c3 : UInt8) : Int := orW (orW (orW (wb c0) (shW (wb c1) 8)) (shW (wb c2) 16)) (shW (wb c3) 24)
def wd (s : ByteArray) (i : Nat) : Int := wv (s.data.toList.getD (4 * i) 0) (s.data.toList.getD (4 * i + 1) 0) (s.data.toList.getD (4 * i + 2) 0) (s.data.toList.getD (4 * i + 3) 0)
abbrev u32f : Int → List Value := fun z => [.int .u32 z]
def rgV (g : List Int) : Value := .agg (g.flatMap u32f).toArray
def rgs (s : ByteArray) : List Int := [wd s 0, wd s 1, wd s 2, wd s 3, wd s 4, wd s 5, wd s 6, wd s 7, wd s 8]
def rg0 : List Int := [0, 0, 0, 0, 0, 0, 0, 0, 0]

theorem cpuWord_ok (s : ByteArray) (b i : Nat) (hi : i ≤ 8) (hs : s.size = 36) : Enters 121 ∧ Spec Tryz.prog 121 #[.int .i64 (i : Int), .pointer (some ⟨b, 0, none⟩)] [] [Pt b (.cells #[.string s] 9)]
    ⟨Unit, fun _ => .int .u32 (wd s i), fun _ => True, fun _ => [], fun _ => [Pt b (.cells #[.string s] 9)]⟩ := by
  have w1 : IntKind.i64.wrap ((i : Int) * 4) = ((4 * i : Nat) : Int) := by rw [wrapi (by omega) (by omega)]; omega
  have hl : s.data.toList.length = 36 := by simpa using hs
  have g : ∀ j, j < 4 → (s.extract (4 * i) s.size).data.toList[j]? = some (s.data.toList.getD (4 * i + j) 0) := fun j hj => by
    have e : (s.extract (4 * i) s.size).data.toList = s.data.toList.drop (4 * i) := by
      rw [ByteArray.data_extract, Array.toList_extract, List.extract_eq_drop_take', List.take_of_length_le (by simp)]
    rw [e, List.getElem?_drop, List.getD_eq_getElem?_getD, List.getElem?_eq_getElem (by omega)]
    rfl
  have g0 := g 0 (by decide)
  have g1 := g 1 (by decide)
  have g2 := g 2 (by decide)
  have g3 := g 3 (by decide)
  rw [Nat.add_zero] at g0
  have hle : 4 * i ≤ s.size := by omega
  unfold wd
  generalize s.data.toList.getD (4 * i) 0 = a0 at *
  generalize s.data.toList.getD (4 * i + 1) 0 = a1 at *
  generalize s.data.toList.getD (4 * i + 2) 0 = a2 at *
  generalize s.data.toList.getD (4 * i + 3) 0 = a3 at *
  refine ⟨enters_of Tryz.func121 (by kernel_rfl) rfl, spec_of (vs := [_, _]) Tryz.func121 rfl Tryz.ntmps121 rfl fun G w hp => ?_⟩
  repeat' (first | refine l_run ?_ | refine l_nil ?_ | refine l_one ?_ | refine k_reg ?_ | refine l_ld ?_ | refine l_ldF ?_ | refine l_st ?_ | refine l_al (fun b => ?_) | refine l_bs (fun b => ?_) | refine k_condT ?_ | refine k_condF ?_ | refine k_brk ?_ | refine r_run ?_ | refine r_one ?_ | refine r_ld ?_ | refine r_ldF ?_ | refine r_ldN ?_ | refine r_al (fun b => ?_) | refine r_bs (fun b => ?_) | refine r_st ?_ | refine r_end ?_ | rw [w1] | refine l_send (4 * i) hle ?_ | refine r_six 0 a0 g0 ?_ | refine r_six 1 a1 g1 ?_ | refine r_six 2 a2 g2 ?_ | refine r_six 3 a3 g3 ?_ | (refine l_split (fun hc => ?_) (fun hc => ?_) <;> (try simp at hc)) | (refine r_split (fun hc => ?_) (fun hc => ?_) <;> (try simp at hc)) | refine k_draw 2 [] [(0, 0), (1, 0), (2, 0), (3, 0), (4, 0), (5, 0), (6, 0), (7, 0), (8, 0), (9, 0), (10, 0), (11, 0), (12, 0), (13, 0), (14, 0), (15, 0), (16, 0), (17, 0), (18, 0)] [] ?_ | (refine k_cond (fun hc => ?_) (fun hc => ?_) <;> (try simp at hc)))
  exact k_ret () rfl trivial

set_option maxHeartbeats 1000000 in
theorem cpuDecode_ok (s : ByteArray) : Enters 68 ∧ Spec Tryz.prog 68 #[.string s] [] [] (RetV (.tuple #[rgV (if s.size = 36 then rgs s else rg0), .int .i64 (if s.size < 36 then 4 else if 36 < s.size then 5 else 0)])) := by
  by_cases h1 : s.size < 36
  · rw [if_neg (by omega), if_pos h1]
    refine ⟨enters_of Tryz.func68 (by kernel_rfl) rfl, spec_of (vs := [_]) Tryz.func68 rfl Tryz.ntmps68 rfl fun G w hp => ?_⟩
    repeat' (first | refine l_run ?_ | refine l_nil ?_ | refine l_one ?_ | refine k_reg ?_ | refine l_ld ?_ | refine l_ldF ?_ | refine l_st ?_ | refine l_al (fun b => ?_) | refine l_bs (fun b => ?_) | refine k_condT ?_ | refine k_condF ?_ | refine k_brk ?_ | (refine l_split (fun hc => ?_) (fun hc => ?_) <;> (try simp at hc) <;> (try omega)) | (refine k_cond (fun hc => ?_) (fun hc => ?_) <;> (try simp at hc) <;> (try omega)))
    exact k_ret () rfl trivial
  by_cases h2 : 36 < s.size
  · rw [if_neg (by omega), if_neg h1, if_pos h2]
    refine ⟨enters_of Tryz.func68 (by kernel_rfl) rfl, spec_of (vs := [_]) Tryz.func68 rfl Tryz.ntmps68 rfl fun G w hp => ?_⟩
    repeat' (first | refine l_run ?_ | refine l_nil ?_ | refine l_one ?_ | refine k_reg ?_ | refine l_ld ?_ | refine l_ldF ?_ | refine l_st ?_ | refine l_al (fun b => ?_) | refine l_bs (fun b => ?_) | refine k_condT ?_ | refine k_condF ?_ | refine k_brk ?_ | (refine l_split (fun hc => ?_) (fun hc => ?_) <;> (try simp at hc) <;> (try omega)) | (refine k_cond (fun hc => ?_) (fun hc => ?_) <;> (try simp at hc) <;> (try omega)))
    exact k_ret () rfl trivial
  have hs : s.size = 36 := by omega
  rw [if_pos hs, if_neg h1, if_neg h2]
  have n1 := fun b i hi => cpuWord_ok s b i hi hs
  have n8 := fun b => n1 b 8 (by decide)
  unfold rgs
  generalize wd s = ww at *
  refine ⟨enters_of Tryz.func68 (by kernel_rfl) rfl, spec_of (vs := [_]) Tryz.func68 rfl Tryz.ntmps68 rfl fun G w hp => ?_⟩
  repeat' (first | refine l_run ?_ | refine l_nil ?_ | refine l_one ?_ | refine k_reg ?_ | refine l_ld ?_ | refine l_ldF ?_ | refine l_st ?_ | refine l_al (fun b => ?_) | refine l_bs (fun b => ?_) | refine k_condT ?_ | refine k_condF ?_ | (refine l_split (fun hc => ?_) (fun hc => ?_) <;> (try simp at hc) <;> (try omega)) | (refine k_cond (fun hc => ?_) (fun hc => ?_) <;> (try simp at hc) <;> (try omega)))
  rename_i b1 b2 _
  refine k_ptc (b := b) (.cells (((List.range 9).map fun j => if j < 0 then ww j else 0).flatMap u32f).toArray 26 (0, 0)) rfl ?_
  refine k_lp (X := { i : Nat // i ≤ 8 }) (fun i => [(2, .pointer (some ⟨b2, 0, none⟩)), (4, .func (.func 121) #[] #[.pointer (some ⟨b1, 0, none⟩)]), (5, .pointer (some ⟨b, 0, none⟩)), (16, .int .i64 (i.1 : Int))]) (fun _ => [])
    (fun i => [Pt b1 (.cells #[.string s] 9), Pt b2 (.cells #[.int .u32 0, .int .u32 0, .int .u32 0, .int .u32 0, .int .u32 0, .int .u32 0, .int .u32 0, .int .u32 0, .int .u32 0] 26), Ar 26 u32f b ((List.range 9).map fun j => if j < i.1 then ww j else 0)]) (fun i => 8 - i.1) ⟨0, by omega⟩ ⟨rfl, rfl, rfl, rfl, trivial⟩ ?_
  rintro ⟨i, hi⟩
  dsimp only
  by_cases hlt : i < 8
  · have n2 := fun b => n1 b i hi
    have hg : ((List.range 9).map fun j => if j < i then ww j else 0)[i]? = some 0 := by
      rw [List.getElem?_map, List.getElem?_range (by omega)]; simp
    have hset : ((List.range 9).map fun j => if j < i then ww j else 0).set i (ww i) = (List.range 9).map fun j => if j < i + 1 then ww j else 0 := by
      apply List.ext_getElem?
      intro k
      rw [List.getElem?_set]
      by_cases hk : k < 9
      · by_cases hik : i = k
        · subst hik
          rw [if_pos rfl, if_pos (by simp; omega), List.getElem?_map, List.getElem?_range hk]; simp
        · rw [if_neg hik, List.getElem?_map, List.getElem?_map, List.getElem?_range hk]
          have : k < i ↔ k < i + 1 := by omega
          simp [this]
      · rw [if_neg (by omega), List.getElem?_eq_none (by simp; omega), List.getElem?_eq_none (by simp; omega)]
    repeat' (first | refine l_run ?_ | refine l_nil ?_ | refine l_one ?_ | refine k_reg ?_ | refine l_ld ?_ | refine l_ldF ?_ | refine l_st ?_ | refine l_al (fun b => ?_) | refine l_bs (fun b => ?_) | refine k_condT ?_ | refine k_condF ?_ | refine l_callF (n2 _) (fun _ _ => ?_) | refine l_ixA (m := 8) i hlt ?_ | refine l_stA 1 i 0 (ww i) hg ?_ (ho := by show 0 + i * 1 = i * 1 + 0; omega) | (refine l_split (fun hc => ?_) (fun hc => ?_) <;> (try simp at hc) <;> (try omega)) | (refine k_cond (fun hc => ?_) (fun hc => ?_) <;> (try simp at hc) <;> (try omega)))
    rw [hset, wrapi (z := (i : Int) + 1) (by omega) (by omega)]
    exact k_next ⟨i + 1, by omega⟩ (by show 8 - (i + 1) < 8 - i; omega) ⟨rfl, rfl, rfl, rfl, trivial⟩
  · obtain rfl : i = 8 := by omega
    refine k_ptc (b := b) (o := .cells (((List.range 9).map fun j => if j < 8 then ww j else 0).flatMap u32f).toArray 26 (0, 0)) (.cells #[.int .u32 (ww 0), .int .u32 (ww 1), .int .u32 (ww 2), .int .u32 (ww 3), .int .u32 (ww 4), .int .u32 (ww 5), .int .u32 (ww 6), .int .u32 (ww 7), .int .u32 0] 26) rfl ?_
    repeat' (first | refine l_run ?_ | refine l_nil ?_ | refine l_one ?_ | refine k_reg ?_ | refine l_ld ?_ | refine l_ldF ?_ | refine l_st ?_ | refine l_al (fun b => ?_) | refine l_bs (fun b => ?_) | refine k_condT ?_ | refine k_condF ?_ | refine k_brk ?_ | refine l_callF (n8 _) (fun _ _ => ?_) | (refine l_split (fun hc => ?_) (fun hc => ?_) <;> (try simp at hc) <;> (try omega)) | (refine k_cond (fun hc => ?_) (fun hc => ?_) <;> (try simp at hc) <;> (try omega)))
    exact k_ret () rfl trivial

section
variable (b : Nat) (ps : Option Addr) (es : Al) (rs : List (Nm × Ch)) (cs : List Ch) (who : ByteArray)
theorem chk_rnm {who : ByteArray} (h : lvalid who.data.toList = true) : nchk (rnm who) = 0 := by
  have h2 : isE ⟨#[]⟩ = true := by simp [isE]
  rw [nchk, if_pos (by simp [rnm])]
  show uchk ⟨_, true, false, false, false, 0⟩ (rnm who) = 0
  simp [uchk, rnm, h, h2]
abbrev rgZ : Value := .agg #[.int .u32 0, .int .u32 0, .int .u32 0, .int .u32 0, .int .u32 0, .int .u32 0, .int .u32 0, .int .u32 0, .int .u32 0]
theorem regsBad_ok (hw : who.size ≤ 1000) (hv : lvalid who.data.toList = false) : Enters 18 ∧ Spec Tryz.prog 18 #[.pointer (some ⟨b, 0, none⟩), .string who] [] [] (RetV (.tuple #[rgZ, .int .i64 12])) := by
  have n1 := valid_ok who (by omega)
  rw [hv] at n1
  refine ⟨enters_of Tryz.func18 (by kernel_rfl) rfl, spec_of (vs := [_, _]) Tryz.func18 rfl Tryz.ntmps18 rfl fun G w hp => ?_⟩
  repeat' (first | refine l_run ?_ | refine l_nil ?_ | refine l_one ?_ | refine k_reg ?_ | refine l_ld ?_ | refine l_ldF ?_ | refine l_st ?_ | refine l_al (fun b => ?_) | refine l_bs (fun b => ?_) | refine k_condT ?_ | refine k_condF ?_ | refine k_brk ?_ | refine l_call (n1) (fun _ _ => ?_) | refine l_call0 (n1) (fun _ _ => ?_) | (refine l_split (fun hc => ?_) (fun hc => ?_) <;> (try simp at hc) <;> (try omega)) | (refine k_cond (fun hc => ?_) (fun hc => ?_) <;> (try simp at hc) <;> (try omega)))
  exact k_ret () rfl trivial
theorem regs_ok (hw : who.size ≤ 1000) (hv : lvalid who.data.toList = true) (s : ByteArray) (hg : vget es cs (rnm who) = (s, true)) : Enters 18 ∧ Spec Tryz.prog 18 #[.pointer (some ⟨b, 0, none⟩), .string who] [St ps es, Usg] [Vw b ps rs cs]
    ⟨Unit, fun _ => .tuple #[rgV (if s.size = 36 then rgs s else rg0), .int .i64 (if s.size = 36 then 0 else 3)], fun _ => True, fun _ => [], fun _ => [Vw b ps (vread es rs cs (rnm who)) cs]⟩ := by
  have n1 := valid_ok who (by omega)
  rw [hv] at n1
  have n2 := ofRegisters_ok who
  have n3 := vwGet_ok b ps es rs cs (rnm who) (by show who.size ≤ _; omega) (Nat.zero_le _)
  rw [hg] at n3
  have n4 := cpuDecode_ok s
  generalize b = bv at *
  by_cases h : s.size = 36
  · rw [if_pos h, if_neg (by omega), if_neg (by omega)] at n4
    rw [if_pos h, if_pos h]
    generalize wd s = ww at *
    simp only [rgs, rgV] at n4 ⊢
    refine ⟨enters_of Tryz.func18 (by kernel_rfl) rfl, spec_of (vs := [_, _]) Tryz.func18 rfl Tryz.ntmps18 rfl fun G w hp => ?_⟩
    repeat' (first | refine l_run ?_ | refine l_nil ?_ | refine l_one ?_ | refine k_reg ?_ | refine l_ld ?_ | refine l_ldF ?_ | refine l_st ?_ | refine l_al (fun b => ?_) | refine l_bs (fun b => ?_) | refine k_condT ?_ | refine k_condF ?_ | refine k_brk ?_ | refine l_call (n1) (fun _ _ => ?_) | refine l_call0 (n1) (fun _ _ => ?_) | refine l_call (n2) (fun _ _ => ?_) | refine l_call0 (n2) (fun _ _ => ?_) | refine l_call (n3) (fun _ _ => ?_) | refine l_call0 (n3) (fun _ _ => ?_) | refine l_call (n4) (fun _ _ => ?_) | refine l_call0 (n4) (fun _ _ => ?_) | (refine l_split (fun hc => ?_) (fun hc => ?_) <;> (try simp at hc) <;> (try omega)) | (refine k_cond (fun hc => ?_) (fun hc => ?_) <;> (try simp at hc) <;> (try omega)))
    exact k_ret () rfl trivial
  · have he : (if s.size < 36 then (4 : Int) else if 36 < s.size then 5 else 0) ≠ 0 := by
      by_cases h1 : s.size < 36
      · rw [if_pos h1]; decide
      · rw [if_neg h1, if_pos (by omega)]; decide
    generalize (if s.size < 36 then (4 : Int) else if 36 < s.size then 5 else 0) = e at *
    rw [if_neg h] at n4
    rw [if_neg h, if_neg h]
    refine ⟨enters_of Tryz.func18 (by kernel_rfl) rfl, spec_of (vs := [_, _]) Tryz.func18 rfl Tryz.ntmps18 rfl fun G w hp => ?_⟩
    repeat' (first | refine l_run ?_ | refine l_nil ?_ | refine l_one ?_ | refine k_reg ?_ | refine l_ld ?_ | refine l_ldF ?_ | refine l_st ?_ | refine l_al (fun b => ?_) | refine l_bs (fun b => ?_) | refine k_condT ?_ | refine k_condF ?_ | refine k_brk ?_ | refine l_call (n1) (fun _ _ => ?_) | refine l_call0 (n1) (fun _ _ => ?_) | refine l_call (n2) (fun _ _ => ?_) | refine l_call0 (n2) (fun _ _ => ?_) | refine l_call (n3) (fun _ _ => ?_) | refine l_call0 (n3) (fun _ _ => ?_) | refine l_call (n4) (fun _ _ => ?_) | refine l_call0 (n4) (fun _ _ => ?_) | (refine l_split (fun hc => ?_) (fun hc => ?_) <;> (try simp at hc) <;> (try omega)) | (refine k_cond (fun hc => ?_) (fun hc => ?_) <;> (try simp at hc) <;> (try omega)))
    exact k_ret () rfl trivial
end
end Go.Proofs.YtgaipgbgppdfeaaGreatDoor
