/-
  Arrays of bytes that are owned: parts of them as slices, copy of a text into one, one as a text.
  Contracts of the package inode: nodes; Check, Encode, Decode.
  Contracts of the package inode: births, Get, file, put, NextBirth, Make, block.
  Contracts of the package inode: NextBirth, Make.
  Contracts of the package inode: parts, Write.
  A writer that may have failed; Encode of what does not fit.
  The example of layer 27, known.
  Conditions: those that each theorem states.
-/
import Derived.Test.YtgaipgbgppdfeaaGreatDoorME
import Derived.Test.YtgaipgbgppdfeaaGreatDoorMB
import Derived.Test.YtgaipgbgppdfeaaGreatDoorMF
import Derived.Test.YtgaipgbgppdfeaaGreatDoorMD
set_option maxRecDepth 10000
namespace Go.Proofs.YtgaipgbgppdfeaaGreatDoor
open Go.RowKit

/-- Bytes in an owned block. -/
def By (T b : Nat) (L : List UInt8) : HP := Pt b (.cells (byt L).toArray T (0, 0))
/-- A text copied into bytes at a place. -/
def cpy (L : List UInt8) (off : Nat) (s : ByteArray) (dl : Nat) : List UInt8 := L.take off ++ s.data.toList.take (min s.size dl) ++ L.drop (off + min s.size dl)
theorem cpy_len {L : List UInt8} {off dl : Nat} {s : ByteArray} (h : off + dl ≤ L.length) : (cpy L off s dl).length = L.length := by
  have : s.data.toList.length = s.size := by simp
  simp only [cpy, List.length_append, List.length_take, List.length_drop]; omega

section
variable {n : Nat} {C : Cx} {Q : Exit → Act → World → Prop} {E E' : List (Nat × Value)} {F F' F1 Fs F0 : List Pf} {R R' R0 Rs N N' A : List HP} {k k' : List Fr} {ops l : List Oper} {L L' : List (Nat × Nat)} {Tl : List Nat}
  {i d b : Nat} {t ty0 : TypeId} {x y : Operand} {pos : String} {aft : Array Edge} {gd : Option (Nat × Bool)}

theorem run_undA {m T : Nat} {w : World} {rs : TRow} (hts : lookT tab t = some rs) (hrs : rs.k = .arr m T) : (underlying t).run Tryz.prog w = .ok (.array m T) w := by
  obtain ⟨d1, hd1, hk1⟩ := tab_ok.und hts
  rw [hrs] at hk1
  cases d1 <;> simp [chkKind] at hk1
  obtain ⟨rfl, rfl⟩ := hk1
  simp [underlying, hd1, go_sem]
theorem run_sla0 {T m : Nat} {w : World} {rs tr : TRow} (hts : lookT tab t = some rs) (hrs : rs.k = .arr m T) (hT : lookT tab T = some tr) (hsz : tr.size = 1) :
    (Instr.sliceAt t (.pointer (some ⟨b, 0, none⟩)) none none none).run Tryz.prog w = .ok (.slice (some ⟨b, 0, none⟩) m m) w := by
  have hs1 := tab_ok.sizeOf hT w
  rw [hsz] at hs1
  simp only [Instr.sliceAt, run_undA hts hrs, Instr.sureAddr, Instr.sliceBounds, Sem.run_bind, Sem.run_pure, Result.andThen, hs1]
  split
  · simp
  · rw [add_add (b := b) (p := 0) rfl]; simp
theorem l_sla0 {T m : Nat} {rs tr : TRow} (nx : Wl n C ops.toArray k Q l ((d, .slice (some ⟨b, 0, none⟩) m m) :: E) F R)
    (hw : wantL ops E ⟨some d, .slice t x none none none, ty0, pos, aft, gd⟩ = some true := by rfl) (hn : Nat.blt d n = true := by rfl) (hx : ev E x = some (.pointer (some ⟨b, 0, none⟩)) := by rfl)
    (hts : lookT tab t = some rs := by rfl) (hrs : rs.k = .arr m T := by rfl) (hT : lookT tab T = some tr := by rfl) (hsz : tr.size = 1 := by rfl) : Wl n C ops.toArray k Q (⟨some d, .slice t x none none none, ty0, pos, aft, gd⟩ :: l) E F R :=
  l_q (fun a w ha => by
    simp only [execOp, Option.map_none, ha.ev (x := x) (by rw [evf_look]; exact hx), Sem.run_bind, run_sla0 (b := b) (w := w) hts hrs hT hsz, Result.andThen, Sem.run_pure]) nx (by intro c h; cases h) hw hn
/-- The end of a text. -/
theorem run_send {s : ByteArray} {z : Int} {rs : TRow} {w : World} (lo : Nat) (hle : lo ≤ s.size) (hts : lookT tab t = some rs) (hrs : rs.k = .str) (hz : z = (lo : Int)) : (Instr.sliceAt t (.string s) (some (.int .i64 z)) none none).run Tryz.prog w = .ok (.string (s.extract lo s.size)) w := by
  subst hz
  have hu := run_undS (w := w) hts hrs
  have hb : (Instr.sliceBound (.int .i64 (lo : Int)) s.size .sliceB).run Tryz.prog w = .ok lo w := by
    simp only [Instr.sliceBound, asIntOf, Sem.run_bind, Sem.run_pure, Result.andThen]
    rw [if_pos ⟨by omega, by omega⟩]
    simp
  simp [Instr.sliceAt, Instr.slice, Instr.sliceBounds, Sem.run_bind, hu, Result.andThen, hb]
theorem r_send {s : ByteArray} {z : Int} {rs : TRow} (lo : Nat) (hle : lo ≤ s.size) (nx : Wr n C ops k Q Tl Fs R L ((d, .string (s.extract lo s.size)) :: E) F N)
    (ho : nth ops i = some ⟨some d, .slice t x (some y) none none, ty0, pos, aft, gd⟩ := by rfl) (hw : wantL ops E ⟨some d, .slice t x (some y) none none, ty0, pos, aft, gd⟩ = some true := by rfl) (hx : ev E x = some (.string s) := by rfl) (hy : ev E y = some (.int .i64 z) := by rfl)
    (hts : lookT tab t = some rs := by rfl) (hrs : rs.k = .str := by rfl) (hz : z = (lo : Int) := by first | rfl | omega) : Wr n C ops k Q Tl Fs R ((i, 0) :: L) E F N :=
  r_q (fun a w ha => by
    simp only [execOp, Option.map_some, Option.map_none, ha.ev (x := x) (by rw [evf_look]; exact hx), ha.ev (x := y) (by rw [evf_look]; exact hy), Sem.run_bind, run_send (w := w) lo hle hts hrs hz, Result.andThen, Sem.run_pure]) nx ho hw


/-! Owned bytes as a text. -/

/-! Whole arrays, read and written. -/
def arv (Lb : List UInt8) : Value := .agg (byt Lb).toArray
end
end Go.Proofs.YtgaipgbgppdfeaaGreatDoor

set_option maxRecDepth 10000
namespace Go.Proofs.YtgaipgbgppdfeaaGreatDoor
open Go.RowKit

/-- A node. -/
structure Ino where
  kd : Int
  ow : Int
  gr : Int
  md : Int
  sz : Int
  lk : Int
  tg : ByteArray
  deriving DecidableEq
def inf (n : Ino) : List Value := [.int .i64 n.kd, .int .i64 n.ow, .int .i64 n.gr, .int .i64 n.md, .int .i64 n.sz, .int .i64 n.lk, .string n.tg]
def Ino.v (n : Ino) : Value := .agg #[.int .i64 n.kd, .int .i64 n.ow, .int .i64 n.gr, .int .i64 n.md, .int .i64 n.sz, .int .i64 n.lk, .string n.tg]
def Ino.z : Ino := ⟨0, 0, 0, 0, 0, 0, ⟨#[]⟩⟩
def badt (c : UInt8) : Bool := decide ((c.toNat : Int) < 32) || ((c.toNat : Int) == 127)
/-- What checkTarget answers. -/
def tchk (s : ByteArray) : Int := if isE s then 4 else if 256 < s.size then 5 else if s.data.toList.any badt then 6 else 0

/-- Whether a node's numbers fit. -/
def ifit (n : Ino) : Prop := 0 ≤ n.ow ∧ n.ow ≤ 65535 ∧ 0 ≤ n.gr ∧ n.gr ≤ 65535 ∧ 0 ≤ n.md ∧ n.md ≤ 2047 ∧ 0 ≤ n.sz ∧ n.sz ≤ 4096 ∧ 0 ≤ n.lk ∧ n.lk ≤ 1000
instance (n : Ino) : Decidable (ifit n) := by unfold ifit; infer_instance
/-- What Check answers. -/
def ichk (n : Ino) : Int :=
  if n.kd < 1 ∨ 3 < n.kd then 11
  else if ¬ ifit n then 2
  else if (n.kd ≠ 1 ∧ n.sz ≠ 0) ∨ (n.kd ≠ 3 ∧ isE n.tg = false) then 3
  else if n.kd ≠ 3 then 0
  else tchk n.tg

/-- The bytes of a node. -/
def ienc (n : Ino) : List UInt8 := ([n.kd, n.ow, n.gr, n.md, n.sz, n.lk].flatMap fun z => venc z.toNat) ++ venc n.tg.size ++ n.tg.data.toList
def iencS (n : Ino) : ByteArray := if ichk n = 0 then ⟨(ienc n).toArray⟩ else ⟨#[]⟩
theorem ichk_zero {n : Ino} (h : ichk n = 0) : (1 ≤ n.kd ∧ n.kd ≤ 3) ∧ ifit n ∧ n.tg.size ≤ 256 := by
  unfold ichk at h
  split at h
  · cases h
  · split at h
    · cases h
    · rename_i h1 h2
      split at h
      · cases h
      · rename_i h3
        refine ⟨by omega, by simpa using h2, ?_⟩
        split at h
        · rename_i h4
          have : isE n.tg = true := by
            cases hE : isE n.tg with
            | true => rfl
            | false => exact absurd (.inr ⟨h4, hE⟩) h3
          rw [isE_eq] at this
          rw [of_decide_eq_true this]; exact Nat.zero_le _
        · unfold tchk at h
          split at h
          · cases h
          · split at h
            · cases h
            · omega
theorem ienc_len {n : Ino} (h : ichk n = 0) : (ienc n).length ≤ 400 := by
  obtain ⟨h1, h2, h3⟩ := ichk_zero h
  have h4 := vencs_len [n.kd, n.ow, n.gr, n.md, n.sz, n.lk] (fun z hz => by
    unfold ifit at h2
    simp only [List.mem_cons, List.not_mem_nil, or_false] at hz
    rcases hz with rfl | rfl | rfl | rfl | rfl | rfl <;> omega)
  have h5 := venc_len10 n.tg.size (by omega)
  have s1 : n.tg.data.toList.length = n.tg.size := by simp
  simp only [ienc, List.length_append, List.length_cons, List.length_nil] at h4 ⊢
  omega
theorem iencS_size (n : Ino) : (iencS n).size ≤ 400 := by
  unfold iencS
  split
  · rename_i h
    have := ienc_len h
    show (ienc n).toArray.size ≤ _
    rw [List.size_toArray]; exact this
  · exact Nat.zero_le _

/-- What Decode makes of bytes. -/
def iread (s : RS) : Ino × RS :=
  let (a1, s1) := rnum s 3
  let (a2, s2) := rnum s1 65535
  let (a3, s3) := rnum s2 65535
  let (a4, s4) := rnum s3 2047
  let (a5, s5) := rnum s4 4096
  let (a6, s6) := rnum s5 1000
  let (a7, s7) := rtext s6 256
  (⟨a1, a2, a3, a4, a5, a6, a7⟩, s7)
def idec (s : ByteArray) : Option Ino :=
  let r := iread ⟨s.data.toList, 0, 0⟩
  if r.2.err = 0 ∧ r.2.rest = [] ∧ ichk r.1 = 0 then some r.1 else none

theorem rnum_le3 (s : RS) (m : Int) : (rnum s m).2.pos + (rnum s m).2.rest.length ≤ s.pos + s.rest.length := rstep_le 0 s _ (pnum_le _ _)
theorem rtext_le3 (s : RS) (m : Int) : (rtext s m).2.pos + (rtext s m).2.rest.length ≤ s.pos + s.rest.length := rstep_le _ s _ (ptext_le _ _)

theorem idec_enc {n : Ino} (h : ichk n = 0) : idec (iencS n) = some n := by
  obtain ⟨h1, h2, h3⟩ := ichk_zero h
  unfold ifit at h2
  have e1 : ((n.kd.toNat : Nat) : Int) = n.kd := by omega
  have e2 : ((n.ow.toNat : Nat) : Int) = n.ow := by omega
  have e3 : ((n.gr.toNat : Nat) : Int) = n.gr := by omega
  have e4 : ((n.md.toNat : Nat) : Int) = n.md := by omega
  have e5 : ((n.sz.toNat : Nat) : Int) = n.sz := by omega
  have e6 : ((n.lk.toNat : Nat) : Int) = n.lk := by omega
  have hl : ienc n = venc n.kd.toNat ++ (venc n.ow.toNat ++ (venc n.gr.toNat ++ (venc n.md.toNat ++ (venc n.sz.toNat ++ (venc n.lk.toNat ++ (venc n.tg.size ++ n.tg.data.toList ++ [])))))) := by simp [ienc]
  have r1 := fun p => rnum_venc n.kd.toNat (by omega) (venc n.ow.toNat ++ (venc n.gr.toNat ++ (venc n.md.toNat ++ (venc n.sz.toNat ++ (venc n.lk.toNat ++ (venc n.tg.size ++ n.tg.data.toList ++ [])))))) p 3 (by omega)
  have r2 := fun p => rnum_venc n.ow.toNat (by omega) (venc n.gr.toNat ++ (venc n.md.toNat ++ (venc n.sz.toNat ++ (venc n.lk.toNat ++ (venc n.tg.size ++ n.tg.data.toList ++ []))))) p 65535 (by omega)
  have r3 := fun p => rnum_venc n.gr.toNat (by omega) (venc n.md.toNat ++ (venc n.sz.toNat ++ (venc n.lk.toNat ++ (venc n.tg.size ++ n.tg.data.toList ++ [])))) p 65535 (by omega)
  have r4 := fun p => rnum_venc n.md.toNat (by omega) (venc n.sz.toNat ++ (venc n.lk.toNat ++ (venc n.tg.size ++ n.tg.data.toList ++ []))) p 2047 (by omega)
  have r5 := fun p => rnum_venc n.sz.toNat (by omega) (venc n.lk.toNat ++ (venc n.tg.size ++ n.tg.data.toList ++ [])) p 4096 (by omega)
  have r6 := fun p => rnum_venc n.lk.toNat (by omega) (venc n.tg.size ++ n.tg.data.toList ++ []) p 1000 (by omega)
  have r7 := fun p => rtext_venc n.tg [] p 256 (by omega) (by omega)
  rw [iencS, if_pos h]
  unfold idec iread
  simp only [hl, r1, r2, r3, r4, r5, r6, r7, e1, e2, e3, e4, e5, e6]
  rw [if_pos ⟨trivial, trivial, h⟩]
end Go.Proofs.YtgaipgbgppdfeaaGreatDoor

set_option maxRecDepth 10000
namespace Go.Proofs.YtgaipgbgppdfeaaGreatDoor
open Go.RowKit

/-- A birth. -/
structure Bi where
  mkr : ByteArray
  nu : Int
  deriving DecidableEq
def Bi.v (b : Bi) : Value := .agg #[.string b.mkr, .int .i64 b.nu]
def Bi.z : Bi := ⟨⟨#[]⟩, 0⟩
def bchk (b : Bi) : Int := if lvalid b.mkr.data.toList = false then 12 else if 0 ≤ b.nu ∧ b.nu ≤ 1073741824 then 0 else 2
def nnm (b : Bi) : Nm := ⟨7, b.mkr, b.nu, 0, ⟨#[]⟩⟩
def bnm (b : Bi) (i : Int) : Nm := ⟨8, b.mkr, b.nu, i, ⟨#[]⟩⟩

theorem birthCheck_ok (b : Bi) (hb : b.mkr.size ≤ 1099511627776) : Enters 141 ∧ Spec Tryz.prog 141 #[b.v] [] [] (RetV (.int .i64 (bchk b))) := by
  have n1 := valid_ok b.mkr hb
  have n2 := within_ok b.nu 1073741824
  generalize hr : bchk b = r
  unfold bchk at hr
  cases hv : lvalid b.mkr.data.toList
  all_goals rw [hv] at n1 hr
  all_goals simp only [Bool.true_eq_false, if_true, if_false] at hr
  all_goals refine ⟨enters_of Tryz.func141 (by kernel_rfl) rfl, spec_of (vs := [_]) Tryz.func141 rfl Tryz.ntmps141 rfl fun G w hp => ?_⟩
  all_goals repeat' (first | refine l_run ?_ | refine l_nil ?_ | refine l_one ?_ | refine k_reg ?_ | refine l_ld ?_ | refine l_ldF ?_ | refine l_st ?_ | refine l_al (fun b => ?_) | refine l_bs (fun b => ?_) | refine k_condT ?_ | refine k_condF ?_ | refine k_brk ?_ | refine l_call (n1) (fun _ _ => ?_) | refine l_call0 (n1) (fun _ _ => ?_) | refine l_call (n2) (fun _ _ => ?_) | refine l_call0 (n2) (fun _ _ => ?_) | (refine l_split (fun hc => ?_) (fun hc => ?_) <;> (try simp at hc) <;> (try omega)) | (refine k_cond (fun hc => ?_) (fun hc => ?_) <;> (try simp at hc) <;> (try omega)))
  all_goals first
    | (subst hr; exact k_ret () rfl trivial)
    | (rw [if_pos (by simp_all)] at hr; subst hr; exact k_ret () rfl trivial)
    | (rw [if_neg (by simp_all; omega)] at hr; subst hr; exact k_ret () rfl trivial)
/-- What Get answers. -/
def iget (es : Al) (cs : List Ch) (b : Bi) : Ino × Int :=
  if bchk b ≠ 0 then (Ino.z, bchk b) else if (vget es cs (nnm b)).2 then ((idec (vget es cs (nnm b)).1).getD Ino.z, if (idec (vget es cs (nnm b)).1).isSome then 0 else 3) else (Ino.z, 8)
def igetR (es : Al) (rs : List (Nm × Ch)) (cs : List Ch) (b : Bi) : List (Nm × Ch) := if bchk b ≠ 0 then rs else vread es rs cs (nnm b)

/-- What file answers. -/
def ifile (es : Al) (cs : List Ch) (b : Bi) : Ino × Int :=
  if (iget es cs b).2 ≠ 0 then (Ino.z, (iget es cs b).2) else if (iget es cs b).1.kd = 2 then (Ino.z, 15) else if (iget es cs b).1.kd = 3 then (Ino.z, 11) else ((iget es cs b).1, 0)
/-- Bytes made 64. -/
def pad64 (s : ByteArray) : List UInt8 := cpy (List.replicate 64 0) 0 s 64
theorem pad64_len (s : ByteArray) : (pad64 s).length = 64 := by rw [pad64, cpy_len (by simp)]; simp
end Go.Proofs.YtgaipgbgppdfeaaGreatDoor

set_option maxRecDepth 10000
namespace Go.Proofs.YtgaipgbgppdfeaaGreatDoor
open Go.RowKit

def cvs (c : Ct) : ByteArray := ⟨(cenc c).toArray⟩
theorem cvs_size {c : Ct} (h : CtOK c) : (cvs c).size ≤ 30 := by
  have := cenc_len h
  show (cenc c).toArray.size ≤ _
  rw [List.size_toArray]; exact this
theorem chk_cnm {who : ByteArray} (h : lvalid who.data.toList = true) : nchk (cnm who) = 0 := by
  have h2 : isE ⟨#[]⟩ = true := by simp [isE]
  rw [nchk, if_pos (by simp [cnm])]
  show uchk ⟨_, true, false, false, false, 0⟩ (cnm who) = 0
  have h1 : lvalid (cnm who).owner.data.toList = true := h
  simp [uchk, h, h2, cnm]
theorem chk_nnm {b : Bi} (h : bchk b = 0) : nchk (nnm b) = 0 := by
  unfold bchk at h
  split at h
  · cases h
  · rename_i hv
    split at h
    · rename_i hn
      have hv : lvalid b.mkr.data.toList = true := by simpa using hv
      have h2 : isE ⟨#[]⟩ = true := by simp [isE]
      rw [nchk, if_pos (by simp [nnm])]
      show uchk ⟨_, true, true, false, false, 0⟩ (nnm b) = 0
      simp [uchk, nnm, hv, h2, within, hn]
    · cases h
theorem chk_bnm {b : Bi} {i : Int} (h : bchk b = 0) (hi : 0 ≤ i ∧ i ≤ 63) : nchk (bnm b i) = 0 := by
  unfold bchk at h
  split at h
  · cases h
  · rename_i hv
    split at h
    · rename_i hn
      have hv : lvalid b.mkr.data.toList = true := by simpa using hv
      have h2 : isE ⟨#[]⟩ = true := by simp [isE]
      rw [nchk, if_pos (by simp [bnm])]
      show uchk ⟨_, true, true, true, false, 63⟩ (bnm b i) = 0
      simp [uchk, bnm, hv, h2, within, hn, hi]
    · cases h
theorem enc_cdec {c : Ct} (h : CtOK c) : cdec (cvs c) = some c := by
  obtain ⟨h1, h2, h3, h4, h5, h6⟩ := h
  have e1 : ((c.b.toNat : Nat) : Int) = c.b := by omega
  have e2 : ((c.o.toNat : Nat) : Int) = c.o := by omega
  have e3 : ((c.c.toNat : Nat) : Int) = c.c := by omega
  unfold cdec cread cvs
  have r1 := rnum_venc c.b.toNat (by omega) (venc c.o.toNat ++ venc c.c.toNat) 0 1048576 (by omega)
  have hl : cenc c = venc c.b.toNat ++ (venc c.o.toNat ++ venc c.c.toNat) := by simp [cenc]
  have r2 := rnum_venc c.o.toNat (by omega) (venc c.c.toNat) (0 + (venc c.b.toNat).length) 1048576 (by omega)
  have r3 := rnum_venc c.c.toNat (by omega) [] (0 + (venc c.b.toNat).length + (venc c.o.toNat).length) 1048576 (by omega)
  rw [List.append_nil] at r3
  simp only [hl, r1, r2, r3, e1, e2, e3]
  simp
theorem rnum_in (s : RS) (m : Int) (hm : 0 ≤ m) : 0 ≤ (rnum s m).1 ∧ (rnum s m).1 ≤ m := by
  unfold rnum rstep
  split
  · exact ⟨Int.le_refl _, hm⟩
  · split
    · exact ⟨Int.le_refl _, hm⟩
    · rename_i h
      simp only [ne_eq, Decidable.not_not] at h
      unfold pnum at h ⊢
      dsimp only at h ⊢
      refine ⟨Int.natCast_nonneg _, ?_⟩
      split at h
      · cases h
      · rename_i h2
        rw [h] at h2
        simp at h2; omega

/-- What NextBirth answers, and what it writes. -/
def nbE (es : Al) (cs : List Ch) (who : ByteArray) : Bi × Int :=
  if (madeE es cs who).2 ≠ 0 then (Bi.z, (madeE es cs who).2) else if (madeE es cs who).1.b = 1048576 then (Bi.z, 9) else (⟨who, (madeE es cs who).1.b⟩, 0)
def nbC (es : Al) (cs : List Ch) (who : ByteArray) : List Ch :=
  if (nbE es cs who).2 = 0 then cs ++ [⟨cnm who, cvs { (madeE es cs who).1 with b := (madeE es cs who).1.b + 1 }, false⟩] else cs

/-- What Make answers, and what it writes. -/
def mkE (es : Al) (cs : List Ch) (who : ByteArray) (nd : Ino) : Bi × Int :=
  if ichk nd ≠ 0 then (Bi.z, ichk nd) else if nd.sz ≠ 0 then (Bi.z, 2) else nbE es cs who
def mkC (es : Al) (cs : List Ch) (who : ByteArray) (nd : Ino) : List Ch :=
  if (mkE es cs who nd).2 = 0 then nbC es cs who ++ [⟨nnm (mkE es cs who nd).1, iencS nd, false⟩] else cs
def mkR (es : Al) (rs : List (Nm × Ch)) (cs : List Ch) (who : ByteArray) (nd : Ino) : List (Nm × Ch) := if ichk nd = 0 ∧ nd.sz = 0 then madeR es rs cs who else rs


end Go.Proofs.YtgaipgbgppdfeaaGreatDoor

set_option maxRecDepth 10000
namespace Go.Proofs.YtgaipgbgppdfeaaGreatDoor
open Go.RowKit

/-- A part of a block. -/
structure Pp where
  bl : Nat
  fr : Nat
  to : Nat
def Pp.v (p : Pp) : Value := .agg #[.int .i64 (p.bl : Int), .int .i64 (p.fr : Int), .int .i64 (p.to : Int)]
/-- The parts of blocks that bytes meet. -/
def pts (a t : Nat) : List Pp :=
  if a < t then ⟨a / 64, a - a / 64 * 64, min t (a / 64 * 64 + 64) - a / 64 * 64⟩ :: pts (min t (a / 64 * 64 + 64)) t else []
termination_by t - a
decreasing_by omega

/-! Write. -/
/-- What one part's bytes are, and what it reads. -/
def wnew (es : Al) (cs : List Ch) (bi : Bi) (f : Nat) (s : ByteArray) (p : Pp) : List UInt8 :=
  cpy (if p.to - p.fr < 64 then pad64 (vget es cs (bnm bi p.bl)).1 else List.replicate 64 0) p.fr (s.extract (p.bl * 64 + p.fr - f) s.size) (p.to - p.fr)
def wstep (es : Al) (bi : Bi) (f : Nat) (s : ByteArray) (q : List (Nm × Ch) × List Ch) (p : Pp) : List (Nm × Ch) × List Ch :=
  (if p.to - p.fr < 64 then vread es q.1 q.2 (bnm bi p.bl) else q.1, q.2 ++ [⟨bnm bi p.bl, ⟨(wnew es q.2 bi f s p).toArray⟩, false⟩])
def wfold (es : Al) (bi : Bi) (f : Nat) (s : ByteArray) (q : List (Nm × Ch) × List Ch) (l : List Pp) : List (Nm × Ch) × List Ch := l.foldl (wstep es bi f s) q

/-- A file's node may have another size. -/
theorem ichk_size {nd : Ino} {z : Int} (h : ichk nd = 0) (hk : nd.kd ≠ 2) (hk3 : nd.kd ≠ 3) (hz : 0 ≤ z ∧ z ≤ 4096) : ichk { nd with sz := z } = 0 := by
  obtain ⟨h1, h2, h3⟩ := ichk_zero h
  have hk1 : nd.kd = 1 := by omega
  unfold ichk at h ⊢
  unfold ifit at *
  dsimp only at *
  rw [if_neg (by omega), if_neg (by omega)] at h ⊢
  split at h
  · cases h
  · rename_i h4
    rw [if_neg (fun h5 => h4 (by rcases h5 with ⟨h5, _⟩ | h5; exact absurd hk1 h5; exact .inr h5)), if_pos (by omega)]

abbrev JWL (b : Nat) (ps : Option Addr) (q : List (Nm × Ch) × List Ch) : List HP := [Vw b ps q.1 q.2]
def JW (b : Nat) (ps : Option Addr) (es : Al) (bi : Bi) (f : Nat) (s : ByteArray) (q : List (Nm × Ch) × List Ch) (pre : List Pp) : HP := Vw b ps (wfold es bi f s q pre).1 (wfold es bi f s q pre).2

/-- What Write answers, and what it reads and writes. -/
def iwE (es : Al) (cs : List Ch) (bi : Bi) (f : Int) (s : ByteArray) : Int × Int :=
  if (ifile es cs bi).2 ≠ 0 then (0, (ifile es cs bi).2) else if f < 0 ∨ 4096 < f then (0, 2) else if f = 4096 ∧ isE s = false then (0, 26) else ((min s.size (4096 - f.toNat) : Nat), 0)
def iwQ (es : Al) (rs : List (Nm × Ch)) (cs : List Ch) (bi : Bi) (f : Nat) (s : ByteArray) : List (Nm × Ch) × List Ch := wfold es bi f s (igetR es rs cs bi, cs) (pts f (f + min s.size (4096 - f)))
def iwN (es : Al) (cs : List Ch) (bi : Bi) (f : Nat) (s : ByteArray) : List Ch :=
  if 0 < min s.size (4096 - f) ∧ (ifile es cs bi).1.sz < ((f + min s.size (4096 - f) : Nat) : Int) then [⟨nnm bi, iencS { (ifile es cs bi).1 with sz := ((f + min s.size (4096 - f) : Nat) : Int) }, false⟩] else []

end Go.Proofs.YtgaipgbgppdfeaaGreatDoor

set_option maxRecDepth 10000
namespace Go.Proofs.YtgaipgbgppdfeaaGreatDoor
open Go.RowKit

theorem Spec.ex {P : Program} {f : FuncId} {args : Array Value} {F : List Pf} {R : List HP} {post : Post} {X : Type} {r : HP} {Lx : X → List HP} {p : X → Prop} (h : ∀ hh, r hh → ∃ x, p x ∧ Sep (Lx x) hh) (t : ∀ x, p x → Spec P f args F (Lx x ++ R) post) : Spec P f args F (r :: R) post := fun G w hp hs => by
  obtain ⟨⟨x, hx⟩, h1⟩ := hs.open' (X := { x // p x }) (L := fun x => Lx x.1) fun hh hr => let ⟨x, h1, h2⟩ := h hh hr; ⟨⟨x, h1⟩, h2⟩
  exact t x hx G w hp h1

/-- A writer in a state: what it holds, and its first error. -/
abbrev WtL (b : Nat) (o : Option Addr) (cap : Nat) (e : Int) (bs : List UInt8) : List HP := [Pt b (.cells #[.slice o bs.length cap, .int .i64 e] 322), Row 5 1 o bs.length cap (byt bs)]
/-- Some writer, of at most so many bytes. -/
def WtA (b k : Nat) : HP := fun h => ∃ q : (Option Addr × Nat) × Int × List UInt8, q.2.2.length ≤ k ∧ Sep (WtL b q.1.1 q.1.2 q.2.1 q.2.2) h




/-- Bytes of some writer. -/
def BtA (b k : Nat) : Post := ⟨(Option Addr × Nat × Nat) × Int, fun q => .tuple #[.slice q.1.1 q.1.2.1 q.1.2.2, .int .i64 q.2], fun _ => True, fun _ => [], fun _ => [WtA b k]⟩

/-- An encoder over some writer. -/
abbrev EnA (b bw : Nat) (e : Int) (k : Nat) : List HP := [Pt b (.cells #[.pointer (some ⟨bw, 0, none⟩), .int .i64 e] 339), WtA bw k]

end Go.Proofs.YtgaipgbgppdfeaaGreatDoor

set_option maxRecDepth 10000
namespace Go.Proofs.YtgaipgbgppdfeaaGreatDoor
open Go.RowKit

def o1 : ByteArray := ⟨#[49]⟩
theorem o1_valid : lvalid o1.data.toList = true := by
  have h := (prts_step [49] 0 0 (by simp)).2.2.2
  rw [show ffirst (([49] : List UInt8).drop 0) 0 0 = (⟨1, 0, 0⟩, 1) from rfl] at h
  simp at h
  simp [o1, lvalid, lparts, h]
def nd0 (z : Int) : Ino := ⟨1, 0, 0, 0, z, 1, ⟨#[]⟩⟩
def b0 : Bi := ⟨o1, 0⟩
def zer (n : Nat) : ByteArray := ⟨(List.replicate n 0).toArray⟩

theorem vget_nil (n : Nm) : vget [] [] n = (⟨#[]⟩, false) := by
  unfold vget
  split
  · rfl
  · rfl
def kc27 : List Ch := [⟨cnm o1, cvs ⟨1, 0, 0⟩, false⟩, ⟨nnm b0, iencS (nd0 0), false⟩]

/-- What reads a node that was the last to be written. -/
theorem ifile_last {es : Al} {cs : List Ch} {bi : Bi} {nd : Ino} (hb : bchk bi = 0) (h1 : (vget es cs (nnm bi)) = (iencS nd, true)) (h2 : ichk nd = 0) (h3 : nd.kd = 1) : iget es cs bi = (nd, 0) ∧ ifile es cs bi = (nd, 0) := by
  have h4 : iget es cs bi = (nd, 0) := by
    rw [iget, if_neg (by simp [hb]), h1, if_pos rfl]
    simp [idec_enc h2]
  refine ⟨h4, ?_⟩
  unfold ifile
  rw [h4, if_neg (by simp), if_neg (by simp [h3]), if_neg (by simp [h3])]
theorem vget_last {es : Al} {cs : List Ch} {n : Nm} {v : ByteArray} (hn : nchk n = 0) : vget es (cs ++ [⟨n, v, false⟩]) n = (v, true) := by
  unfold vget
  rw [if_neg (by simp [hn]), vcall_snoc, if_pos rfl]; rfl


theorem wnew_len {es : Al} {cs : List Ch} {bi : Bi} {f : Nat} {s : ByteArray} {p : Pp} (h : p.fr + (p.to - p.fr) ≤ 64) : (wnew es cs bi f s p).length = 64 := by
  unfold wnew
  split
  · rw [cpy_len (by rw [pad64_len]; exact h), pad64_len]
  · rw [cpy_len (by simp; exact h)]; simp

/-- What the first view has written. -/
def ks27 (rs : List (Nm × Ch)) : List Ch := (iwQ [] rs kc27 b0 0 (zer 100)).2 ++ iwN [] kc27 b0 0 (zer 100)


end Go.Proofs.YtgaipgbgppdfeaaGreatDoor
