/-
  Contracts of strings.Builder: copyCheck, Write, String.
  Contracts of the package inode: Read, Contents.
  Contracts of the package inode: Contents, cut, Resize where it succeeds.
  Contracts of the package inode: cut, Resize where it succeeds.
  What a view holds of a file: how Write, Resize and Read see its bytes.
  What a view holds of the counts of three processes that make nodes in turn.
  The law InodeBirths, walked.
  Conditions: those that each theorem states.
-/
import Derived.Lib.Builder
import Derived.Lib.UnsafeStr
import Derived.Laws.Externs
import Derived.Test.YtgaipgbgppdfeaaGreatDoorMI
import Derived.Test.YtgaipgbgppdfeaaGreatDoorMJ
import Derived.Test.YtgaipgbgppdfeaaGreatDoorME
import Derived.Test.YtgaipgbgppdfeaaGreatDoorMS
set_option maxRecDepth 10000
namespace Go.Proofs.YtgaipgbgppdfeaaGreatDoor
open Go.RowKit


section
variable {n : Nat} {C : Cx} {Q : Exit → Act → World → Prop} {E E' : List (Nat × Value)} {F F' F1 Fs F0 : List Pf} {R R' R0 Rs N N' A : List HP} {k k' : List Fr} {ops l : List Oper} {L L' : List (Nat × Nat)} {Tl : List Nat}
  {i d : Nat} {t t2 ty0 : TypeId} {x y z : Operand} {pos : String} {aft : Array Edge} {gd : Option (Nat × Bool)}
end

/-- A builder of text. -/
abbrev BdL (b : Nat) (p o : Option Addr) (cap : Nat) (bs : List UInt8) : List HP := [Pt b (.cells #[.pointer p, .slice o bs.length cap] 222), Row 5 1 o bs.length cap (byt bs)]
def Bdr (b : Nat) (bs : List UInt8) : HP := fun h => ∃ q : Option Addr × Option Addr × Nat, ((q.1 = none ∨ q.1 = some ⟨b, 0, none⟩) ∧ (bs = [] → q.2.1 = none)) ∧ Sep (BdL b q.1 q.2.1 q.2.2 bs) h

end Go.Proofs.YtgaipgbgppdfeaaGreatDoor

set_option maxRecDepth 10000
namespace Go.Proofs.YtgaipgbgppdfeaaGreatDoor
open Go.RowKit

section
variable {n : Nat} {C : Cx} {Q : Exit → Act → World → Prop} {E E' : List (Nat × Value)} {F F' F1 Fs F0 : List Pf} {R R' R0 Rs N N' A : List HP} {k k' : List Fr} {ops l : List Oper} {L L' : List (Nat × Nat)} {Tl : List Nat}
  {i d b : Nat} {t ty0 : TypeId} {x y y1 y2 : Operand} {pos : String} {aft : Array Edge} {gd : Option (Nat × Bool)}
theorem l_fz {o : Obj} (nx : Wl n C ops.toArray k Q l E (Blk b o :: F) R0) (hs : Sel (Pt b o) R R0 := by (repeat (first | exact Sel.here | apply Sel.there)); first | done | fail) : Wl n C ops.toArray k Q l E F R :=
  fun a w ha hsat => nx a w ha (hsat.sel hs).freeze
end

/-- What Read reads of a part, and of all parts. -/
def rdS (es : Al) (cs : List Ch) (bi : Bi) (p : Pp) : List UInt8 := ((pad64 (vget es cs (bnm bi p.bl)).1).drop p.fr).take (p.to - p.fr)
def rdB (es : Al) (cs : List Ch) (bi : Bi) (l : List Pp) : List UInt8 := l.flatMap (rdS es cs bi)
def rdR (es : Al) (cs : List Ch) (bi : Bi) (rs : List (Nm × Ch)) (l : List Pp) : List (Nm × Ch) := l.foldl (fun rs p => vread es rs cs (bnm bi p.bl)) rs
theorem rdS_len {es : Al} {cs : List Ch} {bi : Bi} {p : Pp} (h : p.to ≤ 64) : (rdS es cs bi p).length = p.to - p.fr := by
  have := pad64_len (vget es cs (bnm bi p.bl)).1
  simp only [rdS, List.length_take, List.length_drop, this]; omega
abbrev JRL (b b12 : Nat) (ps : Option Addr) (es : Al) (cs : List Ch) (bi : Bi) (rs : List (Nm × Ch)) (pre : List Pp) : List HP := [Vw b ps (rdR es cs bi rs pre) cs, Bdr b12 (rdB es cs bi pre)]
def JR (b b12 : Nat) (ps : Option Addr) (es : Al) (cs : List Ch) (bi : Bi) (rs : List (Nm × Ch)) (pre : List Pp) : HP := fun h => Sep (JRL b b12 ps es cs bi rs pre) h

end Go.Proofs.YtgaipgbgppdfeaaGreatDoor

set_option maxRecDepth 10000
namespace Go.Proofs.YtgaipgbgppdfeaaGreatDoor
open Go.RowKit

section
variable {n : Nat} {C : Cx} {Q : Exit → Act → World → Prop} {E E' : List (Nat × Value)} {F F' F1 Fs F0 : List Pf} {R R' R0 Rs N N' A : List HP} {k k' : List Fr} {ops l : List Oper} {L L' : List (Nat × Nat)} {Tl : List Nat}
  {i d b : Nat} {t ty0 : TypeId} {x y y1 y2 : Operand} {pos : String} {aft : Array Edge} {gd : Option (Nat × Bool)}
/-- Bytes from a place on made 0. -/
def clrB (Lb : List UInt8) (lo : Nat) : List UInt8 := Lb.take lo ++ List.replicate (Lb.length - lo) 0
theorem clrB_len {Lb : List UInt8} {lo : Nat} (h : lo ≤ Lb.length) : (clrB Lb lo).length = Lb.length := by simp [clrB]; omega
end

end Go.Proofs.YtgaipgbgppdfeaaGreatDoor

set_option maxRecDepth 10000
namespace Go.Proofs.YtgaipgbgppdfeaaGreatDoor
open Go.RowKit

/-- Blocks deleted. -/
def dls (bi : Bi) (a k : Nat) : List Ch := (List.range' a k).map fun j : Nat => (⟨bnm bi (j : Int), ⟨#[]⟩, true⟩ : Ch)
theorem dls_snoc (bi : Bi) (a k : Nat) : dls bi a (k + 1) = dls bi a k ++ [⟨bnm bi ((a + k : Nat) : Int), ⟨#[]⟩, true⟩] := by
  simp only [dls, List.range'_1_concat, List.map_append, List.map_cons, List.map_nil]
def cutD (cs : List Ch) (bi : Bi) (e sz : Nat) : List Ch := cs ++ dls bi ((e + 63) / 64) ((sz + 63) / 64 - (e + 63) / 64)
def cutC (es : Al) (cs : List Ch) (bi : Bi) (e sz : Nat) : List Ch :=
  if e % 64 = 0 then cutD cs bi e sz else if (vget es (cutD cs bi e sz) (bnm bi ((e / 64 : Nat) : Int))).2 then cutD cs bi e sz ++ [⟨bnm bi ((e / 64 : Nat) : Int), ⟨(clrB (pad64 (vget es (cutD cs bi e sz) (bnm bi ((e / 64 : Nat) : Int))).1) (e % 64)).toArray⟩, false⟩] else cutD cs bi e sz
def cutR (es : Al) (rs : List (Nm × Ch)) (cs : List Ch) (bi : Bi) (e sz : Nat) : List (Nm × Ch) :=
  if e % 64 = 0 then rs else vread es rs (cutD cs bi e sz) (bnm bi ((e / 64 : Nat) : Int))

/-- What Resize writes and reads, where it succeeds. -/
def rszC (es : Al) (cs : List Ch) (bi : Bi) (n sz : Nat) : List Ch := if n = sz then cs else (if n < sz then cutC es cs bi n sz else cs) ++ [⟨nnm bi, iencS { (ifile es cs bi).1 with sz := (n : Int) }, false⟩]
def rszR (es : Al) (rs : List (Nm × Ch)) (cs : List Ch) (bi : Bi) (n sz : Nat) : List (Nm × Ch) := if n < sz then cutR es (igetR es rs cs bi) cs bi n sz else igetR es rs cs bi
end Go.Proofs.YtgaipgbgppdfeaaGreatDoor

set_option maxRecDepth 10000
namespace Go.Proofs.YtgaipgbgppdfeaaGreatDoor
open Go.RowKit

theorem vg_ne {es : Al} {cs : List Ch} {c : Ch} {n : Nm} (h : c.nm ≠ n) : vget es (cs ++ [c]) n = vget es cs n := by
  unfold vget
  rw [vcall_snoc, if_neg h]
theorem vg_eq {es : Al} {cs : List Ch} {c : Ch} {n : Nm} (h : c.nm = n) (hn : nchk n = 0) : vget es (cs ++ [c]) n = (c.val, !c.abs) := by
  unfold vget
  rw [if_neg (by rw [hn]; simp), vcall_snoc, if_pos h]
theorem bnm_inj {bi : Bi} {i j : Nat} (h : bnm bi (i : Int) = bnm bi (j : Int)) : i = j := by
  simp only [bnm, Nm.mk.injEq] at h; omega
theorem bnm_nnm {a b : Bi} {i : Int} : bnm a i ≠ nnm b := by simp [bnm, nnm]
theorem nnm_bnm {a b : Bi} {i : Int} : nnm b ≠ bnm a i := by simp [bnm, nnm]

/-- A byte of a file. -/
def fb (es : Al) (cs : List Ch) (bi : Bi) (k : Nat) : UInt8 := (pad64 (vget es cs (bnm bi ((k / 64 : Nat) : Int))).1).getD (k % 64) 0
/-- A view holds a file with these contents. -/
structure FOK (es : Al) (cs : List Ch) (bi : Bi) (w : ByteArray) : Prop where
  nd : ∃ nd : Ino, ichk nd = 0 ∧ nd.kd = 1 ∧ nd.sz = (w.size : Int) ∧ vget es cs (nnm bi) = (iencS nd, true)
  le : w.size ≤ 4096
  b : ∀ k, k < 4096 → fb es cs bi k = w.data.toList.getD k 0
  e : ∀ j : Nat, j < 64 → (vget es cs (bnm bi (j : Int))).2 = false → (vget es cs (bnm bi (j : Int))).1 = ⟨#[]⟩

section
variable {es : Al} {cs : List Ch} {bi : Bi} {w : ByteArray}
theorem FOK.file (h : FOK es cs bi w) (hb : bchk bi = 0) : (ifile es cs bi).2 = 0 ∧ (ifile es cs bi).1.sz = (w.size : Int) ∧ (vget es cs (nnm bi)).1.size ≤ 1099511627776 := by
  obtain ⟨nd, h1, h2, h3, h4⟩ := h.nd
  obtain ⟨_, g2⟩ := ifile_last hb h4 h1 h2
  rw [g2, h4]
  have := iencS_size nd
  exact ⟨rfl, h3, by dsimp only; omega⟩

theorem getD_app {α : Type} (a b : List α) (j : Nat) (d : α) : (a ++ b).getD j d = if j < a.length then a.getD j d else b.getD (j - a.length) d := by
  split
  · rename_i h; rw [List.getD_eq_getElem?_getD, List.getD_eq_getElem?_getD, List.getElem?_append_left h]
  · rename_i h; rw [List.getD_eq_getElem?_getD, List.getD_eq_getElem?_getD, List.getElem?_append_right (by omega)]
theorem getD_take {α : Type} (a : List α) (m j : Nat) (d : α) (h : j < m) : (a.take m).getD j d = a.getD j d := by
  rw [List.getD_eq_getElem?_getD, List.getD_eq_getElem?_getD, List.getElem?_take, if_pos h]
theorem getD_drop {α : Type} (a : List α) (m j : Nat) (d : α) : (a.drop m).getD j d = a.getD (m + j) d := by
  rw [List.getD_eq_getElem?_getD, List.getD_eq_getElem?_getD, List.getElem?_drop]
theorem getD_big {α : Type} (a : List α) (j : Nat) (d : α) (h : a.length ≤ j) : a.getD j d = d := by
  rw [List.getD_eq_getElem?_getD, List.getElem?_eq_none h]; rfl
theorem getD_rep {α : Type} (m j : Nat) (d : α) : (List.replicate m d).getD j d = d := by
  rw [List.getD_eq_getElem?_getD, List.getElem?_replicate]; split <;> rfl
theorem cpy_getD {L : List UInt8} {off dl : Nat} {s : ByteArray} (h1 : dl ≤ s.size) (h2 : off + dl ≤ L.length) (j : Nat) : (cpy L off s dl).getD j 0 = if off ≤ j ∧ j < off + dl then s.data.toList.getD (j - off) 0 else L.getD j 0 := by
  have hs : s.data.toList.length = s.size := by simp
  have hm : min s.size dl = dl := by omega
  have l1 : (L.take off).length = off := by simp; omega
  have l2 : (s.data.toList.take dl).length = dl := by simp; omega
  rw [cpy, hm, getD_app, getD_app, List.length_append, l1, l2, getD_drop]
  by_cases h3 : j < off
  · rw [if_pos (by omega), if_pos h3, if_neg (by omega), getD_take _ _ _ _ h3]
  · by_cases h4 : j < off + dl
    · rw [if_pos h4, if_neg h3, if_pos ⟨by omega, h4⟩, getD_take _ _ _ _ (by omega)]
    · rw [if_neg h4, if_neg (by omega)]
      congr 1; omega
theorem pad64_full {s : ByteArray} (h : s.size = 64) : pad64 s = s.data.toList := by
  have hs : s.data.toList.length = s.size := by simp
  have h2 : min s.size 64 = 64 := by omega
  have h3 : (List.replicate 64 (0 : UInt8)).drop (0 + 64) = [] := by rw [List.drop_eq_nil_iff]; simp
  rw [pad64, cpy, h2, h3, List.take_zero, List.take_of_length_le (l := s.data.toList) (by omega), List.append_nil, List.nil_append]
theorem pad64_nil : pad64 ⟨#[]⟩ = List.replicate 64 0 := by
  unfold pad64 cpy
  have : (⟨#[]⟩ : ByteArray).size = 0 := rfl
  rw [this]; simp

theorem rdB_pts : ∀ (k f t : Nat), t - f ≤ k → rdB es cs bi (pts f t) = (List.range' f (t - f)).map (fb es cs bi)
  | 0, f, t, hk => by
    rw [pts, if_neg (by omega), show t - f = 0 by omega]; rfl
  | k + 1, f, t, hk => by
    rw [pts]
    split
    · rename_i hlt
      have ih := rdB_pts k (min t (f / 64 * 64 + 64)) t (by omega)
      have e1 : ∀ p l, rdB es cs bi (p :: l) = rdS es cs bi p ++ rdB es cs bi l := fun p l => by simp [rdB]
      rw [e1, ih]
      have e2 : t - f = (min t (f / 64 * 64 + 64) - f) + (t - min t (f / 64 * 64 + 64)) := by omega
      have e3 : List.range' f (t - f) = List.range' f (min t (f / 64 * 64 + 64) - f) ++ List.range' (min t (f / 64 * 64 + 64)) (t - min t (f / 64 * 64 + 64)) := by
        rw [e2, ← List.range'_append_1, show f + (min t (f / 64 * 64 + 64) - f) = min t (f / 64 * 64 + 64) by omega]
      rw [e3, List.map_append]
      congr 1
      have hp := pad64_len (vget es cs (bnm bi ((f / 64 : Nat) : Int))).1
      refine List.ext_getElem ?_ fun j h1 h2 => ?_
      · rw [rdS_len (by dsimp only; omega)]; simp; omega
      · simp only [List.length_map, List.length_range'] at h2
        simp only [rdS, List.getElem_take, List.getElem_drop, List.getElem_map, List.getElem_range', fb]
        have a1 : (f + 1 * j) / 64 = f / 64 := by omega
        have a2 : (f + 1 * j) % 64 = f - f / 64 * 64 + j := by omega
        rw [a1, a2, List.getD_eq_getElem?_getD, List.getElem?_eq_getElem (by rw [hp]; omega)]
        rfl
    · rw [show t - f = 0 by omega]; rfl
/-- What Read reads of a file. -/
theorem FOK.read (h : FOK es cs bi w) : (⟨(rdB es cs bi (pts 0 w.size)).toArray⟩ : ByteArray) = w := by
  have hs : w.data.toList.length = w.size := by simp
  have h1 : rdB es cs bi (pts 0 w.size) = w.data.toList := by
    rw [rdB_pts w.size 0 w.size (by omega)]
    refine List.ext_getElem (by simp) fun j h1 h2 => ?_
    simp only [List.length_map, List.length_range'] at h1
    have := h.le
    simp only [List.getElem_map, List.getElem_range']
    rw [h.b _ (by omega), List.getD_eq_getElem?_getD, List.getElem?_eq_getElem (by rw [hs]; omega)]
    simp
  rw [h1]

/-! Write. -/
theorem ext_drop (s : ByteArray) (a : Nat) : (s.extract a s.size).data.toList = s.data.toList.drop a := by
  have hs : s.data.size = s.size := rfl
  rw [ByteArray.data_extract, Array.toList_extract, List.extract_eq_take_drop, List.take_of_length_le (by simp [hs])]
theorem wnew_getD {f : Nat} {s : ByteArray} {p : Pp} (h1 : f ≤ p.bl * 64 + p.fr) (h2 : p.fr < p.to) (h3 : p.to ≤ 64) (h4 : p.bl * 64 + p.to ≤ f + s.size) (j : Nat) (hj : j < 64) :
    (wnew es cs bi f s p).getD j 0 = if p.fr ≤ j ∧ j < p.to then s.data.toList.getD (p.bl * 64 + j - f) 0 else (pad64 (vget es cs (bnm bi p.bl)).1).getD j 0 := by
  have hp := pad64_len (vget es cs (bnm bi p.bl)).1
  have hx : (s.extract (p.bl * 64 + p.fr - f) s.size).size = s.size - (p.bl * 64 + p.fr - f) := by rw [ByteArray.size_extract]; omega
  unfold wnew
  by_cases hf : p.to - p.fr < 64
  · rw [if_pos hf, cpy_getD (by rw [hx]; omega) (by rw [hp]; omega)]
    by_cases hr : p.fr ≤ j ∧ j < p.to
    · rw [if_pos (by omega), if_pos hr, ext_drop, getD_drop]
      congr 1; omega
    · rw [if_neg (by omega), if_neg hr]
  · rw [if_neg hf, cpy_getD (by rw [hx]; omega) (by simp; omega), if_pos (by omega), if_pos (by omega), ext_drop, getD_drop]
    congr 1; omega
theorem fb_step {f : Nat} {s : ByteArray} {q : List (Nm × Ch) × List Ch} {p : Pp} (hb : bchk bi = 0) (h1 : f ≤ p.bl * 64 + p.fr) (h2 : p.fr < p.to) (h3 : p.to ≤ 64) (h4 : p.bl * 64 + p.to ≤ f + s.size) (hbl : p.bl < 64) (k : Nat) :
    fb es (wstep es bi f s q p).2 bi k = if p.bl * 64 + p.fr ≤ k ∧ k < p.bl * 64 + p.to then s.data.toList.getD (k - f) 0 else fb es q.2 bi k := by
  have hst : (wstep es bi f s q p).2 = q.2 ++ [⟨bnm bi p.bl, ⟨(wnew es q.2 bi f s p).toArray⟩, false⟩] := rfl
  rw [hst]
  have hl := wnew_len (es := es) (cs := q.2) (bi := bi) (f := f) (s := s) (p := p) (by omega)
  by_cases hkb : k / 64 = p.bl
  · have hv : vget es (q.2 ++ [⟨bnm bi p.bl, ⟨(wnew es q.2 bi f s p).toArray⟩, false⟩]) (bnm bi ((k / 64 : Nat) : Int)) = (⟨(wnew es q.2 bi f s p).toArray⟩, true) := vg_eq (by rw [hkb]) (chk_bnm hb (by omega))
    unfold fb
    rw [hv, pad64_full (by show (List.toArray _).size = 64; rw [List.size_toArray, hl])]
    show (wnew es q.2 bi f s p).getD (k % 64) 0 = _
    rw [wnew_getD h1 h2 h3 h4 _ (by omega), hkb]
    by_cases hr : p.fr ≤ k % 64 ∧ k % 64 < p.to
    · rw [if_pos hr, if_pos (by omega)]
      congr 1; omega
    · rw [if_neg hr, if_neg (by omega)]
  · unfold fb
    rw [vg_ne (fun e => hkb (bnm_inj e).symm), if_neg (by omega)]
theorem fb_fold {f : Nat} {s : ByteArray} (hb : bchk bi = 0) : ∀ (n a t : Nat), t - a ≤ n → f ≤ a → t ≤ 4096 → t ≤ f + s.size → ∀ (q : List (Nm × Ch) × List Ch) (k : Nat), k < 4096 →
    fb es (wfold es bi f s q (pts a t)).2 bi k = if a ≤ k ∧ k < t then s.data.toList.getD (k - f) 0 else fb es q.2 bi k
  | 0, a, t, hn, _, _, _, q, k, hk => by
    rw [pts, if_neg (by omega), if_neg (by omega)]; rfl
  | n + 1, a, t, hn, ha, ht, hs, q, k, hk => by
    rw [pts]
    split
    · rename_i hlt
      show fb es (wfold es bi f s (wstep es bi f s q ⟨a / 64, a - a / 64 * 64, min t (a / 64 * 64 + 64) - a / 64 * 64⟩) (pts (min t (a / 64 * 64 + 64)) t)).2 bi k = _
      rw [fb_fold hb n (min t (a / 64 * 64 + 64)) t (by omega) (by omega) ht hs _ k hk, fb_step hb (by dsimp only; omega) (by dsimp only; omega) (by dsimp only; omega) (by dsimp only; omega) (by dsimp only; omega) k]
      dsimp only
      by_cases h1 : min t (a / 64 * 64 + 64) ≤ k ∧ k < t
      · rw [if_pos h1, if_pos (by omega)]
      · rw [if_neg h1]
        by_cases h2 : a ≤ k ∧ k < t
        · rw [if_pos h2, if_pos (by omega)]
        · rw [if_neg h2, if_neg (by omega)]
    · rw [if_neg (by omega)]; rfl
theorem vg_fold {f : Nat} {s : ByteArray} : ∀ (l : List Pp) (q : List (Nm × Ch) × List Ch), vget es (wfold es bi f s q l).2 (nnm bi) = vget es q.2 (nnm bi)
  | [], _ => rfl
  | p :: l, q => by
    show vget es (wfold es bi f s (wstep es bi f s q p) l).2 (nnm bi) = _
    rw [vg_fold l]
    exact vg_ne bnm_nnm
theorem ve_fold {f : Nat} {s : ByteArray} (hb : bchk bi = 0) (j : Nat) (hj : j < 64) : ∀ (l : List Pp) (q : List (Nm × Ch) × List Ch), ((vget es q.2 (bnm bi (j : Int))).2 = false → (vget es q.2 (bnm bi (j : Int))).1 = ⟨#[]⟩) → (vget es (wfold es bi f s q l).2 (bnm bi (j : Int))).2 = false → (vget es (wfold es bi f s q l).2 (bnm bi (j : Int))).1 = ⟨#[]⟩
  | [], _, h => h
  | p :: l, q, h => by
    show (vget es (wfold es bi f s (wstep es bi f s q p) l).2 (bnm bi (j : Int))).2 = false → _
    refine ve_fold hb j hj l _ ?_
    have hst : (wstep es bi f s q p).2 = q.2 ++ [⟨bnm bi p.bl, ⟨(wnew es q.2 bi f s p).toArray⟩, false⟩] := rfl
    rw [hst]
    by_cases hp : bnm bi (p.bl : Int) = bnm bi (j : Int)
    · rw [vg_eq hp (chk_bnm hb (by omega))]
      intro h; cases h
    · rw [vg_ne hp]; exact h
/-- Write, seen by the file. -/
theorem FOK.write (h : FOK es cs bi w) (hb : bchk bi = 0) {f : Nat} {s w' : ByteArray} (hf : f ≤ 4096) (rs : List (Nm × Ch)) (hsz : w'.size = if min s.size (4096 - f) = 0 then w.size else max w.size (f + min s.size (4096 - f)))
    (hg : ∀ k, k < 4096 → w'.data.toList.getD k 0 = if f ≤ k ∧ k < f + min s.size (4096 - f) then s.data.toList.getD (k - f) 0 else w.data.toList.getD k 0) : FOK es ((iwQ es rs cs bi f s).2 ++ iwN es cs bi f s) bi w' := by
  obtain ⟨nd, h1, h2, h3, h4⟩ := h.nd
  have hle := h.le
  obtain ⟨_, hif⟩ := ifile_last hb h4 h1 h2
  have hN : ∀ c ∈ iwN es cs bi f s, c.nm = nnm bi := fun c hc => by
    unfold iwN at hc
    split at hc
    · rw [List.mem_singleton.1 hc]
    · cases hc
  have hq : iwQ es rs cs bi f s = wfold es bi f s (igetR es rs cs bi, cs) (pts f (f + min s.size (4096 - f))) := rfl
  have hb1 : ∀ j : Nat, vget es ((iwQ es rs cs bi f s).2 ++ iwN es cs bi f s) (bnm bi (j : Int)) = vget es (iwQ es rs cs bi f s).2 (bnm bi (j : Int)) := fun j => by
    unfold iwN
    split
    · exact vg_ne nnm_bnm
    · rw [List.append_nil]
  generalize hn : min s.size (4096 - f) = n at *
  refine ⟨?_, ?_, fun k hk => ?_, fun j hj => ?_⟩
  · by_cases hw : 0 < n ∧ nd.sz < ((f + n : Nat) : Int)
    · have e1 : iwN es cs bi f s = [⟨nnm bi, iencS { nd with sz := ((f + n : Nat) : Int) }, false⟩] := by
        unfold iwN
        rw [hn, hif, if_pos hw]
      refine ⟨{ nd with sz := ((f + n : Nat) : Int) }, ichk_size h1 (by omega) (by omega) (by omega), h2, ?_, ?_⟩
      · show ((f + n : Nat) : Int) = _
        rw [hsz, if_neg (by omega)]; omega
      · rw [e1]; exact vget_last (chk_nnm hb)
    · have e1 : iwN es cs bi f s = [] := by
        unfold iwN
        rw [hn, hif, if_neg hw]
      refine ⟨nd, h1, h2, ?_, ?_⟩
      · rw [h3, hsz]
        split
        · rfl
        · omega
      · rw [e1, List.append_nil, hq, vg_fold]; exact h4
  · rw [hsz]; split <;> omega
  · have e1 : fb es ((iwQ es rs cs bi f s).2 ++ iwN es cs bi f s) bi k = fb es (iwQ es rs cs bi f s).2 bi k := by
      unfold fb; rw [hb1]
    rw [e1, hq, fb_fold hb (f + n - f) f (f + n) (Nat.le_refl _) (Nat.le_refl _) (by omega) (by omega) _ k hk, hg k hk]
    split
    · rfl
    · exact h.b k hk
  · rw [hb1, hq]
    exact ve_fold hb j hj _ _ (h.e j hj)

/-! Resize. -/
theorem vg_dls (hb : bchk bi = 0) (a : Nat) : ∀ (k j : Nat), j < 64 → vget es (cs ++ dls bi a k) (bnm bi (j : Int)) = if a ≤ j ∧ j < a + k then (⟨#[]⟩, false) else vget es cs (bnm bi (j : Int))
  | 0, j, _ => by
    rw [if_neg (by omega)]
    simp [dls]
  | k + 1, j, hj => by
    rw [dls_snoc, ← List.append_assoc]
    by_cases h : j = a + k
    · subst h
      rw [vg_eq rfl (chk_bnm hb (by omega)), if_pos (by omega)]; rfl
    · rw [vg_ne (fun e => h (bnm_inj e).symm), vg_dls hb a k j hj]
      by_cases h2 : a ≤ j ∧ j < a + k
      · rw [if_pos h2, if_pos (by omega)]
      · rw [if_neg h2, if_neg (by omega)]
theorem FOK.cut (h : FOK es cs bi w) (hb : bchk bi = 0) {n : Nat} (hn : n < w.size) : (∀ k, k < 4096 → fb es (cutC es cs bi n w.size) bi k = if k < n then w.data.toList.getD k 0 else 0) ∧
    (∀ j : Nat, j < 64 → (vget es (cutC es cs bi n w.size) (bnm bi (j : Int))).2 = false → (vget es (cutC es cs bi n w.size) (bnm bi (j : Int))).1 = ⟨#[]⟩) := by
  have hle := h.le
  have hs : w.data.toList.length = w.size := by simp
  -- the blocks behind the deletions
  have hD : ∀ j : Nat, j < 64 → vget es (cutD cs bi n w.size) (bnm bi (j : Int)) = if (n + 63) / 64 ≤ j ∧ j < (w.size + 63) / 64 then (⟨#[]⟩, false) else vget es cs (bnm bi (j : Int)) := fun j hj => by
    rw [cutD, vg_dls hb _ _ j hj]
    congr 1
    rw [eq_iff_iff]; omega
  have hDe : ∀ j : Nat, j < 64 → (vget es (cutD cs bi n w.size) (bnm bi (j : Int))).2 = false → (vget es (cutD cs bi n w.size) (bnm bi (j : Int))).1 = ⟨#[]⟩ := fun j hj => by
    rw [hD j hj]
    split
    · intro _; rfl
    · exact h.e j hj
  have hDb : ∀ k, k < 4096 → fb es (cutD cs bi n w.size) bi k = if (n + 63) / 64 ≤ k / 64 then 0 else w.data.toList.getD k 0 := fun k hk => by
    unfold fb
    rw [hD (k / 64) (by omega)]
    by_cases h1 : (n + 63) / 64 ≤ k / 64
    · rw [if_pos h1]
      by_cases h2 : k / 64 < (w.size + 63) / 64
      · rw [if_pos ⟨h1, h2⟩, pad64_nil, getD_rep]
      · rw [if_neg (by omega)]
        have := h.b k hk
        unfold fb at this
        rw [this, getD_big _ _ _ (by rw [hs]; omega)]
    · rw [if_neg h1, if_neg (by omega)]
      exact h.b k hk
  unfold cutC
  by_cases h64 : n % 64 = 0
  · rw [if_pos h64]
    refine ⟨fun k hk => ?_, hDe⟩
    rw [hDb k hk]
    by_cases h1 : k < n
    · rw [if_pos h1, if_neg (by omega)]
    · rw [if_neg h1, if_pos (by omega)]
  · rw [if_neg h64]
    have hp := pad64_len (vget es (cutD cs bi n w.size) (bnm bi ((n / 64 : Nat) : Int))).1
    by_cases hv : (vget es (cutD cs bi n w.size) (bnm bi ((n / 64 : Nat) : Int))).2 = true
    · rw [if_pos hv]
      refine ⟨fun k hk => ?_, fun j hj => ?_⟩
      · by_cases hkb : k / 64 = n / 64
        · have hl := clrB_len (Lb := pad64 (vget es (cutD cs bi n w.size) (bnm bi ((n / 64 : Nat) : Int))).1) (lo := n % 64) (by omega)
          unfold fb
          rw [hkb, vg_eq rfl (chk_bnm hb (by omega)), pad64_full (by show (List.toArray _).size = 64; rw [List.size_toArray, hl, hp])]
          show (clrB (pad64 (vget es (cutD cs bi n w.size) (bnm bi ((n / 64 : Nat) : Int))).1) (n % 64)).getD (k % 64) 0 = _
          have hb2 := hDb k hk
          unfold fb at hb2
          rw [hkb, if_neg (by omega)] at hb2
          rw [clrB, getD_app, List.length_take, hp]
          by_cases h1 : k < n
          · rw [if_pos h1, if_pos (by omega), getD_take _ _ _ _ (by omega), hb2]
          · rw [if_neg h1, if_neg (by omega), getD_rep]
        · have e1 : fb es (cutD cs bi n w.size ++ [⟨bnm bi ((n / 64 : Nat) : Int), ⟨(clrB (pad64 (vget es (cutD cs bi n w.size) (bnm bi ((n / 64 : Nat) : Int))).1) (n % 64)).toArray⟩, false⟩]) bi k = fb es (cutD cs bi n w.size) bi k := by
            unfold fb
            rw [vg_ne (fun e => hkb (bnm_inj e).symm)]
          rw [e1, hDb k hk]
          by_cases h1 : k < n
          · rw [if_pos h1, if_neg (by omega)]
          · rw [if_neg h1, if_pos (by omega)]
      · by_cases hjn : bnm bi ((n / 64 : Nat) : Int) = bnm bi (j : Int)
        · rw [vg_eq hjn (chk_bnm hb (by omega))]
          intro h; cases h
        · rw [vg_ne hjn]; exact hDe j hj
    · rw [if_neg hv]
      refine ⟨fun k hk => ?_, hDe⟩
      rw [hDb k hk]
      by_cases h1 : k < n
      · rw [if_pos h1, if_neg (by omega)]
      · rw [if_neg h1]
        by_cases hkb : k / 64 = n / 64
        · rw [if_neg (by omega)]
          have hb2 := hDb k hk
          unfold fb at hb2
          rw [hkb, if_neg (by omega), hDe (n / 64) (by omega) (by simpa using hv), pad64_nil, getD_rep] at hb2
          exact hb2.symm
        · rw [if_pos (by omega)]
end
end Go.Proofs.YtgaipgbgppdfeaaGreatDoor

set_option maxRecDepth 10000
namespace Go.Proofs.YtgaipgbgppdfeaaGreatDoor
open Go.RowKit

def mk2 : ByteArray := ⟨#[50, 46, 51]⟩
def mk3 : ByteArray := ⟨#[]⟩
/-- The makers of the model. -/
def mk27 (k : Nat) : ByteArray := if k = 0 then o1 else if k = 1 then mk2 else mk3
theorem mk27_valid (k : Nat) : lvalid (mk27 k).data.toList = true := by
  unfold mk27
  split
  · exact o1_valid
  · split
    · have h := (prts_step [50, 46, 51] 0 0 (by simp)).2.2.2
      rw [show ffirst (([50, 46, 51] : List UInt8).drop 0) 0 0 = (⟨2, 0, 0⟩, 1) from rfl] at h
      have h2 := (prts_step [50, 46, 51] 2 1 (by simp)).2.2.2
      rw [show ffirst (([50, 46, 51] : List UInt8).drop 2) 2 1 = (⟨3, 2, 0⟩, 3) from rfl] at h2
      simp at h h2
      simp [mk2, lvalid, lparts, h, h2]
    · simp [mk3, lvalid, lparts]
theorem mk27_inj {j k : Nat} (hj : j < 3) (hk : k < 3) (h : mk27 j = mk27 k) : j = k := by
  have h12 : o1 ≠ mk2 := by decide
  have h13 : o1 ≠ mk3 := by decide
  have h23 : mk2 ≠ mk3 := by decide
  have e0 : mk27 0 = o1 := rfl
  have e1 : mk27 1 = mk2 := rfl
  have e2 : mk27 2 = mk3 := rfl
  match j, k, hj, hk with
  | 0, 0, _, _ => rfl
  | 0, 1, _, _ => exact absurd h h12
  | 0, 2, _, _ => exact absurd h h13
  | 1, 0, _, _ => exact absurd h.symm h12
  | 1, 1, _, _ => rfl
  | 1, 2, _, _ => exact absurd h h23
  | 2, 0, _, _ => exact absurd h.symm h13
  | 2, 1, _, _ => exact absurd h.symm h23
  | 2, 2, _, _ => rfl

def ndF : Ino := ⟨1, 0, 0, 0, 0, 0, ⟨#[]⟩⟩

/-- The counts of the three, and the births that were seen. -/
structure BI (i : Nat) (cs : List Ch) (ns : List Int) (m : List (Bi × Bool)) : Prop where
  len : ns.length = 3
  cl : cs.length ≤ 2 * i
  g : ∀ (k : Nat) (z : Int), ns[k]? = some z → 0 ≤ z ∧ z ≤ (i : Int) ∧ vget [] cs (cnm (mk27 k)) = if z = 0 then (⟨#[]⟩, false) else (cvs ⟨z, 0, 0⟩, true)
  s : ∀ (b : Bi) (u : Bool), mget b m = some u → ∃ (k : Nat) (z : Int), ns[k]? = some z ∧ b.mkr = mk27 k ∧ b.nu < z
theorem BI.init : BI 0 [] [0, 0, 0] [] := by
  refine ⟨rfl, by simp, fun k z h => ?_, fun b u h => by cases h⟩
  have hz : z = 0 := by
    match k, h with
    | 0, h => exact (Option.some.inj h).symm
    | 1, h => exact (Option.some.inj h).symm
    | 2, h => exact (Option.some.inj h).symm
    | k + 3, h => cases h
  subst hz
  refine ⟨by omega, by omega, ?_⟩
  rw [if_pos rfl, vget_nil]
variable {i : Nat} {cs : List Ch} {ns : List Int} {m : List (Bi × Bool)} {k : Nat} {z : Int}
theorem ct_ok {z : Int} (h0 : 0 ≤ z) (h1 : z ≤ 1048576) : CtOK ⟨z, 0, 0⟩ := ⟨h0, h1, Int.le_refl 0, by show (0 : Int) ≤ 1048576; decide, Int.le_refl 0, by show (0 : Int) ≤ 1048576; decide⟩
theorem BI.made (h : BI i cs ns m) (hi : i ≤ 1000) (hk : ns[k]? = some z) : (vget [] cs (cnm (mk27 k))).1.size ≤ 1099511627776 ∧ madeE [] cs (mk27 k) = (⟨z, 0, 0⟩, 0) := by
  obtain ⟨h1, h2, h3⟩ := h.g k z hk
  have hc := ct_ok h1 (by omega)
  rw [madeE, if_pos (mk27_valid k), h3]
  by_cases h0 : z = 0
  · subst h0
    rw [if_pos rfl]
    exact ⟨Nat.zero_le _, rfl⟩
  · rw [if_neg h0]
    refine ⟨Nat.le_trans (cvs_size hc) (by omega), ?_⟩
    simp only [if_true, enc_cdec hc]
    rfl
theorem BI.step {nd : Ino} (hnd : ichk nd = 0) (hns : nd.sz = 0) (h : BI i cs ns m) (hi : i ≤ 1000) (hk : ns[k]? = some z) : mkE [] cs (mk27 k) nd = (⟨mk27 k, z⟩, 0) ∧ mkC [] cs (mk27 k) nd = cs ++ [⟨cnm (mk27 k), cvs ⟨z + 1, 0, 0⟩, false⟩] ++ [⟨nnm ⟨mk27 k, z⟩, iencS nd, false⟩] := by
  obtain ⟨h1, h2, h3⟩ := h.g k z hk
  have hm := (h.made hi hk).2
  have hn : nbE [] cs (mk27 k) = (⟨mk27 k, z⟩, 0) := by
    unfold nbE
    rw [hm, if_neg (by simp), if_neg (by dsimp only; omega)]
  have he : mkE [] cs (mk27 k) nd = (⟨mk27 k, z⟩, 0) := by rw [mkE, if_neg (by simp [hnd]), if_neg (by simp [hns]), hn]
  refine ⟨he, ?_⟩
  rw [mkC, he, if_pos rfl, nbC, hn, if_pos rfl, hm]
theorem BI.fresh (h : BI i cs ns m) (hk : ns[k]? = some z) (hk3 : k < 3) : mget ⟨mk27 k, z⟩ m = none := by
  cases hg : mget (⟨mk27 k, z⟩ : Bi) m with
  | none => rfl
  | some u =>
    obtain ⟨j, y, hj, h1, h2⟩ := h.s _ _ hg
    have hj3 : j < 3 := by rw [← h.len]; exact (List.getElem?_eq_some_iff.1 hj).1
    obtain rfl := mk27_inj hk3 hj3 h1
    obtain rfl := Option.some.inj (hk.symm.trans hj)
    exact absurd h2 (Int.lt_irrefl _)
end Go.Proofs.YtgaipgbgppdfeaaGreatDoor

set_option maxRecDepth 10000
namespace Go.Proofs.YtgaipgbgppdfeaaGreatDoor
open Go.RowKit

section
variable {n : Nat} {C : Cx} {Q : Exit → Act → World → Prop} {E E' : List (Nat × Value)} {F F' F1 Fs F0 : List Pf} {R R' R0 Rs N N' A : List HP} {k k' : List Fr} {ops l : List Oper} {L L' : List (Nat × Nat)} {Tl : List Nat}
  {i d : Nat} {t ty0 : TypeId} {x y z : Operand} {pos : String} {aft : Array Edge} {gd : Option (Nat × Bool)} {α β : Type} [DecidableEq α] {K : α → Value} {V : β → Value}
end
def blv (u : Bool) : Value := .bool u
def svf (s : ByteArray) : List Value := [.string s]

end Go.Proofs.YtgaipgbgppdfeaaGreatDoor
