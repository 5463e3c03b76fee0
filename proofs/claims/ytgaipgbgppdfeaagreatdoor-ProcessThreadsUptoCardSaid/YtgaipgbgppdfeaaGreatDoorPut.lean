/-
  A text stored into a process's memory and put back: the contracts and what is there then.
  Conditions: those that each theorem states.
-/
import Derived.Test.YtgaipgbgppdfeaaGreatDoorMemP
set_option maxRecDepth 10000
namespace Go.Proofs.YtgaipgbgppdfeaaGreatDoor
open Go.RowKit

def srcP (es : Al) (cs : List Ch) (sp : ByteArray) (pg : Int) (i : Nat) : Pg := if (i : Int) < pg then .h (padS (vget es cs (gnm sp (i : Int))).1) false else .n
def putS (es : Al) (cs : List Ch) (sp : ByteArray) (pg : Nat) (k : Nat) (tx : ByteArray) : List Ch := cs ++ (chLi (nwM (srcP es cs sp (pg : Int)) k tx) 64).map (pgC sp)
theorem srcP_lt {es : Al} {cs : List Ch} {sp : ByteArray} {pg i : Nat} (h : i < pg) : srcP es cs sp (pg : Int) i = .h (padS (vget es cs (gnm sp (i : Int))).1) false := by
  unfold srcP; rw [if_pos (by omega)]
section
variable {es : Al} {cs : List Ch} {sp : ByteArray} {pg k : Nat} {tx : ByteArray}
theorem putS_ne {m : Nm} (h : ∀ i : Int, gnm sp i ≠ m) : vget es (putS es cs sp pg k tx) m = vget es cs m := vput_ne h
theorem putS_len : (putS es cs sp pg k tx).length ≤ cs.length + 64 := by
  unfold putS
  have := chLi_len (nwM (srcP es cs sp (pg : Int)) k tx) 64
  rw [List.length_append, List.length_map]; omega
theorem putS_mem (hv : lvalid sp.data.toList = true) (hpg : pg ≤ 64) (hk : k + tx.size ≤ 64 * pg) :
    (memS es (putS es cs sp pg k tx) sp pg).data.toList = (memS es cs sp pg).data.toList.take k ++ tx.data.toList ++ (memS es cs sp pg).data.toList.drop (k + tx.size) :=
  memS_store hv hpg hk fun _ hi => srcP_lt hi
theorem memS_congr {es : Al} {cs cs' : List Ch} {sp sp' : ByteArray} : ∀ {n : Nat}, (∀ i : Nat, i < n → (vget es cs (gnm sp (i : Int))).1 = (vget es cs' (gnm sp' (i : Int))).1) → memS es cs sp n = memS es cs' sp' n
  | 0, _ => rfl
  | n + 1, h => by rw [memS, memS, memS_congr fun i hi => h i (by omega), h n (by omega)]
theorem putS_mem' {sp' : ByteArray} (h : sp ≠ sp') (n : Nat) : memS es (putS es cs sp pg k tx) sp' n = memS es cs sp' n := memS_congr fun i _ => by rw [putS_ne fun j => gnm_ne (.inl h)]
end
section
variable (s : Sr) (ps : Option Addr) (es : Al) (cs : List Ch) (hsp : s.p.sp.size ≤ 1000) (pg : Nat) (hpg : s.o.pg = (pg : Int)) (hp64 : pg ≤ 64) (k : Nat) (tx : ByteArray) (hk : k + tx.size ≤ 64 * pg)
include hpg hp64 hk
omit hp64 hk in
theorem srP_src : srP es cs s = srcP es cs s.p.sp (pg : Int) := by
  funext i
  unfold srP srcP
  rw [hpg]
include hsp in
theorem storeN_ok (bk : Nat) (q0 : (Nat → Bool) × (Nat → Nat) × List (Nm × Ch)) (z : Int) (hz : z = (k : Int)) :
    Enters 15 ∧ Spec Tryz.prog 15 #[.pointer (some ⟨bk, 0, none⟩), .int .i64 z, .string tx] (s.fs ps es) (MmL s bk ps cs (fun _ => .u) q0)
    ⟨(Nat → Bool) × (Nat → Nat) × List (Nm × Ch), fun _ => .int .i64 0, fun _ => True, fun _ => [], fun q => MmL s bk ps cs (nwM (srcP es cs s.p.sp (pg : Int)) k tx) q⟩ := by
  subst hz
  have hs : ∀ i, i < pg → ∃ bs, srcP es cs s.p.sp (pg : Int) i = .h bs false ∧ bs.length = 64 := fun i hi => ⟨_, srcP_lt hi, padS_len _⟩
  have hR := srP_src (es := es) (cs := cs) s pg hpg
  have n1 := storeL_ok s ps es cs hsp bk (fun _ => .u) q0 (k : Int) tx (by omega) (by rw [hR]; exact nw_hall hp64 hk hs)
  rw [hR, (accR_new hp64 hk hs).1] at n1
  simp only [if_true] at n1
  exact n1
omit hpg in
theorem pstoreN_ok (who : ByteArray) (p o : Pr) (h : PrAt es cs who p) (ho : Own es cs who p o) (hop : o.pg = (pg : Int)) (hsps : s.p.sp = p.sp) (hv : lvalid p.sp.data.toList = true) (bk : Nat) (q0 : (Nat → Bool) × (Nat → Nat) × List (Nm × Ch)) (hl : cs.length ≤ 900000) :
    Enters 16 ∧ Spec Tryz.prog 16 #[.pointer (some ⟨s.vb, 0, none⟩), .string who, .pointer (some ⟨bk, 0, none⟩)] [St ps es, Usg] (MmL s bk ps cs (nwM (srcP es cs s.p.sp (pg : Int)) k tx) q0)
    ⟨List (Nm × Ch), fun _ => .int .i64 0, fun _ => True, fun _ => [], fun r => [Vw s.vb ps r (putS es cs p.sp pg k tx)]⟩ := by
  have hs : ∀ i, i < pg → ∃ bs, srcP es cs s.p.sp (pg : Int) i = .h bs false ∧ bs.length = 64 := fun i hi => ⟨_, srcP_lt hi, padS_len _⟩
  have hok := nw_ok hp64 hk hs
  have n1 := pstore_ok s ps es cs who p o h ho hv bk (nwM (srcP es cs s.p.sp (pg : Int)) k tx) q0 (fun i _ hi => by
    rcases hok i with e | ⟨_, e⟩
    · rw [e] at hi; cases hi
    · exact e) (fun i _ hi => by
    rcases hok i with e | ⟨e, _⟩
    · rw [e] at hi; cases hi
    · rw [hop]; omega) hl
  unfold putS
  rw [← hsps] at n1 ⊢
  exact n1
end
/-- One byte in the middle. -/
def spl (w : ByteArray) (k : Nat) (tx : ByteArray) : ByteArray := w.extract 0 k ++ tx ++ w.extract (k + tx.size) w.size
theorem spl_list (w : ByteArray) (k : Nat) (tx : ByteArray) : (spl w k tx).data.toList = w.data.toList.take k ++ tx.data.toList ++ w.data.toList.drop (k + tx.size) := by
  have hl : w.data.toList.length = w.size := by simp
  unfold spl
  simp only [ByteArray.data_append, Array.toList_append, ByteArray.data_extract, Array.toList_extract, List.extract_eq_drop_take', List.drop_zero]
  congr 2
  rw [List.take_of_length_le (by omega)]
theorem putS_spl {es : Al} {cs : List Ch} {sp : ByteArray} {pg k : Nat} {tx : ByteArray} (hv : lvalid sp.data.toList = true) (hpg : pg ≤ 64) (hk : k + tx.size ≤ 64 * pg) : memS es (putS es cs sp pg k tx) sp pg = spl (memS es cs sp pg) k tx :=
  ba_ext (by rw [putS_mem hv hpg hk, spl_list _ _ _])
end Go.Proofs.YtgaipgbgppdfeaaGreatDoor
