/-
  The contract of consequence.Compare.
  Conditions: those that the theorem states.
-/
import Derived.Test.YtijaglinajfplaaGreatDoorMap
set_option maxRecDepth 10000
namespace Go.Proofs.YtijaglinajfplaaGreatDoor
open Go.RowKit

section
variable {n : Nat} {C : Cx} {Q : Exit → Act → World → Prop} {E E' : List (Nat × Value)} {F F' F1 Fs F0 : List Pf} {R R' R0 Rs N N' A : List HP} {k k' : List Fr} {ops l : List Oper}
  {i d : Nat} {t ty0 : TypeId} {x y z : Operand} {pos : String} {aft : Array Edge} {gd : Option (Nat × Bool)} {α β : Type} [DecidableEq α] {K : α → Value} {V : β → Value}
theorem l_mgetE {kt et r : Nat} {rs te : TRow} {m : List (α × β)} {zv : Value} (hk : KeyOK kt K) (a : α) (o : Option β) (ho : mget a m = o) (nx : Wl n C ops.toArray k Q l ((d, (o.map V).getD zv) :: E) F R) (hw : wantL ops E ⟨some d, .lookup t x y false, ty0, pos, aft, gd⟩ = some true := by rfl) (hn : Nat.blt d n = true := by rfl)
    (hx : ev E x = some (.map (some r)) := by rfl) (hy : ev E y = some (K a) := by rfl) (hts : lookT tab t = some rs := by rfl) (hrs : rs.k = .map kt et := by rfl) (hte : lookT tab et = some te := by rfl) (hzv : zval te = some zv := by rfl)
    (hs : Sel (Mp K V r m) R R0 := by (repeat (first | exact Sel.here | apply Sel.there)); first | done | fail) : Wl n C ops.toArray k Q (⟨some d, .lookup t x y false, ty0, pos, aft, gd⟩ :: l) E F R := by
  subst ho
  exact l_mget hk a nx hw hn hx hy hts hrs hte hzv hs
theorem l_mgetE2 {kt et r : Nat} {rs te : TRow} {m : List (α × β)} {zv : Value} (hk : KeyOK kt K) (a : α) (o : Option β) (ho : mget a m = o) (nx : Wl n C ops.toArray k Q l ((d, .tuple #[(o.map V).getD zv, .bool o.isSome]) :: E) F R) (hw : wantL ops E ⟨some d, .lookup t x y true, ty0, pos, aft, gd⟩ = some true := by rfl) (hn : Nat.blt d n = true := by rfl)
    (hx : ev E x = some (.map (some r)) := by rfl) (hy : ev E y = some (K a) := by rfl) (hts : lookT tab t = some rs := by rfl) (hrs : rs.k = .map kt et := by rfl) (hte : lookT tab et = some te := by rfl) (hzv : zval te = some zv := by rfl)
    (hs : Sel (Mp K V r m) R R0 := by (repeat (first | exact Sel.here | apply Sel.there)); first | done | fail) : Wl n C ops.toArray k Q (⟨some d, .lookup t x y true, ty0, pos, aft, gd⟩ :: l) E F R := by
  subst ho
  exact l_mget2 hk a nx hw hn hx hy hts hrs hte hzv hs
end

def En.v (e : En) : Value := .agg #[.string e.who, .int .i64 e.nu, .int .i64 e.tk, .int .i64 e.o.ch, .string e.o.tg, .string e.o.tx, .int .i64 e.o.us]
/-- The sender of an output. -/
abbrev Sd := ByteArray × Int
def sdv (s : Sd) : Value := .agg #[.string s.1, .int .i64 s.2]
def En.sd (e : En) : Sd := (e.who, e.nu)
def bv (b : Bool) : Value := .bool b

theorem beqS (a b : ByteArray) : (a.toList == b.toList) = decide (a = b) := by
  rw [toList_data, toList_data, Bool.eq_iff_iff]
  simp only [beq_iff_eq, decide_eq_true_eq]
  exact ⟨fun h => ba_ext h, fun h => by rw [h]⟩
theorem beqI (a b : Int) : (a == b) = decide (a = b) := by rw [Bool.eq_iff_iff]; simp

theorem key_en : KeyOK 78 En.v where
  eq a b w := by
    refine (equal_ok (t := 78) (x := En.v a) (y := En.v b) rfl w).trans ?_
    obtain ⟨a1, a2, a3, a4, a5, a6, a7⟩ := a
    obtain ⟨b1, b2, b3, b4, b5, b6, b7⟩ := b
    congr 1
    simp only [beqS, beqI, En.mk.injEq, Ou.mk.injEq]
    rw [Bool.eq_iff_iff]
    simp
  chk a em w := ckC_ok eqS_ok em 20 10000 _ _ w (by omega) rfl
  bits a := by simp [En.v, Instr.sameBits, beq_toListBytes]
  now := ⟨_, rfl, fun a b => .inl rfl⟩
theorem key_sd : KeyOK 234 sdv where
  eq a b w := by
    refine (equal_ok (t := 234) (x := sdv a) (y := sdv b) rfl w).trans ?_
    obtain ⟨a1, a2⟩ := a
    obtain ⟨b1, b2⟩ := b
    congr 1
    simp only [beqS, beqI, Prod.mk.injEq]
    rw [Bool.eq_iff_iff]
    simp
  chk a em w := ckC_ok eqS_ok em 20 10000 _ _ w (by omega) rfl
  bits a := by simp [sdv, Instr.sameBits, beq_toListBytes]
  now := ⟨_, rfl, fun a b => .inl rfl⟩

theorem mget_set {α β : Type} [DecidableEq α] (a : α) (v : β) : ∀ (m : List (α × β)) (b : α), mget b (mset a v m) = if a = b then some v else mget b m
  | [], b => by
    by_cases h : a = b
    · subst h; simp [mset, mget]
    · have : b ≠ a := fun e => h e.symm
      simp [mset, mget, h, this]
  | (c, u) :: m, b => by
    have ih := mget_set a v m b
    unfold mset
    by_cases hac : a = c
    · subst hac
      rw [if_pos rfl, mget, mget]
      by_cases hab : a = b
      · subst hab; simp
      · have : b ≠ a := fun e => hab e.symm
        simp [hab, this]
    · rw [if_neg hac, mget, mget, ih]
      by_cases hab : a = b
      · subst hab; simp [hac]
      · simp [hab]

/-- A consequence. -/
structure Cq where
  kind : Int
  who : ByteArray
  nu : Int
  place : Int
  old : Ou
  oldAt : Int
  new : Ou
  newAt : Int
  deriving DecidableEq
def cqf (c : Cq) : List Value := [.int .i64 c.kind, .string c.who, .int .i64 c.nu, .int .i64 c.place, .int .i64 c.old.ch, .string c.old.tg, .string c.old.tx, .int .i64 c.old.us, .int .i64 c.oldAt, .int .i64 c.new.ch, .string c.new.tg, .string c.new.tx, .int .i64 c.new.us, .int .i64 c.newAt]

/-- The consequence of an entry of the ledger. -/
def con1 (all : List En) (x : Lf) (p : Nat) : Cq :=
  if x.e ∈ all then ⟨1, x.e.who, x.e.nu, p, x.e.o, x.e.tk, x.e.o, x.e.tk⟩
  else match all.find? fun y => y.sd = x.e.sd with
    | some y => ⟨3, x.e.who, x.e.nu, p, x.e.o, x.e.tk, y.o, y.tk⟩
    | none => ⟨2, x.e.who, x.e.nu, p, x.e.o, x.e.tk, Ou.z, 0⟩
/-- What is known behind it. -/
def knw (all : List En) (x : Lf) : List En :=
  (if x.e ∈ all then [] else match all.find? fun y => y.sd = x.e.sd with | some y => [y] | none => []) ++ [x.e]
def cons1 (all : List En) (ls : List Lf) : List Cq := ls.mapIdx fun p x => con1 all x p
def con2 (y : En) : Cq := ⟨4, y.who, y.nu, -1, Ou.z, 0, y.o, y.tk⟩
def cons2 (known : List En) (ys : List En) : List Cq := (ys.filter fun y => decide (y ∉ known)).map con2
/-- What Compare answers. -/
def consE (all : List En) (ls : List Lf) : List Cq := cons1 all ls ++ cons2 (ls.flatMap (knw all)) all

structure C1 (all : List En) where
  i : Nat
  m1 : List (En × Bool)
  m2 : List (Sd × En)
  hi : i ≤ all.length
  h1 : ∀ e, mget e m1 = if e ∈ all.take i then some true else none
  h2 : ∀ s, mget s m2 = (all.take i).find? fun y => y.sd = s
structure C2 (all : List En) (ls : List Lf) where
  j : Nat
  o : Option Addr
  cap : Nat
  m3 : List (En × Bool)
  hj : j ≤ ls.length
  h3 : ∀ e, mget e m3 = if e ∈ (ls.take j).flatMap (knw all) then some true else none
structure C3 (all : List En) where
  i : Nat
  o : Option Addr
  cap : Nat
  hi : i ≤ all.length

theorem consCompare_nilL (ps : Option Addr) : Enters 75 ∧ Spec Tryz.prog 75 #[.pointer none, .pointer ps] [] [] (RetV (.tuple #[.slice none 0 0, .int .i64 1])) := by
  refine ⟨enters_of Tryz.func75 (by kernel_rfl) rfl, spec_of (vs := [_, _]) Tryz.func75 rfl Tryz.ntmps75 rfl fun G w hp => ?_⟩
  repeat' (first | refine l_run ?_ | refine l_nil ?_ | refine l_one ?_ | refine k_reg ?_ | refine l_ld ?_ | refine l_ldF ?_ | refine l_st ?_ | refine l_al (fun b => ?_) | refine l_bs (fun b => ?_) | refine k_condT ?_ | refine k_condF ?_ | refine k_brk ?_ | refine r_run ?_ | refine r_one ?_ | refine r_ld ?_ | refine r_ldF ?_ | refine r_ldN ?_ | refine r_al (fun b => ?_) | refine r_bs (fun b => ?_) | refine r_st ?_ | refine r_end ?_ | refine l_split (fun hc => ?_) (fun hc => ?_) | refine r_split (fun hc => ?_) (fun hc => ?_) | refine k_draw 26 [] [(0, 0), (1, 0), (2, 0), (3, 0), (4, 0), (5, 0), (6, 0), (7, 4), (8, 0), (9, 4), (10, 0)] [11] ?_ | refine k_draw 28 [] [(0, 0), (1, 0), (2, 0), (3, 0), (4, 0), (5, 4), (6, 0), (7, 4), (8, 0)] [9] ?_ | refine k_cond (fun hc => ?_) (fun hc => ?_))
  exact k_ret () rfl trivial
theorem consCompare_nilS (b : Nat) : Enters 75 ∧ Spec Tryz.prog 75 #[.pointer (some ⟨b, 0, none⟩), .pointer none] [] [] (RetV (.tuple #[.slice none 0 0, .int .i64 1])) := by
  refine ⟨enters_of Tryz.func75 (by kernel_rfl) rfl, spec_of (vs := [_, _]) Tryz.func75 rfl Tryz.ntmps75 rfl fun G w hp => ?_⟩
  repeat' (first | refine l_run ?_ | refine l_nil ?_ | refine l_one ?_ | refine k_reg ?_ | refine l_ld ?_ | refine l_ldF ?_ | refine l_st ?_ | refine l_al (fun b => ?_) | refine l_bs (fun b => ?_) | refine k_condT ?_ | refine k_condF ?_ | refine k_brk ?_ | refine r_run ?_ | refine r_one ?_ | refine r_ld ?_ | refine r_ldF ?_ | refine r_ldN ?_ | refine r_al (fun b => ?_) | refine r_bs (fun b => ?_) | refine r_st ?_ | refine r_end ?_ | refine l_split (fun hc => ?_) (fun hc => ?_) | refine r_split (fun hc => ?_) (fun hc => ?_) | refine k_draw 26 [] [(0, 0), (1, 0), (2, 0), (3, 0), (4, 0), (5, 0), (6, 0), (7, 4), (8, 0), (9, 4), (10, 0)] [11] ?_ | refine k_draw 28 [] [(0, 0), (1, 0), (2, 0), (3, 0), (4, 0), (5, 4), (6, 0), (7, 4), (8, 0)] [9] ?_ | refine k_cond (fun hc => ?_) (fun hc => ?_))
  exact k_ret () rfl trivial

set_option maxHeartbeats 4000000 in
theorem consCompare_ok (b bs : Nat) (es : Al) (ls : List Lf) (hl : ls.length ≤ 1000000) (hal : (allE es).length ≤ 1000000) : Enters 75 ∧ Spec Tryz.prog 75 #[.pointer (some ⟨b, 0, none⟩), .pointer (some ⟨bs, 0, none⟩)] [LgF b ls, St (some ⟨bs, 0, none⟩) es] []
    ⟨Option Addr × Nat, fun q => .tuple #[.slice q.1 (consE (allE es) ls).length q.2, .int .i64 0], fun _ => True, fun q => [Sl 26 cqf q.1 q.2 (consE (allE es) ls)], fun _ => []⟩ := by
  have n1 := outAll_ok (some ⟨bs, 0, none⟩) es
  generalize allE es = all at *
  refine ⟨enters_of Tryz.func75 (by kernel_rfl) rfl, spec_of (vs := [_, _]) Tryz.func75 rfl Tryz.ntmps75 rfl fun G w hp => ?_⟩
  repeat' (first | refine l_run ?_ | refine l_nil ?_ | refine l_one ?_ | refine k_reg ?_ | refine l_ld ?_ | refine l_ldF ?_ | refine l_st ?_ | refine l_al (fun b => ?_) | refine l_bs (fun b => ?_) | refine k_condT ?_ | refine k_condF ?_ | refine k_brk ?_ | refine r_run ?_ | refine r_one ?_ | refine r_ld ?_ | refine r_ldF ?_ | refine r_ldN ?_ | refine r_al (fun b => ?_) | refine r_bs (fun b => ?_) | refine r_st ?_ | refine r_end ?_ | refine l_call (n1) (fun _ _ => ?_) | refine l_call0 (n1) (fun _ _ => ?_) | refine r_call (n1) (fun _ _ => ?_) | refine l_mkm key_en bv (fun r1 => ?_) | refine l_mkm key_sd En.v (fun r2 => ?_) | refine l_split (fun hc => ?_) (fun hc => ?_) | refine r_split (fun hc => ?_) (fun hc => ?_) | refine k_draw 26 [] [(0, 0), (1, 0), (2, 0), (3, 0), (4, 0), (5, 0), (6, 0), (7, 4), (8, 0), (9, 4), (10, 0)] [11] ?_ | refine k_draw 28 [] [(0, 0), (1, 0), (2, 0), (3, 0), (4, 0), (5, 4), (6, 0), (7, 4), (8, 0)] [9] ?_ | refine k_cond (fun hc => ?_) (fun hc => ?_))
  rename_i q _
  obtain ⟨qo, qc⟩ := q
  refine k_lpx (X := C1 all) (Y := { m : List (En × Bool) × List (Sd × En) // (∀ e, mget e m.1 = if e ∈ all then some true else none) ∧ ∀ s, mget s m.2 = all.find? fun y => y.sd = s })
    (fun x => [(0, .pointer (some ⟨b, 0, none⟩)), (6, .slice qo all.length qc), (7, .map (some r1)), (8, .map (some r2)), (34, .slice qo all.length qc), (35, .int .i64 (all.length : Int)), (36, .int .i64 (x.i : Int))]) (fun _ => [LgF b ls, Sl 78 enf qo qc all]) (fun x => [Mp En.v bv r1 x.m1, Mp sdv En.v r2 x.m2]) (fun x => all.length - x.i)
    (fun _ => [(0, .pointer (some ⟨b, 0, none⟩)), (6, .slice qo all.length qc), (7, .map (some r1)), (8, .map (some r2))]) (fun _ => [LgF b ls, Sl 78 enf qo qc all]) (fun m => [Mp En.v bv r1 m.1.1, Mp sdv En.v r2 m.1.2])
    ⟨0, [], [], by omega, by simp [mget], by simp [mget]⟩ ⟨rfl, rfl, rfl, rfl, rfl, rfl, rfl, trivial⟩ ?_ ?_
  · rintro ⟨⟨m1, m2⟩, h1, h2⟩
    dsimp only at h1 h2 ⊢
    repeat' (first | refine l_run ?_ | refine l_nil ?_ | refine l_one ?_ | refine k_reg ?_ | refine l_ld ?_ | refine l_ldF ?_ | refine l_st ?_ | refine l_al (fun b => ?_) | refine l_bs (fun b => ?_) | refine k_condT ?_ | refine k_condF ?_ | refine k_brk ?_ | refine r_run ?_ | refine r_one ?_ | refine r_ld ?_ | refine r_ldF ?_ | refine r_ldN ?_ | refine r_al (fun b => ?_) | refine r_bs (fun b => ?_) | refine r_st ?_ | refine r_end ?_ | refine l_call (lgLen_ok b ls) (fun _ _ => ?_) | refine l_call0 (lgLen_ok b ls) (fun _ _ => ?_) | refine r_call (lgLen_ok b ls) (fun _ _ => ?_) | refine l_mkm key_en bv (fun r3 => ?_) | refine l_split (fun hc => ?_) (fun hc => ?_) | refine r_split (fun hc => ?_) (fun hc => ?_) | refine k_draw 26 [] [(0, 0), (1, 0), (2, 0), (3, 0), (4, 0), (5, 0), (6, 0), (7, 4), (8, 0), (9, 4), (10, 0)] [11] ?_ | refine k_draw 28 [] [(0, 0), (1, 0), (2, 0), (3, 0), (4, 0), (5, 4), (6, 0), (7, 4), (8, 0)] [9] ?_ | refine k_cond (fun hc => ?_) (fun hc => ?_))
    refine k_shut (Lx := []) (r := Row 26 14 none 0 0 []) (fun h _ => row_nil _ _ h) ?_
    refine k_lpx (X := C2 all ls) (Y := { q : Option Addr × Nat × List (En × Bool) // ∀ e, mget e q.2.2 = if e ∈ ls.flatMap (knw all) then some true else none })
      (fun x => [(0, .pointer (some ⟨b, 0, none⟩)), (6, .slice qo all.length qc), (7, .map (some r1)), (8, .map (some r2)), (14, .slice x.o (cons1 all (ls.take x.j)).length x.cap), (15, .map (some r3)), (61, .int .i64 (ls.length : Int)), (62, .int .i64 (x.j : Int))]) (fun _ => [LgF b ls, Sl 78 enf qo qc all]) (fun x => [Mp En.v bv r1 m1, Mp sdv En.v r2 m2, Mp En.v bv r3 x.m3, Row 26 14 x.o (cons1 all (ls.take x.j)).length x.cap ((cons1 all (ls.take x.j)).flatMap cqf)]) (fun x => ls.length - x.j)
      (fun y => [(6, .slice qo all.length qc), (14, .slice y.1.1 (cons1 all ls).length y.1.2.1), (15, .map (some r3))]) (fun _ => [Sl 78 enf qo qc all]) (fun y => [Mp En.v bv r3 y.1.2.2, Row 26 14 y.1.1 (cons1 all ls).length y.1.2.1 ((cons1 all ls).flatMap cqf)])
      ⟨0, none, 0, [], by omega, by simp [mget]⟩ ⟨rfl, rfl, rfl, rfl, rfl, rfl, rfl, rfl, trivial⟩ ?_ ?_
    · rintro ⟨⟨o, cap, m3⟩, h3⟩
      dsimp only at h3 ⊢
      have hcl : (cons1 all ls).length = ls.length := by simp [cons1]
      generalize hK : ls.flatMap (knw all) = K at h3
      have hfin : consE all ls = cons1 all ls ++ cons2 K all := by rw [consE, hK]
      rw [hfin]
      generalize cons1 all ls = A at *
      have e0 : A = A ++ cons2 K (all.take 0) := by simp [cons2]
      repeat' (first | refine l_run ?_ | refine l_nil ?_ | refine l_one ?_ | refine k_reg ?_ | refine l_ld ?_ | refine l_ldF ?_ | refine l_st ?_ | refine l_al (fun b => ?_) | refine l_bs (fun b => ?_) | refine k_condT ?_ | refine k_condF ?_ | refine k_brk ?_ | refine r_run ?_ | refine r_one ?_ | refine r_ld ?_ | refine r_ldF ?_ | refine r_ldN ?_ | refine r_al (fun b => ?_) | refine r_bs (fun b => ?_) | refine r_st ?_ | refine r_end ?_ | refine l_split (fun hc => ?_) (fun hc => ?_) | refine r_split (fun hc => ?_) (fun hc => ?_) | refine k_draw 26 [] [(0, 0), (1, 0), (2, 0), (3, 0), (4, 0), (5, 0), (6, 0), (7, 4), (8, 0), (9, 4), (10, 0)] [11] ?_ | refine k_draw 28 [] [(0, 0), (1, 0), (2, 0), (3, 0), (4, 0), (5, 4), (6, 0), (7, 4), (8, 0)] [9] ?_ | refine k_cond (fun hc => ?_) (fun hc => ?_))
      refine k_rowc (T := 26) (sz := 14) (o := o) (cap := cap) (m := A.length) (m' := (A ++ cons2 K (all.take 0)).length) (A.flatMap cqf) ((A ++ cons2 K (all.take 0)).flatMap cqf) (by rw [← e0]) (by rw [← e0]) ?_
      refine k_lp (X := C3 all) (fun x => [(14, .slice x.o (A ++ cons2 K (all.take x.i)).length x.cap), (15, .map (some r3)), (133, .slice qo all.length qc), (134, .int .i64 (all.length : Int)), (135, .int .i64 (x.i : Int))]) (fun _ => [Sl 78 enf qo qc all]) (fun x => [Mp En.v bv r3 m3, Row 26 14 x.o (A ++ cons2 K (all.take x.i)).length x.cap ((A ++ cons2 K (all.take x.i)).flatMap cqf)]) (fun x => all.length - x.i) ⟨0, o, cap, by omega⟩ ⟨by rw [← e0]; rfl, rfl, rfl, rfl, rfl, trivial⟩ ?_
      rintro ⟨i, o, cap, hi⟩
      dsimp only
      have hln : (A ++ cons2 K (all.take i)).length ≤ 2000000 := by
        have h4 : (cons2 K (all.take i)).length ≤ (all.take i).length := by simp only [cons2, List.length_map]; exact List.length_filter_le ..
        simp only [List.length_append, List.length_take] at h4 ⊢
        omega
      have hln2 : A.length + (cons2 K (all.take i)).length ≤ 2000000 := by simpa only [List.length_append] using hln
      by_cases hlt : i < all.length
      · obtain ⟨e, he⟩ : ∃ e, all[i]? = some e := ⟨_, List.getElem?_eq_getElem hlt⟩
        have htk : all.take (i + 1) = all.take i ++ [e] := by rw [List.take_add_one, he]; rfl
        have n3 := h3 e
        by_cases hin : e ∈ K
        · rw [if_pos hin] at n3
          have e3 : cons2 K (all.take (i + 1)) = cons2 K (all.take i) := by simp [cons2, htk, hin]
          repeat' (first | refine l_run ?_ | refine l_nil ?_ | refine l_one ?_ | refine k_reg ?_ | refine l_ld ?_ | refine l_ldF ?_ | refine l_st ?_ | refine l_al (fun b => ?_) | refine l_bs (fun b => ?_) | refine k_condT ?_ | refine k_condF ?_ | refine k_brk ?_ | refine r_run ?_ | refine r_one ?_ | refine r_ld ?_ | refine r_ldF ?_ | refine r_ldN ?_ | refine r_al (fun b => ?_) | refine r_bs (fun b => ?_) | refine r_st ?_ | refine r_end ?_ | refine l_ixe (es := all) i e he (fun b off => ?_) | refine l_ldC ?_ | refine l_mgetE key_en e (some true) n3 ?_ | (refine l_split (fun hc => ?_) (fun hc => ?_) <;> (try simp at hc) <;> (try omega)) | (refine r_split (fun hc => ?_) (fun hc => ?_) <;> (try simp at hc) <;> (try omega)) | refine k_draw 26 [] [(0, 0), (1, 0), (2, 0), (3, 0), (4, 0), (5, 0), (6, 0), (7, 4), (8, 0), (9, 4), (10, 0)] [11] ?_ | refine k_draw 28 [] [(0, 0), (1, 0), (2, 0), (3, 0), (4, 0), (5, 4), (6, 0), (7, 4), (8, 0)] [9] ?_ | (refine k_cond (fun hc => ?_) (fun hc => ?_) <;> (try simp at hc) <;> (try omega)))
          rw [wrapi (z := (i : Int) + 1) (by omega) (by omega), ← e3]
          exact k_next ⟨i + 1, o, cap, by omega⟩ (by show all.length - (i + 1) < all.length - i; omega) ⟨rfl, rfl, rfl, rfl, rfl, trivial⟩
        · rw [if_neg hin] at n3
          have e3 : cons2 K (all.take (i + 1)) = cons2 K (all.take i) ++ [con2 e] := by simp [cons2, htk, hin]
          have e1 : (A ++ cons2 K (all.take i)).length + 1 = (A ++ cons2 K (all.take (i + 1))).length := by rw [e3]; simp; omega
          have e2 : (A ++ cons2 K (all.take i)).flatMap cqf ++ cqf (con2 e) = (A ++ cons2 K (all.take (i + 1))).flatMap cqf := by rw [e3]; simp
          repeat' (first | refine l_run ?_ | refine l_nil ?_ | refine l_one ?_ | refine k_reg ?_ | refine l_ld ?_ | refine l_ldF ?_ | refine l_st ?_ | refine l_al (fun b => ?_) | refine l_bs (fun b => ?_) | refine k_condT ?_ | refine k_condF ?_ | refine k_brk ?_ | refine r_run ?_ | refine r_one ?_ | refine r_ld ?_ | refine r_ldF ?_ | refine r_ldN ?_ | refine r_al (fun b => ?_) | refine r_bs (fun b => ?_) | refine r_st ?_ | refine r_end ?_ | refine l_ixe (es := all) i e he (fun b off => ?_) | refine l_ldC ?_ | refine l_mgetE key_en e none n3 ?_ | refine l_app1 (fun o' cap' => ?_) | (refine l_split (fun hc => ?_) (fun hc => ?_) <;> (try simp at hc) <;> (try omega)) | (refine r_split (fun hc => ?_) (fun hc => ?_) <;> (try simp at hc) <;> (try omega)) | refine k_draw 26 [] [(0, 0), (1, 0), (2, 0), (3, 0), (4, 0), (5, 0), (6, 0), (7, 4), (8, 0), (9, 4), (10, 0)] [11] ?_ | refine k_draw 28 [] [(0, 0), (1, 0), (2, 0), (3, 0), (4, 0), (5, 4), (6, 0), (7, 4), (8, 0)] [9] ?_ | (refine k_cond (fun hc => ?_) (fun hc => ?_) <;> (try simp at hc) <;> (try omega)))
          rw [wrapi (z := (i : Int) + 1) (by omega) (by omega)]
          refine k_rowc (T := 26) (sz := 14) (o := o') (cap := cap') (m := (A ++ cons2 K (all.take i)).length + 1) _ _ e1 e2 ?_
          rw [e1]
          exact k_next ⟨i + 1, o', cap', by omega⟩ (by show all.length - (i + 1) < all.length - i; omega) ⟨rfl, rfl, rfl, rfl, rfl, trivial⟩
      · have e : all.take i = all := List.take_of_length_le (by omega)
        rw [e]
        repeat' (first | refine l_run ?_ | refine l_nil ?_ | refine l_one ?_ | refine k_reg ?_ | refine l_ld ?_ | refine l_ldF ?_ | refine l_st ?_ | refine l_al (fun b => ?_) | refine l_bs (fun b => ?_) | refine k_condT ?_ | refine k_condF ?_ | refine k_brk ?_ | refine r_run ?_ | refine r_one ?_ | refine r_ld ?_ | refine r_ldF ?_ | refine r_ldN ?_ | refine r_al (fun b => ?_) | refine r_bs (fun b => ?_) | refine r_st ?_ | refine r_end ?_ | (refine l_split (fun hc => ?_) (fun hc => ?_) <;> (try simp at hc) <;> (try omega)) | (refine r_split (fun hc => ?_) (fun hc => ?_) <;> (try simp at hc) <;> (try omega)) | refine k_draw 26 [] [(0, 0), (1, 0), (2, 0), (3, 0), (4, 0), (5, 0), (6, 0), (7, 4), (8, 0), (9, 4), (10, 0)] [11] ?_ | refine k_draw 28 [] [(0, 0), (1, 0), (2, 0), (3, 0), (4, 0), (5, 4), (6, 0), (7, 4), (8, 0)] [9] ?_ | (refine k_cond (fun hc => ?_) (fun hc => ?_) <;> (try simp at hc) <;> (try omega)))
        refine k_frz (T := 26) (sz := 14) (f := cqf) (o := o) (cap := cap) (A ++ cons2 K all) ?_ rfl rfl
        exact k_ret (o, cap) rfl trivial
    · rintro hx2 ⟨j, o, cap, m3, hj, h3⟩
      dsimp only
      have hcl : (cons1 all (ls.take j)).length = j := by simp [cons1]; omega
      by_cases hlt : j < ls.length
      · obtain ⟨x, hxj⟩ : ∃ x, ls[j]? = some x := ⟨_, List.getElem?_eq_getElem hlt⟩
        have htk : ls.take (j + 1) = ls.take j ++ [x] := by rw [List.take_add_one, hxj]; rfl
        have hc1 : cons1 all (ls.take (j + 1)) = cons1 all (ls.take j) ++ [con1 all x j] := by
          rw [htk, cons1, List.mapIdx_append]
          simp [cons1]
          congr 1; omega
        have e1 : (cons1 all (ls.take j)).length + 1 = (cons1 all (ls.take (j + 1))).length := by rw [hc1]; simp
        have e2 : (cons1 all (ls.take j)).flatMap cqf ++ cqf (con1 all x j) = (cons1 all (ls.take (j + 1))).flatMap cqf := by rw [hc1]; simp
        have n2 := lgGet_ok b ls j x hxj
        have n3 := h2 x.e.sd
        have n4 := h1 x.e
        by_cases hin : x.e ∈ all
        · rw [if_pos hin] at n4
          cases hfd : all.find? fun y => decide (y.sd = x.e.sd) with
          | none => exact (List.find?_eq_none.1 hfd x.e hin (by simp)).elim
          | some y =>
            rw [hfd] at n3
            have hcon : con1 all x j = ⟨1, x.e.who, x.e.nu, j, x.e.o, x.e.tk, x.e.o, x.e.tk⟩ := by rw [con1, if_pos hin]
            have g3 : ∀ e, mget e (mset x.e true m3) = if e ∈ (ls.take (j + 1)).flatMap (knw all) then some true else none := fun e => by
              rw [mget_set, h3 e, htk]
              simp only [List.flatMap_append, List.flatMap_cons, List.flatMap_nil, List.append_nil, knw, if_pos hin, List.nil_append, List.mem_append, List.mem_singleton]
              by_cases hee : x.e = e
              · subst hee; simp
              · have : e ≠ x.e := fun h => hee h.symm
                simp [hee, this]
            rw [hcon] at e2
            repeat' (first | refine l_run ?_ | refine l_nil ?_ | refine l_one ?_ | refine k_reg ?_ | refine l_ld ?_ | refine l_ldF ?_ | refine l_st ?_ | refine l_al (fun b => ?_) | refine l_bs (fun b => ?_) | refine k_condT ?_ | refine k_condF ?_ | refine r_run ?_ | refine r_one ?_ | refine r_ld ?_ | refine r_ldF ?_ | refine r_ldN ?_ | refine r_al (fun b => ?_) | refine r_bs (fun b => ?_) | refine r_st ?_ | refine r_end ?_ | refine l_call (n2) (fun _ _ => ?_) | refine l_call0 (n2) (fun _ _ => ?_) | refine r_call (n2) (fun _ _ => ?_) | refine l_mgetE2 key_sd x.e.sd (some y) n3 ?_ | refine l_mgetE key_en x.e (some true) n4 ?_ | refine l_mset key_en x.e true ?_ | refine l_app1 (fun o' cap' => ?_) | (refine l_split (fun hc => ?_) (fun hc => ?_) <;> (try simp at hc) <;> (try omega)) | (refine r_split (fun hc => ?_) (fun hc => ?_) <;> (try simp at hc) <;> (try omega)) | refine k_draw 26 [Pt _ (.cells _ 26 _)] [(0, 0), (1, 0), (2, 0), (3, 0), (4, 0), (5, 0), (6, 0), (7, 4), (8, 0), (9, 4), (10, 0), (11, 4)] [] ?_ | refine k_draw 28 [Pt _ (.cells _ 26 _)] [(0, 0), (1, 0), (2, 0), (3, 0), (4, 0), (5, 4), (6, 0), (7, 4), (8, 0), (9, 4)] [] ?_ | (refine k_cond (fun hc => ?_) (fun hc => ?_) <;> (try simp at hc) <;> (try omega)))
            rw [wrapi (z := (j : Int) + 1) (by omega) (by omega)]
            refine k_rowc (T := 26) (sz := 14) (o := o') (cap := cap') (m := (cons1 all (ls.take j)).length + 1) _ _ e1 e2 ?_
            rw [e1]
            exact k_next ⟨j + 1, o', cap', _, by omega, g3⟩ (by show ls.length - (j + 1) < ls.length - j; omega) ⟨rfl, rfl, rfl, rfl, rfl, rfl, rfl, rfl, trivial⟩
        · rw [if_neg hin] at n4
          cases hfd : all.find? fun y => decide (y.sd = x.e.sd) with
          | none =>
            rw [hfd] at n3
            have hcon : con1 all x j = ⟨2, x.e.who, x.e.nu, j, x.e.o, x.e.tk, Ou.z, 0⟩ := by rw [con1, if_neg hin, hfd]
            have g3 : ∀ e, mget e (mset x.e true m3) = if e ∈ (ls.take (j + 1)).flatMap (knw all) then some true else none := fun e => by
              rw [mget_set, h3 e, htk]
              simp only [List.flatMap_append, List.flatMap_cons, List.flatMap_nil, List.append_nil, knw, if_neg hin, hfd, List.nil_append, List.mem_append, List.mem_singleton]
              by_cases hee : x.e = e
              · subst hee; simp
              · have : e ≠ x.e := fun h => hee h.symm
                simp [hee, this]
            rw [hcon] at e2
            repeat' (first | refine l_run ?_ | refine l_nil ?_ | refine l_one ?_ | refine k_reg ?_ | refine l_ld ?_ | refine l_ldF ?_ | refine l_st ?_ | refine l_al (fun b => ?_) | refine l_bs (fun b => ?_) | refine k_condT ?_ | refine k_condF ?_ | refine r_run ?_ | refine r_one ?_ | refine r_ld ?_ | refine r_ldF ?_ | refine r_ldN ?_ | refine r_al (fun b => ?_) | refine r_bs (fun b => ?_) | refine r_st ?_ | refine r_end ?_ | refine l_call (n2) (fun _ _ => ?_) | refine l_call0 (n2) (fun _ _ => ?_) | refine r_call (n2) (fun _ _ => ?_) | refine l_mgetE2 key_sd x.e.sd none n3 ?_ | refine l_mgetE key_en x.e none n4 ?_ | refine l_mset key_en x.e true ?_ | refine l_app1 (fun o' cap' => ?_) | (refine l_split (fun hc => ?_) (fun hc => ?_) <;> (try simp at hc) <;> (try omega)) | (refine r_split (fun hc => ?_) (fun hc => ?_) <;> (try simp at hc) <;> (try omega)) | refine k_draw 26 [Pt _ (.cells _ 26 _)] [(0, 0), (1, 0), (2, 0), (3, 0), (4, 0), (5, 0), (6, 0), (7, 4), (8, 0), (9, 4), (10, 0), (11, 4)] [] ?_ | refine k_draw 28 [Pt _ (.cells _ 26 _)] [(0, 0), (1, 0), (2, 0), (3, 0), (4, 0), (5, 4), (6, 0), (7, 4), (8, 0), (9, 4)] [] ?_ | (refine k_cond (fun hc => ?_) (fun hc => ?_) <;> (try simp at hc) <;> (try omega)))
            rw [wrapi (z := (j : Int) + 1) (by omega) (by omega)]
            refine k_rowc (T := 26) (sz := 14) (o := o') (cap := cap') (m := (cons1 all (ls.take j)).length + 1) _ _ e1 e2 ?_
            rw [e1]
            exact k_next ⟨j + 1, o', cap', _, by omega, g3⟩ (by show ls.length - (j + 1) < ls.length - j; omega) ⟨rfl, rfl, rfl, rfl, rfl, rfl, rfl, rfl, trivial⟩
          | some y =>
            rw [hfd] at n3
            have hcon : con1 all x j = ⟨3, x.e.who, x.e.nu, j, x.e.o, x.e.tk, y.o, y.tk⟩ := by rw [con1, if_neg hin, hfd]
            have g3 : ∀ e, mget e (mset x.e true (mset y true m3)) = if e ∈ (ls.take (j + 1)).flatMap (knw all) then some true else none := fun e => by
              rw [mget_set, mget_set, h3 e, htk]
              simp only [List.flatMap_append, List.flatMap_cons, List.flatMap_nil, List.append_nil, knw, if_neg hin, hfd, List.mem_append, List.mem_singleton]
              by_cases hee : x.e = e
              · subst hee; simp
              · have h5 : e ≠ x.e := fun h => hee h.symm
                by_cases hye : y = e
                · subst hye; simp [hee]
                · have h6 : e ≠ y := fun h => hye h.symm
                  simp [hee, hye, h5, h6]
            rw [hcon] at e2
            repeat' (first | refine l_run ?_ | refine l_nil ?_ | refine l_one ?_ | refine k_reg ?_ | refine l_ld ?_ | refine l_ldF ?_ | refine l_st ?_ | refine l_al (fun b => ?_) | refine l_bs (fun b => ?_) | refine k_condT ?_ | refine k_condF ?_ | refine r_run ?_ | refine r_one ?_ | refine r_ld ?_ | refine r_ldF ?_ | refine r_ldN ?_ | refine r_al (fun b => ?_) | refine r_bs (fun b => ?_) | refine r_st ?_ | refine r_end ?_ | refine l_call (n2) (fun _ _ => ?_) | refine l_call0 (n2) (fun _ _ => ?_) | refine r_call (n2) (fun _ _ => ?_) | refine l_mgetE2 key_sd x.e.sd (some y) n3 ?_ | refine l_mgetE key_en x.e none n4 ?_ | refine l_mset key_en x.e true ?_ | refine l_mset key_en y true ?_ | refine l_app1 (fun o' cap' => ?_) | (refine l_split (fun hc => ?_) (fun hc => ?_) <;> (try simp at hc) <;> (try omega)) | (refine r_split (fun hc => ?_) (fun hc => ?_) <;> (try simp at hc) <;> (try omega)) | refine k_draw 26 [Pt _ (.cells _ 26 _)] [(0, 0), (1, 0), (2, 0), (3, 0), (4, 0), (5, 0), (6, 0), (7, 4), (8, 0), (9, 4), (10, 0), (11, 4)] [] ?_ | refine k_draw 28 [Pt _ (.cells _ 26 _)] [(0, 0), (1, 0), (2, 0), (3, 0), (4, 0), (5, 4), (6, 0), (7, 4), (8, 0), (9, 4)] [] ?_ | (refine k_cond (fun hc => ?_) (fun hc => ?_) <;> (try simp at hc) <;> (try omega)))
            rw [wrapi (z := (j : Int) + 1) (by omega) (by omega)]
            refine k_rowc (T := 26) (sz := 14) (o := o') (cap := cap') (m := (cons1 all (ls.take j)).length + 1) _ _ e1 e2 ?_
            rw [e1]
            exact k_next ⟨j + 1, o', cap', _, by omega, g3⟩ (by show ls.length - (j + 1) < ls.length - j; omega) ⟨rfl, rfl, rfl, rfl, rfl, rfl, rfl, rfl, trivial⟩
      · have e : ls.take j = ls := List.take_of_length_le (by omega)
        rw [e] at h3
        rw [e]
        repeat' (first | refine l_run ?_ | refine l_nil ?_ | refine l_one ?_ | refine k_reg ?_ | refine l_ld ?_ | refine l_ldF ?_ | refine l_st ?_ | refine l_al (fun b => ?_) | refine l_bs (fun b => ?_) | refine k_condT ?_ | refine k_condF ?_ | refine r_run ?_ | refine r_one ?_ | refine r_ld ?_ | refine r_ldF ?_ | refine r_ldN ?_ | refine r_al (fun b => ?_) | refine r_bs (fun b => ?_) | refine r_st ?_ | refine r_end ?_ | (refine l_split (fun hc => ?_) (fun hc => ?_) <;> (try simp at hc) <;> (try omega)) | (refine r_split (fun hc => ?_) (fun hc => ?_) <;> (try simp at hc) <;> (try omega)) | refine k_draw 26 [] [(0, 0), (1, 0), (2, 0), (3, 0), (4, 0), (5, 0), (6, 0), (7, 4), (8, 0), (9, 4), (10, 0)] [11] ?_ | refine k_draw 28 [] [(0, 0), (1, 0), (2, 0), (3, 0), (4, 0), (5, 4), (6, 0), (7, 4), (8, 0)] [9] ?_ | (refine k_cond (fun hc => ?_) (fun hc => ?_) <;> (try simp at hc) <;> (try omega)))
        exact k_out hx2 ⟨(o, cap, m3), h3⟩ ⟨rfl, rfl, rfl, trivial⟩
  · rintro hx ⟨i, m1, m2, hi, h1, h2⟩
    dsimp only
    by_cases hlt : i < all.length
    · obtain ⟨e, he⟩ : ∃ e, all[i]? = some e := ⟨_, List.getElem?_eq_getElem hlt⟩
      have htk : all.take (i + 1) = all.take i ++ [e] := by rw [List.take_add_one, he]; rfl
      have g1 : ∀ e', mget e' (mset e true m1) = if e' ∈ all.take (i + 1) then some true else none := fun e' => by
        rw [mget_set, h1 e', htk]
        by_cases hee : e = e'
        · subst hee; simp
        · have : e' ≠ e := fun h => hee h.symm
          simp [hee, this]
      cases hg : mget e.sd m2 with
      | none =>
        have g2 : ∀ s, mget s (mset e.sd e m2) = (all.take (i + 1)).find? fun y => y.sd = s := fun s => by
          rw [mget_set, h2 s, htk, List.find?_append]
          by_cases hes : e.sd = s
          · subst hes
            rw [← h2, hg]; simp
          · simp [hes]
        repeat' (first | refine l_run ?_ | refine l_nil ?_ | refine l_one ?_ | refine k_reg ?_ | refine l_ld ?_ | refine l_ldF ?_ | refine l_st ?_ | refine l_al (fun b => ?_) | refine l_bs (fun b => ?_) | refine k_condT ?_ | refine k_condF ?_ | refine r_run ?_ | refine r_one ?_ | refine r_ld ?_ | refine r_ldF ?_ | refine r_ldN ?_ | refine r_al (fun b => ?_) | refine r_bs (fun b => ?_) | refine r_st ?_ | refine r_end ?_ | refine l_ixe (es := all) i e he (fun b off => ?_) | refine l_ldC ?_ | refine l_mset key_en e true ?_ | refine l_mgetE2 key_sd e.sd none hg ?_ | refine l_mset key_sd e.sd e ?_ | (refine l_split (fun hc => ?_) (fun hc => ?_) <;> (try simp at hc) <;> (try omega)) | (refine r_split (fun hc => ?_) (fun hc => ?_) <;> (try simp at hc) <;> (try omega)) | refine k_draw 26 [] [(0, 0), (1, 0), (2, 0), (3, 0), (4, 0), (5, 0), (6, 0), (7, 4), (8, 0), (9, 4), (10, 0)] [11] ?_ | refine k_draw 28 [] [(0, 0), (1, 0), (2, 0), (3, 0), (4, 0), (5, 4), (6, 0), (7, 4), (8, 0)] [9] ?_ | (refine k_cond (fun hc => ?_) (fun hc => ?_) <;> (try simp at hc) <;> (try omega)))
        rw [wrapi (z := (i : Int) + 1) (by omega) (by omega)]
        exact k_next ⟨i + 1, _, _, by omega, g1, g2⟩ (by show all.length - (i + 1) < all.length - i; omega) ⟨rfl, rfl, rfl, rfl, rfl, rfl, rfl, trivial⟩
      | some e0 =>
        have g2 : ∀ s, mget s m2 = (all.take (i + 1)).find? fun y => y.sd = s := fun s => by
          rw [htk, List.find?_append, ← h2]
          by_cases hes : e.sd = s
          · subst hes; rw [hg]; simp
          · simp [hes]
        repeat' (first | refine l_run ?_ | refine l_nil ?_ | refine l_one ?_ | refine k_reg ?_ | refine l_ld ?_ | refine l_ldF ?_ | refine l_st ?_ | refine l_al (fun b => ?_) | refine l_bs (fun b => ?_) | refine k_condT ?_ | refine k_condF ?_ | refine r_run ?_ | refine r_one ?_ | refine r_ld ?_ | refine r_ldF ?_ | refine r_ldN ?_ | refine r_al (fun b => ?_) | refine r_bs (fun b => ?_) | refine r_st ?_ | refine r_end ?_ | refine l_ixe (es := all) i e he (fun b off => ?_) | refine l_ldC ?_ | refine l_mset key_en e true ?_ | refine l_mgetE2 key_sd e.sd (some e0) hg ?_ | (refine l_split (fun hc => ?_) (fun hc => ?_) <;> (try simp at hc) <;> (try omega)) | (refine r_split (fun hc => ?_) (fun hc => ?_) <;> (try simp at hc) <;> (try omega)) | refine k_draw 26 [] [(0, 0), (1, 0), (2, 0), (3, 0), (4, 0), (5, 0), (6, 0), (7, 4), (8, 0), (9, 4), (10, 0)] [11] ?_ | refine k_draw 28 [] [(0, 0), (1, 0), (2, 0), (3, 0), (4, 0), (5, 4), (6, 0), (7, 4), (8, 0)] [9] ?_ | (refine k_cond (fun hc => ?_) (fun hc => ?_) <;> (try simp at hc) <;> (try omega)))
        rw [wrapi (z := (i : Int) + 1) (by omega) (by omega)]
        exact k_next ⟨i + 1, _, _, by omega, g1, g2⟩ (by show all.length - (i + 1) < all.length - i; omega) ⟨rfl, rfl, rfl, rfl, rfl, rfl, rfl, trivial⟩
    · have e : all.take i = all := List.take_of_length_le (by omega)
      rw [e] at h1 h2
      repeat' (first | refine l_run ?_ | refine l_nil ?_ | refine l_one ?_ | refine k_reg ?_ | refine l_ld ?_ | refine l_ldF ?_ | refine l_st ?_ | refine l_al (fun b => ?_) | refine l_bs (fun b => ?_) | refine k_condT ?_ | refine k_condF ?_ | refine r_run ?_ | refine r_one ?_ | refine r_ld ?_ | refine r_ldF ?_ | refine r_ldN ?_ | refine r_al (fun b => ?_) | refine r_bs (fun b => ?_) | refine r_st ?_ | refine r_end ?_ | (refine l_split (fun hc => ?_) (fun hc => ?_) <;> (try simp at hc) <;> (try omega)) | (refine r_split (fun hc => ?_) (fun hc => ?_) <;> (try simp at hc) <;> (try omega)) | refine k_draw 26 [] [(0, 0), (1, 0), (2, 0), (3, 0), (4, 0), (5, 0), (6, 0), (7, 4), (8, 0), (9, 4), (10, 0)] [11] ?_ | refine k_draw 28 [] [(0, 0), (1, 0), (2, 0), (3, 0), (4, 0), (5, 4), (6, 0), (7, 4), (8, 0)] [9] ?_ | (refine k_cond (fun hc => ?_) (fun hc => ?_) <;> (try simp at hc) <;> (try omega)))
      exact k_out hx ⟨(m1, m2), h1, h2⟩ ⟨rfl, rfl, rfl, rfl, trivial⟩
end Go.Proofs.YtijaglinajfplaaGreatDoor
