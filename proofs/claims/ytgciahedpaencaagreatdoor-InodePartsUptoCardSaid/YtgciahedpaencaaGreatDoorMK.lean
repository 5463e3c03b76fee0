/-
  Contracts of strings.Builder: copyCheck, Write, String.
  Contracts of the package inode: Read, Contents.
  Contracts of the package inode: Contents, cut, Resize where it succeeds.
  Contracts of the package inode: cut, Resize where it succeeds.
  What a view holds of a file: how Write, Resize and Read see its bytes.
  What a view holds of the counts of three processes that make nodes in turn.
  The law InodeBirths, walked.
  The model of layer 27: make.
  The state in which the statements of layer 27 begin: start.
  Conditions: those that each theorem states.
-/
import Derived.Lib.Builder
import Derived.Lib.UnsafeStr
import Derived.Laws.Externs
import Derived.Test.YtgciahedpaencaaGreatDoorMI
import Derived.Test.YtgciahedpaencaaGreatDoorMJ
import Derived.Test.YtgciahedpaencaaGreatDoorME
import Derived.Test.YtgciahedpaencaaGreatDoorMG
set_option maxRecDepth 10000
namespace Go.Proofs.YtgciahedpaencaaGreatDoor
open Go.RowKit

theorem bdInfo : ∃ j, Tryz.prog.info? 126 = some j ∧ j.size = 2 := by
  obtain ⟨j, h1, h2⟩ := Option.map_eq_some_iff.1 (show (Tryz.prog.info? 126).map (·.size) = some 2 by kernel_rfl)
  exact ⟨j, h1, h2⟩
theorem bdLies : liesAt Tryz.prog Tryz.prog.depth 126 (2 / Tryz.prog.cellsOf 126) 0 126 1 = true := by kernel_rfl
theorem u8Cells : Tryz.prog.cellsOf 5 = 1 := by kernel_rfl

section
variable {n : Nat} {C : Cx} {Q : Exit → Act → World → Prop} {E E' : List (Nat × Value)} {F F' F1 Fs F0 : List Pf} {R R' R0 Rs N N' A : List HP} {k k' : List Fr} {ops l : List Oper} {L L' : List (Nat × Nat)} {Tl : List Nat}
  {i d : Nat} {t t2 ty0 : TypeId} {x y z : Operand} {pos : String} {aft : Array Edge} {gd : Option (Nat × Bool)}
/-- A builder's address against itself. -/
theorem l_nepB {a : Addr} (nx : Wl n C ops.toArray k Q l ((d, .bool false) :: E) F R) (hw : wantL ops E ⟨some d, .binOp .neq 124 x y t2, ty0, pos, aft, gd⟩ = some true := by rfl) (hn : Nat.blt d n = true := by rfl)
    (hx : ev E x = some (.pointer (some a)) := by rfl) (hy : ev E y = some (.pointer (some a)) := by rfl) : Wl n C ops.toArray k Q (⟨some d, .binOp .neq 124 x y t2, ty0, pos, aft, gd⟩ :: l) E F R :=
  l_q (fun ac w ha => by
    obtain ⟨j, h1, h2⟩ := bdInfo
    have hg : (eqGuard .neq 124 x y (.pointer (some a)) (.pointer (some a))).run Tryz.prog w = .ok () w := by simp [eqGuard]
    have hb := Lib.run_neq_ptr_same (P := Tryz.prog) w a Tryz.underlying124 h1
    simp only [execOp, ha.ev (x := x) (by rw [evf_look]; exact hx), ha.ev (x := y) (by rw [evf_look]; exact hy), Sem.run_bind, hg, Result.andThen, hb, Sem.run_pure]) nx (by intro c h; cases h) hw hn
/-- A builder's address as an unsafe pointer, and back. -/
theorem l_toU {b : Nat} {cs : Array Value} (nx : Wl n C ops.toArray k Q l ((d, .pointer (some ⟨b, 0, none⟩)) :: E) F R) (hw : wantL ops E ⟨some d, .convert 124 222 x, ty0, pos, aft, gd⟩ = some true := by rfl) (hn : Nat.blt d n = true := by rfl)
    (hx : ev E x = some (.pointer (some ⟨b, 0, none⟩)) := by rfl) (hs : Sel (Pt b (.cells cs 126 (0, 0))) R R0 := by (repeat (first | exact Sel.here | apply Sel.there)); first | done | fail) (hc : cs.size = 2 := by rfl) : Wl n C ops.toArray k Q (⟨some d, .convert 124 222 x, ty0, pos, aft, gd⟩ :: l) E F R :=
  wl_op (fun t ht => by cases ht; exact Nat.le_of_ble_eq_true hn) (fun c hc => by cases hc) hw fun a w ha hsat => by
    obtain ⟨j, h1, h2⟩ := bdInfo
    have hb := hsat.pt hs
    have hsh : w.shape? b = some (126, 2) := by simp [World.shape?, hb, hc]
    have hr := Lib.run_to_unsafe (P := Tryz.prog) w ⟨b, 0, none⟩ Tryz.underlying124 Tryz.underlying222 h1 (by rw [h2]; decide) hsh (show 0 < 2 by decide)
    unfold OpRes
    simp only [execOp, ha.ev (x := x) (by rw [evf_look]; exact hx), Sem.run_bind, Result.andThen, hr, Sem.run_pure]
    exact fun a' ha' => nx a' w ha' hsat
theorem l_fromU {b : Nat} {cs : Array Value} (nx : Wl n C ops.toArray k Q l ((d, .pointer (some ⟨b, 0, none⟩)) :: E) F R) (hw : wantL ops E ⟨some d, .convert 222 124 x, ty0, pos, aft, gd⟩ = some true := by rfl) (hn : Nat.blt d n = true := by rfl)
    (hx : ev E x = some (.pointer (some ⟨b, 0, none⟩)) := by rfl) (hs : Sel (Pt b (.cells cs 126 (0, 0))) R R0 := by (repeat (first | exact Sel.here | apply Sel.there)); first | done | fail) (hc : cs.size = 2 := by rfl) : Wl n C ops.toArray k Q (⟨some d, .convert 222 124 x, ty0, pos, aft, gd⟩ :: l) E F R :=
  wl_op (fun t ht => by cases ht; exact Nat.le_of_ble_eq_true hn) (fun c hc => by cases hc) hw fun a w ha hsat => by
    obtain ⟨j, h1, h2⟩ := bdInfo
    have hb := hsat.pt hs
    have hsh : w.shape? b = some (126, 2) := by simp [World.shape?, hb, hc]
    have hr := Lib.run_from_unsafe (P := Tryz.prog) w ⟨b, 0, none⟩ Tryz.underlying222 Tryz.underlying124 h1 hsh bdLies
    unfold OpRes
    simp only [execOp, ha.ev (x := x) (by rw [evf_look]; exact hx), Sem.run_bind, Result.andThen, hr, Sem.run_pure]
    exact fun a' ha' => nx a' w ha' hsat
theorem run_callX {f : FuncId} {args : Array Operand} {tys : Array TypeId} {vs : List Value} {v : Value} (hf : ∀ w, (callFunc f vs.toArray).run Tryz.prog w = .ok (.value v) w) (hargs : evs (ev E) args.toList some = some vs) {a : Act} {ds : List Deferred} (ha : Agree n ds (look E) a) (w : World) (dst : Option Tmp) :
    (execOp a.eval ⟨dst, .call ⟨.value (.func f), args, tys⟩, ty0, pos, aft, gd⟩).run Tryz.prog w = .ok (.value v) w := by
  obtain ⟨us, _, h2, h3⟩ := evs_eq _ _ _ hargs
  obtain rfl := Option.some.inj h2
  have e1 := h3 a.eval fun x _ u hu => ha.ev (by rw [evf_look]; exact hu)
  have e3 : args.map a.eval = us.toArray := by rw [← Array.toList_inj]; simpa using e1
  simp only [execOp, resolve, Deferred.ofValue, Act.eval, Sem.run_bind, Sem.run_pure, Result.andThen, invoke]
  have e4 : (args.map fun x => a.eval x) = us.toArray := e3
  simp only [Act.eval] at e4
  rw [show (#[] : Array Value) ++ Array.map _ args ++ #[] = us.toArray by rw [← e3]; simp]
  exact hf w
/-- abi.NoEscape hands back what it is given. -/
theorem l_noesc {v : Value} {args : Array Operand} {tys : Array TypeId} (nx : Wl n C ops.toArray k Q l ((d, v) :: E) F R) (hw : wantL ops E ⟨some d, .call ⟨.value (.func 129), args, tys⟩, ty0, pos, aft, gd⟩ = some true := by rfl) (hn : Nat.blt d n = true := by rfl)
    (hargs : evs (ev E) args.toList some = some [v] := by rfl) : Wl n C ops.toArray k Q (⟨some d, .call ⟨.value (.func 129), args, tys⟩, ty0, pos, aft, gd⟩ :: l) E F R :=
  wl_op (fun t ht => by cases ht; exact Nat.le_of_ble_eq_true hn) (fun c hc => by cases hc) hw fun a w ha hsat => by
    have hc : ∀ w, (callFunc 129 [v].toArray).run Tryz.prog w = .ok (.value v) w := fun w => by
      rw [run_callFunc_extern Tryz.func129 (by kernel_rfl) (by kernel_rfl) (by kernel_rfl) (e := Extern.AbiNoEscape.same) (by kernel_rfl), Lib.run_noEscape]
      rfl
    unfold OpRes
    rw [run_callX hc hargs ha w]
    exact fun a' ha' => nx a' w ha' hsat
/-- What lies at a slice's first element, and a text of it. -/
theorem r_usd {o : Option Addr} {m c : Nat} {tys : Array TypeId} (nx : Wr n C ops k Q Tl Fs R L ((d, .pointer o) :: E) F N)
    (ho : nth ops i = some ⟨some d, .call ⟨.builtin .unsafeSliceData, #[x], tys⟩, ty0, pos, aft, gd⟩ := by rfl) (hw : wantL ops E ⟨some d, .call ⟨.builtin .unsafeSliceData, #[x], tys⟩, ty0, pos, aft, gd⟩ = some true := by rfl) (hx : ev E x = some (.slice o m c) := by rfl) (hc : o = none ∨ c ≠ 0) : Wr n C ops k Q Tl Fs R ((i, 0) :: L) E F N :=
  r_q (fun a w ha => by
    have e1 := ha.ev (x := x) (by rw [evf_look]; exact hx)
    have hr : (Builtin.unsafeSliceData_ tys ty0 #[.slice o m c]).run Tryz.prog w = .ok (.pointer o) w := by
      rcases hc with rfl | hc
      · exact Lib.run_unsafeSliceData_nil (P := Tryz.prog) w tys ty0 m c
      · cases o with
        | none => exact Lib.run_unsafeSliceData_nil (P := Tryz.prog) w tys ty0 m c
        | some a => exact Lib.run_unsafeSliceData_row (P := Tryz.prog) w tys ty0 a m c hc
    simp only [execOp, resolve, Sem.run_bind, Sem.run_pure, Result.andThen, invoke, builtin, List.map_toArray, List.map_cons, List.map_nil, e1, hr]) nx ho hw
/-- A text of no bytes, and of the first bytes of an owned row, which stay as they are from then on. -/
theorem r_ust0 {o : Option Addr} {pt it : TypeId} (nx : Wr n C ops k Q Tl Fs R L ((d, .string ⟨#[]⟩) :: E) F N)
    (ho : nth ops i = some ⟨some d, .call ⟨.builtin .unsafeString, #[x, y], #[pt, it]⟩, ty0, pos, aft, gd⟩ := by rfl) (hw : wantL ops E ⟨some d, .call ⟨.builtin .unsafeString, #[x, y], #[pt, it]⟩, ty0, pos, aft, gd⟩ = some true := by rfl)
    (hx : ev E x = some (.pointer o) := by rfl) (hy : ev E y = some (.int .i64 0) := by rfl) : Wr n C ops k Q Tl Fs R ((i, 0) :: L) E F N :=
  r_q (fun a w ha => by
    have e1 := ha.ev (x := x) (by rw [evf_look]; exact hx)
    have e2 := ha.ev (x := y) (by rw [evf_look]; exact hy)
    have hr := Lib.run_unsafeString_none (P := Tryz.prog) w pt it ty0 o
    simp only [execOp, resolve, Sem.run_bind, Sem.run_pure, Result.andThen, invoke, builtin, List.map_toArray, List.map_cons, List.map_nil, e1, e2, hr]
    rfl) nx ho hw
theorem frz_w {w : World} {g m : Nat} {cs : Array Value} {T : TypeId} {fz : Nat × Nat} (hb : w.heap[g]? = some (.cells cs T fz)) : ∃ fz', (w.freeze ⟨g, 0, none⟩ m).heap[g]? = some (.cells cs T fz') ∧ Same w (w.freeze ⟨g, 0, none⟩ m) ∧ ∀ e, e ≠ g → (w.freeze ⟨g, 0, none⟩ m).heap[e]? = w.heap[e]? := by
  obtain ⟨lo, hi⟩ := fz
  unfold World.freeze
  split
  · exact ⟨(lo, hi), hb, Same.refl w, fun _ _ => rfl⟩
  · refine ⟨if lo == hi then (0, 0 + m) else (min lo 0, max hi (0 + m)), ?_, ⟨rfl, rfl, rfl, by simp⟩, fun e he => ?_⟩
    · simp only [Array.getElem?_modify, if_true, hb, Option.map_some]
    · simp only [Array.getElem?_modify]
      rw [if_neg (fun h => he h.symm)]
theorem r_ust {g : Nat} {bs : List UInt8} {rest : List Value} {fz : Nat × Nat} {pt it : TypeId} (hne : bs ≠ []) (hlt : bs.length ≤ 1099511627776) (hp : Tryz.prog.underlying pt = some (.pointer 5)) (nx : ∀ fz', Wr n C ops k Q Tl Fs R L ((d, .string ⟨bs.toArray⟩) :: E) F (Pt g (.cells (byt bs ++ rest).toArray 5 fz') :: N'))
    (ho : nth ops i = some ⟨some d, .call ⟨.builtin .unsafeString, #[x, y], #[pt, it]⟩, ty0, pos, aft, gd⟩ := by rfl) (hw : wantL ops E ⟨some d, .call ⟨.builtin .unsafeString, #[x, y], #[pt, it]⟩, ty0, pos, aft, gd⟩ = some true := by rfl)
    (hx : ev E x = some (.pointer (some ⟨g, 0, none⟩)) := by rfl) (hy : ev E y = some (.int .i64 (bs.length : Int)) := by rfl) (hs : Sel (Pt g (.cells (byt bs ++ rest).toArray 5 fz)) N N' := by (repeat (first | exact Sel.here | apply Sel.there)); first | done | fail) : Wr n C ops k Q Tl Fs R ((i, 4) :: L) E F N :=
  wr_go ho fun hp' hr w st hz sb => by
    simp only [wantL_ok hw]
    refine ⟨⟨{ _fz : Nat × Nat // True }, fun _ => .string ⟨bs.toArray⟩, fun _ => True, fun _ => F, fun fz' => Pt g (.cells (byt bs ++ rest).toArray 5 fz'.1) :: N'⟩, fun a G w hp'' ha hsub hsat => ?_, fun fz' _ => nx fz'.1 hp' hr w st hz sb⟩
    have hb := hsat.pt hs
    have hr1 := Lib.run_unsafeString_row (P := Tryz.prog) w pt it ty0 5 hp u8Cells g (byt bs ++ rest).length (by simp [World.shape?, hb]) bs hne (by simp [byt]) (by omega) (fun j u hj => by
      have hlt2 : j < bs.length := (List.getElem?_eq_some_iff.1 hj).1
      simp only [World.cell?, Addr.add]
      have e : (byt bs ++ rest)[j]? = some (.int .u8 u.toNat) := by rw [List.getElem?_append_left (by simp [byt]; omega)]; simp [byt, hj]
      by_cases h0 : j = 0
      · subst h0; simp [hb] at e ⊢; exact e
      · simp [h0, hb] at e ⊢; exact e)
    obtain ⟨fz', g2, g3, g4⟩ := frz_w (m := bs.length) hb
    unfold OpRes
    have e1 := ha.ev (x := x) (by rw [evf_look]; exact hx)
    have e2 := ha.ev (x := y) (by rw [evf_look]; exact hy)
    simp only [execOp, resolve, Sem.run_bind, Sem.run_pure, Result.andThen, invoke, builtin, List.map_toArray, List.map_cons, List.map_nil, e1, e2, hr1]
    exact ⟨⟨fz', trivial⟩, trivial, trivial, (show Sat G w hp'' F (Pt g (.cells (byt bs ++ rest).toArray 5 fz) :: N') w from hsat.sel hs).write g3 g2 fun e he _ => g4 e he⟩
end

theorem copyCheck_ok (b : Nat) (p : Option Addr) (v : Value) (hp : p = none ∨ p = some ⟨b, 0, none⟩) : Enters 102 ∧ Spec Tryz.prog 102 #[.pointer (some ⟨b, 0, none⟩)] [] [Pt b (.cells #[.pointer p, v] 126)]
    ⟨Unit, fun _ => .tuple #[], fun _ => True, fun _ => [], fun _ => [Pt b (.cells #[.pointer (some ⟨b, 0, none⟩), v] 126)]⟩ := by
  rcases hp with rfl | rfl
  · refine ⟨enters_of Tryz.func102 (by kernel_rfl) rfl, spec_of (vs := [_]) Tryz.func102 rfl Tryz.ntmps102 rfl fun G w hp => ?_⟩
    repeat' (first | refine l_run ?_ | refine l_nil ?_ | refine l_one ?_ | refine k_reg ?_ | refine l_ld ?_ | refine l_ldF ?_ | refine l_st ?_ | refine l_al (fun b => ?_) | refine l_bs (fun b => ?_) | refine k_condT ?_ | refine k_condF ?_ | refine k_brk ?_ | refine l_toU ?_ | refine l_noesc ?_ | refine l_fromU ?_ | (refine l_split (fun hc => ?_) (fun hc => ?_) <;> (try simp at hc)) | (refine k_cond (fun hc => ?_) (fun hc => ?_) <;> (try simp at hc)))
    exact k_end () rfl trivial
  · refine ⟨enters_of Tryz.func102 (by kernel_rfl) rfl, spec_of (vs := [_]) Tryz.func102 rfl Tryz.ntmps102 rfl fun G w hp => ?_⟩
    repeat' (first | refine l_run ?_ | refine l_nil ?_ | refine l_one ?_ | refine k_reg ?_ | refine l_ld ?_ | refine l_ldF ?_ | refine l_st ?_ | refine l_al (fun b => ?_) | refine l_bs (fun b => ?_) | refine k_condT ?_ | refine k_condF ?_ | refine k_brk ?_ | refine l_nepB ?_ | (refine l_split (fun hc => ?_) (fun hc => ?_) <;> (try simp at hc)) | (refine k_cond (fun hc => ?_) (fun hc => ?_) <;> (try simp at hc)))
    exact k_end () rfl trivial

/-- A builder of text. -/
abbrev BdL (b : Nat) (p o : Option Addr) (cap : Nat) (bs : List UInt8) : List HP := [Pt b (.cells #[.pointer p, .slice o bs.length cap] 126), Row 5 1 o bs.length cap (byt bs)]
def Bdr (b : Nat) (bs : List UInt8) : HP := fun h => ∃ q : Option Addr × Option Addr × Nat, ((q.1 = none ∨ q.1 = some ⟨b, 0, none⟩) ∧ (bs = [] → q.2.1 = none)) ∧ Sep (BdL b q.1 q.2.1 q.2.2 bs) h

set_option maxHeartbeats 1000000 in
theorem bdWrite_ok (b : Nat) (bs : List UInt8) (o2 : Option Addr) (c2 : Nat) (s : List UInt8) (hs : s ≠ []) (hl : bs.length ≤ 1000000) (hl2 : s.length ≤ 1000000) : Enters 65 ∧ Spec Tryz.prog 65 #[.pointer (some ⟨b, 0, none⟩), .slice o2 s.length c2] [Sl 5 bf o2 c2 s] [Bdr b bs]
    ⟨Unit, fun _ => .tuple #[.int .i64 s.length, .nilIface], fun _ => True, fun _ => [], fun _ => [Bdr b (bs ++ s)]⟩ := by
  refine ⟨enters_of Tryz.func65 (by kernel_rfl) rfl, spec_of (vs := [_, _]) Tryz.func65 rfl Tryz.ntmps65 rfl fun G w hp => ?_⟩
  refine k_open (X := Option Addr × Option Addr × Nat) (Lx := fun q => BdL b q.1 q.2.1 q.2.2 bs) (p := fun q => (q.1 = none ∨ q.1 = some ⟨b, 0, none⟩) ∧ (bs = [] → q.2.1 = none)) (r := Bdr b bs) .here (fun h hh => hh) (fun q hq => ?_)
  obtain ⟨p, o, cap⟩ := q
  obtain ⟨hp, ho⟩ := hq
  dsimp only at hp ho
  have n1 := fun v => copyCheck_ok b p v hp
  repeat' (first | refine l_run ?_ | refine l_nil ?_ | refine l_one ?_ | refine k_reg ?_ | refine l_ld ?_ | refine l_ldF ?_ | refine l_st ?_ | refine l_al (fun b => ?_) | refine l_bs (fun b => ?_) | refine k_condT ?_ | refine k_condF ?_ | refine k_brk ?_ | refine l_call (n1 _) (fun _ _ => ?_) | refine l_call0 (n1 _) (fun _ _ => ?_) | refine l_appF (es := s) (fun o' cap' => ?_) (hroom := by simp only [Nat.mul_one]; omega) | (refine l_split (fun hc => ?_) (fun hc => ?_) <;> (try simp at hc)) | (refine k_cond (fun hc => ?_) (fun hc => ?_) <;> (try simp at hc)))
  have hE : byt bs ++ s.flatMap bf = byt (bs ++ s) := by rw [byt_append, byt_flat s]
  rw [hE, ← List.length_append]
  refine k_shut (r := Bdr b (bs ++ s)) (Lx := BdL b (some ⟨b, 0, none⟩) o' cap' (bs ++ s)) (fun h hh => ⟨(some ⟨b, 0, none⟩, o', cap'), ⟨.inr rfl, fun h => absurd (List.append_eq_nil_iff.1 h).2 hs⟩, hh⟩) ?_
  exact k_ret () rfl trivial

theorem u8Ptr : Tryz.prog.underlying 185 = some (.pointer 5) := Tryz.underlying185
set_option maxHeartbeats 1000000 in
theorem bdString_ok (b : Nat) (bs : List UInt8) (hl : bs.length ≤ 1099511627776) : Enters 66 ∧ Spec Tryz.prog 66 #[.pointer (some ⟨b, 0, none⟩)] [] [Bdr b bs] (RetV (.string ⟨bs.toArray⟩)) := by
  refine ⟨enters_of Tryz.func66 (by kernel_rfl) rfl, spec_of (vs := [_]) Tryz.func66 rfl Tryz.ntmps66 rfl fun G w hp => ?_⟩
  refine k_open (X := Option Addr × Option Addr × Nat) (Lx := fun q => BdL b q.1 q.2.1 q.2.2 bs) (p := fun q => (q.1 = none ∨ q.1 = some ⟨b, 0, none⟩) ∧ (bs = [] → q.2.1 = none)) (r := Bdr b bs) .here (fun h hh => hh) (fun q hq => ?_)
  obtain ⟨p, o, cap⟩ := q
  obtain ⟨hp, ho⟩ := hq
  dsimp only at hp ho ⊢
  by_cases hb : bs = []
  · subst hb
    obtain rfl := ho rfl
    repeat' (first | refine l_run ?_ | refine l_nil ?_ | refine l_one ?_ | refine k_reg ?_ | refine l_ld ?_ | refine l_ldF ?_ | refine l_st ?_ | refine l_al (fun b => ?_) | refine l_bs (fun b => ?_) | refine k_condT ?_ | refine k_condF ?_ | refine k_brk ?_ | refine r_run ?_ | refine r_one ?_ | refine r_ld ?_ | refine r_ldF ?_ | refine r_ldN ?_ | refine r_al (fun b => ?_) | refine r_bs (fun b => ?_) | refine r_st ?_ | refine r_end ?_ | refine r_usd ?_ (hc := .inl rfl) | refine r_ust0 ?_ | (refine l_split (fun hc => ?_) (fun hc => ?_) <;> (try simp at hc)) | (refine r_split (fun hc => ?_) (fun hc => ?_) <;> (try simp at hc)) | refine k_draw 1 [] [(0, 0), (1, 0), (2, 0), (3, 0), (4, 0), (5, 0), (6, 0), (7, 0), (8, 0), (9, 0), (10, 0), (11, 0)] [] ?_ | (refine k_cond (fun hc => ?_) (fun hc => ?_) <;> (try simp at hc)))
    exact k_ret () rfl trivial
  · have hb0 : 0 < bs.length := List.length_pos_iff.2 hb
    refine k_open (X := Nat × List Value × (Nat × Nat)) (Lx := fun q => [Pt q.1 (.cells (byt bs ++ q.2.1).toArray 5 q.2.2)]) (p := fun q => o = some ⟨q.1, 0, none⟩ ∧ cap ≠ 0) (r := Row 5 1 o bs.length cap (byt bs)) (.there .here) (fun hh' hh => ?_) (fun q hq => ?_)
    · rcases hh with ⟨_, h0, _⟩ | ⟨g, rest, fz, h1, h2, h3, h4, h5, h6⟩
      · omega
      · exact ⟨(g, rest, fz), ⟨h1, by omega⟩, hh', emp, fun _ => .inr rfl, fun _ _ e => e, fun _ _ e => (by cases e), h2, trivial⟩
    · obtain ⟨g, rest, fz⟩ := q
      obtain ⟨rfl, hc⟩ := hq
      dsimp only at hc ⊢
      repeat' (first | refine l_run ?_ | refine l_nil ?_ | refine l_one ?_ | refine k_reg ?_ | refine l_ld ?_ | refine l_ldF ?_ | refine l_st ?_ | refine l_al (fun b => ?_) | refine l_bs (fun b => ?_) | refine k_condT ?_ | refine k_condF ?_ | refine k_brk ?_ | refine r_run ?_ | refine r_one ?_ | refine r_ld ?_ | refine r_ldF ?_ | refine r_ldN ?_ | refine r_al (fun b => ?_) | refine r_bs (fun b => ?_) | refine r_st ?_ | refine r_end ?_ | refine r_usd ?_ (hc := .inr hc) | refine r_ust hb hl u8Ptr (fun fz' => ?_) | (refine l_split (fun hc => ?_) (fun hc => ?_) <;> (try simp at hc)) | (refine r_split (fun hc => ?_) (fun hc => ?_) <;> (try simp at hc)) | refine k_draw 1 [Pt g (.cells _ 5 _)] [(0, 0), (1, 0), (2, 0), (3, 0), (4, 0), (5, 0), (6, 0), (7, 0), (8, 0), (9, 0), (10, 4), (11, 0)] [] ?_ | (refine k_cond (fun hc => ?_) (fun hc => ?_) <;> (try simp at hc)))
      exact k_ret () rfl trivial
end Go.Proofs.YtgciahedpaencaaGreatDoor

set_option maxRecDepth 10000
namespace Go.Proofs.YtgciahedpaencaaGreatDoor
open Go.RowKit

section
variable {n : Nat} {C : Cx} {Q : Exit → Act → World → Prop} {E E' : List (Nat × Value)} {F F' F1 Fs F0 : List Pf} {R R' R0 Rs N N' A : List HP} {k k' : List Fr} {ops l : List Oper} {L L' : List (Nat × Nat)} {Tl : List Nat}
  {i d b : Nat} {t ty0 : TypeId} {x y y1 y2 : Operand} {pos : String} {aft : Array Edge} {gd : Option (Nat × Bool)}
theorem l_fz {o : Obj} (nx : Wl n C ops.toArray k Q l E (Blk b o :: F) R0) (hs : Sel (Pt b o) R R0 := by (repeat (first | exact Sel.here | apply Sel.there)); first | done | fail) : Wl n C ops.toArray k Q l E F R :=
  fun a w ha hsat => nx a w ha (hsat.sel hs).freeze
/-- A part of an array, as a slice. -/
theorem l_sla {T m : Nat} {z1 z2 : Int} {rs tr : TRow} (lo hi : Nat) (hlo : lo < hi) (hhi : hi ≤ m) (nx : Wl n C ops.toArray k Q l ((d, .slice (some ⟨b, lo, none⟩) (hi - lo) (m - lo)) :: E) F R)
    (hw : wantL ops E ⟨some d, .slice t x (some y1) (some y2) none, ty0, pos, aft, gd⟩ = some true := by rfl) (hn : Nat.blt d n = true := by rfl) (hx : ev E x = some (.pointer (some ⟨b, 0, none⟩)) := by rfl) (hy1 : ev E y1 = some (.int .i64 z1) := by rfl) (hy2 : ev E y2 = some (.int .i64 z2) := by rfl)
    (hts : lookT tab t = some rs := by rfl) (hrs : rs.k = .arr m T := by rfl) (hT : lookT tab T = some tr := by rfl) (hsz : tr.size = 1 := by rfl) (hz1 : z1 = (lo : Int) := by rfl) (hz2 : z2 = (hi : Int) := by rfl) : Wl n C ops.toArray k Q (⟨some d, .slice t x (some y1) (some y2) none, ty0, pos, aft, gd⟩ :: l) E F R :=
  l_q (fun a w ha => by
    simp only [execOp, Option.map_some, Option.map_none, ha.ev (x := x) (by rw [evf_look]; exact hx), ha.ev (x := y1) (by rw [evf_look]; exact hy1), ha.ev (x := y2) (by rw [evf_look]; exact hy2), Sem.run_bind, run_sla (w := w) (b := b) hlo hhi hts hrs hT hsz hz1 hz2, Result.andThen, Sem.run_pure]) nx (by intro c h; cases h) hw hn
/-- A part of bytes that stay, as a slice that stays. -/
theorem l_slB {T lo c : Nat} {Lb seg pre post : List UInt8} (h : Lb = pre ++ (seg ++ post)) (hlo : lo = pre.length) (hc : seg.length ≤ c) (nx : Wl n C ops.toArray k Q l E (Sl 5 bf (some ⟨b, lo, none⟩) c seg :: F) R)
    (hs : Sel (Blk b (.cells (byt Lb).toArray T (0, 0))) F F0 := by (repeat (first | exact Sel.here | apply Sel.there)); first | done | fail) : Wl n C ops.toArray k Q l E F R := fun a w ha hsat => by
  obtain ⟨hp, hr, st⟩ := hsat
  have hb := st.f _ hs.mem
  refine nx a w ha (add_fact st ?_)
  subst h hlo
  refine ⟨hc, .inr ⟨b, _, (T, 0, 0), byt pre, byt post, by simp [byt], hb, ?_⟩⟩
  rw [List.toList_toArray, byt_append, byt_append, byt_flat seg]
end

/-- What Read reads of a part, and of all parts. -/
def rdS (es : Al) (cs : List Ch) (bi : Bi) (p : Pp) : List UInt8 := ((pad64 (vget es cs (bnm bi p.bl)).1).drop p.fr).take (p.to - p.fr)
def rdB (es : Al) (cs : List Ch) (bi : Bi) (l : List Pp) : List UInt8 := l.flatMap (rdS es cs bi)
def rdR (es : Al) (cs : List Ch) (bi : Bi) (rs : List (Nm × Ch)) (l : List Pp) : List (Nm × Ch) := l.foldl (fun rs p => vread es rs cs (bnm bi p.bl)) rs
theorem rdS_len {es : Al} {cs : List Ch} {bi : Bi} {p : Pp} (h : p.to ≤ 64) : (rdS es cs bi p).length = p.to - p.fr := by
  have := pad64_len (vget es cs (bnm bi p.bl)).1
  simp only [rdS, List.length_take, List.length_drop, this]; omega
abbrev JRL (b b12 : Nat) (ps : Option Addr) (es : Al) (cs : List Ch) (bi : Bi) (rs : List (Nm × Ch)) (pre : List Pp) : List HP := [Vw b ps (rdR es cs bi rs pre) cs, Bdr b12 (rdB es cs bi pre)]
def JR (b b12 : Nat) (ps : Option Addr) (es : Al) (cs : List Ch) (bi : Bi) (rs : List (Nm × Ch)) (pre : List Pp) : HP := fun h => Sep (JRL b b12 ps es cs bi rs pre) h
theorem bdr_new {b : Nat} (h : H) (hh : Sep [Pt b (.cells #[.pointer none, .slice none 0 0] 126)] h) : Bdr b [] h := by
  obtain ⟨h1, h2, d, s1, s2, hx, _⟩ := hh
  exact ⟨(none, none, 0), ⟨.inl rfl, fun _ => rfl⟩, h1, emp, (fun _ => .inr rfl), s1, (fun _ _ e => by cases e), hx, emp, emp, (fun _ => .inr rfl), (fun _ _ e => by cases e), (fun _ _ e => by cases e), row_nil _ _ _, trivial⟩
theorem rdB_len {es : Al} {cs : List Ch} {bi : Bi} : ∀ (l : List Pp), (∀ p ∈ l, p.to ≤ 64) → (rdB es cs bi l).length ≤ l.length * 64
  | [], _ => by simp [rdB]
  | p :: l, h => by
    have ih := rdB_len (es := es) (cs := cs) (bi := bi) l (fun q hq => h q (by simp [hq]))
    have h1 := rdS_len (es := es) (cs := cs) (bi := bi) (h p (by simp))
    have h2 := h p (by simp)
    have e : rdB es cs bi (p :: l) = rdS es cs bi p ++ rdB es cs bi l := by simp [rdB]
    rw [e, List.length_append, List.length_cons, h1]
    omega

set_option maxHeartbeats 4000000 in
/-- Read, where it reads. -/
theorem inoRead_ok (b : Nat) (ps : Option Addr) (es : Al) (rs : List (Nm × Ch)) (cs : List Ch) (bi : Bi) (f c sz : Nat) (hw : bi.mkr.size ≤ 1099511627770) (hv : (vget es cs (nnm bi)).1.size ≤ 1099511627776)
    (h0 : (ifile es cs bi).2 = 0) (hz : (ifile es cs bi).1.sz = (sz : Int)) (hsz : sz ≤ 4096) (hf : f ≤ 1000000) (hc : c ≤ 1000000) :
    Enters 23 ∧ Spec Tryz.prog 23 #[.pointer (some ⟨b, 0, none⟩), bi.v, .int .i64 (f : Int), .int .i64 (c : Int)] [St ps es, Usg] [Vw b ps rs cs]
      ⟨Unit, fun _ => .tuple #[.string ⟨(rdB es cs bi (pts (min f sz) (min f sz + min c (sz - min f sz)))).toArray⟩, .int .i64 0], fun _ => True, fun _ => [], fun _ => [Vw b ps (rdR es cs bi (igetR es rs cs bi) (pts (min f sz) (min f sz + min c (sz - min f sz)))) cs]⟩ := by
  have n1 := inoFile_ok b ps es rs cs bi hw hv
  rw [h0] at n1
  generalize (ifile es cs bi).1 = nd at *
  obtain ⟨a1, a2, a3, a4, a5, a6, a7⟩ := nd
  dsimp only at hz
  subst hz
  have w2 : (if (sz : Int) < (f : Int) then (sz : Int) else (f : Int)) = ((min f sz : Nat) : Int) := by split <;> omega
  generalize hf0 : min f sz = f0 at *
  have hf1 : f0 ≤ sz := by omega
  have w1 : IntKind.i64.wrap ((sz : Int) - (f0 : Int)) = ((sz - f0 : Nat) : Int) := by rw [wrapi (by omega) (by omega)]; omega
  have w4 : (if ((sz - f0 : Nat) : Int) < (c : Int) then ((sz - f0 : Nat) : Int) else (c : Int)) = ((min c (sz - f0) : Nat) : Int) := by split <;> omega
  generalize hcnt : min c (sz - f0) = cnt at *
  have w3 : IntKind.i64.wrap ((f0 : Int) + (cnt : Int)) = ((f0 + cnt : Nat) : Int) := by rw [wrapi (by omega) (by omega)]; omega
  have n3 := partsF_ok (f0 : Int) ((f0 + cnt : Nat) : Int)
  generalize b = bv at *
  refine ⟨enters_of Tryz.func23 (by kernel_rfl) rfl, spec_ofM (vs := [_, _, _, _]) Tryz.func23 rfl Tryz.ntmps23 rfl fun G w hp => ?_⟩
  repeat' (first | refine l_run ?_ | refine l_nil ?_ | refine l_one ?_ | refine k_reg ?_ | refine l_ld ?_ | refine l_ldF ?_ | refine l_st ?_ | refine l_al (fun b => ?_) | refine l_bs (fun b => ?_) | refine k_condT ?_ | refine k_condF ?_ | refine k_brk ?_ | refine l_call (n1) (fun _ _ => ?_) | refine l_call0 (n1) (fun _ _ => ?_) | refine l_call (n3) (fun _ _ => ?_) | refine l_call0 (n3) (fun _ _ => ?_) | rw [w2] | rw [w1] | rw [w4] | rw [w3] | (refine l_split (fun hc => ?_) (fun hc => ?_) <;> (try simp at hc) <;> (try omega)) | (refine k_cond (fun hc => ?_) (fun hc => ?_) <;> (try simp at hc) <;> (try omega)))
  rename_i b4 b5 _ _ b10 q _
  generalize b = b12 at *
  obtain ⟨p1, p2⟩ := q
  refine k_fz (b := b4) ?_
  refine k_fz (b := b5) ?_
  refine k_shut (r := Bdr b12 []) (Lx := [Pt b12 (.cells #[.pointer none, .slice none 0 0] 126)]) (fun h hh => bdr_new h hh) ?_
  refine k_shut (r := JR bv b12 ps es cs bi (igetR es rs cs bi) []) (Lx := JRL bv b12 ps es cs bi (igetR es rs cs bi) []) (fun h hh => hh) ?_
  refine k_range (α := Pp) (enc := Pp.v) (xs := pts f0 (f0 + cnt)) (fun pre => JR bv b12 ps es cs bi (igetR es rs cs bi) pre) (fun _ _ => False) (parts_iter p1 p2 f0 (f0 + cnt) (by omega) (by omega)) ?_ ?_ ?_
  · intro lr l pre e hpre G w0 hp0
    dsimp only
    have hpm := pts_mem (f0 + cnt - f0) f0 (f0 + cnt) (Nat.le_refl _) e (hpre.subset (by simp))
    have hpl : pre.length ≤ 4096 := by
      have h1 := hpre.length_le
      have h2 := pts_len (f0 + cnt - f0) f0 (f0 + cnt) (Nat.le_refl _)
      simp only [List.length_append, List.length_singleton] at h1; omega
    have hpre64 : ∀ p ∈ pre, p.to ≤ 64 := fun p hp => (pts_mem (f0 + cnt - f0) f0 (f0 + cnt) (Nat.le_refl _) p (hpre.subset (by simp [hp]))).2.2.1
    have hbl := rdB_len (es := es) (cs := cs) (bi := bi) pre hpre64
    obtain ⟨bl, fr, to⟩ := e
    dsimp only at hpm
    have hE1 : rdB es cs bi (pre ++ [⟨bl, fr, to⟩]) = rdB es cs bi pre ++ rdS es cs bi ⟨bl, fr, to⟩ := by simp [rdB]
    have hE2 : rdR es cs bi (igetR es rs cs bi) (pre ++ [⟨bl, fr, to⟩]) = vread es (rdR es cs bi (igetR es rs cs bi) pre) cs (bnm bi (bl : Int)) := by simp [rdR]
    have hSl := rdS_len (es := es) (cs := cs) (bi := bi) (p := ⟨bl, fr, to⟩) hpm.2.2.1
    dsimp only at hSl
    have hseg : rdS es cs bi ⟨bl, fr, to⟩ = ((pad64 (vget es cs (bnm bi (bl : Int))).1).drop fr).take (to - fr) := rfl
    have ho := pad64_len (vget es cs (bnm bi (bl : Int))).1
    have m1 := block_ok bv ps es (rdR es cs bi (igetR es rs cs bi) pre) cs bi (bl : Int) hw
    refine k_open (X := Unit) (Lx := fun _ => [Vw bv ps (rdR es cs bi (igetR es rs cs bi) pre) cs, Bdr b12 (rdB es cs bi pre)]) (p := fun _ => True) (r := JR bv b12 ps es cs bi (igetR es rs cs bi) pre) (by first | exact .here | exact .there .here) (fun h hh => ⟨(), trivial, hh⟩) (fun _ _ => ?_)
    generalize rdB es cs bi pre = B at *
    generalize rdR es cs bi (igetR es rs cs bi) pre = rs' at *
    generalize rdS es cs bi ⟨bl, fr, to⟩ = seg at *
    generalize pad64 (vget es cs (bnm bi (bl : Int))).1 = P at *
    have hsplit : P = P.take fr ++ (seg ++ P.drop to) := by
      rw [hseg]
      conv => lhs; rw [← List.take_append_drop fr P, ← List.take_append_drop (to - fr) (P.drop fr)]
      rw [List.drop_drop, show fr + (to - fr) = to by omega]
    have hne : seg ≠ [] := by
      intro h; rw [h] at hSl; simp at hSl; omega
    have m2 := fun b14 => bdWrite_ok b12 B (some ⟨b14, fr, none⟩) (64 - fr) seg hne (by omega) (by omega)
    rw [hSl] at m2
    repeat' (first | refine l_run ?_ | refine l_nil ?_ | refine l_one ?_ | refine k_reg ?_ | refine l_ld ?_ | refine l_ldF ?_ | refine l_st ?_ | refine l_al (fun b => ?_) | refine l_bs (fun b => ?_) | refine k_condT ?_ | refine k_condF ?_ | refine k_brk ?_ | refine l_call (m1) (fun _ _ => ?_) | refine l_call0 (m1) (fun _ _ => ?_) | refine k_beg ?_ | (refine l_split (fun hc => ?_) (fun hc => ?_) <;> (try simp at hc) <;> (try omega)) | (refine k_cond (fun hc => ?_) (fun hc => ?_) <;> (try simp at hc) <;> (try omega)))
    generalize b = b14 at *
    refine l_by (T := 131) (b := b14) (Lb := List.replicate 64 0) rfl ?_
    refine l_stB (L0 := List.replicate 64 0) (Lb := P) ?_ ho.symm (by simp [ho])
    refine l_fz (b := b14) (o := .cells (byt P).toArray 131 (0, 0)) ?_
    refine l_slB (b := b14) (T := 131) (lo := fr) (c := 64 - fr) hsplit (by simp [ho]; omega) (by omega) ?_
    repeat' (first | refine l_run ?_ | refine l_nil ?_ | refine l_one ?_ | refine k_reg ?_ | refine l_ld ?_ | refine l_ldF ?_ | refine l_st ?_ | refine l_al (fun b => ?_) | refine l_bs (fun b => ?_) | refine k_condT ?_ | refine k_condF ?_ | refine k_brk ?_ | refine l_call (m2 _) (fun _ _ => ?_) | refine l_call0 (m2 _) (fun _ _ => ?_) | refine l_sla (m := 64) fr to (by omega) (by omega) ?_ | (refine l_split (fun hc => ?_) (fun hc => ?_) <;> (try simp at hc) <;> (try omega)) | (refine k_cond (fun hc => ?_) (fun hc => ?_) <;> (try simp at hc) <;> (try omega)))
    refine k_shut (r := JR bv b12 ps es cs bi (igetR es rs cs bi) (pre ++ [⟨bl, fr, to⟩])) (Lx := [Vw bv ps (vread es rs' cs (bnm bi (bl : Int))) cs, Bdr b12 (B ++ seg)]) (fun h hh => by
      show Sep [Vw bv ps (rdR es cs bi (igetR es rs cs bi) (pre ++ [⟨bl, fr, to⟩])) cs, Bdr b12 (rdB es cs bi (pre ++ [⟨bl, fr, to⟩]))] h
      rw [hE1, hE2]; exact hh) ?_
    exact k_rn
  · intro D
    refine k_open (X := Unit) (Lx := fun _ => [Vw bv ps (rdR es cs bi (igetR es rs cs bi) (pts f0 (f0 + cnt))) cs, Bdr b12 (rdB es cs bi (pts f0 (f0 + cnt)))]) (p := fun _ => True) (r := JR bv b12 ps es cs bi (igetR es rs cs bi) (pts f0 (f0 + cnt))) .here (fun h hh => ⟨(), trivial, hh⟩) (fun _ _ => ?_)
    have hbl := rdB_len (es := es) (cs := cs) (bi := bi) (pts f0 (f0 + cnt)) (fun p hp => (pts_mem (f0 + cnt - f0) f0 (f0 + cnt) (Nat.le_refl _) p hp).2.2.1)
    have h2 := pts_len (f0 + cnt - f0) f0 (f0 + cnt) (Nat.le_refl _)
    have m3 := bdString_ok b12 (rdB es cs bi (pts f0 (f0 + cnt))) (by omega)
    repeat' (first | refine l_run ?_ | refine l_nil ?_ | refine l_one ?_ | refine k_reg ?_ | refine l_ld ?_ | refine l_ldF ?_ | refine l_st ?_ | refine l_al (fun b => ?_) | refine l_bs (fun b => ?_) | refine k_condT ?_ | refine k_condF ?_ | refine k_brk ?_ | refine l_call (m3) (fun _ _ => ?_) | refine l_call0 (m3) (fun _ _ => ?_) | (refine l_split (fun hc => ?_) (fun hc => ?_) <;> (try simp at hc) <;> (try omega)) | (refine k_cond (fun hc => ?_) (fun hc => ?_) <;> (try simp at hc) <;> (try omega)))
    exact k_retM () rfl trivial
  · intro D pre hpre
    exact w_open (X := Empty) (Lx := fun _ => []) (p := fun _ => False) .here (fun h hh => hh.elim) (fun q hq => hq.elim)
end Go.Proofs.YtgciahedpaencaaGreatDoor

set_option maxRecDepth 10000
namespace Go.Proofs.YtgciahedpaencaaGreatDoor
open Go.RowKit

section
variable {n : Nat} {C : Cx} {Q : Exit → Act → World → Prop} {E E' : List (Nat × Value)} {F F' F1 Fs F0 : List Pf} {R R' R0 Rs N N' A : List HP} {k k' : List Fr} {ops l : List Oper} {L L' : List (Nat × Nat)} {Tl : List Nat}
  {i d b : Nat} {t ty0 : TypeId} {x y y1 y2 : Operand} {pos : String} {aft : Array Edge} {gd : Option (Nat × Bool)}
theorem run_slT {T m lo : Nat} {z1 : Int} {w : World} {rs tr : TRow} (hlo : lo < m) (hts : lookT tab t = some rs) (hrs : rs.k = .arr m T) (hT : lookT tab T = some tr) (hsz : tr.size = 1) (hz1 : z1 = (lo : Int)) :
    (Instr.sliceAt t (.pointer (some ⟨b, 0, none⟩)) (some (.int .i64 z1)) none none).run Tryz.prog w = .ok (.slice (some ⟨b, lo, none⟩) (m - lo) (m - lo)) w := by
  subst hz1
  have hs1 := tab_ok.sizeOf hT w
  rw [hsz] at hs1
  have c2 : (0 : Int) ≤ (lo : Int) ∧ (lo : Int) ≤ (m : Int) := ⟨by omega, by omega⟩
  simp only [Instr.sliceAt, run_undA hts hrs, Instr.sureAddr, Instr.sliceBounds, Instr.sliceBound, asIntOf, Sem.run_bind, Sem.run_pure, Result.andThen, if_pos c2, hs1, Int.toNat_natCast]
  rw [if_neg (by omega), add_add (b := b) (p := 0) rfl]
  simp
/-- The end of an array, as a slice. -/
theorem l_slT {T m : Nat} {z1 : Int} {rs tr : TRow} (lo : Nat) (hlo : lo < m) (nx : Wl n C ops.toArray k Q l ((d, .slice (some ⟨b, lo, none⟩) (m - lo) (m - lo)) :: E) F R)
    (hw : wantL ops E ⟨some d, .slice t x (some y1) none none, ty0, pos, aft, gd⟩ = some true := by rfl) (hn : Nat.blt d n = true := by rfl) (hx : ev E x = some (.pointer (some ⟨b, 0, none⟩)) := by rfl) (hy1 : ev E y1 = some (.int .i64 z1) := by rfl)
    (hts : lookT tab t = some rs := by rfl) (hrs : rs.k = .arr m T := by rfl) (hT : lookT tab T = some tr := by rfl) (hsz : tr.size = 1 := by rfl) (hz1 : z1 = (lo : Int) := by rfl) : Wl n C ops.toArray k Q (⟨some d, .slice t x (some y1) none none, ty0, pos, aft, gd⟩ :: l) E F R :=
  l_q (fun a w ha => by
    simp only [execOp, Option.map_some, Option.map_none, ha.ev (x := x) (by rw [evf_look]; exact hx), ha.ev (x := y1) (by rw [evf_look]; exact hy1), Sem.run_bind, run_slT (w := w) (b := b) hlo hts hrs hT hsz hz1, Result.andThen, Sem.run_pure]) nx (by intro c h; cases h) hw hn
/-- Bytes from a place on made 0. -/
def clrB (Lb : List UInt8) (lo : Nat) : List UInt8 := Lb.take lo ++ List.replicate (Lb.length - lo) 0
theorem clrB_len {Lb : List UInt8} {lo : Nat} (h : lo ≤ Lb.length) : (clrB Lb lo).length = Lb.length := by simp [clrB]; omega
theorem run_clr {T T0 b lo c m : Nat} {Lb : List UInt8} {ts : TypeId} {rs tr : TRow} {w : World} (hts : lookT tab ts = some rs) (hrs : rs.k = .slice T0) (hT : lookT tab T0 = some tr) (hzv : zval tr = some (.int .u8 0))
    (hb : w.heap[b]? = some (.cells (byt Lb).toArray T (0, 0))) (hm : m = Lb.length - lo) (hlt : lo < Lb.length) :
    ∃ w', (Builtin.clear_ #[ts] ty0 #[.slice (some ⟨b, lo, none⟩) m c]).run Tryz.prog w = .ok (.tuple #[]) w' ∧ w'.heap[b]? = some (.cells (byt (clrB Lb lo)).toArray T (0, 0)) ∧ Same w w' ∧ ∀ e, e ≠ b → w'.heap[e]? = w.heap[e]? := by
  have hz := zval_ok hT hzv w
  obtain ⟨k, rfl⟩ : ∃ k, m = k + 1 := ⟨m - 1, by omega⟩
  have hcells : (Builtin.zeroCells (Value.cells (.int .u8 0)) (k + 1)).toList = byt (List.replicate (k + 1) 0) := by
    simp only [Builtin.zeroCells, byt, Value.cells, Array.toList_map, Array.toList_range, List.map_replicate]
    refine List.ext_getElem (by simp) fun j h1 h2 => ?_
    simp [Nat.mod_one]
  obtain ⟨w', g1, g2, g3, g4⟩ := run_storeCells' (P := Tryz.prog) (b := b) (ty := T) lo (byt (List.replicate (k + 1) 0)) 0 w (byt Lb) hb (.inl rfl) (one1_byt _) (by simp only [byt_len, List.length_replicate]; omega)
  refine ⟨w', ?_, ?_, g3, g4⟩
  · simp only [Builtin.clear_, List.getElem?_toArray, List.getElem?_cons_zero, Sem.run_bind, run_und hts hrs, Result.andThen, Sem.run_pure, hz]
    rw [hcells, g1]
  · rw [g2]
    congr 3
    have e1 : (byt (List.replicate (k + 1) (0 : UInt8))).length = k + 1 := by simp only [byt_len, List.length_replicate]
    rw [Nat.add_zero, e1, clrB, byt_append, ← hm]
    have e2 : (byt Lb).drop (lo + (k + 1)) = [] := by rw [List.drop_eq_nil_iff]; simp only [byt_len]; omega
    rw [e2, List.append_nil]
    simp [byt, List.map_take]
theorem l_clr {T T0 lo c m : Nat} {Lb : List UInt8} {ts : TypeId} {rs tr : TRow} (nx : Wl n C ops.toArray k Q l E F (By T b (clrB Lb lo) :: R0)) (hm : m = Lb.length - lo) (hlt : lo < Lb.length)
    (hw : wantL ops E ⟨none, .call ⟨.builtin .clear, #[x], #[ts]⟩, ty0, pos, aft, gd⟩ = some true := by rfl) (hx : ev E x = some (.slice (some ⟨b, lo, none⟩) m c) := by rfl)
    (hts : lookT tab ts = some rs := by rfl) (hrs : rs.k = .slice T0 := by rfl) (hT : lookT tab T0 = some tr := by rfl) (hzv : zval tr = some (.int .u8 0) := by rfl) (hs : Sel (By T b Lb) R R0 := by (repeat (first | exact Sel.here | apply Sel.there)); first | done | fail) :
    Wl n C ops.toArray k Q (⟨none, .call ⟨.builtin .clear, #[x], #[ts]⟩, ty0, pos, aft, gd⟩ :: l) E F R :=
  wl_op (fun t ht => by cases ht) (fun c hc => by cases hc) hw fun a w ha hsat => by
    obtain ⟨w', g1, g2, g3, g4⟩ := run_clr (ty0 := ty0) (c := c) hts hrs hT hzv (hsat.pt hs) hm hlt
    have hse : Sat C.G C.w0 C.hp0 F (By T b (clrB Lb lo) :: R0) w' := (show Sat C.G C.w0 C.hp0 F (Pt b (.cells (byt Lb).toArray T (0, 0)) :: R0) w from hsat.sel hs).write g3 g2 fun e he _ => g4 e he
    unfold OpRes
    have e1 := ha.ev (x := x) (by rw [evf_look]; exact hx)
    simp only [execOp, resolve, Sem.run_bind, Sem.run_pure, Result.andThen, invoke, builtin, List.map_toArray, List.map_cons, List.map_nil, e1, g1]
    exact fun a' ha' => nx a' w' ha' hse
end

theorem inoContents_ok (b : Nat) (ps : Option Addr) (es : Al) (rs : List (Nm × Ch)) (cs : List Ch) (bi : Bi) (sz : Nat) (hw : bi.mkr.size ≤ 1099511627770) (hv : (vget es cs (nnm bi)).1.size ≤ 1099511627776)
    (h0 : (ifile es cs bi).2 = 0) (hz : (ifile es cs bi).1.sz = (sz : Int)) (hsz : sz ≤ 4096) :
    Enters 34 ∧ Spec Tryz.prog 34 #[.pointer (some ⟨b, 0, none⟩), bi.v] [St ps es, Usg] [Vw b ps rs cs]
      ⟨Unit, fun _ => .tuple #[.string ⟨(rdB es cs bi (pts 0 sz)).toArray⟩, .int .i64 0], fun _ => True, fun _ => [], fun _ => [Vw b ps (rdR es cs bi (igetR es rs cs bi) (pts 0 sz)) cs]⟩ := by
  have n1 := inoRead_ok b ps es rs cs bi 0 4096 sz hw hv h0 hz hsz (by omega) (by omega)
  rw [show min 0 sz = 0 by omega, show 0 + min 4096 (sz - 0) = sz by omega] at n1
  refine ⟨enters_of Tryz.func34 (by kernel_rfl) rfl, spec_of (vs := [_, _]) Tryz.func34 rfl Tryz.ntmps34 rfl fun G w hp => ?_⟩
  repeat' (first | refine l_run ?_ | refine l_nil ?_ | refine l_one ?_ | refine k_reg ?_ | refine l_ld ?_ | refine l_ldF ?_ | refine l_st ?_ | refine l_al (fun b => ?_) | refine l_bs (fun b => ?_) | refine k_condT ?_ | refine k_condF ?_ | refine k_brk ?_ | refine l_call (n1) (fun _ _ => ?_) | refine l_call0 (n1) (fun _ _ => ?_) | (refine l_split (fun hc => ?_) (fun hc => ?_) <;> (try simp at hc)) | (refine k_cond (fun hc => ?_) (fun hc => ?_) <;> (try simp at hc)))
  exact k_ret () rfl trivial

theorem vwDelete_ok (b : Nat) (ps : Option Addr) (rs : List (Nm × Ch)) (cs : List Ch) (a : Nm) (ha : a.owner.size ≤ 1099511627776) (hat : a.text.size ≤ 1099511627776) (hl : cs.length ≤ 1000000) :
    Enters 103 ∧ Spec Tryz.prog 103 #[.pointer (some ⟨b, 0, none⟩), a.v] [Usg] [Vw b ps rs cs] ⟨Unit, fun _ => .int .i64 (vdel cs a).1, fun _ => True, fun _ => [], fun _ => [Vw b ps rs (vdel cs a).2]⟩ := by
  have n1 := nameCheck_ok a ha hat
  have n2 := vwCall_ok b ps rs cs ⟨a, ⟨#[]⟩, true⟩ hl
  by_cases h1 : nchk a = 0
  · have e : vdel cs a = (0, cs ++ [⟨a, ⟨#[]⟩, true⟩]) := by unfold vdel; rw [if_neg (by simp [h1])]
    rw [e]
    refine ⟨enters_of Tryz.func103 (by kernel_rfl) rfl, spec_of (vs := [_, _]) Tryz.func103 rfl Tryz.ntmps103 rfl fun G w hp => ?_⟩
    repeat' (first | refine l_run ?_ | refine l_nil ?_ | refine l_one ?_ | refine k_reg ?_ | refine l_ld ?_ | refine l_ldF ?_ | refine l_st ?_ | refine l_al (fun b => ?_) | refine l_bs (fun b => ?_) | refine k_condT ?_ | refine k_condF ?_ | refine k_brk ?_ | refine l_call (n1) (fun _ _ => ?_) | refine l_call0 (n1) (fun _ _ => ?_) | refine l_call (n2) (fun _ _ => ?_) | refine l_call0 (n2) (fun _ _ => ?_) | (refine l_split (fun hc => ?_) (fun hc => ?_) <;> (try simp at hc) <;> (try omega)) | (refine k_cond (fun hc => ?_) (fun hc => ?_) <;> (try simp at hc) <;> (try omega)))
    exact k_ret () rfl trivial
  · have e : vdel cs a = (12, cs) := by unfold vdel; rw [if_pos h1]
    rw [e]
    refine ⟨enters_of Tryz.func103 (by kernel_rfl) rfl, spec_of (vs := [_, _]) Tryz.func103 rfl Tryz.ntmps103 rfl fun G w hp => ?_⟩
    repeat' (first | refine l_run ?_ | refine l_nil ?_ | refine l_one ?_ | refine k_reg ?_ | refine l_ld ?_ | refine l_ldF ?_ | refine l_st ?_ | refine l_al (fun b => ?_) | refine l_bs (fun b => ?_) | refine k_condT ?_ | refine k_condF ?_ | refine k_brk ?_ | refine l_call (n1) (fun _ _ => ?_) | refine l_call0 (n1) (fun _ _ => ?_) | refine l_call (n2) (fun _ _ => ?_) | refine l_call0 (n2) (fun _ _ => ?_) | (refine l_split (fun hc => ?_) (fun hc => ?_) <;> (try simp at hc) <;> (try omega)) | (refine k_cond (fun hc => ?_) (fun hc => ?_) <;> (try simp at hc) <;> (try omega)))
    exact k_ret () rfl trivial
end Go.Proofs.YtgciahedpaencaaGreatDoor

set_option maxRecDepth 10000
namespace Go.Proofs.YtgciahedpaencaaGreatDoor
open Go.RowKit

/-- Blocks deleted. -/
def dls (bi : Bi) (a k : Nat) : List Ch := (List.range' a k).map fun j : Nat => (⟨bnm bi (j : Int), ⟨#[]⟩, true⟩ : Ch)
theorem dls_snoc (bi : Bi) (a k : Nat) : dls bi a (k + 1) = dls bi a k ++ [⟨bnm bi ((a + k : Nat) : Int), ⟨#[]⟩, true⟩] := by
  simp only [dls, List.range'_1_concat, List.map_append, List.map_cons, List.map_nil]
def cutD (cs : List Ch) (bi : Bi) (e sz : Nat) : List Ch := cs ++ dls bi ((e + 63) / 64) ((sz + 63) / 64 - (e + 63) / 64)
def cutC (es : Al) (cs : List Ch) (bi : Bi) (e sz : Nat) : List Ch :=
  if e % 64 = 0 then cutD cs bi e sz else if (vget es (cutD cs bi e sz) (bnm bi ((e / 64 : Nat) : Int))).2 then cutD cs bi e sz ++ [⟨bnm bi ((e / 64 : Nat) : Int), ⟨(clrB (pad64 (vget es (cutD cs bi e sz) (bnm bi ((e / 64 : Nat) : Int))).1) (e % 64)).toArray⟩, false⟩] else cutD cs bi e sz
def cutR (es : Al) (rs : List (Nm × Ch)) (cs : List Ch) (bi : Bi) (e sz : Nat) : List (Nm × Ch) :=
  if e % 64 = 0 then rs else vread es rs (cutD cs bi e sz) (bnm bi ((e / 64 : Nat) : Int))

set_option maxHeartbeats 4000000 in
theorem inoCut_ok (b : Nat) (ps : Option Addr) (es : Al) (rs : List (Nm × Ch)) (cs : List Ch) (bi : Bi) (e sz : Nat) (hes : e < sz) (hsz : sz ≤ 4096) (hb : bchk bi = 0) (hw : bi.mkr.size ≤ 1099511627770) (hl : cs.length ≤ 900000) :
    Enters 70 ∧ Spec Tryz.prog 70 #[.pointer (some ⟨b, 0, none⟩), bi.v, .int .i64 (e : Int), .int .i64 (sz : Int)] [St ps es, Usg] [Vw b ps rs cs]
      ⟨Unit, fun _ => .int .i64 0, fun _ => True, fun _ => [], fun _ => [Vw b ps (cutR es rs cs bi e sz) (cutC es cs bi e sz)]⟩ := by
  have w1 : IntKind.i64.wrap ((e : Int) + 64) = ((e + 64 : Nat) : Int) := by rw [wrapi (by omega) (by omega)]; omega
  have w2 : IntKind.i64.wrap (((e + 64 : Nat) : Int) - 1) = ((e + 63 : Nat) : Int) := by rw [wrapi (by omega) (by omega)]; omega
  have w3 : ((e + 63 : Nat) : Int).tdiv 64 = (((e + 63) / 64 : Nat) : Int) := by rw [Int.tdiv_eq_ediv_of_nonneg (Int.natCast_nonneg _)]; exact (Int.natCast_ediv _ 64).symm
  have w4 : IntKind.i64.wrap ((((e + 63) / 64 : Nat) : Int)) = (((e + 63) / 64 : Nat) : Int) := wrapi (by omega) (by omega)
  have w5 : (e : Int).tmod 64 = ((e % 64 : Nat) : Int) := by rw [Int.tmod_eq_emod_of_nonneg (Int.natCast_nonneg _)]; exact (Int.natCast_emod _ 64).symm
  have w6 : IntKind.i64.wrap (((e % 64 : Nat) : Int)) = ((e % 64 : Nat) : Int) := wrapi (by omega) (by omega)
  have hD : cutD cs bi e sz = cs ++ dls bi ((e + 63) / 64) ((sz + 63) / 64 - (e + 63) / 64) := rfl
  have hdl : ∀ k, (dls bi ((e + 63) / 64) k).length = k := fun k => by simp [dls]
  generalize b = bv at *
  refine ⟨enters_of Tryz.func70 (by kernel_rfl) rfl, spec_of (vs := [_, _, _, _]) Tryz.func70 rfl Tryz.ntmps70 rfl fun G w hp => ?_⟩
  repeat' (first | refine l_run ?_ | refine l_nil ?_ | refine l_one ?_ | refine k_reg ?_ | refine l_ld ?_ | refine l_ldF ?_ | refine l_st ?_ | refine l_al (fun b => ?_) | refine l_bs (fun b => ?_) | refine k_condT ?_ | refine k_condF ?_ | refine k_brk ?_ | refine r_run ?_ | refine r_one ?_ | refine r_ld ?_ | refine r_ldF ?_ | refine r_ldN ?_ | refine r_al (fun b => ?_) | refine r_bs (fun b => ?_) | refine r_st ?_ | refine r_end ?_ | rw [w1] | rw [w2] | rw [w3] | rw [w4] | (refine l_split (fun hc => ?_) (fun hc => ?_) <;> (try simp at hc) <;> (try omega)) | (refine r_split (fun hc => ?_) (fun hc => ?_) <;> (try simp at hc) <;> (try omega)) | refine k_draw 14 [] [(0, 0), (1, 0), (2, 0), (3, 0), (5, 0), (6, 0), (4, 4), (7, 4), (8, 0)] [] ?_ | (refine k_cond (fun hc => ?_) (fun hc => ?_) <;> (try simp at hc) <;> (try omega)))
  refine k_lp (X := { i : Nat // i ≤ (sz + 63) / 64 - (e + 63) / 64 }) (fun i => [(0, .pointer (some ⟨bv, 0, none⟩)), (2, .int .i64 (e : Int)), (3, .int .i64 (sz : Int)), (5, .pointer (some ⟨b, 0, none⟩)), (9, .int .i64 (((e + 63) / 64 : Nat) : Int)), (10, .int .i64 (((e + 63) / 64 + i.1 : Nat) : Int))]) (fun _ => [St ps es, Usg]) (fun i => [Vw bv ps rs (cs ++ dls bi ((e + 63) / 64) i.1), Pt b (.cells #[.string bi.mkr, .int .i64 bi.nu] 31)]) (fun i => (sz + 63) / 64 - (e + 63) / 64 - i.1) ⟨0, by omega⟩ ⟨rfl, rfl, rfl, rfl, rfl, rfl, trivial⟩ ?_ (hr := by simp only [dls, List.range'_zero, List.map_nil, List.append_nil]; exact Sels.cons (.there .here) (.cons .here .nil))
  rintro ⟨i, hi⟩
  dsimp only at hi ⊢
  have hlen := hdl i
  have v1 : IntKind.i64.wrap ((((e + 63) / 64 + i : Nat) : Int) * 64) = ((((e + 63) / 64 + i) * 64 : Nat) : Int) := by rw [wrapi (by omega) (by omega)]; omega
  by_cases hlt : i < (sz + 63) / 64 - (e + 63) / 64
  · have n1 := ofBlock_ok bi (((e + 63) / 64 + i : Nat) : Int)
    have n2 := vwDelete_ok bv ps rs (cs ++ dls bi ((e + 63) / 64) i) (bnm bi (((e + 63) / 64 + i : Nat) : Int)) (by show bi.mkr.size ≤ _; omega) (Nat.zero_le _) (by rw [List.length_append, hlen]; omega)
    have e9 : vdel (cs ++ dls bi ((e + 63) / 64) i) (bnm bi (((e + 63) / 64 + i : Nat) : Int)) = (0, cs ++ dls bi ((e + 63) / 64) (i + 1)) := by
      unfold vdel
      rw [if_neg (by rw [chk_bnm hb (i := (((e + 63) / 64 + i : Nat) : Int)) (by omega)]; simp), dls_snoc, List.append_assoc]
    rw [e9] at n2
    have v2 : IntKind.i64.wrap ((((e + 63) / 64 + i : Nat) : Int) + 1) = (((e + 63) / 64 + (i + 1) : Nat) : Int) := by rw [wrapi (by omega) (by omega)]; omega
    repeat' (first | refine l_run ?_ | refine l_nil ?_ | refine l_one ?_ | refine k_reg ?_ | refine l_ld ?_ | refine l_ldF ?_ | refine l_st ?_ | refine l_al (fun b => ?_) | refine l_bs (fun b => ?_) | refine k_condT ?_ | refine k_condF ?_ | refine r_run ?_ | refine r_one ?_ | refine r_ld ?_ | refine r_ldF ?_ | refine r_ldN ?_ | refine r_al (fun b => ?_) | refine r_bs (fun b => ?_) | refine r_st ?_ | refine r_end ?_ | refine l_call (n1) (fun _ _ => ?_) | refine l_call0 (n1) (fun _ _ => ?_) | refine r_call (n1) (fun _ _ => ?_) | refine l_call (n2) (fun _ _ => ?_) | refine l_call0 (n2) (fun _ _ => ?_) | refine r_call (n2) (fun _ _ => ?_) | rw [v1] | (refine l_split (fun hc => ?_) (fun hc => ?_) <;> (try simp at hc) <;> (try omega)) | (refine r_split (fun hc => ?_) (fun hc => ?_) <;> (try simp at hc) <;> (try omega)) | refine k_draw 14 [] [(0, 0), (1, 0), (2, 0), (3, 0), (5, 0), (6, 0), (4, 4), (7, 4), (8, 0)] [] ?_ | (refine k_cond (fun hc => ?_) (fun hc => ?_) <;> (try simp at hc) <;> (try omega)))
    rw [v2]
    exact k_next ⟨i + 1, by omega⟩ (by show (sz + 63) / 64 - (e + 63) / 64 - (i + 1) < (sz + 63) / 64 - (e + 63) / 64 - i; omega) ⟨rfl, rfl, rfl, rfl, rfl, rfl, trivial⟩
  · obtain rfl : i = (sz + 63) / 64 - (e + 63) / 64 := by omega
    rw [← hD]
    have hDl : (cutD cs bi e sz).length ≤ 910000 := by rw [hD, List.length_append, hlen]; omega
    unfold cutC cutR
    generalize cutD cs bi e sz = cs1 at *
    by_cases h64 : e % 64 = 0
    · rw [if_pos h64, if_pos h64]
      repeat' (first | refine l_run ?_ | refine l_nil ?_ | refine l_one ?_ | refine k_reg ?_ | refine l_ld ?_ | refine l_ldF ?_ | refine l_st ?_ | refine l_al (fun b => ?_) | refine l_bs (fun b => ?_) | refine k_condT ?_ | refine k_condF ?_ | refine k_brk ?_ | refine r_run ?_ | refine r_one ?_ | refine r_ld ?_ | refine r_ldF ?_ | refine r_ldN ?_ | refine r_al (fun b => ?_) | refine r_bs (fun b => ?_) | refine r_st ?_ | refine r_end ?_ | rw [v1] | rw [w5] | rw [w6] | (refine l_split (fun hc => ?_) (fun hc => ?_) <;> (try simp at hc) <;> (try omega)) | (refine r_split (fun hc => ?_) (fun hc => ?_) <;> (try simp at hc) <;> (try omega)) | refine k_draw 14 [] [(0, 0), (1, 0), (2, 0), (3, 0), (5, 0), (6, 0), (4, 4), (7, 4), (8, 0)] [] ?_ | (refine k_cond (fun hc => ?_) (fun hc => ?_) <;> (try simp at hc) <;> (try omega)))
      exact k_ret () rfl trivial
    · rw [if_neg h64, if_neg h64]
      have v3 : IntKind.i64.wrap ((((e + 63) / 64 : Nat) : Int) - 1) = ((e / 64 : Nat) : Int) := by rw [wrapi (by omega) (by omega)]; omega
      have m1 := block_ok bv ps es rs cs1 bi ((e / 64 : Nat) : Int) hw
      have ho := pad64_len (vget es cs1 (bnm bi ((e / 64 : Nat) : Int))).1
      have hnm := chk_bnm hb (i := ((e / 64 : Nat) : Int)) (by omega)
      cases hp : (vget es cs1 (bnm bi ((e / 64 : Nat) : Int))).2 with
      | false =>
        rw [hp] at m1
        rw [if_neg (by simp)]
        generalize pad64 (vget es cs1 (bnm bi ((e / 64 : Nat) : Int))).1 = P at *
        repeat' (first | refine l_run ?_ | refine l_nil ?_ | refine l_one ?_ | refine k_reg ?_ | refine l_ld ?_ | refine l_ldF ?_ | refine l_st ?_ | refine l_al (fun b => ?_) | refine l_bs (fun b => ?_) | refine k_condT ?_ | refine k_condF ?_ | refine k_brk ?_ | refine r_run ?_ | refine r_one ?_ | refine r_ld ?_ | refine r_ldF ?_ | refine r_ldN ?_ | refine r_al (fun b => ?_) | refine r_bs (fun b => ?_) | refine r_st ?_ | refine r_end ?_ | refine l_call (m1) (fun _ _ => ?_) | refine l_call0 (m1) (fun _ _ => ?_) | refine r_call (m1) (fun _ _ => ?_) | rw [v1] | rw [w5] | rw [w6] | rw [v3] | (refine l_split (fun hc => ?_) (fun hc => ?_) <;> (try simp at hc) <;> (try omega)) | (refine r_split (fun hc => ?_) (fun hc => ?_) <;> (try simp at hc) <;> (try omega)) | refine k_draw 14 [] [(0, 0), (1, 0), (2, 0), (3, 0), (5, 0), (6, 0), (4, 4), (7, 4), (8, 0)] [] ?_ | (refine k_cond (fun hc => ?_) (fun hc => ?_) <;> (try simp at hc) <;> (try omega)))
        generalize b = b12 at *
        refine l_by (T := 131) (b := b12) (Lb := List.replicate 64 0) rfl ?_
        refine l_stB (L0 := List.replicate 64 0) (Lb := P) ?_ ho.symm (by simp [ho])
        repeat' (first | refine l_run ?_ | refine l_nil ?_ | refine l_one ?_ | refine k_reg ?_ | refine l_ld ?_ | refine l_ldF ?_ | refine l_st ?_ | refine l_al (fun b => ?_) | refine l_bs (fun b => ?_) | refine k_condT ?_ | refine k_condF ?_ | refine k_brk ?_ | refine r_run ?_ | refine r_one ?_ | refine r_ld ?_ | refine r_ldF ?_ | refine r_ldN ?_ | refine r_al (fun b => ?_) | refine r_bs (fun b => ?_) | refine r_st ?_ | refine r_end ?_ | (refine l_split (fun hc => ?_) (fun hc => ?_) <;> (try simp at hc) <;> (try omega)) | (refine r_split (fun hc => ?_) (fun hc => ?_) <;> (try simp at hc) <;> (try omega)) | refine k_draw 14 [] [(0, 0), (1, 0), (2, 0), (3, 0), (5, 0), (6, 0), (4, 4), (7, 4), (8, 0)] [] ?_ | (refine k_cond (fun hc => ?_) (fun hc => ?_) <;> (try simp at hc) <;> (try omega)))
        exact k_ret () rfl trivial
      | true =>
        rw [hp] at m1
        rw [if_pos rfl]
        generalize pad64 (vget es cs1 (bnm bi ((e / 64 : Nat) : Int))).1 = P at *
        have hcl := clrB_len (Lb := P) (lo := e % 64) (by omega)
        have n1 := ofBlock_ok bi ((e / 64 : Nat) : Int)
        have n2 := vwSet_ok bv ps (vread es rs cs1 (bnm bi ((e / 64 : Nat) : Int))) cs1 (bnm bi ((e / 64 : Nat) : Int)) ⟨(clrB P (e % 64)).toArray⟩ (by show bi.mkr.size ≤ _; omega) (Nat.zero_le _) (by omega)
        have e9 : vset cs1 (bnm bi ((e / 64 : Nat) : Int)) ⟨(clrB P (e % 64)).toArray⟩ = (0, cs1 ++ [⟨bnm bi ((e / 64 : Nat) : Int), ⟨(clrB P (e % 64)).toArray⟩, false⟩]) := by
          unfold vset
          rw [if_neg (by rw [hnm]; simp), if_neg (by show ¬ 65536 < (List.toArray _).size; rw [List.size_toArray, hcl]; omega)]
        rw [e9] at n2
        repeat' (first | refine l_run ?_ | refine l_nil ?_ | refine l_one ?_ | refine k_reg ?_ | refine l_ld ?_ | refine l_ldF ?_ | refine l_st ?_ | refine l_al (fun b => ?_) | refine l_bs (fun b => ?_) | refine k_condT ?_ | refine k_condF ?_ | refine k_brk ?_ | refine r_run ?_ | refine r_one ?_ | refine r_ld ?_ | refine r_ldF ?_ | refine r_ldN ?_ | refine r_al (fun b => ?_) | refine r_bs (fun b => ?_) | refine r_st ?_ | refine r_end ?_ | refine l_call (m1) (fun _ _ => ?_) | refine l_call0 (m1) (fun _ _ => ?_) | refine r_call (m1) (fun _ _ => ?_) | rw [v1] | rw [w5] | rw [w6] | rw [v3] | (refine l_split (fun hc => ?_) (fun hc => ?_) <;> (try simp at hc) <;> (try omega)) | (refine r_split (fun hc => ?_) (fun hc => ?_) <;> (try simp at hc) <;> (try omega)) | refine k_draw 14 [] [(0, 0), (1, 0), (2, 0), (3, 0), (5, 0), (6, 0), (4, 4), (7, 4), (8, 0)] [] ?_ | (refine k_cond (fun hc => ?_) (fun hc => ?_) <;> (try simp at hc) <;> (try omega)))
        generalize b = b12 at *
        refine l_by (T := 131) (b := b12) (Lb := List.replicate 64 0) rfl ?_
        refine l_stB (L0 := List.replicate 64 0) (Lb := P) ?_ ho.symm (by simp [ho])
        repeat' (first | refine l_run ?_ | refine l_nil ?_ | refine l_one ?_ | refine k_reg ?_ | refine l_ld ?_ | refine l_ldF ?_ | refine l_st ?_ | refine l_al (fun b => ?_) | refine l_bs (fun b => ?_) | refine k_condT ?_ | refine k_condF ?_ | refine k_brk ?_ | refine r_run ?_ | refine r_one ?_ | refine r_ld ?_ | refine r_ldF ?_ | refine r_ldN ?_ | refine r_al (fun b => ?_) | refine r_bs (fun b => ?_) | refine r_st ?_ | refine r_end ?_ | refine l_call (n1) (fun _ _ => ?_) | refine l_call0 (n1) (fun _ _ => ?_) | refine r_call (n1) (fun _ _ => ?_) | refine l_call (n2) (fun _ _ => ?_) | refine l_call0 (n2) (fun _ _ => ?_) | refine r_call (n2) (fun _ _ => ?_) | rw [w5] | rw [w6] | rw [v3] | refine l_slT (m := 64) (e % 64) (by omega) ?_ | refine l_clr (Lb := P) (lo := e % 64) ?_ (by rw [ho]) (by omega) | refine r_sla0 ?_ | refine r_b2sB (Lb := clrB P (e % 64)) ?_ (by rw [hcl, ho]) | (refine l_split (fun hc => ?_) (fun hc => ?_) <;> (try simp at hc) <;> (try omega)) | (refine r_split (fun hc => ?_) (fun hc => ?_) <;> (try simp at hc) <;> (try omega)) | refine k_draw 14 [Vw _ _ _ _] [(0, 0), (1, 0), (2, 0), (3, 0), (5, 0), (6, 0), (4, 4), (7, 4), (8, 0)] [] ?_ | (refine k_cond (fun hc => ?_) (fun hc => ?_) <;> (try simp at hc) <;> (try omega)))
        exact k_ret () rfl trivial

/-- What Resize writes and reads, where it succeeds. -/
def rszC (es : Al) (cs : List Ch) (bi : Bi) (n sz : Nat) : List Ch := if n = sz then cs else (if n < sz then cutC es cs bi n sz else cs) ++ [⟨nnm bi, iencS { (ifile es cs bi).1 with sz := (n : Int) }, false⟩]
def rszR (es : Al) (rs : List (Nm × Ch)) (cs : List Ch) (bi : Bi) (n sz : Nat) : List (Nm × Ch) := if n < sz then cutR es (igetR es rs cs bi) cs bi n sz else igetR es rs cs bi
theorem cutC_len (es : Al) (cs : List Ch) (bi : Bi) (e sz : Nat) (h : sz ≤ 4096) : (cutC es cs bi e sz).length ≤ cs.length + 65 := by
  have hd : (cutD cs bi e sz).length ≤ cs.length + 64 := by
    simp only [cutD, List.length_append, dls, List.length_map, List.length_range']; omega
  unfold cutC
  split
  · omega
  · split
    · simp only [List.length_append, List.length_singleton]; omega
    · omega
set_option maxHeartbeats 4000000 in
theorem resize_ok (b : Nat) (ps : Option Addr) (es : Al) (rs : List (Nm × Ch)) (cs : List Ch) (bi : Bi) (n sz : Nat) (hw : bi.mkr.size ≤ 1099511627770) (hv : (vget es cs (nnm bi)).1.size ≤ 1099511627776) (hl : cs.length ≤ 800000)
    (h0 : (ifile es cs bi).2 = 0) (hz : (ifile es cs bi).1.sz = (sz : Int)) (hsz : sz ≤ 4096) (hn : n ≤ 4096) :
    Enters 25 ∧ Spec Tryz.prog 25 #[.pointer (some ⟨b, 0, none⟩), bi.v, .int .i64 (n : Int)] [St ps es, Usg] [Vw b ps rs cs]
      ⟨Unit, fun _ => .int .i64 0, fun _ => True, fun _ => [], fun _ => [Vw b ps (rszR es rs cs bi n sz) (rszC es cs bi n sz)]⟩ := by
  have n1 := inoFile_ok b ps es rs cs bi hw hv
  obtain ⟨g1, g2, g3, g4⟩ := ifile_ok h0
  have n2 := iwithin_ok (n : Int) 4096
  rw [show (decide ((0 : Int) ≤ (n : Int)) && decide ((n : Int) ≤ 4096)) = true by simp; omega] at n2
  unfold rszR rszC
  rw [h0] at n1
  generalize (ifile es cs bi).1 = nd at *
  have hck := ichk_size g2 g3 g4 (z := (n : Int)) (by omega)
  have hes := iencS_size { nd with sz := (n : Int) }
  have hnn := chk_nnm g1
  have n5 := fun rs' cs' (h : cs'.length ≤ 1000000) => inoResized_ok b ps rs' cs' bi nd (n : Int) hck (by omega) h
  have e9 : ∀ cs', vset cs' (nnm bi) (iencS { nd with sz := (n : Int) }) = (0, cs' ++ [⟨nnm bi, iencS { nd with sz := (n : Int) }, false⟩]) := fun cs' => by
    unfold vset
    rw [if_neg (by rw [hnn]; simp), if_neg (by omega)]
  simp only [e9] at n5
  have n3 := fun h => inoCut_ok b ps es (igetR es rs cs bi) cs bi n sz h hsz g1 hw (by omega)
  have hcl := cutC_len es cs bi n sz hsz
  generalize cutC es cs bi n sz = cs2 at *
  generalize cutR es (igetR es rs cs bi) cs bi n sz = rs2 at *
  generalize igetR es rs cs bi = rs1 at *
  generalize iencS { nd with sz := (n : Int) } = S at *
  have n6 := n5 rs2 cs2 (by omega)
  have n7 := n5 rs1 cs (by omega)
  obtain ⟨a1, a2, a3, a4, a5, a6, a7⟩ := nd
  dsimp only at hz
  subst hz
  simp only [Ino.v] at n1 n6 n7
  rcases Nat.lt_trichotomy n sz with h | h | h
  · have n4 := n3 h
    rw [if_pos h, if_neg (by omega), if_pos h]
    refine ⟨enters_of Tryz.func25 (by kernel_rfl) rfl, spec_of (vs := [_, _, _]) Tryz.func25 rfl Tryz.ntmps25 rfl fun G w hp => ?_⟩
    repeat' (first | refine l_run ?_ | refine l_nil ?_ | refine l_one ?_ | refine k_reg ?_ | refine l_ld ?_ | refine l_ldF ?_ | refine l_st ?_ | refine l_al (fun b => ?_) | refine l_bs (fun b => ?_) | refine k_condT ?_ | refine k_condF ?_ | refine k_brk ?_ | refine l_call (n1) (fun _ _ => ?_) | refine l_call0 (n1) (fun _ _ => ?_) | refine l_call (n2) (fun _ _ => ?_) | refine l_call0 (n2) (fun _ _ => ?_) | refine l_call (n4) (fun _ _ => ?_) | refine l_call0 (n4) (fun _ _ => ?_) | refine l_call (n6) (fun _ _ => ?_) | refine l_call0 (n6) (fun _ _ => ?_) | (refine l_split (fun hc => ?_) (fun hc => ?_) <;> (try simp at hc) <;> (try omega)) | (refine k_cond (fun hc => ?_) (fun hc => ?_) <;> (try simp at hc) <;> (try omega)))
    exact k_ret () rfl trivial
  · subst h
    rw [if_neg (by omega), if_pos rfl]
    refine ⟨enters_of Tryz.func25 (by kernel_rfl) rfl, spec_of (vs := [_, _, _]) Tryz.func25 rfl Tryz.ntmps25 rfl fun G w hp => ?_⟩
    repeat' (first | refine l_run ?_ | refine l_nil ?_ | refine l_one ?_ | refine k_reg ?_ | refine l_ld ?_ | refine l_ldF ?_ | refine l_st ?_ | refine l_al (fun b => ?_) | refine l_bs (fun b => ?_) | refine k_condT ?_ | refine k_condF ?_ | refine k_brk ?_ | refine l_call (n1) (fun _ _ => ?_) | refine l_call0 (n1) (fun _ _ => ?_) | refine l_call (n2) (fun _ _ => ?_) | refine l_call0 (n2) (fun _ _ => ?_) | (refine l_split (fun hc => ?_) (fun hc => ?_) <;> (try simp at hc) <;> (try omega)) | (refine k_cond (fun hc => ?_) (fun hc => ?_) <;> (try simp at hc) <;> (try omega)))
    exact k_ret () rfl trivial
  · rw [if_neg (by omega), if_neg (by omega), if_neg (by omega)]
    refine ⟨enters_of Tryz.func25 (by kernel_rfl) rfl, spec_of (vs := [_, _, _]) Tryz.func25 rfl Tryz.ntmps25 rfl fun G w hp => ?_⟩
    repeat' (first | refine l_run ?_ | refine l_nil ?_ | refine l_one ?_ | refine k_reg ?_ | refine l_ld ?_ | refine l_ldF ?_ | refine l_st ?_ | refine l_al (fun b => ?_) | refine l_bs (fun b => ?_) | refine k_condT ?_ | refine k_condF ?_ | refine k_brk ?_ | refine l_call (n1) (fun _ _ => ?_) | refine l_call0 (n1) (fun _ _ => ?_) | refine l_call (n2) (fun _ _ => ?_) | refine l_call0 (n2) (fun _ _ => ?_) | refine l_call (n7) (fun _ _ => ?_) | refine l_call0 (n7) (fun _ _ => ?_) | (refine l_split (fun hc => ?_) (fun hc => ?_) <;> (try simp at hc) <;> (try omega)) | (refine k_cond (fun hc => ?_) (fun hc => ?_) <;> (try simp at hc) <;> (try omega)))
    exact k_ret () rfl trivial
end Go.Proofs.YtgciahedpaencaaGreatDoor

set_option maxRecDepth 10000
namespace Go.Proofs.YtgciahedpaencaaGreatDoor
open Go.RowKit

theorem vg_ne {es : Al} {cs : List Ch} {c : Ch} {n : Nm} (h : c.nm ≠ n) : vget es (cs ++ [c]) n = vget es cs n := by
  unfold vget
  rw [vcall_snoc, if_neg h]
theorem vg_eq {es : Al} {cs : List Ch} {c : Ch} {n : Nm} (h : c.nm = n) (hn : nchk n = 0) : vget es (cs ++ [c]) n = (c.val, !c.abs) := by
  unfold vget
  rw [if_neg (by rw [hn]; simp), vcall_snoc, if_pos h]
theorem bnm_inj {bi : Bi} {i j : Nat} (h : bnm bi (i : Int) = bnm bi (j : Int)) : i = j := by
  simp only [bnm, Nm.mk.injEq] at h; omega
theorem bnm_nnm {a b : Bi} {i : Int} : bnm a i ≠ nnm b := by simp [bnm, nnm]
theorem nnm_bnm {a b : Bi} {i : Int} : nnm b ≠ bnm a i := by simp [bnm, nnm]

/-- A byte of a file. -/
def fb (es : Al) (cs : List Ch) (bi : Bi) (k : Nat) : UInt8 := (pad64 (vget es cs (bnm bi ((k / 64 : Nat) : Int))).1).getD (k % 64) 0
/-- A view holds a file with these contents. -/
structure FOK (es : Al) (cs : List Ch) (bi : Bi) (w : ByteArray) : Prop where
  nd : ∃ nd : Ino, ichk nd = 0 ∧ nd.kd = 1 ∧ nd.sz = (w.size : Int) ∧ vget es cs (nnm bi) = (iencS nd, true)
  le : w.size ≤ 4096
  b : ∀ k, k < 4096 → fb es cs bi k = w.data.toList.getD k 0
  e : ∀ j : Nat, j < 64 → (vget es cs (bnm bi (j : Int))).2 = false → (vget es cs (bnm bi (j : Int))).1 = ⟨#[]⟩

section
variable {es : Al} {cs : List Ch} {bi : Bi} {w : ByteArray}
theorem FOK.file (h : FOK es cs bi w) (hb : bchk bi = 0) : (ifile es cs bi).2 = 0 ∧ (ifile es cs bi).1.sz = (w.size : Int) ∧ (vget es cs (nnm bi)).1.size ≤ 1099511627776 := by
  obtain ⟨nd, h1, h2, h3, h4⟩ := h.nd
  obtain ⟨_, g2⟩ := ifile_last hb h4 h1 h2
  rw [g2, h4]
  have := iencS_size nd
  exact ⟨rfl, h3, by dsimp only; omega⟩

theorem getD_app {α : Type} (a b : List α) (j : Nat) (d : α) : (a ++ b).getD j d = if j < a.length then a.getD j d else b.getD (j - a.length) d := by
  split
  · rename_i h; rw [List.getD_eq_getElem?_getD, List.getD_eq_getElem?_getD, List.getElem?_append_left h]
  · rename_i h; rw [List.getD_eq_getElem?_getD, List.getD_eq_getElem?_getD, List.getElem?_append_right (by omega)]
theorem getD_take {α : Type} (a : List α) (m j : Nat) (d : α) (h : j < m) : (a.take m).getD j d = a.getD j d := by
  rw [List.getD_eq_getElem?_getD, List.getD_eq_getElem?_getD, List.getElem?_take, if_pos h]
theorem getD_drop {α : Type} (a : List α) (m j : Nat) (d : α) : (a.drop m).getD j d = a.getD (m + j) d := by
  rw [List.getD_eq_getElem?_getD, List.getD_eq_getElem?_getD, List.getElem?_drop]
theorem getD_big {α : Type} (a : List α) (j : Nat) (d : α) (h : a.length ≤ j) : a.getD j d = d := by
  rw [List.getD_eq_getElem?_getD, List.getElem?_eq_none h]; rfl
theorem getD_rep {α : Type} (m j : Nat) (d : α) : (List.replicate m d).getD j d = d := by
  rw [List.getD_eq_getElem?_getD, List.getElem?_replicate]; split <;> rfl
theorem cpy_getD {L : List UInt8} {off dl : Nat} {s : ByteArray} (h1 : dl ≤ s.size) (h2 : off + dl ≤ L.length) (j : Nat) : (cpy L off s dl).getD j 0 = if off ≤ j ∧ j < off + dl then s.data.toList.getD (j - off) 0 else L.getD j 0 := by
  have hs : s.data.toList.length = s.size := by simp
  have hm : min s.size dl = dl := by omega
  have l1 : (L.take off).length = off := by simp; omega
  have l2 : (s.data.toList.take dl).length = dl := by simp; omega
  rw [cpy, hm, getD_app, getD_app, List.length_append, l1, l2, getD_drop]
  by_cases h3 : j < off
  · rw [if_pos (by omega), if_pos h3, if_neg (by omega), getD_take _ _ _ _ h3]
  · by_cases h4 : j < off + dl
    · rw [if_pos h4, if_neg h3, if_pos ⟨by omega, h4⟩, getD_take _ _ _ _ (by omega)]
    · rw [if_neg h4, if_neg (by omega)]
      congr 1; omega
theorem pad64_full {s : ByteArray} (h : s.size = 64) : pad64 s = s.data.toList := by
  have hs : s.data.toList.length = s.size := by simp
  have h2 : min s.size 64 = 64 := by omega
  have h3 : (List.replicate 64 (0 : UInt8)).drop (0 + 64) = [] := by rw [List.drop_eq_nil_iff]; simp
  rw [pad64, cpy, h2, h3, List.take_zero, List.take_of_length_le (l := s.data.toList) (by omega), List.append_nil, List.nil_append]
theorem pad64_nil : pad64 ⟨#[]⟩ = List.replicate 64 0 := by
  unfold pad64 cpy
  have : (⟨#[]⟩ : ByteArray).size = 0 := rfl
  rw [this]; simp

theorem rdB_pts : ∀ (k f t : Nat), t - f ≤ k → rdB es cs bi (pts f t) = (List.range' f (t - f)).map (fb es cs bi)
  | 0, f, t, hk => by
    rw [pts, if_neg (by omega), show t - f = 0 by omega]; rfl
  | k + 1, f, t, hk => by
    rw [pts]
    split
    · rename_i hlt
      have ih := rdB_pts k (min t (f / 64 * 64 + 64)) t (by omega)
      have e1 : ∀ p l, rdB es cs bi (p :: l) = rdS es cs bi p ++ rdB es cs bi l := fun p l => by simp [rdB]
      rw [e1, ih]
      have e2 : t - f = (min t (f / 64 * 64 + 64) - f) + (t - min t (f / 64 * 64 + 64)) := by omega
      have e3 : List.range' f (t - f) = List.range' f (min t (f / 64 * 64 + 64) - f) ++ List.range' (min t (f / 64 * 64 + 64)) (t - min t (f / 64 * 64 + 64)) := by
        rw [e2, ← List.range'_append_1, show f + (min t (f / 64 * 64 + 64) - f) = min t (f / 64 * 64 + 64) by omega]
      rw [e3, List.map_append]
      congr 1
      have hp := pad64_len (vget es cs (bnm bi ((f / 64 : Nat) : Int))).1
      refine List.ext_getElem ?_ fun j h1 h2 => ?_
      · rw [rdS_len (by dsimp only; omega)]; simp; omega
      · simp only [List.length_map, List.length_range'] at h2
        simp only [rdS, List.getElem_take, List.getElem_drop, List.getElem_map, List.getElem_range', fb]
        have a1 : (f + 1 * j) / 64 = f / 64 := by omega
        have a2 : (f + 1 * j) % 64 = f - f / 64 * 64 + j := by omega
        rw [a1, a2, List.getD_eq_getElem?_getD, List.getElem?_eq_getElem (by rw [hp]; omega)]
        rfl
    · rw [show t - f = 0 by omega]; rfl
/-- What Read reads of a file. -/
theorem FOK.read (h : FOK es cs bi w) : (⟨(rdB es cs bi (pts 0 w.size)).toArray⟩ : ByteArray) = w := by
  have hs : w.data.toList.length = w.size := by simp
  have h1 : rdB es cs bi (pts 0 w.size) = w.data.toList := by
    rw [rdB_pts w.size 0 w.size (by omega)]
    refine List.ext_getElem (by simp) fun j h1 h2 => ?_
    simp only [List.length_map, List.length_range'] at h1
    have := h.le
    simp only [List.getElem_map, List.getElem_range']
    rw [h.b _ (by omega), List.getD_eq_getElem?_getD, List.getElem?_eq_getElem (by rw [hs]; omega)]
    simp
  rw [h1]

/-! Write. -/
theorem ext_drop (s : ByteArray) (a : Nat) : (s.extract a s.size).data.toList = s.data.toList.drop a := by
  have hs : s.data.size = s.size := rfl
  rw [ByteArray.data_extract, Array.toList_extract, List.extract_eq_take_drop, List.take_of_length_le (by simp [hs])]
theorem wnew_getD {f : Nat} {s : ByteArray} {p : Pp} (h1 : f ≤ p.bl * 64 + p.fr) (h2 : p.fr < p.to) (h3 : p.to ≤ 64) (h4 : p.bl * 64 + p.to ≤ f + s.size) (j : Nat) (hj : j < 64) :
    (wnew es cs bi f s p).getD j 0 = if p.fr ≤ j ∧ j < p.to then s.data.toList.getD (p.bl * 64 + j - f) 0 else (pad64 (vget es cs (bnm bi p.bl)).1).getD j 0 := by
  have hp := pad64_len (vget es cs (bnm bi p.bl)).1
  have hx : (s.extract (p.bl * 64 + p.fr - f) s.size).size = s.size - (p.bl * 64 + p.fr - f) := by rw [ByteArray.size_extract]; omega
  unfold wnew
  by_cases hf : p.to - p.fr < 64
  · rw [if_pos hf, cpy_getD (by rw [hx]; omega) (by rw [hp]; omega)]
    by_cases hr : p.fr ≤ j ∧ j < p.to
    · rw [if_pos (by omega), if_pos hr, ext_drop, getD_drop]
      congr 1; omega
    · rw [if_neg (by omega), if_neg hr]
  · rw [if_neg hf, cpy_getD (by rw [hx]; omega) (by simp; omega), if_pos (by omega), if_pos (by omega), ext_drop, getD_drop]
    congr 1; omega
theorem fb_step {f : Nat} {s : ByteArray} {q : List (Nm × Ch) × List Ch} {p : Pp} (hb : bchk bi = 0) (h1 : f ≤ p.bl * 64 + p.fr) (h2 : p.fr < p.to) (h3 : p.to ≤ 64) (h4 : p.bl * 64 + p.to ≤ f + s.size) (hbl : p.bl < 64) (k : Nat) :
    fb es (wstep es bi f s q p).2 bi k = if p.bl * 64 + p.fr ≤ k ∧ k < p.bl * 64 + p.to then s.data.toList.getD (k - f) 0 else fb es q.2 bi k := by
  have hst : (wstep es bi f s q p).2 = q.2 ++ [⟨bnm bi p.bl, ⟨(wnew es q.2 bi f s p).toArray⟩, false⟩] := rfl
  rw [hst]
  have hl := wnew_len (es := es) (cs := q.2) (bi := bi) (f := f) (s := s) (p := p) (by omega)
  by_cases hkb : k / 64 = p.bl
  · have hv : vget es (q.2 ++ [⟨bnm bi p.bl, ⟨(wnew es q.2 bi f s p).toArray⟩, false⟩]) (bnm bi ((k / 64 : Nat) : Int)) = (⟨(wnew es q.2 bi f s p).toArray⟩, true) := vg_eq (by rw [hkb]) (chk_bnm hb (by omega))
    unfold fb
    rw [hv, pad64_full (by show (List.toArray _).size = 64; rw [List.size_toArray, hl])]
    show (wnew es q.2 bi f s p).getD (k % 64) 0 = _
    rw [wnew_getD h1 h2 h3 h4 _ (by omega), hkb]
    by_cases hr : p.fr ≤ k % 64 ∧ k % 64 < p.to
    · rw [if_pos hr, if_pos (by omega)]
      congr 1; omega
    · rw [if_neg hr, if_neg (by omega)]
  · unfold fb
    rw [vg_ne (fun e => hkb (bnm_inj e).symm), if_neg (by omega)]
theorem fb_fold {f : Nat} {s : ByteArray} (hb : bchk bi = 0) : ∀ (n a t : Nat), t - a ≤ n → f ≤ a → t ≤ 4096 → t ≤ f + s.size → ∀ (q : List (Nm × Ch) × List Ch) (k : Nat), k < 4096 →
    fb es (wfold es bi f s q (pts a t)).2 bi k = if a ≤ k ∧ k < t then s.data.toList.getD (k - f) 0 else fb es q.2 bi k
  | 0, a, t, hn, _, _, _, q, k, hk => by
    rw [pts, if_neg (by omega), if_neg (by omega)]; rfl
  | n + 1, a, t, hn, ha, ht, hs, q, k, hk => by
    rw [pts]
    split
    · rename_i hlt
      show fb es (wfold es bi f s (wstep es bi f s q ⟨a / 64, a - a / 64 * 64, min t (a / 64 * 64 + 64) - a / 64 * 64⟩) (pts (min t (a / 64 * 64 + 64)) t)).2 bi k = _
      rw [fb_fold hb n (min t (a / 64 * 64 + 64)) t (by omega) (by omega) ht hs _ k hk, fb_step hb (by dsimp only; omega) (by dsimp only; omega) (by dsimp only; omega) (by dsimp only; omega) (by dsimp only; omega) k]
      dsimp only
      by_cases h1 : min t (a / 64 * 64 + 64) ≤ k ∧ k < t
      · rw [if_pos h1, if_pos (by omega)]
      · rw [if_neg h1]
        by_cases h2 : a ≤ k ∧ k < t
        · rw [if_pos h2, if_pos (by omega)]
        · rw [if_neg h2, if_neg (by omega)]
    · rw [if_neg (by omega)]; rfl
theorem vg_fold {f : Nat} {s : ByteArray} : ∀ (l : List Pp) (q : List (Nm × Ch) × List Ch), vget es (wfold es bi f s q l).2 (nnm bi) = vget es q.2 (nnm bi)
  | [], _ => rfl
  | p :: l, q => by
    show vget es (wfold es bi f s (wstep es bi f s q p) l).2 (nnm bi) = _
    rw [vg_fold l]
    exact vg_ne bnm_nnm
theorem ve_fold {f : Nat} {s : ByteArray} (hb : bchk bi = 0) (j : Nat) (hj : j < 64) : ∀ (l : List Pp) (q : List (Nm × Ch) × List Ch), ((vget es q.2 (bnm bi (j : Int))).2 = false → (vget es q.2 (bnm bi (j : Int))).1 = ⟨#[]⟩) → (vget es (wfold es bi f s q l).2 (bnm bi (j : Int))).2 = false → (vget es (wfold es bi f s q l).2 (bnm bi (j : Int))).1 = ⟨#[]⟩
  | [], _, h => h
  | p :: l, q, h => by
    show (vget es (wfold es bi f s (wstep es bi f s q p) l).2 (bnm bi (j : Int))).2 = false → _
    refine ve_fold hb j hj l _ ?_
    have hst : (wstep es bi f s q p).2 = q.2 ++ [⟨bnm bi p.bl, ⟨(wnew es q.2 bi f s p).toArray⟩, false⟩] := rfl
    rw [hst]
    by_cases hp : bnm bi (p.bl : Int) = bnm bi (j : Int)
    · rw [vg_eq hp (chk_bnm hb (by omega))]
      intro h; cases h
    · rw [vg_ne hp]; exact h
/-- Write, seen by the file. -/
theorem FOK.write (h : FOK es cs bi w) (hb : bchk bi = 0) {f : Nat} {s w' : ByteArray} (hf : f ≤ 4096) (rs : List (Nm × Ch)) (hsz : w'.size = if min s.size (4096 - f) = 0 then w.size else max w.size (f + min s.size (4096 - f)))
    (hg : ∀ k, k < 4096 → w'.data.toList.getD k 0 = if f ≤ k ∧ k < f + min s.size (4096 - f) then s.data.toList.getD (k - f) 0 else w.data.toList.getD k 0) : FOK es ((iwQ es rs cs bi f s).2 ++ iwN es cs bi f s) bi w' := by
  obtain ⟨nd, h1, h2, h3, h4⟩ := h.nd
  have hle := h.le
  obtain ⟨_, hif⟩ := ifile_last hb h4 h1 h2
  have hN : ∀ c ∈ iwN es cs bi f s, c.nm = nnm bi := fun c hc => by
    unfold iwN at hc
    split at hc
    · rw [List.mem_singleton.1 hc]
    · cases hc
  have hq : iwQ es rs cs bi f s = wfold es bi f s (igetR es rs cs bi, cs) (pts f (f + min s.size (4096 - f))) := rfl
  have hb1 : ∀ j : Nat, vget es ((iwQ es rs cs bi f s).2 ++ iwN es cs bi f s) (bnm bi (j : Int)) = vget es (iwQ es rs cs bi f s).2 (bnm bi (j : Int)) := fun j => by
    unfold iwN
    split
    · exact vg_ne nnm_bnm
    · rw [List.append_nil]
  generalize hn : min s.size (4096 - f) = n at *
  refine ⟨?_, ?_, fun k hk => ?_, fun j hj => ?_⟩
  · by_cases hw : 0 < n ∧ nd.sz < ((f + n : Nat) : Int)
    · have e1 : iwN es cs bi f s = [⟨nnm bi, iencS { nd with sz := ((f + n : Nat) : Int) }, false⟩] := by
        unfold iwN
        rw [hn, hif, if_pos hw]
      refine ⟨{ nd with sz := ((f + n : Nat) : Int) }, ichk_size h1 (by omega) (by omega) (by omega), h2, ?_, ?_⟩
      · show ((f + n : Nat) : Int) = _
        rw [hsz, if_neg (by omega)]; omega
      · rw [e1]; exact vget_last (chk_nnm hb)
    · have e1 : iwN es cs bi f s = [] := by
        unfold iwN
        rw [hn, hif, if_neg hw]
      refine ⟨nd, h1, h2, ?_, ?_⟩
      · rw [h3, hsz]
        split
        · rfl
        · omega
      · rw [e1, List.append_nil, hq, vg_fold]; exact h4
  · rw [hsz]; split <;> omega
  · have e1 : fb es ((iwQ es rs cs bi f s).2 ++ iwN es cs bi f s) bi k = fb es (iwQ es rs cs bi f s).2 bi k := by
      unfold fb; rw [hb1]
    rw [e1, hq, fb_fold hb (f + n - f) f (f + n) (Nat.le_refl _) (Nat.le_refl _) (by omega) (by omega) _ k hk, hg k hk]
    split
    · rfl
    · exact h.b k hk
  · rw [hb1, hq]
    exact ve_fold hb j hj _ _ (h.e j hj)

/-! Resize. -/
theorem vg_dls (hb : bchk bi = 0) (a : Nat) : ∀ (k j : Nat), j < 64 → vget es (cs ++ dls bi a k) (bnm bi (j : Int)) = if a ≤ j ∧ j < a + k then (⟨#[]⟩, false) else vget es cs (bnm bi (j : Int))
  | 0, j, _ => by
    rw [if_neg (by omega)]
    simp [dls]
  | k + 1, j, hj => by
    rw [dls_snoc, ← List.append_assoc]
    by_cases h : j = a + k
    · subst h
      rw [vg_eq rfl (chk_bnm hb (by omega)), if_pos (by omega)]; rfl
    · rw [vg_ne (fun e => h (bnm_inj e).symm), vg_dls hb a k j hj]
      by_cases h2 : a ≤ j ∧ j < a + k
      · rw [if_pos h2, if_pos (by omega)]
      · rw [if_neg h2, if_neg (by omega)]
theorem vn_dls (a : Nat) : ∀ (k : Nat), vget es (cs ++ dls bi a k) (nnm bi) = vget es cs (nnm bi)
  | 0 => by simp [dls]
  | k + 1 => by rw [dls_snoc, ← List.append_assoc, vg_ne bnm_nnm, vn_dls a k]
theorem vn_cut (e sz : Nat) : vget es (cutC es cs bi e sz) (nnm bi) = vget es cs (nnm bi) := by
  unfold cutC
  split
  · exact vn_dls _ _
  · split
    · rw [vg_ne bnm_nnm]; exact vn_dls _ _
    · exact vn_dls _ _
theorem FOK.cut (h : FOK es cs bi w) (hb : bchk bi = 0) {n : Nat} (hn : n < w.size) : (∀ k, k < 4096 → fb es (cutC es cs bi n w.size) bi k = if k < n then w.data.toList.getD k 0 else 0) ∧
    (∀ j : Nat, j < 64 → (vget es (cutC es cs bi n w.size) (bnm bi (j : Int))).2 = false → (vget es (cutC es cs bi n w.size) (bnm bi (j : Int))).1 = ⟨#[]⟩) := by
  have hle := h.le
  have hs : w.data.toList.length = w.size := by simp
  -- the blocks behind the deletions
  have hD : ∀ j : Nat, j < 64 → vget es (cutD cs bi n w.size) (bnm bi (j : Int)) = if (n + 63) / 64 ≤ j ∧ j < (w.size + 63) / 64 then (⟨#[]⟩, false) else vget es cs (bnm bi (j : Int)) := fun j hj => by
    rw [cutD, vg_dls hb _ _ j hj]
    congr 1
    rw [eq_iff_iff]; omega
  have hDe : ∀ j : Nat, j < 64 → (vget es (cutD cs bi n w.size) (bnm bi (j : Int))).2 = false → (vget es (cutD cs bi n w.size) (bnm bi (j : Int))).1 = ⟨#[]⟩ := fun j hj => by
    rw [hD j hj]
    split
    · intro _; rfl
    · exact h.e j hj
  have hDb : ∀ k, k < 4096 → fb es (cutD cs bi n w.size) bi k = if (n + 63) / 64 ≤ k / 64 then 0 else w.data.toList.getD k 0 := fun k hk => by
    unfold fb
    rw [hD (k / 64) (by omega)]
    by_cases h1 : (n + 63) / 64 ≤ k / 64
    · rw [if_pos h1]
      by_cases h2 : k / 64 < (w.size + 63) / 64
      · rw [if_pos ⟨h1, h2⟩, pad64_nil, getD_rep]
      · rw [if_neg (by omega)]
        have := h.b k hk
        unfold fb at this
        rw [this, getD_big _ _ _ (by rw [hs]; omega)]
    · rw [if_neg h1, if_neg (by omega)]
      exact h.b k hk
  unfold cutC
  by_cases h64 : n % 64 = 0
  · rw [if_pos h64]
    refine ⟨fun k hk => ?_, hDe⟩
    rw [hDb k hk]
    by_cases h1 : k < n
    · rw [if_pos h1, if_neg (by omega)]
    · rw [if_neg h1, if_pos (by omega)]
  · rw [if_neg h64]
    have hp := pad64_len (vget es (cutD cs bi n w.size) (bnm bi ((n / 64 : Nat) : Int))).1
    by_cases hv : (vget es (cutD cs bi n w.size) (bnm bi ((n / 64 : Nat) : Int))).2 = true
    · rw [if_pos hv]
      refine ⟨fun k hk => ?_, fun j hj => ?_⟩
      · by_cases hkb : k / 64 = n / 64
        · have hl := clrB_len (Lb := pad64 (vget es (cutD cs bi n w.size) (bnm bi ((n / 64 : Nat) : Int))).1) (lo := n % 64) (by omega)
          unfold fb
          rw [hkb, vg_eq rfl (chk_bnm hb (by omega)), pad64_full (by show (List.toArray _).size = 64; rw [List.size_toArray, hl, hp])]
          show (clrB (pad64 (vget es (cutD cs bi n w.size) (bnm bi ((n / 64 : Nat) : Int))).1) (n % 64)).getD (k % 64) 0 = _
          have hb2 := hDb k hk
          unfold fb at hb2
          rw [hkb, if_neg (by omega)] at hb2
          rw [clrB, getD_app, List.length_take, hp]
          by_cases h1 : k < n
          · rw [if_pos h1, if_pos (by omega), getD_take _ _ _ _ (by omega), hb2]
          · rw [if_neg h1, if_neg (by omega), getD_rep]
        · have e1 : fb es (cutD cs bi n w.size ++ [⟨bnm bi ((n / 64 : Nat) : Int), ⟨(clrB (pad64 (vget es (cutD cs bi n w.size) (bnm bi ((n / 64 : Nat) : Int))).1) (n % 64)).toArray⟩, false⟩]) bi k = fb es (cutD cs bi n w.size) bi k := by
            unfold fb
            rw [vg_ne (fun e => hkb (bnm_inj e).symm)]
          rw [e1, hDb k hk]
          by_cases h1 : k < n
          · rw [if_pos h1, if_neg (by omega)]
          · rw [if_neg h1, if_pos (by omega)]
      · by_cases hjn : bnm bi ((n / 64 : Nat) : Int) = bnm bi (j : Int)
        · rw [vg_eq hjn (chk_bnm hb (by omega))]
          intro h; cases h
        · rw [vg_ne hjn]; exact hDe j hj
    · rw [if_neg hv]
      refine ⟨fun k hk => ?_, hDe⟩
      rw [hDb k hk]
      by_cases h1 : k < n
      · rw [if_pos h1, if_neg (by omega)]
      · rw [if_neg h1]
        by_cases hkb : k / 64 = n / 64
        · rw [if_neg (by omega)]
          have hb2 := hDb k hk
          unfold fb at hb2
          rw [hkb, if_neg (by omega), hDe (n / 64) (by omega) (by simpa using hv), pad64_nil, getD_rep] at hb2
          exact hb2.symm
        · rw [if_pos (by omega)]
/-- Resize, seen by the file. -/
theorem FOK.resize (h : FOK es cs bi w) (hb : bchk bi = 0) {n : Nat} {w' : ByteArray} (hn : n ≤ 4096) (hsz : w'.size = n) (hg : ∀ k, k < 4096 → w'.data.toList.getD k 0 = if k < n then w.data.toList.getD k 0 else 0) : FOK es (rszC es cs bi n w.size) bi w' := by
  obtain ⟨nd, h1, h2, h3, h4⟩ := h.nd
  have hle := h.le
  have hs : w.data.toList.length = w.size := by simp
  obtain ⟨_, hif⟩ := ifile_last hb h4 h1 h2
  unfold rszC
  rw [hif]
  have hck := ichk_size h1 (by omega) (by omega) (z := (n : Int)) (by omega)
  have hbn : ∀ (cs' : List Ch) (c : ByteArray) (j : Nat), vget es (cs' ++ [⟨nnm bi, c, false⟩]) (bnm bi (j : Int)) = vget es cs' (bnm bi (j : Int)) := fun cs' c j => vg_ne nnm_bnm
  have hfb : ∀ (cs' : List Ch) (c : ByteArray) (k : Nat), fb es (cs' ++ [⟨nnm bi, c, false⟩]) bi k = fb es cs' bi k := fun cs' c k => by unfold fb; rw [hbn]
  rcases Nat.lt_trichotomy n w.size with hlt | heq | hgt
  · rw [if_neg (by omega), if_pos hlt]
    obtain ⟨c1, c2⟩ := h.cut hb hlt
    refine ⟨⟨{ nd with sz := (n : Int) }, hck, h2, by show (n : Int) = _; rw [hsz], vget_last (chk_nnm hb)⟩, by omega, fun k hk => ?_, fun j hj => ?_⟩
    · rw [hfb, c1 k hk, hg k hk]
    · rw [hbn]; exact c2 j hj
  · rw [if_pos heq]
    refine ⟨⟨nd, h1, h2, by rw [h3, hsz, heq], h4⟩, by omega, fun k hk => ?_, h.e⟩
    rw [h.b k hk, hg k hk]
    split
    · rfl
    · rw [getD_big _ _ _ (by rw [hs]; omega)]
  · rw [if_neg (by omega), if_neg (by omega)]
    refine ⟨⟨{ nd with sz := (n : Int) }, hck, h2, by show (n : Int) = _; rw [hsz], vget_last (chk_nnm hb)⟩, by omega, fun k hk => ?_, fun j hj => ?_⟩
    · rw [hfb, h.b k hk, hg k hk]
      split
      · rfl
      · rw [getD_big _ _ _ (by rw [hs]; omega)]
    · rw [hbn]; exact h.e j hj
end
end Go.Proofs.YtgciahedpaencaaGreatDoor

set_option maxRecDepth 10000
namespace Go.Proofs.YtgciahedpaencaaGreatDoor
open Go.RowKit

def mk2 : ByteArray := ⟨#[50, 46, 51]⟩
def mk3 : ByteArray := ⟨#[]⟩
/-- The makers of the model. -/
def mk27 (k : Nat) : ByteArray := if k = 0 then o1 else if k = 1 then mk2 else mk3
theorem mk27_valid (k : Nat) : lvalid (mk27 k).data.toList = true := by
  unfold mk27
  split
  · exact o1_valid
  · split
    · have h := (prts_step [50, 46, 51] 0 0 (by simp)).2.2.2
      rw [show ffirst (([50, 46, 51] : List UInt8).drop 0) 0 0 = (⟨2, 0, 0⟩, 1) from rfl] at h
      have h2 := (prts_step [50, 46, 51] 2 1 (by simp)).2.2.2
      rw [show ffirst (([50, 46, 51] : List UInt8).drop 2) 2 1 = (⟨3, 2, 0⟩, 3) from rfl] at h2
      simp at h h2
      simp [mk2, lvalid, lparts, h, h2]
    · simp [mk3, lvalid, lparts]
theorem mk27_size (k : Nat) : (mk27 k).size ≤ 3 := by
  unfold mk27
  split
  · decide
  · split <;> decide
theorem mk27_inj {j k : Nat} (hj : j < 3) (hk : k < 3) (h : mk27 j = mk27 k) : j = k := by
  have h12 : o1 ≠ mk2 := by decide
  have h13 : o1 ≠ mk3 := by decide
  have h23 : mk2 ≠ mk3 := by decide
  have e0 : mk27 0 = o1 := rfl
  have e1 : mk27 1 = mk2 := rfl
  have e2 : mk27 2 = mk3 := rfl
  match j, k, hj, hk with
  | 0, 0, _, _ => rfl
  | 0, 1, _, _ => exact absurd h h12
  | 0, 2, _, _ => exact absurd h h13
  | 1, 0, _, _ => exact absurd h.symm h12
  | 1, 1, _, _ => rfl
  | 1, 2, _, _ => exact absurd h h23
  | 2, 0, _, _ => exact absurd h.symm h13
  | 2, 1, _, _ => exact absurd h.symm h23
  | 2, 2, _, _ => rfl

def ndF : Ino := ⟨1, 0, 0, 0, 0, 0, ⟨#[]⟩⟩
theorem ndF_chk : ichk ndF = 0 := by
  have h1 : isE ⟨#[]⟩ = true := by simp [isE]
  unfold ichk ifit ndF
  dsimp only
  rw [if_neg (by omega), if_neg (by omega), if_neg (by simp [h1]), if_pos (by decide)]

/-- The counts of the three, and the births that were seen. -/
structure BI (i : Nat) (cs : List Ch) (ns : List Int) (m : List (Bi × Bool)) : Prop where
  len : ns.length = 3
  cl : cs.length ≤ 2 * i
  g : ∀ (k : Nat) (z : Int), ns[k]? = some z → 0 ≤ z ∧ z ≤ (i : Int) ∧ vget [] cs (cnm (mk27 k)) = if z = 0 then (⟨#[]⟩, false) else (cvs ⟨z, 0, 0⟩, true)
  s : ∀ (b : Bi) (u : Bool), mget b m = some u → ∃ (k : Nat) (z : Int), ns[k]? = some z ∧ b.mkr = mk27 k ∧ b.nu < z
theorem BI.init : BI 0 [] [0, 0, 0] [] := by
  refine ⟨rfl, by simp, fun k z h => ?_, fun b u h => by cases h⟩
  have hz : z = 0 := by
    match k, h with
    | 0, h => exact (Option.some.inj h).symm
    | 1, h => exact (Option.some.inj h).symm
    | 2, h => exact (Option.some.inj h).symm
    | k + 3, h => cases h
  subst hz
  refine ⟨by omega, by omega, ?_⟩
  rw [if_pos rfl, vget_nil]
variable {i : Nat} {cs : List Ch} {ns : List Int} {m : List (Bi × Bool)} {k : Nat} {z : Int}
theorem ct_ok {z : Int} (h0 : 0 ≤ z) (h1 : z ≤ 1048576) : CtOK ⟨z, 0, 0⟩ := ⟨h0, h1, Int.le_refl 0, by show (0 : Int) ≤ 1048576; decide, Int.le_refl 0, by show (0 : Int) ≤ 1048576; decide⟩
theorem BI.made (h : BI i cs ns m) (hi : i ≤ 1000) (hk : ns[k]? = some z) : (vget [] cs (cnm (mk27 k))).1.size ≤ 1099511627776 ∧ madeE [] cs (mk27 k) = (⟨z, 0, 0⟩, 0) := by
  obtain ⟨h1, h2, h3⟩ := h.g k z hk
  have hc := ct_ok h1 (by omega)
  rw [madeE, if_pos (mk27_valid k), h3]
  by_cases h0 : z = 0
  · subst h0
    rw [if_pos rfl]
    exact ⟨Nat.zero_le _, rfl⟩
  · rw [if_neg h0]
    refine ⟨Nat.le_trans (cvs_size hc) (by omega), ?_⟩
    simp only [if_true, enc_cdec hc]
    rfl
theorem BI.step {nd : Ino} (hnd : ichk nd = 0) (hns : nd.sz = 0) (h : BI i cs ns m) (hi : i ≤ 1000) (hk : ns[k]? = some z) : mkE [] cs (mk27 k) nd = (⟨mk27 k, z⟩, 0) ∧ mkC [] cs (mk27 k) nd = cs ++ [⟨cnm (mk27 k), cvs ⟨z + 1, 0, 0⟩, false⟩] ++ [⟨nnm ⟨mk27 k, z⟩, iencS nd, false⟩] := by
  obtain ⟨h1, h2, h3⟩ := h.g k z hk
  have hm := (h.made hi hk).2
  have hn : nbE [] cs (mk27 k) = (⟨mk27 k, z⟩, 0) := by
    unfold nbE
    rw [hm, if_neg (by simp), if_neg (by dsimp only; omega)]
  have he : mkE [] cs (mk27 k) nd = (⟨mk27 k, z⟩, 0) := by rw [mkE, if_neg (by simp [hnd]), if_neg (by simp [hns]), hn]
  refine ⟨he, ?_⟩
  rw [mkC, he, if_pos rfl, nbC, hn, if_pos rfl, hm]
theorem BI.fresh (h : BI i cs ns m) (hk : ns[k]? = some z) (hk3 : k < 3) : mget ⟨mk27 k, z⟩ m = none := by
  cases hg : mget (⟨mk27 k, z⟩ : Bi) m with
  | none => rfl
  | some u =>
    obtain ⟨j, y, hj, h1, h2⟩ := h.s _ _ hg
    have hj3 : j < 3 := by rw [← h.len]; exact (List.getElem?_eq_some_iff.1 hj).1
    obtain rfl := mk27_inj hk3 hj3 h1
    obtain rfl := Option.some.inj (hk.symm.trans hj)
    exact absurd h2 (Int.lt_irrefl _)
theorem BI.next {nd : Ino} (hnd : ichk nd = 0) (hns : nd.sz = 0) (h : BI i cs ns m) (hi : i ≤ 1000) (hk : ns[k]? = some z) (hk3 : k < 3) (u : Bool) : BI (i + 1) (mkC [] cs (mk27 k) nd) (ns.set k (z + 1)) (mset ⟨mk27 k, z⟩ u m) := by
  obtain ⟨h1, h2, h3⟩ := h.g k z hk
  have hkl : k < ns.length := by rw [h.len]; exact hk3
  refine ⟨by simp [h.len], ?_, fun j y hj => ?_, fun b v hb => ?_⟩
  · rw [(BI.step hnd hns h hi hk).2]
    have := h.cl
    simp; omega
  · rw [(BI.step hnd hns h hi hk).2]
    have hj3 : j < 3 := by
      have := (List.getElem?_eq_some_iff.1 hj).1
      rw [List.length_set, h.len] at this; exact this
    have hne : nnm ⟨mk27 k, z⟩ ≠ cnm (mk27 j) := by simp [nnm, cnm]
    have hv : vget [] (cs ++ [⟨cnm (mk27 k), cvs ⟨z + 1, 0, 0⟩, false⟩] ++ [⟨nnm ⟨mk27 k, z⟩, iencS nd, false⟩]) (cnm (mk27 j)) = vget [] (cs ++ [⟨cnm (mk27 k), cvs ⟨z + 1, 0, 0⟩, false⟩]) (cnm (mk27 j)) := by
      unfold vget
      rw [vcall_snoc, if_neg hne]
    rw [hv]
    by_cases hjk : k = j
    · subst hjk
      rw [List.getElem?_set_self hkl] at hj
      obtain rfl := Option.some.inj hj
      refine ⟨by omega, by omega, ?_⟩
      rw [vget_last (chk_cnm (mk27_valid k)), if_neg (by omega)]
    · rw [List.getElem?_set_ne hjk] at hj
      obtain ⟨g1, g2, g3⟩ := h.g j y hj
      refine ⟨g1, by omega, ?_⟩
      rw [← g3]
      have hne2 : cnm (mk27 k) ≠ cnm (mk27 j) := fun e => hjk (mk27_inj hk3 hj3 (by simpa [cnm] using e))
      unfold vget
      rw [vcall_snoc, if_neg hne2]
  · rw [mget_setv] at hb
    split at hb
    · rename_i e
      subst e
      exact ⟨k, z + 1, List.getElem?_set_self hkl, rfl, by show z < z + 1; omega⟩
    · obtain ⟨j, y, hj, g1, g2⟩ := h.s b v hb
      by_cases hjk : k = j
      · subst hjk
        obtain rfl := Option.some.inj (hk.symm.trans hj)
        exact ⟨k, z + 1, List.getElem?_set_self hkl, g1, by omega⟩
      · exact ⟨j, y, by rw [List.getElem?_set_ne hjk]; exact hj, g1, g2⟩
end Go.Proofs.YtgciahedpaencaaGreatDoor

set_option maxRecDepth 10000
namespace Go.Proofs.YtgciahedpaencaaGreatDoor
open Go.RowKit

section
variable {n : Nat} {C : Cx} {Q : Exit → Act → World → Prop} {E E' : List (Nat × Value)} {F F' F1 Fs F0 : List Pf} {R R' R0 Rs N N' A : List HP} {k k' : List Fr} {ops l : List Oper} {L L' : List (Nat × Nat)} {Tl : List Nat}
  {i d : Nat} {t ty0 : TypeId} {x y z : Operand} {pos : String} {aft : Array Edge} {gd : Option (Nat × Bool)} {α β : Type} [DecidableEq α] {K : α → Value} {V : β → Value}
/-- An element of a map that stays is looked up. -/
theorem r_mgetF {kt et r : Nat} {rs te : TRow} {m : List (α × β)} {zv : Value} (hk : KeyOK kt K) (a : α) (o : Option β) (ho : mget a m = o) (nx : Wr n C ops k Q Tl Fs R L ((d, (o.map V).getD zv) :: E) F N)
    (hop : nth ops i = some ⟨some d, .lookup t x y false, ty0, pos, aft, gd⟩ := by rfl) (hw : wantL ops E ⟨some d, .lookup t x y false, ty0, pos, aft, gd⟩ = some true := by rfl)
    (hx : ev E x = some (.map (some r)) := by rfl) (hy : ev E y = some (K a) := by rfl) (hts : lookT tab t = some rs := by rfl) (hrs : rs.k = .map kt et := by rfl) (hte : lookT tab et = some te := by rfl) (hzv : zval te = some zv := by rfl)
    (hs : Sel (Mp K V r m) R R0 := by (repeat (first | exact Sel.here | apply Sel.there)); first | done | fail) : Wr n C ops k Q Tl Fs R ((i, 0) :: L) E F N :=
  wr_go hop fun hp hr w st hz sb => by
    simp only [wantL_ok hw]
    refine ⟨(o.map V).getD zv, fun ac w ha hin => ?_, nx hp hr w st hz sb⟩
    obtain ⟨h1, h2, _, s1, _, hmp, _⟩ := hs.sep st.r
    obtain ⟨es, clock, hes, he, hB⟩ := hmp
    have hb : w.heap[r]? = some (.map es clock) := hin _ _ (sb _ _ (sub_un_left _ _ _ _ (s1 _ _ hes)))
    have hu := run_undM (w := w) hts hrs
    have hg : (getObj r).run Tryz.prog w = .ok (.map es clock) w := by simp [getObj, Sem.run, hb]
    have hc := hk.chk a es.isEmpty w
    have hf := findKey_ok hk a es.toList m w he
    have hz0 := zval_ok hte hzv w
    have hfg := mfind_get a m 0
    simp only [execOp, ha.ev (x := x) (by rw [evf_look]; exact hx), ha.ev (x := y) (by rw [evf_look]; exact hy), Instr.lookup, Sem.run_bind, hu, Result.andThen, hg, hc, hf, Sem.run_pure]
    cases hm : mfind a m 0 with
    | none =>
      rw [hm] at hfg
      simp only [Option.map_none, Sem.run_bind, hz0, Result.andThen, Sem.run_pure, Bool.false_eq_true, if_false]
      rw [← ho, ← hfg]; rfl
    | some q =>
      rw [hm] at hfg
      simp only [Option.map_some, Bool.false_eq_true, if_false]
      rw [← ho, ← hfg]; rfl
end
theorem eqBi2 (a b : Bi) : eqC eqS 20 31 a.v b.v = some (decide (a = b)) := by
  rw [show eqC eqS 20 31 a.v b.v = some ((a.mkr.toList == b.mkr.toList) && ((a.nu == b.nu) && true)) from rfl]
  congr 1
  obtain ⟨a1, a2⟩ := a
  obtain ⟨b1, b2⟩ := b
  simp only [beqSw, beqIw, Bi.mk.injEq]
  rw [Bool.eq_iff_iff]; simp
theorem key_bi : KeyOK 31 Bi.v where
  eq a b w := equal_ok (t := 31) (x := Bi.v a) (y := Bi.v b) (eqBi2 a b) w
  chk a em w := ckC_ok eqS_ok em 20 10000 _ _ w (by omega) rfl
  bits a := by simp [Bi.v, Instr.sameBits, beq_toListBytes]
  now := ⟨_, rfl, fun a b => .inl rfl⟩
def blv (u : Bool) : Value := .bool u
def svf (s : ByteArray) : List Value := [.string s]
theorem makers27_ok : Enters 12 ∧ Spec Tryz.prog 12 #[] [] []
    ⟨Nat, fun b => .slice (some ⟨b, 0, none⟩) 3 3, fun _ => True, fun _ => [], fun b => [Ax 29 svf b [o1, mk2, mk3] ([], (0, 0))]⟩ := by
  refine ⟨enters_of Tryz.func12 (by kernel_rfl) rfl, spec_of (vs := []) Tryz.func12 rfl Tryz.ntmps12 rfl fun G w hp => ?_⟩
  repeat' (first | refine l_run ?_ | refine l_nil ?_ | refine l_one ?_ | refine k_reg ?_ | refine l_ld ?_ | refine l_ldF ?_ | refine l_st ?_ | refine l_al (fun b => ?_) | refine l_bs (fun b => ?_) | refine k_condT ?_ | refine k_condF ?_ | refine k_brk ?_ | (refine l_split (fun hc => ?_) (fun hc => ?_) <;> (try simp at hc)) | (refine k_cond (fun hc => ?_) (fun hc => ?_) <;> (try simp at hc)))
  exact k_ret b rfl trivial
theorem makers_get {j : Nat} (h : j < 3) : ([o1, mk2, mk3] : List ByteArray)[j]? = some (mk27 j) := by
  match j, h with
  | 0, _ => rfl
  | 1, _ => rfl
  | 2, _ => rfl

set_option maxHeartbeats 4000000 in
theorem lawIBirths_ok (o : Option Addr) (cap : Nat) (es : List UInt8) (hl : es.length ≤ 1099511627776) : Enters 3 ∧ Spec Tryz.prog 3 #[.slice o es.length cap] [Sl 5 bf o cap es, Usg] [] (RetV (.bool true)) := by
  refine ⟨enters_of Tryz.func3 (by kernel_rfl) rfl, spec_of (vs := [_]) Tryz.func3 rfl Tryz.ntmps3 rfl fun G w hp => ?_⟩
  repeat' (first | refine l_run ?_ | refine l_nil ?_ | refine l_one ?_ | refine k_reg ?_ | refine l_ld ?_ | refine l_ldF ?_ | refine l_st ?_ | refine l_al (fun b => ?_) | refine l_bs (fun b => ?_) | refine k_condT ?_ | refine k_condF ?_ | refine k_brk ?_ | refine r_run ?_ | refine r_one ?_ | refine r_ld ?_ | refine r_ldF ?_ | refine r_ldN ?_ | refine r_al (fun b => ?_) | refine r_bs (fun b => ?_) | refine r_st ?_ | refine r_end ?_ | refine l_call (stateNew_ok) (fun _ _ => ?_) | refine l_call0 (stateNew_ok) (fun _ _ => ?_) | refine r_call (stateNew_ok) (fun _ _ => ?_) | refine l_call (viewNew_ok _) (fun _ _ => ?_) | refine l_call0 (viewNew_ok _) (fun _ _ => ?_) | refine r_call (viewNew_ok _) (fun _ _ => ?_) | refine l_mkm (K := Bi.v) (kt := 31) (et := 4) key_bi blv (fun r => ?_) | (refine l_split (fun hc => ?_) (fun hc => ?_) <;> (try simp at hc)) | (refine r_split (fun hc => ?_) (fun hc => ?_) <;> (try simp at hc)) | refine k_draw 9 [] [(0, 0), (1, 0), (2, 0), (3, 0), (5, 0), (8, 0), (9, 0), (10, 0), (11, 0), (4, 4), (6, 0), (7, 0), (12, 0), (13, 0), (14, 0), (15, 0), (16, 0), (17, 0), (18, 4), (19, 0)] [] ?_ | (refine k_cond (fun hc => ?_) (fun hc => ?_) <;> (try simp at hc)))
  rename_i s0 _ v0 _
  refine k_lp (X := { q : Nat × List Ch × List (Nm × Ch) × List Int × List (Bi × Bool) // (q.1 ≤ 30 ∧ q.1 ≤ es.length) ∧ BI q.1 q.2.1 q.2.2.2.1 q.2.2.2.2 }) (fun q => [(0, .slice o es.length cap), (3, .pointer (some ⟨v0, 0, none⟩)), (4, .slice (some ⟨b, 0, none⟩) 3 3), (5, .map (some r)), (6, .int .i64 (q.1.1 : Int))]) (fun _ => [Sl 5 bf o cap es, St (some ⟨s0, 0, none⟩) [], Usg]) (fun q => [Vw v0 (some ⟨s0, 0, none⟩) q.1.2.2.1 q.1.2.1, Ax 3 zf b q.1.2.2.2.1 ([], (0, 0)), Mp Bi.v blv r q.1.2.2.2.2]) (fun q => 31 - q.1.1) ⟨(0, [], [], [0, 0, 0], []), ⟨by omega, by omega⟩, BI.init⟩ ⟨rfl, rfl, rfl, rfl, rfl, trivial⟩ ?_
  rintro ⟨⟨i, cs, rs, ns, m⟩, ⟨hi1, hi2⟩, hB⟩
  dsimp only at hi1 hi2 hB ⊢
  by_cases hlt : i < es.length ∧ i < 30
  · obtain ⟨c, hgt⟩ : ∃ c, es[i]? = some c := ⟨_, List.getElem?_eq_getElem hlt.1⟩
    have hk3 : c.toNat % 3 < 3 := Nat.mod_lt _ (by decide)
    have hch : (c.toNat : Int).tmod 3 = ((c.toNat % 3 : Nat) : Int) := by rw [Int.tmod_eq_emod_of_nonneg (Int.natCast_nonneg _)]; exact (Int.natCast_emod c.toNat 3).symm
    obtain ⟨z, hz⟩ : ∃ z, ns[c.toNat % 3]? = some z := ⟨_, List.getElem?_eq_getElem (by rw [hB.len]; exact hk3)⟩
    generalize c.toNat % 3 = k at *
    have w1 : IntKind.i64.wrap (k : Int) = (k : Int) := wrapi (by omega) (by omega)
    obtain ⟨g1, g2⟩ := hB.made (by omega) hz
    obtain ⟨e1, e2⟩ := BI.step ndF_chk rfl hB (by omega) hz
    have hg := hB.g k z hz
    have w2 : IntKind.i64.wrap (z + 1) = z + 1 := wrapi (by omega) (by omega)
    have n2 := make_ok v0 (some ⟨s0, 0, none⟩) [] rs cs (mk27 k) ndF (by have := mk27_size k; omega) g1 (by have := hB.cl; omega)
    rw [e1] at n2
    have hfr := hB.fresh hz hk3
    have hnx := BI.next ndF_chk rfl hB (by omega) hz hk3 true
    generalize mkC [] cs (mk27 k) ndF = cs2 at *
    generalize mkR [] rs cs (mk27 k) ndF = rs2 at *
    repeat' (first | refine r_sneq (b := true) ?_ (he := eqBi ⟨mk27 k, z⟩) | refine l_run ?_ | refine l_nil ?_ | refine l_one ?_ | refine k_reg ?_ | refine l_ld ?_ | refine l_ldF ?_ | refine l_st ?_ | refine l_al (fun b => ?_) | refine l_bs (fun b => ?_) | refine k_condT ?_ | refine k_condF ?_ | refine r_run ?_ | refine r_one ?_ | refine r_ld ?_ | refine r_ldF ?_ | refine r_ldN ?_ | refine r_al (fun b => ?_) | refine r_bs (fun b => ?_) | refine r_st ?_ | refine r_end ?_ | refine l_call (makers27_ok) (fun _ _ => ?_) | refine l_call0 (makers27_ok) (fun _ _ => ?_) | refine r_call (makers27_ok) (fun _ _ => ?_) | refine l_call (n2) (fun _ _ => ?_) | refine l_call0 (n2) (fun _ _ => ?_) | refine r_call (n2) (fun _ _ => ?_) | rw [hch] | rw [w1] | rw [w2] | refine l_ixe i c hgt (fun b off => ?_) | refine l_ldC ?_ | refine l_ixS (m := 3) k hk3 ?_ | refine l_ldE 1 k 0 (makers_get hk3) ?_ | refine l_ldE 1 k 0 hz ?_ | refine l_stE 1 k 0 (z + 1) hz (.inl rfl) ?_ | refine r_ixP (m := 3) k hk3 ?_ | refine r_ldEN 1 k 0 (makers_get hk3) ?_ | refine r_ldE 1 k 0 hz ?_ | refine r_mgetF key_bi ⟨mk27 k, z⟩ none hfr ?_ | refine l_mset key_bi ⟨mk27 k, z⟩ true ?_ | (refine l_split (fun hc => ?_) (fun hc => ?_) <;> (try simp at hc) <;> (try omega)) | (refine r_split (fun hc => ?_) (fun hc => ?_) <;> (try simp at hc) <;> (try omega)) | refine k_draw 9 [] [(0, 0), (1, 0), (2, 0), (3, 0), (5, 0), (8, 0), (9, 0), (10, 0), (11, 0), (4, 4), (6, 0), (7, 3), (12, 0), (13, 0), (14, 0), (15, 0), (16, 0), (17, 0), (18, 0), (19, 0)] [] ?_ | (refine k_cond (fun hc => ?_) (fun hc => ?_) <;> (try simp at hc) <;> (try omega)))
    rw [wrapi (z := (i : Int) + 1) (by omega) (by omega)]
    exact k_next ⟨(i + 1, cs2, rs2, ns.set k (z + 1), mset ⟨mk27 k, z⟩ true m), ⟨by dsimp only; omega, by dsimp only; omega⟩, hnx⟩ (by show 31 - (i + 1) < 31 - i; omega) ⟨rfl, rfl, rfl, rfl, rfl, trivial⟩
  · repeat' (first | refine l_run ?_ | refine l_nil ?_ | refine l_one ?_ | refine k_reg ?_ | refine l_ld ?_ | refine l_ldF ?_ | refine l_st ?_ | refine l_al (fun b => ?_) | refine l_bs (fun b => ?_) | refine k_condT ?_ | refine k_condF ?_ | refine k_brk ?_ | refine r_run ?_ | refine r_one ?_ | refine r_ld ?_ | refine r_ldF ?_ | refine r_ldN ?_ | refine r_al (fun b => ?_) | refine r_bs (fun b => ?_) | refine r_st ?_ | refine r_end ?_ | refine l_call (known27_ok) (fun _ _ => ?_) | refine l_call0 (known27_ok) (fun _ _ => ?_) | refine r_call (known27_ok) (fun _ _ => ?_) | (refine l_split (fun hc => ?_) (fun hc => ?_) <;> (try simp at hc) <;> (try omega)) | (refine r_split (fun hc => ?_) (fun hc => ?_) <;> (try simp at hc) <;> (try omega)) | refine k_draw 9 [] [(0, 0), (1, 0), (2, 0), (3, 0), (5, 0), (8, 0), (9, 0), (10, 0), (11, 0), (4, 4), (6, 0), (7, 0), (12, 0), (13, 0), (14, 0), (15, 0), (16, 0), (17, 0), (18, 4), (19, 0)] [] ?_ | (refine k_cond (fun hc => ?_) (fun hc => ?_) <;> (try simp at hc) <;> (try omega)))
    all_goals exact k_ret () rfl trivial
end Go.Proofs.YtgciahedpaencaaGreatDoor

set_option maxRecDepth 10000
namespace Go.Proofs.YtgciahedpaencaaGreatDoor
open Go.RowKit

section
variable {n : Nat} {C : Cx} {Q : Exit → Act → World → Prop} {E E' : List (Nat × Value)} {F F' F1 Fs F0 : List Pf} {R R' R0 Rs N N' A : List HP} {k k' : List Fr} {ops l : List Oper} {L L' : List (Nat × Nat)} {Tl : List Nat}
  {i d : Nat} {t ty0 : TypeId} {x y z : Operand} {pos : String} {aft : Array Edge} {gd : Option (Nat × Bool)} {α β : Type} [DecidableEq α] {K : α → Value} {V : β → Value}
/-- A new map, in a region. -/
theorem r_mkm {kt et : Nat} {rs : TRow} (_hk : KeyOK kt K) (V : β → Value) (nx : ∀ r, Wr n C ops k Q Tl Fs R L ((d, .map (some r)) :: E) F (Mp K V r [] :: N)) (ho : nth ops i = some ⟨some d, .makeMap t none, ty0, pos, aft, gd⟩ := by rfl) (hw : wantL ops E ⟨some d, .makeMap t none, ty0, pos, aft, gd⟩ = some true := by rfl) (_hts : lookT tab t = some rs := by rfl) (_hrs : rs.k = .map kt et := by rfl) :
    Wr n C ops k Q Tl Fs R ((i, 4) :: L) E F N :=
  wr_go ho fun hp hr w st hz sb => by
    simp only [wantL_ok hw]
    refine ⟨⟨Nat, fun r => .map (some r), fun _ => True, fun _ => F, fun r => Mp K V r [] :: N⟩, fun a G w hp' ha hsub hsat => ?_, fun r _ => nx r hp hr w st hz sb⟩
    have h1 := hsat.alloc (.map #[] 0)
    exact ⟨w.heap.size, rfl, trivial, mp_shut (K := K) (V := V) (m := []) h1 rfl ⟨by simp, by simp⟩⟩
theorem l_mgetQ {kt et r : Nat} {rs te : TRow} {m : List (α × β)} {zv : Value} (hk : KeyOK kt K) (a : α) (o : Option β) (ho : mget a m = o) (nx : Wl n C ops.toArray k Q l ((d, (o.map V).getD zv) :: E) F R) (hw : wantL ops E ⟨some d, .lookup t x y false, ty0, pos, aft, gd⟩ = some true := by rfl) (hn : Nat.blt d n = true := by rfl)
    (hx : ev E x = some (.map (some r)) := by rfl) (hy : ev E y = some (K a) := by rfl) (hts : lookT tab t = some rs := by rfl) (hrs : rs.k = .map kt et := by rfl) (hte : lookT tab et = some te := by rfl) (hzv : zval te = some zv := by rfl)
    (hs : Sel (Mp K V r m) R R0 := by (repeat (first | exact Sel.here | apply Sel.there)); first | done | fail) : Wl n C ops.toArray k Q (⟨some d, .lookup t x y false, ty0, pos, aft, gd⟩ :: l) E F R := by
  rw [← ho] at nx
  exact l_mget hk a nx hw hn hx hy hts hrs hte hzv hs
end
def stv1 (s : ByteArray) : Value := .string s
theorem beqBA (a b : ByteArray) : (a == b) = decide (a = b) := by
  have h : (a == b) = (a.toList == b.toList) := by simp [beq_toListBytes]
  rw [h, beqSv]
theorem key_ln : KeyOK 29 stv1 where
  eq a b w := by
    show (Op.equalIn (9999 + 1) _ (.string a) (.string b)).run Tryz.prog w = .ok (decide (a = b)) w
    rw [Op.equalIn]
    simp [run_underlying Tryz.underlying29, beqBA]
  chk a em w := by
    show (Instr.checkKey em (9999 + 1) _ (.string a)).run Tryz.prog w = _
    rw [Instr.checkKey]
    simp [run_underlying Tryz.underlying29]
  bits a := by simp [stv1, Instr.sameBits, beqBA]
  now := ⟨_, Tryz.underlying29, fun a b => by simp [stv1, Instr.sameNow, beqBA]⟩

theorem beqIq (a b : Int) : (a == b) = decide (a = b) := by rw [Bool.eq_iff_iff]; simp
def ziv (z : Int) : Value := .int .i64 z
theorem key_zi : KeyOK 3 ziv where
  eq a b w := by
    show (Op.equalIn (9999 + 1) _ (.int .i64 a) (.int .i64 b)).run Tryz.prog w = .ok (decide (a = b)) w
    rw [Op.equalIn]
    simp [run_underlying Tryz.underlying3, beqIq]
  chk a em w := by
    show (Instr.checkKey em (9999 + 1) _ (.int .i64 a)).run Tryz.prog w = _
    rw [Instr.checkKey]
    simp [run_underlying Tryz.underlying3]
  bits a := by simp [ziv, Instr.sameBits]
  now := ⟨_, Tryz.underlying3, fun a b => by simp [ziv, Instr.sameNow, beqIq]⟩
def bcf (b : Bi) : List Value := [.string b.mkr, .int .i64 b.nu]
/-- A file of the model. -/
structure Fl where
  nd : Ino
  ct : ByteArray
  mr : Nat
def flf (f : Fl) : List Value := [.int .i64 f.nd.kd, .int .i64 f.nd.ow, .int .i64 f.nd.gr, .int .i64 f.nd.md, .int .i64 f.nd.sz, .int .i64 f.nd.lk, .string f.nd.tg, .string f.ct, .map (some f.mr)]
abbrev MdL (bm : Nat) (ob of : Option Addr) (cb cf rm : Nat) (bs : List Bi) (fs : List Fl) (m : List (ByteArray × Int)) : List HP :=
  [Pt bm (.cells #[.slice ob bs.length cb, .slice of fs.length cf, .map (some rm)] 78), Row 31 2 ob bs.length cb (bs.flatMap bcf), Row 197 9 of fs.length cf (fs.flatMap flf), Mp stv1 ziv rm m]
/-- The model: its births, and how many nodes each process has made. -/
def Mdl (bm : Nat) (bs : List Bi) (m : List (ByteArray × Int)) : HP := fun h => ∃ q : Option Addr × Option Addr × Nat × Nat × Nat × List Fl, q.2.2.2.2.2.length ≤ 1000 + bs.length ∧ Sep (MdL bm q.1 q.2.1 q.2.2.1 q.2.2.2.1 q.2.2.2.2.1 bs q.2.2.2.2.2 m) h

set_option maxHeartbeats 2000000 in
theorem modelMake_ok (bm : Nat) (who : ByteArray) (nd : Ino) (bs : List Bi) (m : List (ByteArray × Int)) (v : Int) (h1 : ichk nd = 0) (h2 : nd.sz = 0) (hv : (mget who m).getD 0 = v) (hv0 : 0 ≤ v) (hv1 : v ≤ 1000000) (hl : bs.length ≤ 1000) :
    Enters 77 ∧ Spec Tryz.prog 77 #[.pointer (some ⟨bm, 0, none⟩), .string who, nd.v] [] [Mdl bm bs m]
      ⟨Unit, fun _ => .tuple #[Bi.v ⟨who, v⟩, .int .i64 0], fun _ => True, fun _ => [], fun _ => [Mdl bm (bs ++ [⟨who, v⟩]) (mset who (v + 1) m)]⟩ := by
  have n1 := check27_ok nd
  rw [h1] at n1
  obtain ⟨a1, a2, a3, a4, a5, a6, a7⟩ := nd
  dsimp only at h2
  subst h2
  simp only [Ino.v] at n1
  have hg : ∀ o, mget who m = o → (o.map ziv).getD (.int .i64 0) = .int .i64 v := fun o ho => by
    rw [ho] at hv
    cases o with
    | none => rw [← hv]; rfl
    | some x => rw [← hv]; rfl
  have hg' := hg _ rfl
  have w1 : IntKind.i64.wrap (v + 1) = v + 1 := wrapi (by omega) (by omega)
  refine ⟨enters_of Tryz.func77 (by kernel_rfl) rfl, spec_of (vs := [_, _, _]) Tryz.func77 rfl Tryz.ntmps77 rfl fun G w hp => ?_⟩
  refine k_open (X := Option Addr × Option Addr × Nat × Nat × Nat × List Fl) (Lx := fun q => MdL bm q.1 q.2.1 q.2.2.1 q.2.2.2.1 q.2.2.2.2.1 bs q.2.2.2.2.2 m) (p := fun q => q.2.2.2.2.2.length ≤ 1000 + bs.length) (r := Mdl bm bs m) .here (fun h hh => hh) (fun q hq => ?_)
  obtain ⟨ob, of, cb, cf, rm, fs⟩ := q
  dsimp only at hq ⊢
  repeat' (first | refine l_run ?_ | refine l_nil ?_ | refine l_one ?_ | refine k_reg ?_ | refine l_ld ?_ | refine l_ldF ?_ | refine l_st ?_ | refine l_al (fun b => ?_) | refine l_bs (fun b => ?_) | refine k_condT ?_ | refine k_condF ?_ | refine k_brk ?_ | refine r_run ?_ | refine r_one ?_ | refine r_ld ?_ | refine r_ldF ?_ | refine r_ldN ?_ | refine r_al (fun b => ?_) | refine r_bs (fun b => ?_) | refine r_st ?_ | refine r_end ?_ | refine l_call (n1) (fun _ _ => ?_) | refine l_call0 (n1) (fun _ _ => ?_) | refine r_call (n1) (fun _ _ => ?_) | refine l_mgetQ key_ln who _ rfl ?_ | rw [hg'] | rw [w1] | refine l_mset (V := ziv) key_ln who (v + 1) ?_ | refine r_app1 (fun o' cap' => ?_) | refine r_mkm (K := ziv) (kt := 3) (et := 4) key_zi blv (fun r => ?_) | (refine l_split (fun hc => ?_) (fun hc => ?_) <;> (try simp at hc) <;> (try omega)) | (refine r_split (fun hc => ?_) (fun hc => ?_) <;> (try simp at hc) <;> (try omega)) | refine k_draw 8 [Row 31 _ _ _ _ _] [(0, 0), (1, 0), (2, 0), (3, 0), (4, 0), (5, 0), (6, 1), (7, 4), (8, 0), (9, 0)] [10] ?_ | refine k_draw 9 [Row 197 _ _ _ _ _] [(0, 0), (1, 0), (2, 0), (3, 0), (4, 0), (5, 0), (6, 4), (7, 0), (8, 1), (9, 4), (10, 0), (11, 0)] [12] ?_ | (refine k_cond (fun hc => ?_) (fun hc => ?_) <;> (try simp at hc) <;> (try omega)))
  rename_i o1 c1
  refine k_shut (r := Mdl bm (bs ++ [⟨who, v⟩]) (mset who (v + 1) m)) (Lx := [Pt bm (.cells #[.slice o1 (bs.length + 1) c1, .slice o' (fs.length + 1) cap', .map (some rm)] 78), Row 31 2 o1 (bs.length + 1) c1 (bs.flatMap bcf ++ bcf ⟨who, v⟩), Row 197 9 o' (fs.length + 1) cap' (fs.flatMap flf ++ flf ⟨⟨a1, a2, a3, a4, 0, a6, a7⟩, ⟨#[]⟩, r⟩), Mp stv1 ziv rm (mset who (v + 1) m)]) (fun h hh => ⟨(o1, o', c1, cap', rm, fs ++ [⟨⟨a1, a2, a3, a4, 0, a6, a7⟩, ⟨#[]⟩, r⟩]), by simp; omega, by
    show Sep (MdL bm o1 o' c1 cap' rm (bs ++ [⟨who, v⟩]) (fs ++ [⟨⟨a1, a2, a3, a4, 0, a6, a7⟩, ⟨#[]⟩, r⟩]) (mset who (v + 1) m)) h
    simp only [MdL, List.length_append, List.length_singleton, List.flatMap_append, List.flatMap_cons, List.flatMap_nil, List.append_nil]
    exact hh⟩) ?_
  exact k_ret () rfl trivial
end Go.Proofs.YtgciahedpaencaaGreatDoor

set_option maxRecDepth 10000
namespace Go.Proofs.YtgciahedpaencaaGreatDoor
open Go.RowKit

def nds27 : List Ino := [⟨1, 0, 0, 511, 0, 1, ⟨#[]⟩⟩, ⟨1, 5, 0, 0, 0, 0, ⟨#[]⟩⟩, ⟨2, 0, 0, 0, 0, 0, ⟨#[]⟩⟩, ⟨3, 0, 0, 0, 0, 0, ⟨#[97, 47, 98]⟩⟩]
def nd27 (i : Nat) : Ino := nds27.getD i ndF
def bth27 (i : Nat) : Bi := ⟨mk27 (i % 2), ((i / 2 : Nat) : Int)⟩
def bths27 (i : Nat) : List Bi := (List.range i).map bth27
def ns27 (i : Nat) : List Int := [(((i + 1) / 2 : Nat) : Int), ((i / 2 : Nat) : Int), 0]
def cs27 : Nat → List Ch
  | 0 => []
  | i + 1 => cs27 i ++ [⟨cnm (mk27 (i % 2)), cvs ⟨((i / 2 : Nat) : Int) + 1, 0, 0⟩, false⟩] ++ [⟨nnm (bth27 i), iencS (nd27 i), false⟩]
def ms27 : Nat → List (ByteArray × Int)
  | 0 => []
  | i + 1 => mset (mk27 (i % 2)) (((i / 2 : Nat) : Int) + 1) (ms27 i)
theorem nd27_ok {i : Nat} (h : i < 4) : nds27[i]? = some (nd27 i) ∧ ichk (nd27 i) = 0 ∧ (nd27 i).sz = 0 := by
  have h1 : isE ⟨#[]⟩ = true := by simp [isE]
  have h2 : isE ⟨#[97, 47, 98]⟩ = false := by simp [isE, toList_data]
  match i, h with
  | 0, _ => refine ⟨rfl, ?_, rfl⟩; show ichk ⟨1, 0, 0, 511, 0, 1, ⟨#[]⟩⟩ = 0; unfold ichk ifit; dsimp only; rw [if_neg (by omega), if_neg (by omega), if_neg (by simp [h1]), if_pos (by decide)]
  | 1, _ => refine ⟨rfl, ?_, rfl⟩; show ichk ⟨1, 5, 0, 0, 0, 0, ⟨#[]⟩⟩ = 0; unfold ichk ifit; dsimp only; rw [if_neg (by omega), if_neg (by omega), if_neg (by simp [h1]), if_pos (by decide)]
  | 2, _ => refine ⟨rfl, ?_, rfl⟩; show ichk ⟨2, 0, 0, 0, 0, 0, ⟨#[]⟩⟩ = 0; unfold ichk ifit; dsimp only; rw [if_neg (by omega), if_neg (by omega), if_neg (by simp [h1]), if_pos (by decide)]
  | 3, _ =>
    refine ⟨rfl, ?_, rfl⟩
    show ichk ⟨3, 0, 0, 0, 0, 0, ⟨#[97, 47, 98]⟩⟩ = 0
    have h3 : tchk ⟨#[97, 47, 98]⟩ = 0 := by
      unfold tchk
      rw [if_neg (by simp [h2]), if_neg (by decide), if_neg (by simp [badt])]
    unfold ichk ifit
    dsimp only
    rw [if_neg (by omega), if_neg (by omega), if_neg (by simp), if_neg (by decide), h3]
theorem ns27_ok {i : Nat} (h : i < 4) : (ns27 i)[i % 2]? = some ((i / 2 : Nat) : Int) ∧ (ns27 i).set (i % 2) (((i / 2 : Nat) : Int) + 1) = ns27 (i + 1) ∧ (mget (mk27 (i % 2)) (ms27 i)).getD 0 = ((i / 2 : Nat) : Int) := by
  match i, h with
  | 0, _ => exact ⟨rfl, rfl, rfl⟩
  | 1, _ => exact ⟨rfl, rfl, by decide +kernel⟩
  | 2, _ => exact ⟨rfl, rfl, by decide +kernel⟩
  | 3, _ => exact ⟨rfl, rfl, by decide +kernel⟩
theorem bi27 : ∀ i, i ≤ 4 → BI i (cs27 i) (ns27 i) []
  | 0, _ => BI.init
  | i + 1, h => by
    have ih := bi27 i (by omega)
    obtain ⟨n1, n2, _⟩ := ns27_ok (i := i) (by omega)
    obtain ⟨d1, d2, d3⟩ := nd27_ok (i := i) (by omega)
    have hn := BI.next d2 d3 ih (by omega) n1 (by omega) true
    rw [n2, (BI.step d2 d3 ih (by omega) n1).2] at hn
    exact ⟨hn.len, hn.cl, hn.g, fun b u hb => by cases hb⟩
theorem cs27_len : (lastL (cs27 4)).length ≤ 12 := Nat.le_trans (lastL_len _) (by simp [cs27])
theorem bth27_chk (i : Nat) (h : i ≤ 4) : bchk (bth27 i) = 0 := by
  unfold bchk bth27
  rw [if_neg (by simp [mk27_valid]), if_pos (by dsimp only; omega)]
theorem cs27_fit : ∀ i, i ≤ 4 → ∀ c ∈ cs27 i, FitC c
  | 0, _, c, hc => by cases hc
  | i + 1, h, c, hc => by
    have hs := mk27_size (i % 2)
    have h1 := cvs_size (ct_ok (z := ((i / 2 : Nat) : Int) + 1) (by omega) (by omega))
    have h2 := iencS_size (nd27 i)
    simp only [cs27, List.mem_append, List.mem_singleton] at hc
    rcases hc with (hc | rfl) | rfl
    · exact cs27_fit i (by omega) c hc
    · exact fit_mk (chk_cnm (mk27_valid _)) (by dsimp only; omega) rfl (by show (mk27 (i % 2)).size ≤ _; omega) (Nat.zero_le _)
    · exact fit_mk (chk_nnm (bth27_chk i (by omega))) (by dsimp only; omega) rfl (by show (mk27 (i % 2)).size ≤ _; omega) (Nat.zero_le _)
/-- The state. -/
def es27 : Al := applyE [] (vwr (cs27 4))
theorem vcall27_n {i : Nat} (h : i < 4) : vcall (cs27 4) (nnm (bth27 i)) = some ⟨nnm (bth27 i), iencS (nd27 i), false⟩ := by
  have hc : ∀ (a b : Bi), nnm a = nnm b ↔ a = b := fun a b => ⟨fun h => by obtain ⟨a1, a2⟩ := a; obtain ⟨b1, b2⟩ := b; simp [nnm] at h; simp [h], fun h => by rw [h]⟩
  have hk : ∀ (w : ByteArray) (b : Bi), ¬ cnm w = nnm b := fun w b => by simp [cnm, nnm]
  simp only [cs27, vcall_snoc, hc, hk, if_false]
  match i, h with
  | 0, _ => rw [if_neg (by decide), if_neg (by decide), if_neg (by decide), if_pos rfl]
  | 1, _ => rw [if_neg (by decide), if_neg (by decide), if_pos rfl]
  | 2, _ => rw [if_neg (by decide), if_pos rfl]
  | 3, _ => rw [if_pos rfl]
theorem vcall27_b (b : Bi) (k : Int) : vcall (cs27 4) (bnm b k) = none := by
  have h1 : ∀ a, ¬ nnm a = bnm b k := fun a => by simp [bnm, nnm]
  have h2 : ∀ w, ¬ cnm w = bnm b k := fun w => by simp [bnm, cnm]
  simp only [cs27, vcall_snoc, h1, h2, if_false]
  rfl
theorem es27_n {i : Nat} (h : i < 4) : vget es27 [] (nnm (bth27 i)) = (iencS (nd27 i), true) := by
  have h1 : getO (nnm (bth27 i)) es27 = some (iencS (nd27 i)) := by rw [es27, getO_after, vcall27_n h]
  unfold vget
  rw [if_neg (by simp [chk_nnm (bth27_chk i (by omega))])]
  show ((getO (nnm (bth27 i)) es27).getD ⟨#[]⟩, (getO (nnm (bth27 i)) es27).isSome) = _
  rw [h1]; rfl
theorem es27_b (b : Bi) (k : Int) : vget es27 [] (bnm b k) = (⟨#[]⟩, false) := by
  have h1 : getO (bnm b k) es27 = none := by rw [es27, getO_after, vcall27_b]; rfl
  unfold vget
  split
  · rfl
  · show ((getO (bnm b k) es27).getD ⟨#[]⟩, (getO (bnm b k) es27).isSome) = _
    rw [h1]; rfl
theorem mk2_get {i : Nat} : ([o1, mk2, mk3] : List ByteArray)[i % 2]? = some (mk27 (i % 2)) := makers_get (by omega)

theorem mdl_new {bm rm : Nat} (h : H) (hh : Sep [Pt bm (.cells #[.slice none 0 0, .slice none 0 0, .map (some rm)] 78), Mp stv1 ziv rm []] h) : Mdl bm [] [] h := by
  obtain ⟨h1, h2, d, s1, s2, hx, hr⟩ := hh
  exact ⟨(none, none, 0, 0, rm, []), by simp, h1, h2, d, s1, s2, hx, emp, h2, (fun _ => .inl rfl), (fun _ _ e => by cases e), Sub.refl _, row_nil _ _ _, emp, h2, (fun _ => .inl rfl), (fun _ _ e => by cases e), Sub.refl _, row_nil _ _ _, hr⟩
/-- What start hands back. -/
def St27 : Post := ⟨Nat × Nat × Option Addr × Nat × Value × Value, fun q => .tuple #[.pointer (some ⟨q.1, 0, none⟩), .pointer (some ⟨q.2.1, 0, none⟩), .bool true], fun _ => True,
  fun q => [St (some ⟨q.1, 0, none⟩) es27, Blk q.2.1 (.cells #[.slice q.2.2.1 4 q.2.2.2.1, q.2.2.2.2.1, q.2.2.2.2.2] 78), Sl 31 bcf q.2.2.1 q.2.2.2.1 (bths27 4)], fun _ => []⟩
set_option maxHeartbeats 4000000 in
theorem start27_ok : Enters 32 ∧ Spec Tryz.prog 32 #[] [Usg] [] St27 := by
  refine ⟨enters_of Tryz.func32 (by kernel_rfl) rfl, spec_of (vs := []) Tryz.func32 rfl Tryz.ntmps32 rfl fun G w hp => ?_⟩
  repeat' (first | refine l_run ?_ | refine l_nil ?_ | refine l_one ?_ | refine k_reg ?_ | refine l_ld ?_ | refine l_ldF ?_ | refine l_st ?_ | refine l_al (fun b => ?_) | refine l_bs (fun b => ?_) | refine k_condT ?_ | refine k_condF ?_ | refine k_brk ?_ | refine r_run ?_ | refine r_one ?_ | refine r_ld ?_ | refine r_ldF ?_ | refine r_ldN ?_ | refine r_al (fun b => ?_) | refine r_bs (fun b => ?_) | refine r_st ?_ | refine r_end ?_ | refine l_call (stateNew_ok) (fun _ _ => ?_) | refine l_call0 (stateNew_ok) (fun _ _ => ?_) | refine r_call (stateNew_ok) (fun _ _ => ?_) | refine l_call (viewNew_ok _) (fun _ _ => ?_) | refine l_call0 (viewNew_ok _) (fun _ _ => ?_) | refine r_call (viewNew_ok _) (fun _ _ => ?_) | refine l_mkm (K := stv1) (kt := 29) (et := 3) key_ln ziv (fun rm => ?_) | (refine l_split (fun hc => ?_) (fun hc => ?_) <;> (try simp at hc)) | (refine r_split (fun hc => ?_) (fun hc => ?_) <;> (try simp at hc)) | refine k_draw 7 [] [(0, 0), (2, 0), (3, 0), (6, 0), (7, 0), (8, 0), (9, 0), (1, 4), (4, 0), (5, 0), (10, 4), (11, 0), (12, 0), (13, 0), (14, 1), (15, 4), (16, 0)] [] ?_ | refine k_draw 8 [] [(0, 0), (2, 0), (3, 0), (6, 0), (7, 0), (8, 0), (9, 0), (1, 4), (4, 0), (5, 0), (10, 4), (11, 0), (12, 0), (13, 0), (14, 1), (15, 4), (16, 0)] [] ?_ | (refine k_cond (fun hc => ?_) (fun hc => ?_) <;> (try simp at hc)))
  rename_i bm s0 _ v0 _
  refine k_shut (r := Mdl bm [] []) (Lx := [Pt bm (.cells #[.slice none 0 0, .slice none 0 0, .map (some rm)] 78), Mp stv1 ziv rm []]) (fun h hh => mdl_new h hh) ?_
  refine k_lp (X := { q : Nat × List (Nm × Ch) // q.1 ≤ 4 }) (fun q => [(3, .pointer (some ⟨bm, 0, none⟩)), (4, .pointer (some ⟨v0, 0, none⟩)), (5, .slice (some ⟨b, 0, none⟩) 4 4), (6, .int .i64 (q.1.1 : Int))]) (fun _ => [St (some ⟨s0, 0, none⟩) [], Usg]) (fun q => [Vw v0 (some ⟨s0, 0, none⟩) q.1.2 (cs27 q.1.1), Mdl bm (bths27 q.1.1) (ms27 q.1.1), Ax 38 inf b nds27 ([], (0, 0))]) (fun q => 4 - q.1.1) ⟨(0, []), by omega⟩ ⟨rfl, rfl, rfl, rfl, trivial⟩ ?_ (hr := Sels.cons (by repeat (first | exact Sel.here | apply Sel.there)) (Sels.cons (by repeat (first | exact Sel.here | apply Sel.there)) (Sels.cons (by repeat (first | exact Sel.here | apply Sel.there)) Sels.nil)))
  rintro ⟨⟨i, rs⟩, hi⟩
  dsimp only at hi ⊢
  by_cases hlt : i < 4
  · obtain ⟨n1, n2, n3⟩ := ns27_ok hlt
    obtain ⟨d0, d1, d2⟩ := nd27_ok hlt
    have hB := bi27 i hi
    obtain ⟨g1, g2⟩ := hB.made (by omega) n1
    obtain ⟨e1, e2⟩ := BI.step d1 d2 hB (by omega) n1
    have hm := mk27_size (i % 2)
    have m1 := make_ok v0 (some ⟨s0, 0, none⟩) [] rs (cs27 i) (mk27 (i % 2)) (nd27 i) (by omega) g1 (by have := hB.cl; omega)
    rw [e1, e2] at m1
    have m2 := modelMake_ok bm (mk27 (i % 2)) (nd27 i) (bths27 i) (ms27 i) ((i / 2 : Nat) : Int) d1 d2 n3 (by omega) (by omega) (by simp [bths27]; omega)
    have e3 : bths27 i ++ [⟨mk27 (i % 2), ((i / 2 : Nat) : Int)⟩] = bths27 (i + 1) := by simp only [bths27, List.range_succ, List.map_append, List.map_cons, List.map_nil]; rfl
    rw [e3] at m2
    have w5 : (i : Int).tmod 2 = ((i % 2 : Nat) : Int) := by rw [Int.tmod_eq_emod_of_nonneg (Int.natCast_nonneg _)]; exact (Int.natCast_emod _ 2).symm
    have w6 : IntKind.i64.wrap (((i % 2 : Nat) : Int)) = ((i % 2 : Nat) : Int) := wrapi (by omega) (by omega)
    have hk := mk2_get (i := i)
    have hk3 : i % 2 < 3 := by omega
    generalize mkR [] rs (cs27 i) (mk27 (i % 2)) (nd27 i) = rs2 at *
    have e4 : cs27 (i + 1) = cs27 i ++ [⟨cnm (mk27 (i % 2)), cvs ⟨((i / 2 : Nat) : Int) + 1, 0, 0⟩, false⟩] ++ [⟨nnm ⟨mk27 (i % 2), ((i / 2 : Nat) : Int)⟩, iencS (nd27 i), false⟩] := rfl
    rw [← e4] at m1
    have e5 : ms27 (i + 1) = mset (mk27 (i % 2)) (((i / 2 : Nat) : Int) + 1) (ms27 i) := rfl
    rw [← e5] at m2
    generalize nd27 i = nd at *
    generalize hn27 : nds27 = l27 at *
    obtain ⟨a1, a2, a3, a4, a5, a6, a7⟩ := nd
    simp only [Ino.v, Bi.v] at m1 m2
    repeat' (first | refine l_sneq (b := true) ?_ (he := eqBi ⟨mk27 (i % 2), ((i / 2 : Nat) : Int)⟩) | refine l_run ?_ | refine l_nil ?_ | refine l_one ?_ | refine k_reg ?_ | refine l_ld ?_ | refine l_ldF ?_ | refine l_st ?_ | refine l_al (fun b => ?_) | refine l_bs (fun b => ?_) | refine k_condT ?_ | refine k_condF ?_ | refine r_run ?_ | refine r_one ?_ | refine r_ld ?_ | refine r_ldF ?_ | refine r_ldN ?_ | refine r_al (fun b => ?_) | refine r_bs (fun b => ?_) | refine r_st ?_ | refine r_end ?_ | refine l_call (makers27_ok) (fun _ _ => ?_) | refine l_call0 (makers27_ok) (fun _ _ => ?_) | refine r_call (makers27_ok) (fun _ _ => ?_) | refine l_call (m1) (fun _ _ => ?_) | refine l_call0 (m1) (fun _ _ => ?_) | refine r_call (m1) (fun _ _ => ?_) | refine l_call (m2) (fun _ _ => ?_) | refine l_call0 (m2) (fun _ _ => ?_) | refine r_call (m2) (fun _ _ => ?_) | rw [w5] | rw [w6] | refine r_ixP (m := 3) (i % 2) hk3 ?_ | refine r_ixP (m := 4) i hlt ?_ | refine r_ldEN 1 (i % 2) 0 hk ?_ | refine r_ldE 7 i 0 d0 ?_ | (refine l_split (fun hc => ?_) (fun hc => ?_) <;> (try simp at hc) <;> (try omega)) | (refine r_split (fun hc => ?_) (fun hc => ?_) <;> (try simp at hc) <;> (try omega)) | refine k_draw 7 [Vw _ _ _ _] [(0, 0), (2, 0), (3, 0), (6, 0), (7, 0), (8, 0), (9, 0), (1, 4), (4, 0), (5, 3), (10, 4), (11, 0), (12, 0), (13, 0), (14, 1), (15, 4), (16, 0)] [] ?_ | refine k_draw 8 [Mdl _ _ _] [(0, 0), (2, 0), (3, 0), (6, 0), (7, 0), (8, 0), (9, 0), (1, 4), (4, 0), (5, 3), (10, 4), (11, 0), (12, 0), (13, 0), (14, 1), (15, 4), (16, 0)] [] ?_ | (refine k_cond (fun hc => ?_) (fun hc => ?_) <;> (try simp at hc) <;> (try omega)))
    rw [wrapi (z := (i : Int) + 1) (by omega) (by omega)]
    subst hn27
    exact k_next ⟨(i + 1, rs2), by dsimp only; omega⟩ (by show 4 - (i + 1) < 4 - i; omega) ⟨rfl, rfl, rfl, rfl, trivial⟩
  · obtain rfl : i = 4 := by omega
    have n4 := vwAfter_ok v0 s0 [] rs (cs27 4) cs27_len (cs27_fit 4 (by omega)) (by simp)
    rw [show applyE [] (vwr (cs27 4)) = es27 from rfl] at n4
    generalize hcs : cs27 4 = c4 at *
    generalize hms : ms27 4 = m4 at *
    refine k_open (X := Option Addr × Option Addr × Nat × Nat × Nat × List Fl) (Lx := fun q => MdL bm q.1 q.2.1 q.2.2.1 q.2.2.2.1 q.2.2.2.2.1 (bths27 4) q.2.2.2.2.2 m4) (p := fun q => True) (r := Mdl bm (bths27 4) m4) (.there .here) (fun h hh => by obtain ⟨q, _, hq⟩ := hh; exact ⟨q, trivial, hq⟩) (fun q _ => ?_)
    obtain ⟨ob, of, cb, cf, rm', fs⟩ := q
    dsimp only
    refine k_fz (b := bm) ?_
    refine k_frz (T := 31) (f := bcf) (bths27 4) ?_ rfl rfl
    have hb4 : (bths27 4).length = 4 := rfl
    rw [hb4]
    repeat' (first | refine l_run ?_ | refine l_nil ?_ | refine l_one ?_ | refine k_reg ?_ | refine l_ld ?_ | refine l_ldF ?_ | refine l_st ?_ | refine l_al (fun b => ?_) | refine l_bs (fun b => ?_) | refine k_condT ?_ | refine k_condF ?_ | refine k_brk ?_ | refine r_run ?_ | refine r_one ?_ | refine r_ld ?_ | refine r_ldF ?_ | refine r_ldN ?_ | refine r_al (fun b => ?_) | refine r_bs (fun b => ?_) | refine r_st ?_ | refine r_end ?_ | refine l_call (n4) (fun _ _ => ?_) | refine l_call0 (n4) (fun _ _ => ?_) | refine r_call (n4) (fun _ _ => ?_) | (refine l_split (fun hc => ?_) (fun hc => ?_) <;> (try simp at hc) <;> (try omega)) | (refine r_split (fun hc => ?_) (fun hc => ?_) <;> (try simp at hc) <;> (try omega)) | refine k_draw 7 [] [(0, 0), (2, 0), (3, 0), (6, 0), (7, 0), (8, 0), (9, 0), (1, 4), (4, 0), (5, 0), (10, 4), (11, 0), (12, 0), (13, 0), (14, 1), (15, 4), (16, 0)] [] ?_ | refine k_draw 8 [] [(0, 0), (2, 0), (3, 0), (6, 0), (7, 0), (8, 0), (9, 0), (1, 4), (4, 0), (5, 0), (10, 4), (11, 0), (12, 0), (13, 0), (14, 1), (15, 4), (16, 0)] [] ?_ | (refine k_cond (fun hc => ?_) (fun hc => ?_) <;> (try simp at hc) <;> (try omega)))
    rename_i s1 _
    exact k_ret (post := St27) (s1, bm, ob, cb, .slice of fs.length cf, .map (some rm')) rfl trivial
end Go.Proofs.YtgciahedpaencaaGreatDoor
