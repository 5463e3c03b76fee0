/-
  Equality of structs, evaluated; that this is what the model does; rules for it.
  Conditions: none beyond those that each theorem states.
-/
import Derived.Test.YtijaglinajfplaaGreatDoorOut3
import Derived.Laws.StructEq
import Derived.ChangeKeysEq
set_option maxRecDepth 10000
namespace Go.Proofs.YtijaglinajfplaaGreatDoor
open Go.RowKit

/-- A part of the cells of a struct. -/
def partv (t : Nat) (cs : List Value) (o : Nat) : Option Value := ldv t cs o

theorem partv_ok {t : Nat} {cs : Array Value} {o : Nat} {v : Value} (h : partv t cs.toList o = some v) (w : World) : (part t cs o).run Tryz.prog w = .ok v w := by
  unfold partv ldv at h
  have hag : ∀ r : TRow, lookT tab t = some r → r.k.isAgg = true → r.k ≠ .other → cutF cs.toList o r.size (fun l => some (Value.agg l.toArray)) = some v → (part t cs o).run Tryz.prog w = .ok v w := fun r hr ha ho hc => by
    obtain ⟨h2, _, h3⟩ := cutF_eq _ _ _ _ _ hc
    have hia := tab_ok.isAgg hr ho w
    rw [ha] at hia
    have hsz := tab_ok.sizeOf hr w
    unfold part
    simp only [Sem.run_bind, hia, Result.andThen, if_true, hsz, Sem.run_pure]
    rw [← Option.some.inj h2]
    congr 2
    rw [← Array.toList_inj]
    simp [List.extract_eq_take_drop]
  have hno : ∀ r : TRow, lookT tab t = some r → r.k.isAgg = false → r.k ≠ .other → nth cs.toList o = some v → (part t cs o).run Tryz.prog w = .ok v w := fun r hr ha ho hc => by
    have hia := tab_ok.isAgg hr ho w
    rw [ha] at hia
    rw [nth_eq] at hc
    have hc : cs[o]? = some v := by simpa using hc
    unfold part
    simp only [Sem.run_bind, hia, Result.andThen, Bool.false_eq_true, if_false, hc, Sem.run_pure]
  split at h
  · rename_i hr; exact hag _ hr rfl (by simp) h
  · rename_i hr; exact hag _ hr rfl (by simp) h
  · cases h
  · rename_i r hn1 hn2 hn3 hr
    refine hno _ hr ?_ ?_ h
    · cases hk2 : r.k <;> simp [TK.isAgg] <;> (obtain ⟨k, s1, b1, z1⟩ := r; simp at hk2; subst hk2; first | exact hn1 _ _ _ _ rfl | exact hn2 _ _ _ _ _ rfl)
    · intro hk2; obtain ⟨k, s1, b1, z1⟩ := r; simp at hk2; subst hk2; exact hn3 _ _ _ rfl
  · cases h

def memN : List Nat → Nat → Bool
  | [], _ => false
  | s :: l, t => match Nat.beq s t with
    | true => true
    | false => memN l t
theorem memN_mem : ∀ {l : List Nat} {t : Nat}, memN l t = true → t ∈ l
  | s :: l, t, h => by
    unfold memN at h
    split at h
    · rename_i hb
      obtain rfl := Nat.eq_of_beq_eq_true hb
      simp
    · exact List.mem_cons_of_mem _ (memN_mem h)

def eqFs (g : Nat → Value → Value → Option Bool) : List (Nat × Nat × Nat) → List Value → List Value → Option Bool
  | [], _, _ => some true
  | (o, t, _) :: fs, xs, ys => match partv t xs o, partv t ys o with
    | some a, some b => match g t a b with
      | some r => match eqFs g fs xs ys with
        | some r' => some (r && r')
        | none => none
      | none => none
    | _, _ => none

def eqIs (g : Value → Value → Option Bool) (e c : Nat) (xs ys : List Value) : List Nat → Option Bool
  | [] => some true
  | i :: is => match partv e xs (i * c), partv e ys (i * c) with
    | some a, some b => match g a b with
      | some r => match eqIs g e c xs ys is with
        | some r' => some (r && r')
        | none => none
      | none => none
    | _, _ => none

/-- Whether two values of a type are equal. -/
def eqC (S : List Nat) : Nat → Nat → Value → Value → Option Bool
  | 0, _, _, _ => none
  | f + 1, t, x, y => match lookT tab t with
    | some ⟨.int _, _, _, _⟩ => match x, y with
      | .int k a, .int l b => bif ikEq k l then some (a == b) else none
      | _, _ => none
    | some ⟨.str, _, _, _⟩ => match x, y with
      | .string a, .string b => some (a.toList == b.toList)
      | _, _ => none
    | some ⟨.bool, _, _, _⟩ => match x, y with
      | .bool a, .bool b => some (a == b)
      | _, _ => none
    | some ⟨.struct fs, _, _, _⟩ => match x, y with
      | .agg xs, .agg ys => bif memN S t then eqFs (eqC S f) fs xs.toList ys.toList else none
      | _, _ => none
    | some ⟨.arr n e, _, _, _⟩ => match lookT tab e, x, y with
      | some re, .agg xs, .agg ys => eqIs (eqC S f e) e re.size xs.toList ys.toList (List.range n)
      | _, _, _ => none
    | _ => none

noncomputable def chkE (t : Nat) : Bool := (match Tryz.prog.underlying t with | some (.struct fs) => fs.toList.all (fun f => f.name != "_") | some (.array _ _) => true | _ => false) && (Tryz.prog.stoodInHeld t == false) && (Tryz.prog.eqGuardType Tryz.prog.depth t == false)

theorem eqFs_ok {g : Nat → Value → Value → Option Bool} {d : Nat} (hg : ∀ t x y b w, g t x y = some b → (Op.equalIn d t x y).run Tryz.prog w = .ok b w) : ∀ (fl : List Field) (fs : List (Nat × Nat × Nat)) (xs ys : Array Value) (b : Bool) (w : World),
    fl.map (fun f => (f.offset, f.type, ((Tryz.prog.info? f.type).map (·.size)).getD 0)) = fs → fl.all (fun f => f.name != "_") = true → eqFs g fs xs.toList ys.toList = some b → (Op.eqFields d xs ys fl).run Tryz.prog w = .ok b w
  | [], _, _, _, b, w, h, _, he => by
    subst h
    obtain rfl := Option.some.inj he
    rfl
  | f :: fl, _, xs, ys, b, w, h, hn, he => by
    subst h
    simp only [List.map_cons, eqFs] at he
    simp only [List.all_cons, Bool.and_eq_true, bne_iff_ne, ne_eq] at hn
    split at he
    · rename_i a c ha hc
      split at he
      · rename_i r hr
        split at he
        · rename_i r' hr'
          obtain rfl := Option.some.inj he
          have ih := eqFs_ok hg fl _ xs ys r' w rfl hn.2 hr'
          unfold Op.eqFields
          rw [if_pos hn.1]
          simp only [Sem.run_bind, partv_ok ha w, partv_ok hc w, hg _ _ _ _ w hr, Result.andThen]
          cases r with
          | false => simp
          | true => simpa using ih
        · cases he
      · cases he
    · cases he

theorem eqIs_ok {g : Value → Value → Option Bool} {d e c : Nat} (hg : ∀ x y b w, g x y = some b → (Op.equalIn d e x y).run Tryz.prog w = .ok b w) (xs ys : Array Value) : ∀ (is : List Nat) (b : Bool) (w : World), eqIs g e c xs.toList ys.toList is = some b → (Op.eqItems d e c xs ys is).run Tryz.prog w = .ok b w
  | [], b, w, he => by
    obtain rfl := Option.some.inj he
    rfl
  | i :: is, b, w, he => by
    simp only [eqIs] at he
    split at he
    · rename_i a c ha hc
      split at he
      · rename_i r hr
        split at he
        · rename_i r' hr'
          obtain rfl := Option.some.inj he
          have ih := eqIs_ok hg xs ys is r' w hr'
          unfold Op.eqItems
          simp only [Sem.run_bind, partv_ok ha w, partv_ok hc w, hg _ _ _ w hr, Result.andThen]
          cases r with
          | false => simp
          | true => simpa using ih
        · cases he
      · cases he
    · cases he

theorem eqC_ok {S : List Nat} (hS : S.all chkE = true) : ∀ (f d t : Nat) (x y : Value) (b : Bool) (w : World), f ≤ d → eqC S f t x y = some b → (Op.equalIn d t x y).run Tryz.prog w = .ok b w
  | 0, _, _, _, _, _, _, _, h => by cases h
  | f + 1, 0, _, _, _, _, _, hd, _ => by omega
  | f + 1, d + 1, t, x, y, b, w, hd, h => by
    unfold eqC at h
    split at h
    · rename_i k0 _ _ _ hr
      split at h
      · rename_i k a l c
        cases hk : ikEq k l with
        | false => simp [hk] at h
        | true =>
          simp only [hk, cond_true] at h
          obtain rfl := ikEq_eq hk
          obtain rfl := Option.some.inj h
          obtain ⟨dd, hd1, hk1⟩ := tab_ok.und hr
          cases dd <;> simp [chkKind] at hk1
          exact run_equalIn_int w d t k _ a c hd1
      · cases h
    · rename_i hr
      split at h
      · rename_i a c
        obtain rfl := Option.some.inj h
        obtain ⟨dd, hd1, hk1⟩ := tab_ok.und hr
        cases dd <;> simp [chkKind] at hk1
        exact run_equalIn_string w d t a c hd1
      · cases h
    · rename_i hr
      split at h
      · rename_i a c
        obtain rfl := Option.some.inj h
        obtain ⟨dd, hd1, hk1⟩ := tab_ok.und hr
        cases dd <;> simp [chkKind] at hk1
        exact run_equalIn_bool' w d t a c hd1
      · cases h
    · rename_i fs _ _ _ hr
      split at h
      · rename_i xs ys
        cases hm : memN S t with
        | false => simp [hm] at h
        | true =>
          simp only [hm, cond_true] at h
          have hc := List.all_eq_true.1 hS t (memN_mem hm)
          simp only [chkE, Bool.and_eq_true, beq_iff_eq] at hc
          obtain ⟨dd, hd1, hk1⟩ := tab_ok.und hr
          cases dd <;> simp [chkKind] at hk1
          rename_i fl
          have hfo : Tryz.prog.fieldsOf t = fl := by simp [Program.fieldsOf, hd1]
          rw [run_equalIn_struct w d t xs ys (by rw [hfo]; exact hd1) hc.1.2, hfo]
          have hnm := hc.1.1
          rw [hd1] at hnm
          refine eqFs_ok (g := eqC S f) (fun t x y b w hh => eqC_ok hS f d t x y b w (by omega) hh) fl.toList fs xs ys b w ?_ hnm h
          simpa using hk1.1
      · cases h
    · rename_i m e _ _ _ hr
      split at h
      · rename_i re xs ys hre
        obtain ⟨dd, hd1, hk1⟩ := tab_ok.und hr
        cases dd <;> simp [chkKind] at hk1
        obtain ⟨rfl, rfl⟩ := hk1
        obtain ⟨inf, _, _, hi, _, hsz, _⟩ := tab_ok.row hre
        rw [run_equalIn_array w d xs ys hd1 hi]
        have hce : Tryz.prog.cellsOf e = re.size := by rw [← hsz]; simp [Program.cellsOf, hi]
        rw [hce]
        exact eqIs_ok (g := eqC S f e) (fun x y b w hh => eqC_ok hS f d e x y b w (by omega) hh) xs ys _ b w h
      · cases h
    · cases h

/-- The structs that are compared. -/
def eqS : List Nat := [24, 78, 26, 234, 200, 70]
theorem eqS_ok : eqS.all chkE = true := by decide +kernel

theorem equal_ok {t : Nat} {x y : Value} {b : Bool} (h : eqC eqS 20 t x y = some b) (w : World) : (Op.equal t x y).run Tryz.prog w = .ok b w := eqC_ok eqS_ok 20 10000 t x y b w (by omega) h

section
variable {n : Nat} {C : Cx} {Q : Exit → Act → World → Prop} {E E' : List (Nat × Value)} {F F' F1 Fs F0 : List Pf} {R R' R0 Rs N N' A : List HP} {k k' : List Fr} {ops l : List Oper} {L L' : List (Nat × Nat)} {Tl : List Nat}
  {i d : Nat} {t t2 ty0 : TypeId} {x y : Operand} {pos : String} {aft : Array Edge} {gd : Option (Nat × Bool)} {xs ys : Array Value}
/-- Two structs are compared. -/
theorem l_seq {b : Bool} (nx : Wl n C ops.toArray k Q l ((d, .bool b) :: E) F R) (hw : wantL ops E ⟨some d, .binOp .eql t x y t2, ty0, pos, aft, gd⟩ = some true := by rfl) (hn : Nat.blt d n = true := by rfl)
    (hx : ev E x = some (.agg xs) := by rfl) (hy : ev E y = some (.agg ys) := by rfl) (hm : memN eqS t = true := by rfl) (he : eqC eqS 20 t (.agg xs) (.agg ys) = some b := by rfl) : Wl n C ops.toArray k Q (⟨some d, .binOp .eql t x y t2, ty0, pos, aft, gd⟩ :: l) E F R :=
  l_q (fun a w ha => by
    have hc := List.all_eq_true.1 eqS_ok t (memN_mem hm)
    simp only [chkE, Bool.and_eq_true, beq_iff_eq] at hc
    have h1 := eqC_ok eqS_ok 20 10000 t _ _ b w (by omega) he
    simp only [execOp, ha.ev (x := x) (by rw [evf_look]; exact hx), ha.ev (x := y) (by rw [evf_look]; exact hy), Sem.run_bind, run_eqGuard_agg w .eql t x y xs ys hc.2, Result.andThen, run_eql_struct, h1, Sem.run_pure]) nx (by intro c h; cases h) hw hn
theorem l_sneq {b : Bool} (nx : Wl n C ops.toArray k Q l ((d, .bool (!b)) :: E) F R) (hw : wantL ops E ⟨some d, .binOp .neq t x y t2, ty0, pos, aft, gd⟩ = some true := by rfl) (hn : Nat.blt d n = true := by rfl)
    (hx : ev E x = some (.agg xs) := by rfl) (hy : ev E y = some (.agg ys) := by rfl) (hm : memN eqS t = true := by rfl) (he : eqC eqS 20 t (.agg xs) (.agg ys) = some b := by rfl) : Wl n C ops.toArray k Q (⟨some d, .binOp .neq t x y t2, ty0, pos, aft, gd⟩ :: l) E F R :=
  l_q (fun a w ha => by
    have hc := List.all_eq_true.1 eqS_ok t (memN_mem hm)
    simp only [chkE, Bool.and_eq_true, beq_iff_eq] at hc
    have h1 := eqC_ok eqS_ok 20 10000 t _ _ b w (by omega) he
    simp only [execOp, ha.ev (x := x) (by rw [evf_look]; exact hx), ha.ev (x := y) (by rw [evf_look]; exact hy), Sem.run_bind, run_eqGuard_agg w .neq t x y xs ys hc.2, Result.andThen, run_neq_struct, h1, Sem.run_pure]) nx (by intro c h; cases h) hw hn
theorem r_seq {b : Bool} (nx : Wr n C ops k Q Tl Fs R L ((d, .bool b) :: E) F N) (ho : nth ops i = some ⟨some d, .binOp .eql t x y t2, ty0, pos, aft, gd⟩ := by rfl) (hw : wantL ops E ⟨some d, .binOp .eql t x y t2, ty0, pos, aft, gd⟩ = some true := by rfl)
    (hx : ev E x = some (.agg xs) := by rfl) (hy : ev E y = some (.agg ys) := by rfl) (hm : memN eqS t = true := by rfl) (he : eqC eqS 20 t (.agg xs) (.agg ys) = some b := by rfl) : Wr n C ops k Q Tl Fs R ((i, 0) :: L) E F N :=
  r_q (fun a w ha => by
    have hc := List.all_eq_true.1 eqS_ok t (memN_mem hm)
    simp only [chkE, Bool.and_eq_true, beq_iff_eq] at hc
    have h1 := eqC_ok eqS_ok 20 10000 t _ _ b w (by omega) he
    simp only [execOp, ha.ev (x := x) (by rw [evf_look]; exact hx), ha.ev (x := y) (by rw [evf_look]; exact hy), Sem.run_bind, run_eqGuard_agg w .eql t x y xs ys hc.2, Result.andThen, run_eql_struct, h1, Sem.run_pure]) nx ho hw
theorem r_sneq {b : Bool} (nx : Wr n C ops k Q Tl Fs R L ((d, .bool (!b)) :: E) F N) (ho : nth ops i = some ⟨some d, .binOp .neq t x y t2, ty0, pos, aft, gd⟩ := by rfl) (hw : wantL ops E ⟨some d, .binOp .neq t x y t2, ty0, pos, aft, gd⟩ = some true := by rfl)
    (hx : ev E x = some (.agg xs) := by rfl) (hy : ev E y = some (.agg ys) := by rfl) (hm : memN eqS t = true := by rfl) (he : eqC eqS 20 t (.agg xs) (.agg ys) = some b := by rfl) : Wr n C ops k Q Tl Fs R ((i, 0) :: L) E F N :=
  r_q (fun a w ha => by
    have hc := List.all_eq_true.1 eqS_ok t (memN_mem hm)
    simp only [chkE, Bool.and_eq_true, beq_iff_eq] at hc
    have h1 := eqC_ok eqS_ok 20 10000 t _ _ b w (by omega) he
    simp only [execOp, ha.ev (x := x) (by rw [evf_look]; exact hx), ha.ev (x := y) (by rw [evf_look]; exact hy), Sem.run_bind, run_eqGuard_agg w .neq t x y xs ys hc.2, Result.andThen, run_neq_struct, h1, Sem.run_pure]) nx ho hw
end
end Go.Proofs.YtijaglinajfplaaGreatDoor
