/-
  Contracts of the package output: Check, write, Encode, read, Decode.
  Contracts of the package output: ledgers, All.
  Texts cut as far as they go.
  The contract of output.All.
  Equality of structs, evaluated; that this is what the model does; rules for it.
  Rules for maps that the program makes.
  Rules for a range over an owned map.
  What a view holds: changes, the last of each name.
  Rules for owned slices that are changed in place; calls of function values where the order is drawn.
  Conditions: those that each theorem states.
-/
import Derived.Test.YtgaipgbgppdfeaaGreatDoorMD
import Derived.Test.YtgaipgbgppdfeaaGreatDoorMB
import Derived.Laws.StructEq
import Derived.ChangeKeysEq
import Derived.Test.YtgaipgbgppdfeaaGreatDoorMC
set_option maxRecDepth 10000
namespace Go.Proofs.YtgaipgbgppdfeaaGreatDoor
open Go.RowKit

/-- An output. -/
structure Ou where
  ch : Int
  tg : ByteArray
  tx : ByteArray
  us : Int
  deriving DecidableEq
def ouf (o : Ou) : List Value := [.int .i64 o.ch, .string o.tg, .string o.tx, .int .i64 o.us]
def Ou.v (o : Ou) : Value := .agg #[.int .i64 o.ch, .string o.tg, .string o.tx, .int .i64 o.us]
def bad2 (c : UInt8) : Bool := decide ((c.toNat : Int) < 33) || decide ((126 : Int) < c.toNat)

/-- What Check answers. -/
def ochk (o : Ou) : Int :=
  if o.ch < 1 ∨ 4 < o.ch then 11
  else if isE o.tg then 4
  else if 64 < o.tg.size then 5
  else if o.tg.data.toList.any bad2 then 6
  else if 4096 < o.tx.size then 5
  else if o.us < 0 ∨ 65535 < o.us then 2
  else 0

/-- The bytes of an output. -/
def oenc (o : Ou) : List UInt8 := venc o.ch.toNat ++ (venc o.tg.size ++ o.tg.data.toList) ++ (venc o.tx.size ++ o.tx.data.toList) ++ venc o.us.toNat

def oencS (o : Ou) : ByteArray := if ochk o = 0 then ⟨(oenc o).toArray⟩ else ⟨#[]⟩

/-- What read makes of bytes. -/
def oread (s : RS) : Ou × RS :=
  let (ch, s1) := rnum s 4
  let (tg, s2) := rtext s1 64
  let (tx, s3) := rtext s2 4096
  let (us, s4) := rnum s3 65535
  (⟨ch, tg, tx, us⟩, s4)
/-- What Decode makes of a text. -/
def odec (s : ByteArray) : Option Ou :=
  let r := oread ⟨s.data.toList, 0, 0⟩
  if r.2.err = 0 ∧ r.2.rest = [] ∧ ochk r.1 = 0 then some r.1 else none

def Ou.z : Ou := ⟨0, ⟨#[]⟩, ⟨#[]⟩, 0⟩
theorem close0 (e : Int) (r : List UInt8) : (if e ≠ 0 then e else if r = [] then 0 else 5) = 0 ↔ e = 0 ∧ r = [] := by
  by_cases h1 : e = 0 <;> by_cases h2 : r = [] <;> simp [h1, h2]
end Go.Proofs.YtgaipgbgppdfeaaGreatDoor

set_option maxRecDepth 10000
namespace Go.Proofs.YtgaipgbgppdfeaaGreatDoor
open Go.RowKit

section
variable {n : Nat} {C : Cx} {Q : Exit → Act → World → Prop} {E E' : List (Nat × Value)} {F F' F1 Fs F0 : List Pf} {R R' R0 Rs N N' A : List HP} {k k' : List Fr} {ops l : List Oper} {L L' : List (Nat × Nat)} {Tl : List Nat}
  {i d : Nat} {t ty0 : TypeId} {x y : Operand} {pos : String} {aft : Array Edge} {gd : Option (Nat × Bool)} {b off : Nat} {cs : Array Value} {ty : TypeId} {fzn : Nat × Nat} {v : Value}

/-- The address of an element, by the slice alone. -/
theorem r_ixP {T sz m cap : Nat} {z : Int} {rs tr : TRow} (j : Nat) (hlt : j < m) (nx : Wr n C ops k Q Tl Fs R L ((d, .pointer (some ⟨b, j * sz, none⟩)) :: E) F N)
    (ho : nth ops i = some ⟨some d, .indexAddr t x y, ty0, pos, aft, gd⟩ := by rfl) (hw : wantL ops E ⟨some d, .indexAddr t x y, ty0, pos, aft, gd⟩ = some true := by rfl) (hx : ev E x = some (.slice (some ⟨b, 0, none⟩) m cap) := by rfl) (hy : ev E y = some (.int .i64 z) := by rfl)
    (hts : lookT tab t = some rs := by rfl) (hrs : rs.k = .slice T := by rfl) (hT : lookT tab T = some tr := by rfl) (hsz : tr.size = sz := by rfl) (hz : z = (j : Int) := by first | rfl | omega) : Wr n C ops k Q Tl Fs R ((i, 0) :: L) E F N :=
  r_q (fun a w ha => by
    have hr1 := run_indexAt (o := some ⟨b, 0, none⟩) (m := m) (cap := cap) (w := w) hts hrs hT hsz hz hlt (p := ⟨b, j * sz, none⟩) (by simp [add_add rfl])
    simp only [execOp, ha.ev (x := x) (by rw [evf_look]; exact hx), ha.ev (x := y) (by rw [evf_look]; exact hy), Sem.run_bind, Result.andThen, hr1, Sem.run_pure]) nx ho hw
end

/-- An output with its maker, number and tick. -/
structure En where
  who : ByteArray
  nu : Int
  tk : Int
  o : Ou
  deriving DecidableEq
def enf (e : En) : List Value := [.string e.who, .int .i64 e.nu, .int .i64 e.tk, .int .i64 e.o.ch, .string e.o.tg, .string e.o.tx, .int .i64 e.o.us]
/-- What has left. -/
structure Lf where
  e : En
  tm : Int
  rd : Int
  deriving DecidableEq
def lff (x : Lf) : List Value := [.string x.e.who, .int .i64 x.e.nu, .int .i64 x.e.tk, .int .i64 x.e.o.ch, .string x.e.o.tg, .string x.e.o.tx, .int .i64 x.e.o.us, .int .i64 x.tm, .int .i64 x.rd]
def Lf.v (x : Lf) : Value := .agg #[.string x.e.who, .int .i64 x.e.nu, .int .i64 x.e.tk, .int .i64 x.e.o.ch, .string x.e.o.tg, .string x.e.o.tx, .int .i64 x.e.o.us, .int .i64 x.tm, .int .i64 x.rd]

def tick (z : Int) : Bool := decide (0 ≤ z) && decide (z ≤ 1073741824)
def lchk (x : Lf) : Int :=
  if lvalid x.e.who.data.toList = false then 12
  else if x.e.nu < 0 ∨ 1048576 < x.e.nu ∨ tick x.e.tk = false ∨ tick x.tm = false ∨ x.rd < 0 ∨ 1048576 < x.rd then 2
  else ochk x.e.o

/-- What Leave answers. -/
def late (ls : List Lf) (x : Lf) : Bool := match ls.getLast? with | some y => decide (x.tm < y.tm) || decide (x.rd < y.rd) | none => false
def leaveE (ls : List Lf) (x : Lf) : Int := if lchk x ≠ 0 then lchk x else if late ls x then 32 else if 100000 ≤ ls.length then 9 else 0

section
variable {n : Nat} {C : Cx} {Q : Exit → Act → World → Prop} {E E' : List (Nat × Value)} {F : List Pf} {R R0 : List HP} {k : List Fr}
/-- An owned slice that is not empty is opened. -/
structure RowAt (sz m cap : Nat) (xs : List Value) (o : Option Addr) (q : Nat × List Value × (Nat × Nat)) : Prop where
  o : o = some ⟨q.1, 0, none⟩
  l : xs.length = m * sz
  c : (xs ++ q.2.1).length = cap * sz
  m : m ≤ cap
  f : q.2.2 = (0, 0) ∨ (xs ++ q.2.1).length ≤ q.2.2.1
theorem k_row {T sz m cap : Nat} {o : Option Addr} {xs : List Value} (hm : 0 < m) (t : ∀ q, RowAt sz m cap xs o q → Wk n C k Q E F (Pt q.1 (.cells (xs ++ q.2.1).toArray T q.2.2) :: R0)) (hs : Sel (Row T sz o m cap xs) R R0 := by (repeat (first | exact Sel.here | apply Sel.there)); first | done | fail) : Wk n C k Q E F R :=
  k_open (X := Nat × List Value × (Nat × Nat)) (Lx := fun q => [Pt q.1 (.cells (xs ++ q.2.1).toArray T q.2.2)]) (p := fun q => RowAt sz m cap xs o q) (r := Row T sz o m cap xs) hs (fun h hh => by
    rcases hh with ⟨_, h2, _⟩ | ⟨b, rest, fz, h1, h2, h3, h4, h5, h6⟩
    · omega
    · exact ⟨(b, rest, fz), ⟨h1, h3, h4, h5, h6⟩, h, emp, (fun _ => .inr rfl), Sub.refl _, (fun _ _ e => by cases e), h2, trivial⟩) t
theorem row_shut {T sz m cap : Nat} {o : Option Addr} {xs : List Value} {q : Nat × List Value × (Nat × Nat)} (hq : RowAt sz m cap xs o q) (h : H) (hh : Sep [Pt q.1 (.cells (xs ++ q.2.1).toArray T q.2.2)] h) : Row T sz o m cap xs h := by
  obtain ⟨h1, h2, _, s1, _, hx, _⟩ := hh
  exact .inr ⟨q.1, q.2.1, q.2.2, hq.o, s1 _ _ hx, hq.l, hq.c, hq.m, hq.f⟩
end

section
variable {n : Nat} {C : Cx} {Q : Exit → Act → World → Prop} {E E' : List (Nat × Value)} {F : List Pf} {R R0 : List HP} {k : List Fr}
end

/-! A ledger that stays. -/
section
variable {n : Nat} {C : Cx} {Q : Exit → Act → World → Prop} {E E' : List (Nat × Value)} {F F0 : List Pf} {R R0 : List HP} {k : List Fr}
end

end Go.Proofs.YtgaipgbgppdfeaaGreatDoor

set_option maxRecDepth 10000
namespace Go.Proofs.YtgaipgbgppdfeaaGreatDoor
open Go.RowKit

section
variable {n : Nat} {C : Cx} {Q : Exit → Act → World → Prop} {E E' : List (Nat × Value)} {F F' F1 Fs F0 : List Pf} {R R' R0 Rs N N' A : List HP} {k k' : List Fr} {ops l : List Oper} {L L' : List (Nat × Nat)} {Tl : List Nat}
  {i d : Nat} {t t2 ty0 : TypeId} {x y : Operand} {pos : String} {aft : Array Edge} {gd : Option (Nat × Bool)}
theorem run_scut {s : ByteArray} {z : Int} {rs : TRow} {w : World} (hi : Nat) (hle : hi ≤ s.size) (hts : lookT tab t = some rs) (hrs : rs.k = .str) (hz : z = (hi : Int)) : (Instr.sliceAt t (.string s) none (some (.int .i64 z)) none).run Tryz.prog w = .ok (.string (s.extract 0 hi)) w := by
  subst hz
  have hu := run_undS (w := w) hts hrs
  have hb : (Instr.sliceBound (.int .i64 (hi : Int)) s.size .sliceAlen).run Tryz.prog w = .ok hi w := by
    simp only [Instr.sliceBound, asIntOf, Sem.run_bind, Sem.run_pure, Result.andThen]
    rw [if_pos ⟨by omega, by omega⟩]
    simp
  simp [Instr.sliceAt, Instr.slice, Instr.sliceBounds, Sem.run_bind, hu, Result.andThen, hb]
/-- A text cut. -/
def cutS (s : ByteArray) (m : Nat) : ByteArray := s.extract 0 (min s.size m)
/-- The address of an element of an array. -/
theorem r_ixA {T sz m b off : Nat} {z : Int} {kd : IntKind} {rs tr : TRow} (j : Nat) (hlt : j < m) (nx : Wr n C ops k Q Tl Fs R L ((d, .pointer (some ⟨b, off + j * sz, none⟩)) :: E) F N)
    (ho : nth ops i = some ⟨some d, .indexAddr t x y, ty0, pos, aft, gd⟩ := by rfl) (hw : wantL ops E ⟨some d, .indexAddr t x y, ty0, pos, aft, gd⟩ = some true := by rfl) (hx : ev E x = some (.pointer (some ⟨b, off, none⟩)) := by rfl) (hy : ev E y = some (.int kd z) := by rfl)
    (hts : lookT tab t = some rs := by rfl) (hrs : rs.k = .arr m T := by rfl) (hT : lookT tab T = some tr := by rfl) (hsz : tr.size = sz := by rfl) (hz : z = (j : Int) := by first | rfl | omega) : Wr n C ops k Q Tl Fs R ((i, 0) :: L) E F N :=
  r_q (fun a w ha => by
    simp only [execOp, ha.ev (x := x) (by rw [evf_look]; exact hx), ha.ev (x := y) (by rw [evf_look]; exact hy), Sem.run_bind, Result.andThen, run_ixArr (w := w) hts hrs hT hsz hz hlt, Sem.run_pure]) nx ho hw
end
end Go.Proofs.YtgaipgbgppdfeaaGreatDoor

set_option maxRecDepth 10000
namespace Go.Proofs.YtgaipgbgppdfeaaGreatDoor
open Go.RowKit

section
variable {n : Nat} {C : Cx} {Q : Exit → Act → World → Prop} {E E' : List (Nat × Value)} {F : List Pf} {R R0 : List HP} {k : List Fr}
/-- The cells of an owned slice, written otherwise. -/
theorem k_rowc {T sz m m' cap : Nat} {o : Option Addr} (xs xs' : List Value) (hm : m = m') (hx : xs = xs') (t : Wk n C k Q E F (Row T sz o m' cap xs' :: R0)) (hs : Sel (Row T sz o m cap xs) R R0 := by (repeat (first | exact Sel.here | apply Sel.there)); first | done | fail) : Wk n C k Q E F R := by
  subst hm; subst hx
  exact fun a w ha hsat => t a w ha (hsat.sel hs)
end


/-- The entry of a name. -/
def entO (es : Al) (a : Nm) : Option En := (odec ((getO a es).getD ⟨#[]⟩)).map fun o => ⟨a.owner, a.number, a.index, o⟩
def allN (es : Al) (ns : List Nm) : List En := ns.filterMap (entO es)
/-- The outputs of a state. -/
def allE (es : Al) : List En := allN es (kn es 18)


structure AX (es : Al) where
  i : Nat
  o : Option Addr
  cap : Nat
  hi : i ≤ (kn es 18).length

end Go.Proofs.YtgaipgbgppdfeaaGreatDoor

set_option maxRecDepth 10000
namespace Go.Proofs.YtgaipgbgppdfeaaGreatDoor
open Go.RowKit

/-- A part of the cells of a struct. -/
def partv (t : Nat) (cs : List Value) (o : Nat) : Option Value := ldv t cs o

theorem partv_ok {t : Nat} {cs : Array Value} {o : Nat} {v : Value} (h : partv t cs.toList o = some v) (w : World) : (part t cs o).run Tryz.prog w = .ok v w := by
  unfold partv ldv at h
  have hag : ∀ r : TRow, lookT tab t = some r → r.k.isAgg = true → r.k ≠ .other → cutF cs.toList o r.size (fun l => some (Value.agg l.toArray)) = some v → (part t cs o).run Tryz.prog w = .ok v w := fun r hr ha ho hc => by
    obtain ⟨h2, _, h3⟩ := cutF_eq _ _ _ _ _ hc
    have hia := tab_ok.isAgg hr ho w
    rw [ha] at hia
    have hsz := tab_ok.sizeOf hr w
    unfold part
    simp only [Sem.run_bind, hia, Result.andThen, if_true, hsz, Sem.run_pure]
    rw [← Option.some.inj h2]
    congr 2
    rw [← Array.toList_inj]
    simp [List.extract_eq_take_drop]
  have hno : ∀ r : TRow, lookT tab t = some r → r.k.isAgg = false → r.k ≠ .other → nth cs.toList o = some v → (part t cs o).run Tryz.prog w = .ok v w := fun r hr ha ho hc => by
    have hia := tab_ok.isAgg hr ho w
    rw [ha] at hia
    rw [nth_eq] at hc
    have hc : cs[o]? = some v := by simpa using hc
    unfold part
    simp only [Sem.run_bind, hia, Result.andThen, Bool.false_eq_true, if_false, hc, Sem.run_pure]
  split at h
  · rename_i hr; exact hag _ hr rfl (by simp) h
  · rename_i hr; exact hag _ hr rfl (by simp) h
  · cases h
  · rename_i r hn1 hn2 hn3 hr
    refine hno _ hr ?_ ?_ h
    · cases hk2 : r.k <;> simp [TK.isAgg] <;> (obtain ⟨k, s1, b1, z1⟩ := r; simp at hk2; subst hk2; first | exact hn1 _ _ _ _ rfl | exact hn2 _ _ _ _ _ rfl)
    · intro hk2; obtain ⟨k, s1, b1, z1⟩ := r; simp at hk2; subst hk2; exact hn3 _ _ _ rfl
  · cases h

def memN : List Nat → Nat → Bool
  | [], _ => false
  | s :: l, t => match Nat.beq s t with
    | true => true
    | false => memN l t
theorem memN_mem : ∀ {l : List Nat} {t : Nat}, memN l t = true → t ∈ l
  | s :: l, t, h => by
    unfold memN at h
    split at h
    · rename_i hb
      obtain rfl := Nat.eq_of_beq_eq_true hb
      simp
    · exact List.mem_cons_of_mem _ (memN_mem h)

def eqFs (g : Nat → Value → Value → Option Bool) : List (Nat × Nat × Nat) → List Value → List Value → Option Bool
  | [], _, _ => some true
  | (o, t, _) :: fs, xs, ys => match partv t xs o, partv t ys o with
    | some a, some b => match g t a b with
      | some r => match eqFs g fs xs ys with
        | some r' => some (r && r')
        | none => none
      | none => none
    | _, _ => none

def eqIs (g : Value → Value → Option Bool) (e c : Nat) (xs ys : List Value) : List Nat → Option Bool
  | [] => some true
  | i :: is => match partv e xs (i * c), partv e ys (i * c) with
    | some a, some b => match g a b with
      | some r => match eqIs g e c xs ys is with
        | some r' => some (r && r')
        | none => none
      | none => none
    | _, _ => none

/-- Whether two values of a type are equal. -/
def eqC (S : List Nat) : Nat → Nat → Value → Value → Option Bool
  | 0, _, _, _ => none
  | f + 1, t, x, y => match lookT tab t with
    | some ⟨.int _, _, _, _⟩ => match x, y with
      | .int k a, .int l b => bif ikEq k l then some (a == b) else none
      | _, _ => none
    | some ⟨.str, _, _, _⟩ => match x, y with
      | .string a, .string b => some (a.toList == b.toList)
      | _, _ => none
    | some ⟨.bool, _, _, _⟩ => match x, y with
      | .bool a, .bool b => some (a == b)
      | _, _ => none
    | some ⟨.struct fs, _, _, _⟩ => match x, y with
      | .agg xs, .agg ys => bif memN S t then eqFs (eqC S f) fs xs.toList ys.toList else none
      | _, _ => none
    | some ⟨.arr n e, _, _, _⟩ => match lookT tab e, x, y with
      | some re, .agg xs, .agg ys => eqIs (eqC S f e) e re.size xs.toList ys.toList (List.range n)
      | _, _, _ => none
    | _ => none

noncomputable def chkE (t : Nat) : Bool := (match Tryz.prog.underlying t with | some (.struct fs) => fs.toList.all (fun f => f.name != "_") | some (.array _ _) => true | _ => false) && (Tryz.prog.stoodInHeld t == false) && (Tryz.prog.eqGuardType Tryz.prog.depth t == false)

theorem eqFs_ok {g : Nat → Value → Value → Option Bool} {d : Nat} (hg : ∀ t x y b w, g t x y = some b → (Op.equalIn d t x y).run Tryz.prog w = .ok b w) : ∀ (fl : List Field) (fs : List (Nat × Nat × Nat)) (xs ys : Array Value) (b : Bool) (w : World),
    fl.map (fun f => (f.offset, f.type, ((Tryz.prog.info? f.type).map (·.size)).getD 0)) = fs → fl.all (fun f => f.name != "_") = true → eqFs g fs xs.toList ys.toList = some b → (Op.eqFields d xs ys fl).run Tryz.prog w = .ok b w
  | [], _, _, _, b, w, h, _, he => by
    subst h
    obtain rfl := Option.some.inj he
    rfl
  | f :: fl, _, xs, ys, b, w, h, hn, he => by
    subst h
    simp only [List.map_cons, eqFs] at he
    simp only [List.all_cons, Bool.and_eq_true, bne_iff_ne, ne_eq] at hn
    split at he
    · rename_i a c ha hc
      split at he
      · rename_i r hr
        split at he
        · rename_i r' hr'
          obtain rfl := Option.some.inj he
          have ih := eqFs_ok hg fl _ xs ys r' w rfl hn.2 hr'
          unfold Op.eqFields
          rw [if_pos hn.1]
          simp only [Sem.run_bind, partv_ok ha w, partv_ok hc w, hg _ _ _ _ w hr, Result.andThen]
          cases r with
          | false => simp
          | true => simpa using ih
        · cases he
      · cases he
    · cases he

theorem eqIs_ok {g : Value → Value → Option Bool} {d e c : Nat} (hg : ∀ x y b w, g x y = some b → (Op.equalIn d e x y).run Tryz.prog w = .ok b w) (xs ys : Array Value) : ∀ (is : List Nat) (b : Bool) (w : World), eqIs g e c xs.toList ys.toList is = some b → (Op.eqItems d e c xs ys is).run Tryz.prog w = .ok b w
  | [], b, w, he => by
    obtain rfl := Option.some.inj he
    rfl
  | i :: is, b, w, he => by
    simp only [eqIs] at he
    split at he
    · rename_i a c ha hc
      split at he
      · rename_i r hr
        split at he
        · rename_i r' hr'
          obtain rfl := Option.some.inj he
          have ih := eqIs_ok hg xs ys is r' w hr'
          unfold Op.eqItems
          simp only [Sem.run_bind, partv_ok ha w, partv_ok hc w, hg _ _ _ w hr, Result.andThen]
          cases r with
          | false => simp
          | true => simpa using ih
        · cases he
      · cases he
    · cases he

theorem eqC_ok {S : List Nat} (hS : S.all chkE = true) : ∀ (f d t : Nat) (x y : Value) (b : Bool) (w : World), f ≤ d → eqC S f t x y = some b → (Op.equalIn d t x y).run Tryz.prog w = .ok b w
  | 0, _, _, _, _, _, _, _, h => by cases h
  | f + 1, 0, _, _, _, _, _, hd, _ => by omega
  | f + 1, d + 1, t, x, y, b, w, hd, h => by
    unfold eqC at h
    split at h
    · rename_i k0 _ _ _ hr
      split at h
      · rename_i k a l c
        cases hk : ikEq k l with
        | false => simp [hk] at h
        | true =>
          simp only [hk, cond_true] at h
          obtain rfl := ikEq_eq hk
          obtain rfl := Option.some.inj h
          obtain ⟨dd, hd1, hk1⟩ := tab_ok.und hr
          cases dd <;> simp [chkKind] at hk1
          exact run_equalIn_int w d t k _ a c hd1
      · cases h
    · rename_i hr
      split at h
      · rename_i a c
        obtain rfl := Option.some.inj h
        obtain ⟨dd, hd1, hk1⟩ := tab_ok.und hr
        cases dd <;> simp [chkKind] at hk1
        exact run_equalIn_string w d t a c hd1
      · cases h
    · rename_i hr
      split at h
      · rename_i a c
        obtain rfl := Option.some.inj h
        obtain ⟨dd, hd1, hk1⟩ := tab_ok.und hr
        cases dd <;> simp [chkKind] at hk1
        exact run_equalIn_bool' w d t a c hd1
      · cases h
    · rename_i fs _ _ _ hr
      split at h
      · rename_i xs ys
        cases hm : memN S t with
        | false => simp [hm] at h
        | true =>
          simp only [hm, cond_true] at h
          have hc := List.all_eq_true.1 hS t (memN_mem hm)
          simp only [chkE, Bool.and_eq_true, beq_iff_eq] at hc
          obtain ⟨dd, hd1, hk1⟩ := tab_ok.und hr
          cases dd <;> simp [chkKind] at hk1
          rename_i fl
          have hfo : Tryz.prog.fieldsOf t = fl := by simp [Program.fieldsOf, hd1]
          rw [run_equalIn_struct w d t xs ys (by rw [hfo]; exact hd1) hc.1.2, hfo]
          have hnm := hc.1.1
          rw [hd1] at hnm
          refine eqFs_ok (g := eqC S f) (fun t x y b w hh => eqC_ok hS f d t x y b w (by omega) hh) fl.toList fs xs ys b w ?_ hnm h
          simpa using hk1.1
      · cases h
    · rename_i m e _ _ _ hr
      split at h
      · rename_i re xs ys hre
        obtain ⟨dd, hd1, hk1⟩ := tab_ok.und hr
        cases dd <;> simp [chkKind] at hk1
        obtain ⟨rfl, rfl⟩ := hk1
        obtain ⟨inf, _, _, hi, _, hsz, _⟩ := tab_ok.row hre
        rw [run_equalIn_array w d xs ys hd1 hi]
        have hce : Tryz.prog.cellsOf e = re.size := by rw [← hsz]; simp [Program.cellsOf, hi]
        rw [hce]
        exact eqIs_ok (g := eqC S f e) (fun x y b w hh => eqC_ok hS f d e x y b w (by omega) hh) xs ys _ b w h
      · cases h
    · cases h

/-- The structs that are compared. -/
def eqS : List Nat := [69, 71, 200, 78]
theorem eqS_ok : eqS.all chkE = true := by decide +kernel

theorem equal_ok {t : Nat} {x y : Value} {b : Bool} (h : eqC eqS 20 t x y = some b) (w : World) : (Op.equal t x y).run Tryz.prog w = .ok b w := eqC_ok eqS_ok 20 10000 t x y b w (by omega) h

section
variable {n : Nat} {C : Cx} {Q : Exit → Act → World → Prop} {E E' : List (Nat × Value)} {F F' F1 Fs F0 : List Pf} {R R' R0 Rs N N' A : List HP} {k k' : List Fr} {ops l : List Oper} {L L' : List (Nat × Nat)} {Tl : List Nat}
  {i d : Nat} {t t2 ty0 : TypeId} {x y : Operand} {pos : String} {aft : Array Edge} {gd : Option (Nat × Bool)} {xs ys : Array Value}
end
end Go.Proofs.YtgaipgbgppdfeaaGreatDoor

set_option maxRecDepth 10000
namespace Go.Proofs.YtgaipgbgppdfeaaGreatDoor
open Go.RowKit

/-- Whether a key can be looked for: all of its parts are plain. -/
def ckFs (g : Nat → Value → Bool) : List (Nat × Nat × Nat) → List Value → Bool
  | [], _ => true
  | (o, t, _) :: fs, xs => match partv t xs o with
    | some a => g t a && ckFs g fs xs
    | none => false
def ckC (S : List Nat) : Nat → Nat → Value → Bool
  | 0, _, _ => false
  | f + 1, t, x => match lookT tab t with
    | some ⟨.int _, _, _, _⟩ => true
    | some ⟨.str, _, _, _⟩ => true
    | some ⟨.bool, _, _, _⟩ => true
    | some ⟨.struct fs, _, _, _⟩ => match x with
      | .agg xs => memN S t && ckFs (ckC S f) fs xs.toList
      | _ => false
    | _ => false

theorem ckFs_ok {g : Nat → Value → Bool} {d : Nat} {em : Bool} (hg : ∀ t x w, g t x = true → (Instr.checkKey em d t x).run Tryz.prog w = .ok () w) : ∀ (fl : List Field) (fs : List (Nat × Nat × Nat)) (xs : Array Value) (w : World),
    fl.map (fun f => (f.offset, f.type, ((Tryz.prog.info? f.type).map (·.size)).getD 0)) = fs → ckFs g fs xs.toList = true →
    (forIn fl PUnit.unit (fun f _ => if f.name ≠ "_" then (do
        let a ← part f.type xs f.offset
        Instr.checkKey em d f.type a
        pure (ForInStep.yield PUnit.unit)) else pure (ForInStep.yield PUnit.unit)) : Sem PUnit).run Tryz.prog w = .ok PUnit.unit w
  | [], _, _, w, _, _ => rfl
  | f :: fl, _, xs, w, h, he => by
    subst h
    simp only [List.map_cons, ckFs] at he
    split at he
    · rename_i a ha
      rw [Bool.and_eq_true] at he
      have ih := ckFs_ok hg fl _ xs w rfl he.2
      rw [List.forIn_cons]
      by_cases hn : f.name ≠ "_"
      · rw [if_pos hn]
        simp only [Sem.run_bind, partv_ok ha w, hg _ _ w he.1, Result.andThen, Sem.run_pure]
        exact ih
      · rw [if_neg hn]
        simp only [Sem.run_bind, Result.andThen, Sem.run_pure]
        exact ih
    · cases he

theorem ckC_ok {S : List Nat} (hS : S.all chkE = true) (em : Bool) : ∀ (f d t : Nat) (x : Value) (w : World), f ≤ d → ckC S f t x = true → (Instr.checkKey em d t x).run Tryz.prog w = .ok () w
  | 0, _, _, _, _, _, h => by cases h
  | f + 1, 0, _, _, _, hd, _ => by omega
  | f + 1, d + 1, t, x, w, hd, h => by
    unfold ckC at h
    split at h
    · rename_i hr
      obtain ⟨dd, hd1, hk1⟩ := tab_ok.und hr
      cases dd <;> simp [chkKind] at hk1
      simp [Instr.checkKey, underlying, hd1, go_sem]
    · rename_i hr
      obtain ⟨dd, hd1, hk1⟩ := tab_ok.und hr
      cases dd <;> simp [chkKind] at hk1
      simp [Instr.checkKey, underlying, hd1, go_sem]
    · rename_i hr
      obtain ⟨dd, hd1, hk1⟩ := tab_ok.und hr
      cases dd <;> simp [chkKind] at hk1
      simp [Instr.checkKey, underlying, hd1, go_sem]
    · rename_i fs _ _ _ hr
      split at h
      · rename_i xs
        rw [Bool.and_eq_true] at h
        obtain ⟨dd, hd1, hk1⟩ := tab_ok.und hr
        cases dd <;> simp [chkKind] at hk1
        rename_i fl
        have hu : (underlying t).run Tryz.prog w = .ok (.struct fl) w := by simp [underlying, hd1, go_sem]
        have hl := ckFs_ok (g := ckC S f) (d := d) (em := em) (fun t x w hh => ckC_ok hS em f d t x w (by omega) hh) fl.toList fs xs w (by simpa using hk1.1) h.2
        unfold Instr.checkKey
        simp only [Sem.run_bind, hu, Result.andThen]
        rw [← Array.forIn_toList]
        rw [hl]
        rfl
      · cases h
    · cases h

/-- Keys of a type that can be told apart. -/
structure KeyOK {α : Type} [DecidableEq α] (kt : Nat) (K : α → Value) : Prop where
  eq : ∀ a b w, (Op.equal kt (K a) (K b)).run Tryz.prog w = .ok (decide (a = b)) w
  chk : ∀ a em w, (Instr.checkKey em 10000 kt (K a)).run Tryz.prog w = .ok () w
  bits : ∀ a, Instr.sameBits 10000 (K a) (K a) = true
  now : ∃ d, Tryz.prog.underlying kt = some d ∧ ∀ a b, Instr.sameNow d (K a) (K b) = none ∨ Instr.sameNow d (K a) (K b) = some (decide (a = b))

section
variable {α β : Type} [DecidableEq α]
def mfind (a : α) : List (α × β) → Nat → Option (Nat × β)
  | [], _ => none
  | (b, v) :: m, i => if a = b then some (i, v) else mfind a m (i + 1)
def mget (a : α) : List (α × β) → Option β
  | [] => none
  | (b, v) :: m => if a = b then some v else mget a m
def mset (a : α) (v : β) : List (α × β) → List (α × β)
  | [] => [(a, v)]
  | (b, u) :: m => if a = b then (a, v) :: m else (b, u) :: mset a v m
theorem mfind_get (a : α) : ∀ (m : List (α × β)) (i : Nat), (mfind a m i).map (·.2) = mget a m
  | [], _ => rfl
  | (b, v) :: m, i => by
    unfold mfind mget
    split
    · rfl
    · exact mfind_get a m (i + 1)

variable {kt : Nat} {K : α → Value} {V : β → Value}
theorem findAsking_ok (hk : KeyOK kt K) (a : α) : ∀ (es : List MapEntry) (m : List (α × β)) (i : Nat) (w : World), es.map (fun e => (e.key, e.val)) = m.map (fun x => (K x.1, V x.2)) →
    (Instr.findAsking kt (K a) es i).run Tryz.prog w = .ok ((mfind a m i).map fun p => (p.1, V p.2)) w
  | [], m, i, w, h => by
    cases m with
    | nil => rfl
    | cons => simp at h
  | e :: es, m, i, w, h => by
    cases m with
    | nil => simp at h
    | cons x m =>
      obtain ⟨b, v⟩ := x
      simp only [List.map_cons, List.cons.injEq, Prod.mk.injEq] at h
      obtain ⟨⟨h1, h2⟩, h3⟩ := h
      unfold Instr.findAsking mfind
      simp only [Sem.run_bind, h1, hk.eq a b w, Result.andThen]
      by_cases hab : a = b
      · simp [hab, h2]
      · simp only [hab, decide_false, Bool.false_eq_true, if_false]
        exact findAsking_ok hk a es m (i + 1) w h3
theorem findNow_ok {d : TypeDesc} (hd : ∀ a b, Instr.sameNow d (K a) (K b) = none ∨ Instr.sameNow d (K a) (K b) = some (decide (a = b))) (a : α) : ∀ (es : List MapEntry) (m : List (α × β)) (i : Nat) (r : Option (Nat × Value)), es.map (fun e => (e.key, e.val)) = m.map (fun x => (K x.1, V x.2)) →
    Instr.findNow d (K a) es i = some r → r = (mfind a m i).map fun p => (p.1, V p.2)
  | [], m, i, r, h, hr => by
    cases m with
    | nil => exact (Option.some.inj hr).symm
    | cons => simp at h
  | e :: es, m, i, r, h, hr => by
    cases m with
    | nil => simp at h
    | cons x m =>
      obtain ⟨b, v⟩ := x
      simp only [List.map_cons, List.cons.injEq, Prod.mk.injEq] at h
      obtain ⟨⟨h1, h2⟩, h3⟩ := h
      unfold Instr.findNow at hr
      unfold mfind
      rw [h1] at hr
      rcases hd a b with e1 | e1
      · rw [e1] at hr; cases hr
      · rw [e1] at hr
        by_cases hab : a = b
        · simp only [hab, decide_true] at hr
          simp [hab, ← Option.some.inj hr, h2]
        · simp only [hab, decide_false] at hr
          rw [if_neg hab]
          exact findNow_ok hd a es m (i + 1) r h3 hr
theorem findKey_ok (hk : KeyOK kt K) (a : α) (es : List MapEntry) (m : List (α × β)) (w : World) (h : es.map (fun e => (e.key, e.val)) = m.map (fun x => (K x.1, V x.2))) :
    (Instr.findKey kt (K a) es).run Tryz.prog w = .ok ((mfind a m 0).map fun p => (p.1, V p.2)) w := by
  obtain ⟨d, hd, hn⟩ := hk.now
  have hu : (underlying kt).run Tryz.prog w = .ok d w := by simp [underlying, hd, go_sem]
  unfold Instr.findKey
  simp only [Sem.run_bind, hu, Result.andThen]
  split
  · rename_i r hr
    rw [findNow_ok hn a es m 0 r h hr]; rfl
  · exact findAsking_ok hk a es m 0 w h

/-- The stamps of a map's entries. -/
def BornOK (es : Array MapEntry) (clock : Nat) : Prop := (es.toList.map (·.born)).Nodup ∧ ∀ e ∈ es.toList, e.born < clock
/-- A map that is owned. -/
def Mp (K : α → Value) (V : β → Value) (r : Nat) (m : List (α × β)) : HP := fun h => ∃ es clock, h r = some (.map es clock) ∧ es.toList.map (fun e => (e.key, e.val)) = (m.map fun x => (K x.1, V x.2)) ∧ BornOK es clock

theorem mset_none (a : α) (v : β) : ∀ (m : List (α × β)) (i : Nat), mfind a m i = none → mset a v m = m ++ [(a, v)]
  | [], _, _ => rfl
  | (b, u) :: m, i, h => by
    unfold mfind at h
    split at h
    · cases h
    · rename_i hab
      rw [mset, if_neg hab, mset_none a v m (i + 1) h]; rfl
theorem mset_some (a : α) (v : β) : ∀ (m : List (α × β)) (i j : Nat) (u : β), mfind a m i = some (j, u) → ∃ p, j = i + p ∧ m[p]? = some (a, u) ∧ mset a v m = m.set p (a, v)
  | [], _, _, _, h => by cases h
  | (b, u') :: m, i, j, u, h => by
    unfold mfind at h
    split at h
    · rename_i hab
      subst hab
      simp only [Option.some.injEq, Prod.mk.injEq] at h
      obtain ⟨rfl, rfl⟩ := h
      exact ⟨0, by omega, by simp, by simp [mset]⟩
    · rename_i hab
      obtain ⟨p, h1, h2, h3⟩ := mset_some a v m (i + 1) j u h
      exact ⟨p + 1, by omega, by simpa using h2, by simp [mset, hab, h3]⟩
end

theorem setObj_write {G : H} {w0 w : World} {hp0 : H} {F : List Pf} {R : List HP} {b : Nat} {o o' : Obj} (hs : Sat G w0 hp0 F (Pt b o :: R) w) : Sat G w0 hp0 F (Pt b o' :: R) { w with heap := w.heap.setIfInBounds b o' } := by
  have hb := hs.pt Sel.here
  have hlt := (Array.getElem?_eq_some_iff.1 hb).1
  refine hs.write ⟨rfl, rfl, rfl, by simp⟩ ?_ fun c hc _ => ?_
  · simp [hlt]
  · simp only [Array.getElem?_setIfInBounds]; rw [if_neg (fun e => hc e.symm)]

theorem mp_open {α β : Type} {K : α → Value} {V : β → Value} {r : Nat} {m : List (α × β)} {G : H} {w0 w : World} {hp0 : H} {F : List Pf} {R R0 : List HP} (hs : Sel (Mp K V r m) R R0) (h : Sat G w0 hp0 F R w) :
    ∃ es clock, Sat G w0 hp0 F (Pt r (.map es clock) :: R0) w ∧ es.toList.map (fun e => (e.key, e.val)) = (m.map fun x => (K x.1, V x.2)) ∧ BornOK es clock := by
  obtain ⟨⟨⟨es, clock⟩, he, hB⟩, h1⟩ := (h.sel hs).open' (X := { x : Array MapEntry × Nat // x.1.toList.map (fun e => (e.key, e.val)) = (m.map fun x => (K x.1, V x.2)) ∧ BornOK x.1 x.2 }) (L := fun x => [Pt r (.map x.1.1 x.1.2)]) fun k hk => by
    obtain ⟨es, clock, h1, h2, h3⟩ := hk
    exact ⟨⟨(es, clock), h2, h3⟩, k, emp, (fun _ => .inr rfl), Sub.refl _, (fun _ _ e => by cases e), h1, trivial⟩
  exact ⟨es, clock, h1, he, hB⟩
theorem mp_shut {α β : Type} {K : α → Value} {V : β → Value} {r : Nat} {m : List (α × β)} {G : H} {w0 w : World} {hp0 : H} {F : List Pf} {R0 : List HP} {es : Array MapEntry} {clock : Nat} (h : Sat G w0 hp0 F (Pt r (.map es clock) :: R0) w)
    (he : es.toList.map (fun e => (e.key, e.val)) = m.map fun x => (K x.1, V x.2)) (hB : BornOK es clock) : Sat G w0 hp0 F (Mp K V r m :: R0) w :=
  h.shut (L := [Pt r (.map es clock)]) fun k hk => by
    obtain ⟨h1, h2, _, s1, _, hx, _⟩ := hk
    exact ⟨es, clock, s1 _ _ hx, he, hB⟩

/-- The zero value of a type. -/
def zval (r : TRow) : Option Value := bif r.k.isAgg then some (.agg r.zero.toArray) else match r.zero with | [z] => some z | _ => none
theorem zval_ok {t : Nat} {r : TRow} {z : Value} (hr : lookT tab t = some r) (hz : zval r = some z) (w : World) : (zeroValue t).run Tryz.prog w = .ok z w := by
  have h1 := List.all_eq_true.1 tab_ok _ (lookT_mem hr)
  simp only [chkRow] at h1
  split at h1
  · rename_i i d hi hd
    simp only [Bool.and_eq_true, beq_iff_eq] at h1
    obtain ⟨_, h5⟩ := h1
    split at h5
    · rename_i z0 hz0
      rw [Bool.and_eq_true] at h5
      have hc := zeqs_eq h5.1
      have hzz : z = z0 := by
        unfold zval at hz
        cases z0 with
        | agg cs =>
          simp only at h5
          rw [h5.2] at hz
          simp only [cond_true, Option.some.injEq] at hz
          rw [← hz, ← hc]; simp [Value.cells]
        | _ =>
          simp only [Bool.not_eq_true'] at h5
          rw [h5.2] at hz
          simp only [Value.cells] at hc
          rw [← hc] at hz
          simpa using hz.symm
      subst hzz
      simp [zeroValue, typeInfo, hi, hz0, go_sem]
    · cases h5
  · cases h1

section
variable {n : Nat} {C : Cx} {Q : Exit → Act → World → Prop} {E E' : List (Nat × Value)} {F F' F1 Fs F0 : List Pf} {R R' R0 Rs N N' A : List HP} {k k' : List Fr} {ops l : List Oper}
  {i d : Nat} {t ty0 : TypeId} {x y z : Operand} {pos : String} {aft : Array Edge} {gd : Option (Nat × Bool)} {α β : Type} [DecidableEq α] {K : α → Value} {V : β → Value}

theorem run_undM {kt et : Nat} {w : World} {rs : TRow} (hts : lookT tab t = some rs) (hrs : rs.k = .map kt et) : (underlying t).run Tryz.prog w = .ok (.map kt et) w := by
  obtain ⟨d1, hd1, hk1⟩ := tab_ok.und hts
  rw [hrs] at hk1
  cases d1 <;> simp [chkKind] at hk1
  obtain ⟨rfl, rfl⟩ := hk1
  simp [underlying, hd1, go_sem]

/-- A new map. -/
theorem l_mkm {kt et : Nat} {rs : TRow} (_hk : KeyOK kt K) (V : β → Value) (nx : ∀ r, Wl n C ops.toArray k Q l ((d, .map (some r)) :: E) F (Mp K V r [] :: R)) (hw : wantL ops E ⟨some d, .makeMap t none, ty0, pos, aft, gd⟩ = some true := by rfl) (hn : Nat.blt d n = true := by rfl) (_hts : lookT tab t = some rs := by rfl) (_hrs : rs.k = .map kt et := by rfl) :
    Wl n C ops.toArray k Q (⟨some d, .makeMap t none, ty0, pos, aft, gd⟩ :: l) E F R :=
  wl_op (fun t ht => by cases ht; exact Nat.le_of_ble_eq_true hn) (fun c hc => by cases hc) hw fun a w ha hsat => by
    have h1 := hsat.alloc (.map #[] 0)
    exact fun a' ha' => nx w.heap.size a' _ ha' (mp_shut (K := K) (V := V) (m := []) h1 rfl ⟨by simp, by simp⟩)

/-- An element of a map is set. -/
theorem l_mset {kt et r : Nat} {rs : TRow} {m : List (α × β)} (hk : KeyOK kt K) (a : α) (v : β) (nx : Wl n C ops.toArray k Q l E F (Mp K V r (mset a v m) :: R0)) (hw : wantL ops E ⟨none, .mapUpdate t x y z, ty0, pos, aft, gd⟩ = some true := by rfl)
    (hx : ev E x = some (.map (some r)) := by rfl) (hy : ev E y = some (K a) := by rfl) (hz : ev E z = some (V v) := by rfl) (hts : lookT tab t = some rs := by rfl) (hrs : rs.k = .map kt et := by rfl)
    (hs : Sel (Mp K V r m) R R0 := by (repeat (first | exact Sel.here | apply Sel.there)); first | done | fail) : Wl n C ops.toArray k Q (⟨none, .mapUpdate t x y z, ty0, pos, aft, gd⟩ :: l) E F R :=
  wl_op (fun t ht => by cases ht) (fun c hc => by cases hc) hw fun ac w ha hsat => by
    obtain ⟨es, clock, h1, he, hB⟩ := mp_open hs hsat
    have hb := h1.pt Sel.here
    have hu := run_undM (w := w) hts hrs
    have hg : (getObj r).run Tryz.prog w = .ok (.map es clock) w := by simp [getObj, Sem.run, hb]
    have hc := hk.chk a false w
    have hf := findKey_ok hk a es.toList m w he
    unfold OpRes
    simp only [execOp, ha.ev (x := x) (by rw [evf_look]; exact hx), ha.ev (x := y) (by rw [evf_look]; exact hy), ha.ev (x := z) (by rw [evf_look]; exact hz), Instr.mapUpdate, Sem.run_bind, hu, Result.andThen, hg, hc, hf]
    cases hm : mfind a m 0 with
    | none =>
      simp only [Option.map_none]
      have hset : (setObj r (.map (es.push { key := K a, val := V v, born := clock }) (clock + 1))).run Tryz.prog w = .ok () { w with heap := w.heap.setIfInBounds r (.map (es.push { key := K a, val := V v, born := clock }) (clock + 1)) } := by simp [setObj, Sem.run, hb]
      simp only [hset, Sem.run_pure]
      refine fun a' ha' => nx a' _ ha' (mp_shut (setObj_write h1) ?_ ?_)
      · rw [mset_none a v m 0 hm]
        simp [he]
      · refine ⟨?_, fun e hem => ?_⟩
        · rw [Array.toList_push, List.map_append]
          refine List.nodup_append.2 ⟨hB.1, by simp, fun b hb c hc => ?_⟩
          obtain ⟨e, hem, rfl⟩ := List.mem_map.1 hb
          have := hB.2 e hem
          simp at hc
          omega
        · rw [Array.toList_push] at hem
          rcases List.mem_append.1 hem with hem | hem
          · have := hB.2 e hem; omega
          · obtain rfl := List.mem_singleton.1 hem
            exact Nat.lt_succ_self _
    | some q =>
      obtain ⟨j, u⟩ := q
      obtain ⟨p, hj, hp, hms⟩ := mset_some a v m 0 j u hm
      obtain rfl : j = p := by omega
      have hkey : (es.toList.map (fun e => (e.key, e.val)))[j]? = some (K a, V u) := by rw [he]; simp [hp]
      have hold : ((es[j]?).map (·.key)).getD (K a) = K a := by
        simp only [List.getElem?_map, Array.getElem?_toList, Option.map_eq_some_iff] at hkey
        obtain ⟨e, he1, he2⟩ := hkey
        rw [he1]
        simp only [Prod.mk.injEq] at he2
        simp [he2.1]
      simp only [Option.map_some]
      have hkt : (Instr.keyThatStays (((es[j]?).map (·.key)).getD (K a)) (K a)).run Tryz.prog w = .ok (K a) w := by
        rw [hold]; simp [Instr.keyThatStays, hk.bits a]
      have hset : (setObj r (.map (es.modify j fun e => { e with key := K a, val := V v }) clock)).run Tryz.prog w = .ok () { w with heap := w.heap.setIfInBounds r (.map (es.modify j fun e => { e with key := K a, val := V v }) clock) } := by simp [setObj, Sem.run, hb]
      simp only [hkt, Sem.run_bind, Result.andThen, hset, Sem.run_pure]
      have hborn : (es.modify j fun e => { e with key := K a, val := V v }).toList.map (·.born) = es.toList.map (·.born) := by
        apply List.ext_getElem?
        intro i
        simp only [List.getElem?_map, Array.getElem?_toList, Array.getElem?_modify]
        split
        · cases es[i]? <;> rfl
        · rfl
      refine fun a' ha' => nx a' _ ha' (mp_shut (setObj_write h1) ?_ ⟨by rw [hborn]; exact hB.1, fun e hem => ?_⟩)
      rotate_left
      · have h3 : e.born ∈ es.toList.map (·.born) := by rw [← hborn]; exact List.mem_map_of_mem hem
        obtain ⟨e', hem', he'⟩ := List.mem_map.1 h3
        rw [← he']; exact hB.2 e' hem'
      rw [hms]
      apply List.ext_getElem?
      intro i
      have hei : (es.toList.map (fun e => (e.key, e.val)))[i]? = (m.map fun x => (K x.1, V x.2))[i]? := by rw [he]
      simp only [List.getElem?_map, Array.getElem?_toList, Array.getElem?_modify, List.getElem?_set] at hei ⊢
      by_cases hij : j = i
      · subst hij
        simp only [if_true]
        have hlt := (List.getElem?_eq_some_iff.1 hp).1
        rw [if_pos hlt]
        rw [hp] at hei
        simp only [Option.map_some, Option.map_eq_some_iff] at hei
        obtain ⟨e, he1, _⟩ := hei
        simp [he1]
      · simp only [if_neg hij]
        exact hei

end
end Go.Proofs.YtgaipgbgppdfeaaGreatDoor

set_option maxRecDepth 10000
namespace Go.Proofs.YtgaipgbgppdfeaaGreatDoor
open Go.RowKit

/-- What was met: the places js, with their stamps and entries. -/
structure SeenOK {α β : Type} (es : List MapEntry) (m pre : List (α × β)) (seen : List Nat) (js : List Nat) : Prop where
  nd : js.Nodup
  lt : ∀ j ∈ js, j < m.length
  sn : seen.map some = js.map fun j => (es[j]?).map (·.born)
  pr : pre.map some = js.map fun j => m[j]?


/-- An owned map over which an iterator goes: pre was met, in this order. -/
def MpI {α β : Type} (K : α → Value) (V : β → Value) (r it : Nat) (m pre : List (α × β)) : HP := fun h => ∃ es clock seen, (es.toList.map (fun e => (e.key, e.val)) = (m.map fun x => (K x.1, V x.2)) ∧ BornOK es clock ∧ ∃ js, SeenOK es.toList m pre seen.toList js) ∧ Sep [Pt r (.map es clock), Pt it (.mapIter (some r) clock seen clock)] h

section
variable {α β : Type} {K : α → Value} {V : β → Value} {r it : Nat} {m pre : List (α × β)} {G : H} {w0 w : World} {hp0 : H} {F : List Pf} {R R0 : List HP}
end

section
variable {n : Nat} {C : Cx} {Q : Exit → Act → World → Prop} {E E' : List (Nat × Value)} {F F' F1 Fs F0 : List Pf} {R R' R0 Rs N N' A : List HP} {k k' : List Fr} {ops l : List Oper}
  {i d : Nat} {t ty0 : TypeId} {x y z : Operand} {pos : String} {aft : Array Edge} {gd : Option (Nat × Bool)} {α β : Type} {K : α → Value} {V : β → Value} {m pre : List (α × β)} {r it : Nat}






end
end Go.Proofs.YtgaipgbgppdfeaaGreatDoor

set_option maxRecDepth 10000
namespace Go.Proofs.YtgaipgbgppdfeaaGreatDoor
open Go.RowKit

instance decNm : DecidableEq Nm := fun a b => decidable_of_iff (cmpO a b = 0) (cmpO_eq a b)

/-- A change. -/
structure Ch where
  nm : Nm
  val : ByteArray
  abs : Bool
def chf (c : Ch) : List Value := [.int .i64 c.nm.kind, .string c.nm.owner, .int .i64 c.nm.number, .int .i64 c.nm.index, .string c.nm.text, .string c.val, .bool c.abs]
def Ch.v (c : Ch) : Value := .agg #[.int .i64 c.nm.kind, .string c.nm.owner, .int .i64 c.nm.number, .int .i64 c.nm.index, .string c.nm.text, .string c.val, .bool c.abs]
def iv (i : Nat) : Value := .int .i64 (i : Int)

theorem beqSv (a b : ByteArray) : (a.toList == b.toList) = decide (a = b) := by
  rw [toList_data, toList_data, Bool.eq_iff_iff]
  simp only [beq_iff_eq, decide_eq_true_eq]
  exact ⟨fun h => ba_ext h, fun h => by rw [h]⟩
theorem beqIv (a b : Int) : (a == b) = decide (a = b) := by rw [Bool.eq_iff_iff]; simp
theorem key_nm : KeyOK 69 Nm.v where
  eq a b w := by
    refine (equal_ok (t := 69) (x := Nm.v a) (y := Nm.v b) rfl w).trans ?_
    obtain ⟨a1, a2, a3, a4, a5⟩ := a
    obtain ⟨b1, b2, b3, b4, b5⟩ := b
    congr 1
    simp only [beqSv, beqIv, Nm.mk.injEq]
    rw [Bool.eq_iff_iff]
    simp
  chk a em w := ckC_ok eqS_ok em 20 10000 _ _ w (by omega) rfl
  bits a := by simp [Nm.v, Instr.sameBits, beq_toListBytes]
  now := ⟨_, rfl, fun a b => .inl rfl⟩

section
variable {α β : Type} [DecidableEq α]
theorem mget_setv (a : α) (v : β) : ∀ (m : List (α × β)) (b : α), mget b (mset a v m) = if a = b then some v else mget b m
  | [], b => by
    by_cases h : a = b
    · subst h; simp [mset, mget]
    · have : b ≠ a := fun e => h e.symm
      simp [mset, mget, h, this]
  | (c, u) :: m, b => by
    have ih := mget_setv a v m b
    unfold mset
    by_cases hac : a = c
    · subst hac
      rw [if_pos rfl, mget, mget]
      by_cases hab : a = b
      · subst hab; simp
      · have : b ≠ a := fun e => hab e.symm
        simp [hab, this]
    · rw [if_neg hac, mget, mget, ih]
      by_cases hab : a = b
      · subst hab; simp [hac]
      · simp [hab]
end

/-- For each name of a call, the place of the last one. -/
def lastG : List Ch → Nat → List (Nm × Nat) → List (Nm × Nat)
  | [], _, m => m
  | c :: cs, i, m => lastG cs (i + 1) (mset c.nm i m)
def lastL (cs : List Ch) : List (Nm × Nat) := lastG cs 0 []
theorem lastG_snoc (c : Ch) : ∀ (cs : List Ch) (i : Nat) (m : List (Nm × Nat)), lastG (cs ++ [c]) i m = mset c.nm (i + cs.length) (lastG cs i m)
  | [], i, m => rfl
  | d :: cs, i, m => by
    rw [List.cons_append, lastG, lastG_snoc c cs (i + 1), lastG, List.length_cons, Nat.add_right_comm, Nat.add_assoc]
theorem lastL_snoc (cs : List Ch) (c : Ch) : lastL (cs ++ [c]) = mset c.nm cs.length (lastL cs) := by
  unfold lastL; rw [lastG_snoc, Nat.zero_add]
/-- The last call of a name. -/
def vcall (cs : List Ch) (n : Nm) : Option Ch := cs.reverse.find? fun c => decide (c.nm = n)
theorem vcall_snoc (cs : List Ch) (c : Ch) (n : Nm) : vcall (cs ++ [c]) n = if c.nm = n then some c else vcall cs n := by
  unfold vcall
  rw [List.reverse_append, List.reverse_singleton, List.singleton_append, List.find?_cons]
  by_cases h : c.nm = n <;> simp [h]
theorem snoc_ind {γ : Type} {P : List γ → Prop} (h0 : P []) (h1 : ∀ l a, P l → P (l ++ [a])) (l : List γ) : P l := by
  have : ∀ l : List γ, P l.reverse := fun l => by
    induction l with
    | nil => exact h0
    | cons a l ih => rw [List.reverse_cons]; exact h1 _ _ ih
  have := this l.reverse
  rwa [List.reverse_reverse] at this
/-- The map of the last places and the last calls. -/
theorem lastL_get (n : Nm) (cs : List Ch) : (∀ i, mget n (lastL cs) = some i → ∃ c, cs[i]? = some c ∧ vcall cs n = some c) ∧ (mget n (lastL cs) = none → vcall cs n = none) := by
  refine snoc_ind (P := fun cs => (∀ i, mget n (lastL cs) = some i → ∃ c, cs[i]? = some c ∧ vcall cs n = some c) ∧ (mget n (lastL cs) = none → vcall cs n = none)) ?_ ?_ cs
  · exact ⟨fun i h => by simp [lastL, lastG, mget] at h, fun _ => rfl⟩
  · intro cs c ih
    rw [lastL_snoc, mget_setv, vcall_snoc]
    by_cases h : c.nm = n
    · simp only [if_pos h]
      exact ⟨fun i hi => ⟨c, by obtain rfl := Option.some.inj hi; simp, rfl⟩, fun h => by cases h⟩
    · simp only [if_neg h]
      refine ⟨fun i hi => ?_, ih.2⟩
      obtain ⟨d, h1, h2⟩ := ih.1 i hi
      exact ⟨d, by rw [List.getElem?_append_left (List.getElem?_eq_some_iff.1 h1).1]; exact h1, h2⟩

/-- What Get answers, and what it has read then. -/
def vget (es : Al) (cs : List Ch) (n : Nm) : ByteArray × Bool :=
  if nchk n ≠ 0 then (⟨#[]⟩, false) else match vcall cs n with
    | some c => (c.val, !c.abs)
    | none => ((getO n es).getD ⟨#[]⟩, (getO n es).isSome)
def vread (es : Al) (rs : List (Nm × Ch)) (cs : List Ch) (n : Nm) : List (Nm × Ch) :=
  if nchk n ≠ 0 then rs else match vcall cs n with
    | some _ => rs
    | none => mset n ⟨n, (getO n es).getD ⟨#[]⟩, !(getO n es).isSome⟩ rs
def vset (cs : List Ch) (n : Nm) (v : ByteArray) : Int × List Ch := if nchk n ≠ 0 then (12, cs) else if 65536 < v.size then (5, cs) else (0, cs ++ [⟨n, v, false⟩])
def vdel (cs : List Ch) (n : Nm) : Int × List Ch := if nchk n ≠ 0 then (12, cs) else (0, cs ++ [⟨n, ⟨#[]⟩, true⟩])
end Go.Proofs.YtgaipgbgppdfeaaGreatDoor

set_option maxRecDepth 10000
namespace Go.Proofs.YtgaipgbgppdfeaaGreatDoor
open Go.RowKit

variable {n : Nat} {C : Cx} {Q : Exit → Act → World → Prop} {E E' : List (Nat × Value)} {F F' F1 Fs F0 : List Pf} {R R' R0 Rs N N' A : List HP} {k k' : List Fr} {ops l : List Oper} {L L' : List (Nat × Nat)} {Tl : List Nat}
  {i d : Nat} {t ty0 : TypeId} {x y : Operand} {pos : String} {aft : Array Edge} {gd : Option (Nat × Bool)} {b off : Nat} {cs : Array Value} {ty : TypeId} {fzn : Nat × Nat} {v : Value}

/-- A call of a function value. -/
theorem r_callF {f : FuncId} {fs cs : Array Value} {args : Array Operand} {tys : Array TypeId} {vs us : List Value} {post : Post} (spec : Enters f ∧ Spec Tryz.prog f us.toArray F1 A post)
    (nx : ∀ x, post.pure x → Wr n C ops k Q Tl Fs R L ((d, post.val x) :: E) (post.F x ++ F) (post.R x ++ N')) (ho : nth ops i = some ⟨some d, .call ⟨.value x, args, tys⟩, ty0, pos, aft, gd⟩ := by rfl)
    (hw : wantL ops E ⟨some d, .call ⟨.value x, args, tys⟩, ty0, pos, aft, gd⟩ = some true := by rfl)
    (hx : ev E x = some (.func (.func f) fs cs) := by rfl) (hargs : evs (ev E) args.toList some = some vs := by rfl) (has : fs.toList ++ vs ++ cs.toList = us := by rfl)
    (sel : Sels A N N' := by (repeat (first | exact Sels.nil | exact Sel.here | apply Sel.there | apply Sels.cons)); first | done | fail)
    (hF : EntF F F1 := by (repeat (first | exact trivial | exact Sel.here | apply Sel.there | apply EntF.cons)); first | done | fail) : Wr n C ops k Q Tl Fs R ((i, 4) :: L) E F N :=
  wr_go ho fun hp hr w st hz sb => by
    simp only [wantL_ok hw]
    refine ⟨⟨post.X, post.val, post.pure, fun x => post.F x ++ F, fun x => post.R x ++ N'⟩, fun a G w hp' ha hsub hsat => ?_, fun x hx => nx x hx hp hr w st hz sb⟩
    unfold OpRes
    rw [run_callF spec.1 hx hargs ha w]
    have e : fs ++ vs.toArray ++ cs = us.toArray := by rw [← has, ← Array.toList_inj]; simp
    rw [e]
    exact sat_call spec.2 hsat sel hF.all fun x w' hx hs' => ⟨x, rfl, hx, hs'⟩

theorem stv_ok' {w : World} {cs' : List Value} (h : w.heap[b]? = some (.cells cs ty fzn)) (hf : fzn = (0, 0) ∨ cs.toList.length ≤ fzn.1) (hv : stv t cs.toList off v = some cs') :
    ∃ w', (storeVar t ⟨b, off, none⟩ v).run Tryz.prog w = .ok () w' ∧ w'.heap[b]? = some (.cells cs'.toArray ty fzn) ∧ Same w w' ∧ ∀ c, c ≠ b → w'.heap[c]? = w.heap[c]? := by
  unfold stv at hv
  split at hv
  · rename_i r vs hr hvs
    cases hc : (Nat.beq vs.length r.size && vs.all one1) with
    | false => simp [hc] at hv
    | true =>
      simp only [hc, cond_true] at hv
      rw [Bool.and_eq_true] at hc
      have hlen := Nat.eq_of_beq_eq_true hc.1
      obtain ⟨h1, h2⟩ := putF_eq _ _ _ _ _ hv
      have hcl := vcells_eq hvs
      have hsz := tab_ok.sizeOf hr w
      have hle : vs ≠ [] → off + 0 + vs.length ≤ cs.toList.length := fun hne => by simpa using h1 hne
      have hst : ∃ w', (storeCells ⟨b, off, none⟩ vs 0).run Tryz.prog w = .ok () w' ∧ w'.heap[b]? = some (.cells cs'.toArray ty fzn) ∧ Same w w' ∧ ∀ c, c ≠ b → w'.heap[c]? = w.heap[c]? := by
        by_cases hne : vs = []
        · subst hne
          refine ⟨w, rfl, ?_, Same.refl _, fun _ _ => rfl⟩
          simp at h2; subst h2; simpa using h
        · obtain ⟨w', g1, g2, g3, g4⟩ := run_storeCells' (P := Tryz.prog) off vs 0 w cs.toList (by simpa using h) hf hc.2 (hle hne)
          refine ⟨w', g1, ?_, g3, g4⟩
          rw [g2]
          simp at h2; simp [h2]
      obtain ⟨w', g1, g2⟩ := hst
      refine ⟨w', ?_, g2⟩
      unfold storeVar
      simp only [Sem.run_bind, hsz, Result.andThen, hcl]
      rw [if_neg (by simp [hlen])]
      exact g1
  · cases hv

/-- An owned slice's block: the elements es, then the rest. -/
def Ax {α : Type} (T : Nat) (f : α → List Value) (b : Nat) (es : List α) (q : List Value × (Nat × Nat)) : HP := Pt b (.cells (es.flatMap f ++ q.1).toArray T q.2)
/-- What of it is frozen lies behind its end. -/
def AxOK (len : Nat) (q : List Value × (Nat × Nat)) : Prop := q.2 = (0, 0) ∨ len + q.1.length ≤ q.2.1

theorem ax_split {α : Type} {f : α → List Value} {sz : Nat} {q : List Value} (hf : ∀ e, (f e).length = sz) {es : List α} {j : Nat} {e : α} (he : es[j]? = some e) : es.flatMap f ++ q = (es.take j).flatMap f ++ (f e ++ ((es.drop (j + 1)).flatMap f ++ q)) ∧ ((es.take j).flatMap f).length = j * sz := by
  obtain ⟨h1, h2⟩ := ar_split hf he
  exact ⟨by rw [h1]; simp, h2⟩

theorem r_ldE {α : Type} {T : Nat} {f : α → List Value} {es : List α} {q : List Value × (Nat × Nat)} {e : α} (sz j o : Nat) (he : es[j]? = some e) (nx : Wr n C ops k Q Tl Fs R L ((d, v) :: E) F N) (hop : nth ops i = some ⟨some d, .load t x, ty0, pos, aft, gd⟩ := by rfl) (hw : wantL ops E ⟨some d, .load t x, ty0, pos, aft, gd⟩ = some true := by rfl)
    (hx : ev E x = some (.pointer (some ⟨b, off, none⟩)) := by rfl) (hs : Sel (Ax T f b es q) R R0 := by (repeat (first | exact Sel.here | apply Sel.there)); first | done | fail) (hv : ldv t (f e) o = some v := by rfl) (hf : ∀ e, (f e).length = sz := by intro; rfl) (ho : off = j * sz + o := by first | rfl | omega) :
    Wr n C ops k Q Tl Fs R ((i, 0) :: L) E F N :=
  wr_go hop fun hp hr w st hz sb => by
    simp only [wantL_ok hw]
    refine ⟨v, fun a w ha hin => ?_, nx hp hr w st hz sb⟩
    obtain ⟨e1, e2⟩ := ax_split (q := q.1) hf he
    have hv' : ldv t (es.flatMap f ++ q.1).toArray.toList off = some v := by
      rw [ho, ← e2]
      show ldv t (es.flatMap f ++ q.1) _ = _
      rw [e1]
      exact ldv_in hv
    have hr := ldv_ok (hin _ _ (sb _ _ (stat_pt st hs))) hv'
    simp only [execOp, Instr.loadAt, ha.ev (by rw [evf_look]; exact hx), Instr.sureAddr, Sem.run_bind, Sem.run_pure, Result.andThen, hr]

/-- A store into an owned slice, where the order is drawn. -/
theorem r_stE {α : Type} {T : Nat} {f : α → List Value} {es : List α} {q : List Value × (Nat × Nat)} {e : α} (sz j o : Nat) (e' : α) (he : es[j]? = some e) (hq : AxOK (es.length * sz) q) (nx : Wr n C ops k Q Tl Fs R L E F (Ax T f b (es.set j e') q :: N'))
    (hop : nth ops i = some ⟨none, .store t x y, ty0, pos, aft, gd⟩ := by rfl) (hw : wantL ops E ⟨none, .store t x y, ty0, pos, aft, gd⟩ = some true := by rfl)
    (hx : ev E x = some (.pointer (some ⟨b, off, none⟩)) := by rfl) (hy : ev E y = some v := by rfl) (hs : Sel (Ax T f b es q) N N' := by (repeat (first | exact Sel.here | apply Sel.there)); first | done | fail) (hv : stv t (f e) o v = some (f e') := by rfl) (hf : ∀ e, (f e).length = sz := by intro; rfl) (ho : off = j * sz + o := by first | rfl | omega) :
    Wr n C ops k Q Tl Fs R ((i, 4) :: L) E F N :=
  wr_go hop fun hp hr w st hz sb => by
    simp only [wantL_ok hw]
    refine ⟨⟨Unit, fun _ => undef, fun _ => True, fun _ => F, fun _ => Ax T f b (es.set j e') q :: N'⟩, fun a G w hp' ha hsub hsat => ?_, fun _ _ => nx hp hr w st hz sb⟩
    obtain ⟨e1, e2⟩ := ax_split (q := q.1) hf he
    have hv' : stv t (es.flatMap f ++ q.1).toArray.toList off v = some ((es.set j e').flatMap f ++ q.1) := by
      rw [ho, ← e2, ar_set he]
      show stv t (es.flatMap f ++ q.1) _ _ = _
      rw [e1, stv_in hv]
      simp
    have hfz : q.2 = (0, 0) ∨ (es.flatMap f ++ q.1).toArray.toList.length ≤ q.2.1 := by
      rcases hq with h | h
      · exact .inl h
      · exact .inr (by simpa [flat_len hf] using h)
    obtain ⟨w', g1, g2, g3, g4⟩ := stv_ok' (hsat.pt hs) hfz hv'
    unfold OpRes
    simp only [execOp, Instr.storeAt, ha.ev (x := x) (by rw [evf_look]; exact hx), ha.ev (x := y) (by rw [evf_look]; exact hy), Instr.sureAddr, Sem.run_bind, Sem.run_pure, Result.andThen, g1]
    exact ⟨(), trivial, trivial, (hsat.sel hs).write g3 g2 fun c hc _ => g4 c hc⟩



def AnyI : Post := ⟨Int, fun z => .int .i64 z, fun _ => True, fun _ => [], fun _ => []⟩

/-- Sorted by a comparison. -/
def Srd {α : Type} (c : α → α → Int) (l : List α) : Prop := l.Pairwise fun a b => ¬ c b a < 0
end Go.Proofs.YtgaipgbgppdfeaaGreatDoor
