/-
  Rules for regions that draw their order.
  Conditions: none beyond those that each theorem states.
-/
import Derived.Test.YtijaglinajfplaaGreatDoorRules
namespace Go.Proofs.YtijaglinajfplaaGreatDoor
open Go.RowKit

variable {n : Nat} {C : Cx} {Q : Exit → Act → World → Prop} {E E' : List (Nat × Value)} {F F' F1 Fs : List Pf} {R R' R0 Rs N N' A : List HP} {k k' : List Fr} {ops l : List Oper} {L L' : List (Nat × Nat)} {Tl : List Nat}
  {i d : Nat} {t ty0 : TypeId} {x y : Operand} {pos : String} {aft : Array Edge} {gd : Option (Nat × Bool)} {b off : Nat} {cs : Array Value} {ty : TypeId} {fzn : Nat × Nat} {v : Value}

/-- The walk inside such a region: R stays as it is; F, N: what is known and owned besides. -/
def Wr (n : Nat) (C : Cx) (ops : List Oper) (k : List Fr) (Q : Exit → Act → World → Prop) (Tl : List Nat) (Fs : List Pf) (R : List HP) (L : List (Nat × Nat)) (E : List (Nat × Value)) (F : List Pf) (N : List HP) : Prop :=
  ∀ hp hr w, SatAt C.G C.w0 C.hp0 Fs R w hp hr → ∀ hz, Sub (un hr hp) hz → WS Tryz.prog tab n C.ds ops.toArray hz (WSEnd Tryz.prog C.r n C.ds ops.toArray (un C.G hr) C.w0 hp (after C.r k Q) Tl) L (look E) F N

/-- A region that draws its order is begun: Rm may change in it, R stays. -/
theorem k_draw {l : List Oper} (id : Nat) (Rm : List HP) (L : List (Nat × Nat)) (Tl : List Nat) (t : Wr n C l k' Q Tl F Rs L E F Rm) (hsel : Sels Rm R Rs := by (repeat (first | exact Sels.nil | exact Sel.here | apply Sel.there | apply Sels.cons)); first | done | fail)
    (h : nf 1000 k = .c (.region id l.toArray true) :: k' := by rfl) (hok : (okW l.toArray (Region.before l.toArray) L Tl && dstsOK n l.toArray) = true := by decide +kernel) : Wk n C k Q E F R :=
  fun a w ha hs => nf_ok 1000 k (by
    rw [h]
    obtain ⟨hp, hr, st⟩ := hs.sels hsel
    obtain ⟨h1, h2, d12, s1, s2, hA, hR⟩ := sep_append st.r
    have st2 : SatAt C.G C.w0 C.hp0 F Rs w hp h2 := ⟨st.inp, st.inr.sub s2, st.ing, (st.d1.symm.sub s2).symm, st.d2, st.d3.sub s2, st.sub, st.f, hR, st.same⟩
    have sat0 : Sat (un C.G h2) C.w0 hp F Rm w := ⟨hp, h1, st.inp, st.inr.sub s1, In.un st.ing (st.inr.sub s2), (st.d1.symm.sub s1).symm, (dj_un.2 ⟨st.d2.symm, st.d1.symm.sub s2⟩).symm,
      (dj_un.2 ⟨(st.d3.sub s1).symm, d12.symm⟩).symm, Sub.refl _, st.f, hA, st.same⟩
    have hsub : Sub (un h2 hp) (un (un C.G h2) hp) := fun c o e => by
      rcases un_or e with e | e
      · exact sub_un_left _ _ c o (sub_un_right (st.d3.sub s2).symm c o e)
      · exact sub_un_right (dj_un.2 ⟨st.d2.symm, st.d1.symm.sub s2⟩) c o e
    exact wp_region_S L Tl tab_ok mixed_ok hok hsub ha sat0 (t hp h2 w st2 _ (Sub.refl _)))

/-- One step of the list: the operation, its kind. -/
theorem wr_go {o : Oper} {kd : Nat} (ho : nth ops i = some o) (t : ∀ hp hr w, SatAt C.G C.w0 C.hp0 Fs R w hp hr → ∀ hz, Sub (un hr hp) hz → match wantF ops.toArray (look E) o with
    | none => False
    | some false => WS Tryz.prog tab n C.ds ops.toArray hz (WSEnd Tryz.prog C.r n C.ds ops.toArray (un C.G hr) C.w0 hp (after C.r k Q) Tl) L (upd (look E) o.dst undef) F N
    | some true => match kd with
      | 0 => ∃ v, (∀ a w, Agree n C.ds (look E) a → In hz w → (execOp a.eval o).run Tryz.prog w = .ok (.value v) w) ∧ WS Tryz.prog tab n C.ds ops.toArray hz (WSEnd Tryz.prog C.r n C.ds ops.toArray (un C.G hr) C.w0 hp (after C.r k Q) Tl) L (upd (look E) o.dst v) F N
      | 1 => ∃ obj mk, allocOf tab (look E) o.op = some (obj, mk) ∧ ∀ b, WS Tryz.prog tab n C.ds ops.toArray hz (WSEnd Tryz.prog C.r n C.ds ops.toArray (un C.G hr) C.w0 hp (after C.r k Q) Tl) L (upd (look E) o.dst (mk b)) F (Pt b obj :: N)
      | 2 => ∃ obj mk, allocOf tab (look E) o.op = some (obj, mk) ∧ ∀ b, hz b = none → WS Tryz.prog tab n C.ds ops.toArray (un (one b obj) hz) (WSEnd Tryz.prog C.r n C.ds ops.toArray (un C.G hr) C.w0 hp (after C.r k Q) Tl) L (upd (look E) o.dst (mk b)) F N
      | 3 => ∃ v, (∀ a G w hp', Agree n C.ds (look E) a → Sub hz (un G hp') → Sat G w hp' F N w → (execOp a.eval o).run Tryz.prog w = .ok (.value v) w) ∧ WS Tryz.prog tab n C.ds ops.toArray hz (WSEnd Tryz.prog C.r n C.ds ops.toArray (un C.G hr) C.w0 hp (after C.r k Q) Tl) L (upd (look E) o.dst v) F N
      | _ => ∃ post : Post, (∀ a G w hp', Agree n C.ds (look E) a → Sub hz (un G hp') → Sat G w hp' F N w → OpRes Tryz.prog (execOp a.eval o) w fun v w' => ∃ x, v = post.val x ∧ post.pure x ∧ Sat G w hp' (post.F x) (post.R x) w') ∧
          ∀ x, post.pure x → WS Tryz.prog tab n C.ds ops.toArray hz (WSEnd Tryz.prog C.r n C.ds ops.toArray (un C.G hr) C.w0 hp (after C.r k Q) Tl) L (upd (look E) o.dst (post.val x)) (post.F x) (post.R x)) :
    Wr n C ops k Q Tl Fs R ((i, kd) :: L) E F N := by
  intro hp hr w st hz sb o' ho'
  rw [nth_eq] at ho
  simp only [List.getElem?_toArray] at ho'
  obtain rfl : o' = o := Option.some.inj (ho'.symm.trans ho)
  exact t hp hr w st hz sb

/-- One operation that only reckons, or that is passed over. -/
def rst (ops : List Oper) (i kd : Nat) (E : List (Nat × Value)) : Option (List (Nat × Value)) :=
  match nth ops i with
  | none => none
  | some o => match o.dst, wantL ops E o with
    | some d, some false => some ((d, undef) :: E)
    | some d, some true => match kd with
      | 0 => match qv tab (ev E) o.op with
        | some v => some ((d, v) :: E)
        | none => none
      | _ => none
    | _, _ => none

/-- The same, for an operation without a guard. -/
def rsu (ops : List Oper) (i kd : Nat) (E : List (Nat × Value)) : Option (List (Nat × Value)) :=
  match nth ops i with
  | none => none
  | some o => match o.guard with
    | none => rst ops i kd E
    | some _ => none
theorem rsu_ok {ops : List Oper} {i kd : Nat} {E E' : List (Nat × Value)} (h : rsu ops i kd E = some E') : rst ops i kd E = some E' := by
  unfold rsu at h
  split at h
  · cases h
  · split at h
    · exact h
    · cases h

def rgo (ops : List Oper) : List (Nat × Nat) → List (Nat × Value) → QR (List (Nat × Nat))
  | [], E => .mk E []
  | (i, kd) :: L, E => match rsu ops i kd E with
    | some E' => rgo ops L E'
    | none => .mk E ((i, kd) :: L)

def rrun (ops : List Oper) (L : List (Nat × Nat)) (E : List (Nat × Value)) : QR (List (Nat × Nat)) :=
  match L with
  | [] => .no
  | (i, kd) :: L => match rsu ops i kd E with
    | some E' => rgo ops L E'
    | none => .no

theorem rst_ok {kd : Nat} (h : rst ops i kd E = some E') (t : Wr n C ops k Q Tl Fs R L E' F N) : Wr n C ops k Q Tl Fs R ((i, kd) :: L) E F N := by
  unfold rst at h
  split at h
  · cases h
  · rename_i o ho
    split at h
    · rename_i d hd hw
      obtain rfl := Option.some.inj h
      refine wr_go ho fun hp hr w st hz sb => ?_
      simp only [wantL_ok hw]
      rw [hd]
      exact t hp hr w st hz sb
    · rename_i d hd hw
      split at h
      · split at h
        · rename_i v hv
          obtain rfl := Option.some.inj h
          refine wr_go ho fun hp hr w st hz sb => ?_
          simp only [wantL_ok hw]
          refine ⟨v, fun a w ha _ => qv_ok tab_ok hv (ρ := a.eval) (fun x _ u hu => ha.ev (by rw [evf_look]; exact hu)) w, ?_⟩
          rw [hd]
          exact t hp hr w st hz sb
        · cases h
      · cases h
    · cases h

theorem rgo_ok : ∀ (L : List (Nat × Nat)) (E E' : List (Nat × Value)) (L' : List (Nat × Nat)), rgo ops L E = .mk E' L' → Wr n C ops k Q Tl Fs R L' E' F N → Wr n C ops k Q Tl Fs R L E F N
  | [], _, _, _, h, t => by injection h with h1 h2; subst h1 h2; exact t
  | (i, kd) :: L, E, E', L', h, t => by
    unfold rgo at h
    split at h
    · rename_i E1 hE
      exact rst_ok (rsu_ok hE) (rgo_ok L E1 E' L' h t)
    · injection h with h1 h2; subst h1 h2; exact t

theorem r_run (t : Wr n C ops k Q Tl Fs R L' E' F N) (h : rrun ops L E = .mk E' L' := by rfl) : Wr n C ops k Q Tl Fs R L E F N := by
  unfold rrun at h
  split at h
  · cases h
  · split at h
    · rename_i E1 hE
      exact rst_ok (rsu_ok hE) (rgo_ok _ _ _ _ h t)
    · cases h

theorem r_one {kd : Nat} (t : Wr n C ops k Q Tl Fs R L E' F N) (h : rst ops i kd E = some E' := by rfl) : Wr n C ops k Q Tl Fs R ((i, kd) :: L) E F N := rst_ok h t

/-- The ways part at a guard. -/
theorem k_split {d : Nat} {b : Bool} (hb : look E d = some (.bool b)) (ht : b = true → Wk n C k Q ((d, .bool true) :: E) F R) (hf : b = false → Wk n C k Q ((d, .bool false) :: E) F R) : Wk n C k Q E F R := fun a w ha hs => by
  have ha' := ha.split hb
  cases b with
  | true => exact ht rfl a w ha' hs
  | false => exact hf rfl a w ha' hs

theorem r_split {d kd : Nat} {b : Bool} {o : Oper} (ht : b = true → Wr n C ops k Q Tl Fs R ((i, kd) :: L) ((d, .bool true) :: E) F N) (hf : b = false → Wr n C ops k Q Tl Fs R ((i, kd) :: L) ((d, .bool false) :: E) F N)
    (_ho : nth ops i = some o := by rfl) (_hg : guardOf ops o = some d := by rfl) (hb : look E d = some (.bool b) := by rfl) (_hop : Opn b := by (fail_if_success exact opn_t); (fail_if_success exact opn_f); exact Opn.mk _) : Wr n C ops k Q Tl Fs R ((i, kd) :: L) E F N := fun hp hr w st hz sb => by
  have e : look ((d, .bool b) :: E) = look E := by
    funext t
    rw [look_cons]
    by_cases hdt : d = t
    · subst hdt; rw [upd_same, hb]
    · rw [upd_ne _ _ hdt]
  cases b with
  | true => have := ht rfl hp hr w st hz sb; rw [e] at this; exact this
  | false => have := hf rfl hp hr w st hz sb; rw [e] at this; exact this

theorem stat_pt {hp hr : H} {w : World} (st : SatAt C.G C.w0 C.hp0 Fs R w hp hr) {o : Obj} (s : Sel (Pt b o) R R0) : un hr hp b = some o := by
  obtain ⟨h1, h2, _, s1, _, hx, _⟩ := s.sep st.r
  exact sub_un_left _ _ b o (s1 b o hx)
theorem stat_blk {hp hr : H} {w : World} {F0 : List Pf} (st : SatAt C.G C.w0 C.hp0 Fs R w hp hr) {o : Obj} (s : Sel (Blk b o) Fs F0) : un hr hp b = some o :=
  sub_un_right st.d1.symm b o (st.f _ s.mem)

/-- A load out of a block that stays as it is. -/
theorem r_ld (nx : Wr n C ops k Q Tl Fs R L ((d, v) :: E) F N) (ho : nth ops i = some ⟨some d, .load t x, ty0, pos, aft, gd⟩ := by rfl) (hw : wantL ops E ⟨some d, .load t x, ty0, pos, aft, gd⟩ = some true := by rfl)
    (hx : ev E x = some (.pointer (some ⟨b, off, none⟩)) := by rfl) (hs : Sel (Pt b (.cells cs ty fzn)) R R0 := by (repeat (first | exact Sel.here | apply Sel.there)); first | done | fail) (hv : ldv t cs.toList off = some v := by rfl) :
    Wr n C ops k Q Tl Fs R ((i, 0) :: L) E F N :=
  wr_go ho fun hp hr w st hz sb => by
    simp only [wantL_ok hw]
    refine ⟨v, fun a w ha hin => ?_, nx hp hr w st hz sb⟩
    have hr := ldv_ok (hin _ _ (sb _ _ (stat_pt st hs))) hv
    simp only [execOp, Instr.loadAt, ha.ev (by rw [evf_look]; exact hx), Instr.sureAddr, Sem.run_bind, Sem.run_pure, Result.andThen, hr]
theorem r_ldF {F0 : List Pf} (nx : Wr n C ops k Q Tl Fs R L ((d, v) :: E) F N) (ho : nth ops i = some ⟨some d, .load t x, ty0, pos, aft, gd⟩ := by rfl) (hw : wantL ops E ⟨some d, .load t x, ty0, pos, aft, gd⟩ = some true := by rfl)
    (hx : ev E x = some (.pointer (some ⟨b, off, none⟩)) := by rfl) (hs : Sel (Blk b (.cells cs ty fzn)) Fs F0 := by (repeat (first | exact Sel.here | apply Sel.there)); first | done | fail) (hv : ldv t cs.toList off = some v := by rfl) :
    Wr n C ops k Q Tl Fs R ((i, 0) :: L) E F N :=
  wr_go ho fun hp hr w st hz sb => by
    simp only [wantL_ok hw]
    refine ⟨v, fun a w ha hin => ?_, nx hp hr w st hz sb⟩
    have hr := ldv_ok (hin _ _ (sb _ _ (stat_blk st hs))) hv
    simp only [execOp, Instr.loadAt, ha.ev (by rw [evf_look]; exact hx), Instr.sureAddr, Sem.run_bind, Sem.run_pure, Result.andThen, hr]

/-- A load out of a block that may change. -/
theorem r_ldN (nx : Wr n C ops k Q Tl Fs R L ((d, v) :: E) F N) (ho : nth ops i = some ⟨some d, .load t x, ty0, pos, aft, gd⟩ := by rfl) (hw : wantL ops E ⟨some d, .load t x, ty0, pos, aft, gd⟩ = some true := by rfl)
    (hx : ev E x = some (.pointer (some ⟨b, off, none⟩)) := by rfl) (hs : Sel (Pt b (.cells cs ty fzn)) N N' := by (repeat (first | exact Sel.here | apply Sel.there)); first | done | fail) (hv : ldv t cs.toList off = some v := by rfl) :
    Wr n C ops k Q Tl Fs R ((i, 3) :: L) E F N :=
  wr_go ho fun hp hr w st hz sb => by
    simp only [wantL_ok hw]
    refine ⟨v, fun a G w hp' ha hsub hsat => ?_, nx hp hr w st hz sb⟩
    have hr := ldv_ok (hsat.pt hs) hv
    simp only [execOp, Instr.loadAt, ha.ev (by rw [evf_look]; exact hx), Instr.sureAddr, Sem.run_bind, Sem.run_pure, Result.andThen, hr]
/-- What reads what stays may be taken for what reads what is owned. -/
theorem r_up (t : Wr n C ops k Q Tl Fs R ((i, 0) :: L) E F N) : Wr n C ops k Q Tl Fs R ((i, 3) :: L) E F N := fun hp hr w st hz sb o ho => by
  have h := t hp hr w st hz sb o ho
  cases hw : wantF ops.toArray (look E) o with
  | none => simp only [hw] at h
  | some b =>
    cases b with
    | false => simp only [hw] at h ⊢; exact h
    | true =>
      simp only [hw] at h ⊢
      obtain ⟨v, h1, h2⟩ := h
      exact ⟨v, fun a G w hp' ha hsub hsat => h1 a w ha (hsat.stat hsub), h2⟩

/-- Any operation that reads nothing that changes, by its run. -/
theorem r_q {op : Op} (hq : ∀ a w, Agree n C.ds (look E) a → (execOp a.eval ⟨some d, op, ty0, pos, aft, gd⟩).run Tryz.prog w = .ok (.value v) w) (nx : Wr n C ops k Q Tl Fs R L ((d, v) :: E) F N)
    (ho : nth ops i = some ⟨some d, op, ty0, pos, aft, gd⟩ := by rfl) (hw : wantL ops E ⟨some d, op, ty0, pos, aft, gd⟩ = some true := by rfl) : Wr n C ops k Q Tl Fs R ((i, 0) :: L) E F N :=
  wr_go ho fun hp hr w st hz sb => by
    simp only [wantL_ok hw]
    exact ⟨v, fun a w ha _ => hq a w ha, nx hp hr w st hz sb⟩

/-- A new variable, a new box, a new array behind a slice. -/
theorem r_al {op : Op} {obj : Obj} (nx : ∀ b, Wr n C ops k Q Tl Fs R L ((d, .pointer (some ⟨b, 0, none⟩)) :: E) F (Pt b obj :: N)) (ho : nth ops i = some ⟨some d, op, ty0, pos, aft, gd⟩ := by rfl) (hw : wantL ops E ⟨some d, op, ty0, pos, aft, gd⟩ = some true := by rfl)
    (ha : allocOf tab (look E) op = some (obj, fun b => .pointer (some ⟨b, 0, none⟩)) := by rfl) : Wr n C ops k Q Tl Fs R ((i, 1) :: L) E F N :=
  wr_go ho fun hp hr w st hz sb => by
    simp only [wantL_ok hw]
    exact ⟨_, _, ha, fun b => nx b hp hr w st hz sb⟩
theorem r_bs {op : Op} {obj : Obj} {m : Nat} (nx : ∀ b, Wr n C ops k Q Tl Fs R L ((d, .slice (some ⟨b, 0, none⟩) m m) :: E) F (Pt b obj :: N)) (ho : nth ops i = some ⟨some d, op, ty0, pos, aft, gd⟩ := by rfl) (hw : wantL ops E ⟨some d, op, ty0, pos, aft, gd⟩ = some true := by rfl)
    (ha : allocOf tab (look E) op = some (obj, fun b => .slice (some ⟨b, 0, none⟩) m m) := by rfl) : Wr n C ops k Q Tl Fs R ((i, 1) :: L) E F N :=
  wr_go ho fun hp hr w st hz sb => by
    simp only [wantL_ok hw]
    exact ⟨_, _, ha, fun b => nx b hp hr w st hz sb⟩

/-- A call of a function. -/
theorem r_call {f : FuncId} {args : Array Operand} {tys : Array TypeId} {vs : List Value} {post : Post} (spec : Enters f ∧ Spec Tryz.prog f vs.toArray F1 A post)
    (nx : ∀ x, post.pure x → Wr n C ops k Q Tl Fs R L ((d, post.val x) :: E) (post.F x ++ F) (post.R x ++ N')) (ho : nth ops i = some ⟨some d, .call ⟨.value (.func f), args, tys⟩, ty0, pos, aft, gd⟩ := by rfl)
    (hw : wantL ops E ⟨some d, .call ⟨.value (.func f), args, tys⟩, ty0, pos, aft, gd⟩ = some true := by rfl) (hargs : evs (ev E) args.toList some = some vs := by rfl)
    (sel : Sels A N N' := by (repeat (first | exact Sels.nil | exact Sel.here | apply Sel.there | apply Sels.cons)); first | done | fail)
    (hF : EntF F F1 := by (repeat (first | exact trivial | exact Sel.here | apply Sel.there | apply EntF.cons)); first | done | fail) : Wr n C ops k Q Tl Fs R ((i, 4) :: L) E F N :=
  wr_go ho fun hp hr w st hz sb => by
    simp only [wantL_ok hw]
    refine ⟨⟨post.X, post.val, post.pure, fun x => post.F x ++ F, fun x => post.R x ++ N'⟩, fun a G w hp' ha hsub hsat => ?_, fun x hx => nx x hx hp hr w st hz sb⟩
    unfold OpRes
    rw [run_call spec.1 hargs ha w]
    exact sat_call spec.2 hsat sel hF.all fun x w' hx hs' => ⟨x, rfl, hx, hs'⟩

/-- A store into a block that may change. -/
theorem r_st {cs' : List Value} (nx : Wr n C ops k Q Tl Fs R L E F (Pt b (.cells cs'.toArray ty (0, 0)) :: N')) (ho : nth ops i = some ⟨none, .store t x y, ty0, pos, aft, gd⟩ := by rfl) (hw : wantL ops E ⟨none, .store t x y, ty0, pos, aft, gd⟩ = some true := by rfl)
    (hx : ev E x = some (.pointer (some ⟨b, off, none⟩)) := by rfl) (hy : ev E y = some v := by rfl) (hs : Sel (Pt b (.cells cs ty (0, 0))) N N' := by (repeat (first | exact Sel.here | apply Sel.there)); first | done | fail) (hv : stv t cs.toList off v = some cs' := by rfl) :
    Wr n C ops k Q Tl Fs R ((i, 4) :: L) E F N :=
  wr_go ho fun hp hr w st hz sb => by
    simp only [wantL_ok hw]
    refine ⟨⟨Unit, fun _ => undef, fun _ => True, fun _ => F, fun _ => Pt b (.cells cs'.toArray ty (0, 0)) :: N'⟩, fun a G w hp' ha hsub hsat => ?_, fun _ _ => nx hp hr w st hz sb⟩
    obtain ⟨w', g1, g2, g3, g4⟩ := stv_ok (hsat.pt hs) hv
    unfold OpRes
    simp only [execOp, Instr.storeAt, ha.ev (x := x) (by rw [evf_look]; exact hx), ha.ev (x := y) (by rw [evf_look]; exact hy), Instr.sureAddr, Sem.run_bind, Sem.run_pure, Result.andThen, g1]
    exact ⟨(), trivial, trivial, (hsat.sel hs).write g3 g2 fun c hc _ => g4 c hc⟩

/-- The operations that are left, in their order. -/
def tailF {β : Type} (ops : List Oper) : List Nat → (List Oper → Option β) → Option β
  | [], k => k []
  | i :: l, k => match nth ops i with
    | some o => tailF ops l fun r => k (o :: r)
    | none => none

theorem tailF_ok {β : Type} {ops : List Oper} : ∀ (Tl : List Nat) (k : List Oper → Option β) (v : β), tailF ops Tl k = some v → ∃ tl, k tl = some v ∧ ∀ (r : Option Nat) (Q : Exit → Act → World → Prop) (a : Act) (w : World), wpListIn (fz r) 0 Tryz.prog ops.toArray Q tl a w → wpOpsIn (fz r) 0 Tryz.prog ops.toArray Q Tl a w
  | [], k, v, h => ⟨[], h, fun _ _ _ _ h => h⟩
  | i :: Tl, k, v, h => by
    unfold tailF at h
    split at h
    · rename_i o ho
      rw [nth_eq] at ho
      obtain ⟨tl, h1, h2⟩ := tailF_ok Tl _ v h
      refine ⟨o :: tl, h1, fun r Q a w hw => ?_⟩
      have ho' : ops.toArray[i]? = some o := by simpa using ho
      unfold wpListIn at hw
      simp only [wpOpsIn, ho']
      split
      · rename_i hwt
        rw [if_pos hwt] at hw
        exact Oper.wpIn_mono (fun a w h => h2 r Q a w h) hw
      · rename_i hwt
        rw [if_neg hwt] at hw
        exact ⟨hw.1, h2 _ _ _ _ hw.2⟩
    · cases h

/-- The end: what was set aside is there again. -/
theorem r_end {tl : List Oper} (t : Wl n C ops.toArray k Q tl E F (N ++ R)) (h : tailF ops Tl some = some tl := by rfl) : Wr n C ops k Q Tl Fs R [] E F N := by
  intro hp hr w st hz sb a w' ha hs
  obtain ⟨tl', h1, h2⟩ := tailF_ok Tl _ tl h
  obtain rfl := Option.some.inj h1
  refine h2 _ _ _ _ (t a w' ha ?_)
  obtain ⟨hp', hn, t'⟩ := hs
  obtain ⟨d1, d2⟩ := dj_un.1 t'.d3.symm
  obtain ⟨d3, d4⟩ := dj_un.1 t'.d2.symm
  have dd : Dj hn hr := d2.symm
  exact ⟨hp', un hn hr, t'.inp, In.un t'.inr (t'.ing.sub (sub_un_right st.d3.symm)), t'.ing.sub (sub_un_left _ _), (dj_un.2 ⟨t'.d1.symm, d4⟩).symm, d3.symm, dj_un.2 ⟨d1.symm, st.d3⟩, st.sub.trans t'.sub, t'.f,
    append_sep dd (sub_un_left _ _) (sub_un_right dd) t'.r st.r, t'.same⟩
end Go.Proofs.YtijaglinajfplaaGreatDoor
