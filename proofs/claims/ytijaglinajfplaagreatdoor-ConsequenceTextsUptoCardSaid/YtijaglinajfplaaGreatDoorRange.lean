/-
  Rules for calls of function values and for the range over a function.
  Conditions: none beyond those that each theorem states.
-/
import Derived.Test.YtijaglinajfplaaGreatDoorTxt
import Derived.RangeFuncIn
import Derived.RangeFuncRecord
import Derived.RangeFuncLeaves
set_option maxRecDepth 10000
namespace Go.Proofs.YtijaglinajfplaaGreatDoor
open Go.RowKit

variable {n : Nat} {C : Cx} {Q : Exit → Act → World → Prop} {E E' : List (Nat × Value)} {F F' F1 Fs F0 : List Pf} {R R' R0 Rs N N' A : List HP} {k k' : List Fr} {ops l : List Oper} {L L' : List (Nat × Nat)} {Tl : List Nat}
  {i d : Nat} {t ty0 : TypeId} {x y : Operand} {pos : String} {aft : Array Edge} {gd : Option (Nat × Bool)}

/-- What a call of a function value does. -/
def CallsV (v : Value) (vs : List Value) (w : World) (K : Value → World → Prop) : Prop :=
  match v with
  | .func fn fs cs => OpRes Tryz.prog (invoke (.fn fn cs) (fs ++ vs.toArray)) w K
  | _ => False
def SpecV (v : Value) (vs : List Value) (F : List Pf) (R : List HP) (post : Post) : Prop :=
  ∀ G w hp, Sat G w hp F R w → CallsV v vs w fun u w' => ∃ x, u = post.val x ∧ post.pure x ∧ Sat G w hp (post.F x) (post.R x) w'

/-- A call of a function value, by its contract. -/
theorem l_callV {v : Value} {args : Array Operand} {tys : Array TypeId} {vs : List Value} {post : Post} (spec : SpecV v vs F1 A post)
    (nx : ∀ x, post.pure x → Wl n C ops.toArray k Q l ((d, post.val x) :: E) (post.F x ++ F) (post.R x ++ R')) (hw : wantL ops E ⟨some d, .call ⟨.value x, args, tys⟩, ty0, pos, aft, gd⟩ = some true := by rfl) (hn : Nat.blt d n = true := by rfl)
    (hx : ev E x = some v := by rfl) (hargs : evs (ev E) args.toList some = some vs := by rfl) (sel : Sels A R R' := by (repeat (first | exact Sels.nil | exact Sel.here | apply Sel.there | apply Sels.cons)); first | done | fail)
    (hF : EntF F F1 := by (repeat (first | exact trivial | exact Sel.here | apply Sel.there | apply EntF.cons)); first | done | fail) :
    Wl n C ops.toArray k Q (⟨some d, .call ⟨.value x, args, tys⟩, ty0, pos, aft, gd⟩ :: l) E F R :=
  wl_op (fun t ht => by cases ht; exact Nat.le_of_ble_eq_true hn) (fun c hc => by cases hc) hw fun a w ha hsat => by
    obtain ⟨G', hp, h1, h2⟩ := sat_frame hsat sel hF.all
    have h3 := spec G' w hp h1
    obtain ⟨us, _, e2, e3⟩ := evs_eq _ _ _ hargs
    obtain rfl := Option.some.inj e2
    have e1 := e3 a.eval fun x _ u hu => ha.ev (by rw [evf_look]; exact hu)
    have e4 : args.map a.eval = us.toArray := by rw [← Array.toList_inj]; simpa using e1
    have e5 : (args.map fun x => a.eval x) = us.toArray := e4
    have e0 := ha.ev (x := x) (by rw [evf_look]; exact hx)
    unfold CallsV at h3
    split at h3
    · rename_i fn fs cs
      have h4 := h3.mono (R' := fun v w' => ∀ a', Agree n C.ds (upd (look E) (some d) v) a' → wpListIn (fz C.r) 0 Tryz.prog ops.toArray (after C.r k Q) l a' w') (by
        rintro v w' ⟨x, rfl, hx, hs⟩ a' ha'
        exact nx x hx a' w' ha' (h2 _ _ _ hs))
      unfold OpRes at h4 ⊢
      have er : (execOp a.eval ⟨some d, .call ⟨.value x, args, tys⟩, ty0, pos, aft, gd⟩).run Tryz.prog w = (invoke (.fn fn cs) (fs ++ us.toArray)).run Tryz.prog w := by
        simp only [execOp, resolve, e0, Deferred.ofValue, Sem.run_bind, Sem.run_pure, Result.andThen]
        rw [e5]
      rw [er]
      exact h4
    · exact h3.elim

/-- The round begins. -/
theorem putObj_write {G : H} {w0 w : World} {hp0 : H} {b : Nat} {o o' : Obj} (hs : Sat G w0 hp0 F (Pt b o :: R) w) : Sat G w0 hp0 F (Pt b o' :: R) (w.putObj b o') := by
  have hb := hs.pt Sel.here
  have hlt := (Array.getElem?_eq_some_iff.1 hb).1
  refine hs.write ⟨rfl, rfl, rfl, ?_⟩ (World.putObj_heap_same hlt) fun c hc _ => World.putObj_heap_other hc
  simp [World.putObj]
/-- What a loop's record keeps. -/
structure LR where
  fn : FuncId
  tmps : Array Value
  ps : Array Tmp
  assign : Code
  body : Code
  D : Nat
def rcd (q : LR) (st : LoopState) (pe : Option Code) : Loop := { state := st, pending := pe, fn := q.fn, tmps := q.tmps, params := q.ps, assign := q.assign, body := q.body, defers := q.D }

theorem k_beg {l : Nat} {q : LR} (t : Wk n C k' Q E F (Pt l (.loop (rcd q .busy none)) :: R0)) (hs : Sel (Pt l (.loop (rcd q .ready none))) R R0 := by (repeat (first | exact Sel.here | apply Sel.there)); first | done | fail) (h : nf 1000 k = .r l :: k' := by rfl) : Wk n C k Q E F R :=
  fun a w ha hsat => nf_ok 1000 k (by
    rw [h]
    exact ⟨_, run_beginRound (hsat.pt hs) rfl, t a _ ha (putObj_write (hsat.sel hs))⟩)

def both (a b : HP) : HP := fun h => Sep [a, b] h

/-- What is asked at a round's end. -/
def RQ (q : LR) (l : Nat) (G : H) (w0 : World) (hp0 : H) (Jt Jx : HP) : Exit → Act → World → Prop :=
  roundPost Tryz.prog l fun e w' => ∃ b, e = .returned (.bool b) ∧ Sat G w0 hp0 [] [if b then both (Pt l (.loop (rcd q .ready none))) Jt else both (Pt l (.loop (rcd q .done (some .ret)))) Jx] w'

theorem k_rn {q : LR} {l : Nat} {r : Option Nat} {G : H} {w0 : World} {hp0 : H} {ds : List Deferred} {Jt Jx : HP} (hs : Sels [Pt l (.loop (rcd q .busy none)), Jt] R R0 := by (repeat (first | exact Sels.nil | exact Sel.here | apply Sel.there | apply Sels.cons)); first | done | fail) (h : nf 1000 k = [] := by rfl) :
    Wk n ⟨r, G, w0, hp0, ds⟩ k (RQ q l G w0 hp0 Jt Jx) E F R := fun a w ha hsat => nf_ok 1000 k (by
  rw [h]
  have h1 := hsat.sels hs
  refine ⟨_, _, run_endRound none (h1.pt Sel.here), true, rfl, ?_⟩
  have h2 := putObj_write (o' := .loop (rcd q .ready none)) h1
  exact ((h2.shut (x := both _ _) fun _ hh => hh).facts (F' := []) (fun _ _ _ hx => by cases hx)).res fun _ hh => sep_left (A := [_]) hh)

theorem k_rr {q : LR} {l : Nat} {r : Option Nat} {G : H} {w0 : World} {hp0 : H} {ds : List Deferred} {Jt Jx : HP} (hs : Sels [Pt l (.loop (rcd q .busy none)), Jx] R R0 := by (repeat (first | exact Sels.nil | exact Sel.here | apply Sel.there | apply Sels.cons)); first | done | fail) (h : nf 1000 k = .c .ret :: k' := by rfl) (hn : noR k' = true := by rfl) :
    Wk n ⟨r, G, w0, hp0, ds⟩ k (RQ q l G w0 hp0 Jt Jx) E F R := k_rt (fun a w ha hsat => by
  have h1 := hsat.sels hs
  refine ⟨_, _, run_endRound (some .ret) (h1.pt Sel.here), false, rfl, ?_⟩
  have h2 := putObj_write (o' := .loop (rcd q .done (some .ret))) h1
  exact ((h2.shut (x := both _ _) fun _ hh => hh).facts (F' := []) (fun _ _ _ hx => by cases hx)).res fun _ hh => sep_left (A := [_]) hh) h hn

theorem roundPost_mono {P : Program} {l : Nat} {R R' : Ending → World → Prop} (h : ∀ e w, R e w → R' e w) : ∀ e a w, roundPost P l R e a w → roundPost P l R' e a w
  | .normal, _, _, ⟨v, w', h1, h2⟩ => ⟨v, w', h1, h _ _ h2⟩
  | .ret, _, _, ⟨v, w', h1, h2⟩ => ⟨v, w', h1, h _ _ h2⟩
  | .exit _, _, _, ⟨v, w', h1, h2⟩ => ⟨v, w', h1, h _ _ h2⟩
  | .goto _, _, _, ⟨v, w', h1, h2⟩ => ⟨v, w', h1, h _ _ h2⟩
  | .panic _, _, _, h => h
  | .outgrown, _, _, h => h

/-- What yield does with an element. -/
def YPost {α : Type} (I Ix : List α → HP) (pre : List α) (e : α) : Post := ⟨Bool, fun b => .bool b, fun _ => True, fun _ => [], fun b => [if b then I (pre ++ [e]) else Ix (pre ++ [e])]⟩

theorem after_nil {r : Option Nat} : after r [] Q = Q := by funext e a w; rfl

/-- One round, as yield. -/
theorem yield_ok {α : Type} {enc : α → Value} {q : LR} {l p : Nat} {J Jx : List α → HP} {pre : List α} {e : α} (hps : q.ps = #[p]) (hpn : p < n) (hag : ∀ a : Act, a.tmps = q.tmps → a.defers = [] → Agree n [] (look E) a)
    (hbody : ∀ G w0 hp0, Wk n ⟨some l, G, w0, hp0, []⟩ [.c q.assign, .r l, .c q.body] (RQ q l G w0 hp0 (J (pre ++ [e])) (Jx (pre ++ [e]))) ((p, enc e) :: E) F [Pt l (.loop (rcd q .ready none)), J pre]) :
    SpecV (.func (.yield l) #[] #[]) [enc e] [⟨fun h => ∀ f ∈ F, f.p h, fun _ _ s h f hf => f.m _ _ s (h f hf)⟩] [both (Pt l (.loop (rcd q .ready none))) (J pre)]
      (YPost (fun pre => both (Pt l (.loop (rcd q .ready none))) (J pre)) (fun pre => both (Pt l (.loop (rcd q .done (some .ret)))) (Jx pre)) pre e) := by
  intro G w hp hsat
  have h1 : Sat G w hp F [both (Pt l (.loop (rcd q .ready none))) (J pre)] w := hsat.facts fun hp hF => hF _ (List.mem_cons_self ..)
  obtain ⟨_, h2⟩ := h1.open' (X := Unit) (L := fun _ => [Pt l (.loop (rcd q .ready none)), J pre]) fun _ hh => ⟨(), hh⟩
  have hl := h2.pt Sel.here
  unfold CallsV OpRes
  have hy := run_yield (P := Tryz.prog) (args := #[enc e]) hl (by simp [rcd, hps])
  have hi : (invoke (.fn (.yield l) #[]) (#[] ++ [enc e].toArray)).run Tryz.prog w = (Instr.yield l #[enc e]).run Tryz.prog w := by simp [invoke]
  simp only [hi, hy]
  refine roundIn_of_wpIn trivial ?_
  have ha : Agree n [] (look ((p, enc e) :: E)) ({ tmps := ((rcd q .ready none).params.zip #[enc e]).foldl (fun tmps (x : Tmp × Value) => tmps.setIfInBounds x.1 x.2) (rcd q .ready none).tmps, defers := [] } : Act) := by
    have := (hag ⟨q.tmps, []⟩ rfl rfl).put (d := some p) (fun t ht => by cases ht; exact hpn) (enc e)
    rw [look_cons]
    simpa [rcd, hps, Act.put] using this
  have hb := hbody G w hp _ w ha h2
  refine wpIn_mono (show q.assign.wpIn (fz (some l)) 0 Tryz.prog (after (some l) [.r l, .c q.body] (RQ q l G w hp (J (pre ++ [e])) (Jx (pre ++ [e])))) _ w from hb) ?_
  rintro ex a1 w1 hx
  cases ex with
  | normal =>
    obtain ⟨w2, g1, g2⟩ := hx
    refine ⟨w2, g1, ?_⟩
    have g3 : q.body.wpIn (fz (some l)) 0 Tryz.prog (after (some l) [] (RQ q l G w hp (J (pre ++ [e])) (Jx (pre ++ [e])))) a1 w2 := g2
    rw [after_nil] at g3
    refine wpIn_mono g3 (roundPost_mono ?_)
    rintro e' w' ⟨b, rfl, hs'⟩
    exact ⟨b, rfl, trivial, hs'⟩
  | _ => exact hx.elim
theorem sep_tail {X : HP} {R : List HP} {h : H} (hh : Sep (X :: R) h) : Sep R h := by
  obtain ⟨_, h2, _, _, s2, _, hR⟩ := hh
  exact hR.sub s2
theorem sels_pre : ∀ (A : List HP) (X : HP) (R : List HP), Sels A (X :: (A ++ R)) (X :: R)
  | [], _, _ => .nil
  | _ :: A, X, R => .cons (.there .here) (sels_pre A X R)

/-- What a function that is ranged over does with yield: the elements xs, in their order. -/
def Iter {α : Type} (gf : FuncId) (lb : List Value) (enc : α → Value) (xs : List α) (Fg : List Pf) (A : List HP) : Prop :=
  ∀ (v : Value) (Y : Pf) (I Ix : List α → HP), (∀ pre e, pre ++ [e] <+: xs → SpecV v [enc e] [Y] [I pre] (YPost I Ix pre e)) →
    Enters gf ∧ Spec Tryz.prog gf (v :: lb).toArray (Y :: Fg) (I [] :: A) ⟨Option (List α), fun _ => .tuple #[], fun r => ∀ pre, r = some pre → pre <+: xs, fun _ => [], fun r => [match r with | none => I xs | some pre => Ix pre]⟩

/-- The range over a function. -/
theorem k_range {α : Type} {g : Operand} {p : Nat} {assign body : Code} {gf : FuncId} {lb : Array Value} {enc : α → Value} {xs : List α} {Fg : List Pf} {G : H} {w0 : World} {hp0 : H} {ds : List Deferred} (J Jx : List α → HP) (hit : Iter gf lb.toList enc xs Fg A)
    (hbody : ∀ (q : LR) (l : Nat) (pre : List α) (e : α), pre ++ [e] <+: xs → ∀ G w0 hp0, Wk n ⟨some l, G, w0, hp0, []⟩ [.c assign, .r l, .c body] (RQ q l G w0 hp0 (J (pre ++ [e])) (Jx (pre ++ [e]))) ((p, enc e) :: E) F [Pt l (.loop (rcd q .ready none)), J pre])
    (hdone : ∀ D, Wk n ⟨none, G, w0, hp0, { target := .collected D, args := #[] } :: ds⟩ k' Q E F (J xs :: Pt D (.deferred (some [])) :: R'))
    (hstop : ∀ D pre, pre <+: xs → Wret n ⟨none, G, w0, hp0, { target := .collected D, args := #[] } :: ds⟩ Q E F (Jx pre :: Pt D (.deferred (some [])) :: R'))
    (h : nf 1000 k = .c (.rangeFunc g #[p] assign body) :: k' := by rfl) (hg : ev E g = some (.func (.func gf) #[] lb) := by rfl) (hpn : Nat.blt p n = true := by rfl) (hnr : noR k' = true := by rfl)
    (sel : Sels (J [] :: A) R R' := by (repeat (first | exact Sels.nil | exact Sel.here | apply Sel.there | apply Sels.cons)); first | done | fail) (hFg : EntF F Fg := by (repeat (first | exact trivial | exact Sel.here | apply Sel.there | apply EntF.cons)); first | done | fail) : Wk n ⟨none, G, w0, hp0, ds⟩ k Q E F R := fun a w ha hs => nf_ok 1000 k (by
  rw [h]
  show (Code.rangeFunc g #[p] assign body).wpIn (fz none) 0 Tryz.prog (after none k' Q) a w
  refine wpIn_rangeFunc fun fn hfn => ?_
  let q : LR := ⟨fn, a.tmps, #[p], assign, body, w.heap.size⟩
  let lo : Obj := .loop (rcd q .ready none)
  have hs1 : Sat G w0 hp0 F (Pt (w.heap.size + 1) lo :: Pt w.heap.size (.deferred (some [])) :: J [] :: (A ++ R')) ((w.alloc (.deferred (some []))).alloc lo) := by
    have := ((hs.sels sel).alloc (.deferred (some []))).alloc lo
    simpa using this
  have hs2 : Sat G w0 hp0 F (both (Pt (w.heap.size + 1) lo) (J []) :: Pt w.heap.size (.deferred (some [])) :: (A ++ R')) ((w.alloc (.deferred (some []))).alloc lo) :=
    (hs1.sels (A := [Pt (w.heap.size + 1) lo, J []]) (.cons .here (.cons (.there .here) .nil))).shut (x := both _ _) fun _ hh => hh
  have hy : ∀ pre e, pre ++ [e] <+: xs → SpecV (.func (.yield (w.heap.size + 1)) #[] #[]) [enc e] _ _ _ := fun pre e hpre =>
    yield_ok (n := n) (E := E) (F := F) (enc := enc) (q := q) (l := w.heap.size + 1) (p := p) (J := J) (Jx := Jx) (pre := pre) (e := e) rfl (Nat.le_of_ble_eq_true hpn)
      (fun b hb hd => ⟨by rw [hb]; exact ha.size, hd, fun t v hv => by rw [hb]; exact ha.slots t v hv⟩) (fun G w0 hp0 => hbody q _ pre e hpre G w0 hp0)
  obtain ⟨eg, hsp⟩ := hit _ _ _ _ hy
  have hev := ha.ev (x := g) (by rw [evf_look]; exact hg)
  refine ⟨w.heap.size + 1, [{ target := .collected w.heap.size, args := #[] }], (w.alloc (.deferred (some []))).alloc lo, { target := .fn (.func gf) lb, args := #[.func (.yield (w.heap.size + 1)) #[] #[]] }, (w.alloc (.deferred (some []))).alloc lo, gf, #[.func (.yield (w.heap.size + 1)) #[] #[]] ++ lb, (w.alloc (.deferred (some []))).alloc lo, run_enterLoop_outer _ _ _ _ _, ?_, fun _ _ => trivial, ?_, (fun hx => by cases hx), ?_⟩
  · simp only [resolve, hev]
    simp [go_sem, Deferred.ofValue, Act.eval]
  · simp only [invoke]
    exact eg _ _
  · have e1 : #[Value.func (.yield (w.heap.size + 1)) #[] #[]] ++ lb = (Value.func (.yield (w.heap.size + 1)) #[] #[] :: lb.toList).toArray := by rw [← Array.toList_inj]; simp
    rw [e1]
    refine callsIn_fz (sat_call hsp hs2 (.cons .here (sels_pre A _ R')) (fun hp hF f hf => ?_) fun r w' hr hs3 => ?_)
    · rcases List.mem_cons.1 hf with rfl | hf
      · exact hF
      · exact hFg.all hp hF f hf
    · have hds : ({ a with defers := [{ target := .collected w.heap.size, args := #[] }] ++ a.defers } : Act).defers = { target := .collected w.heap.size, args := #[] } :: ds := by simp [ha.defers]
      have ha' : Agree n ({ target := .collected w.heap.size, args := #[] } :: ds) (look E) { a with defers := [{ target := .collected w.heap.size, args := #[] }] ++ a.defers } := ⟨ha.size, hds, ha.slots⟩
      cases r with
      | none =>
        obtain ⟨_, h4⟩ := (show Sat G w0 hp0 F (both (Pt (w.heap.size + 1) lo) (J xs) :: Pt w.heap.size (.deferred (some [])) :: R') w' from hs3).open' (X := Unit) (L := fun _ => [Pt (w.heap.size + 1) lo, J xs]) fun _ hh => ⟨(), hh⟩
        refine ⟨none, _, run_endLoop (h4.pt Sel.here) (by simp [rcd]), ?_⟩
        have h5 := putObj_write (o' := .loop (rcd q .exhausted none)) h4
        exact hdone w.heap.size _ _ ha' (h5.res fun _ hh => sep_tail hh)
      | some pre =>
        obtain ⟨_, h4⟩ := (show Sat G w0 hp0 F (both (Pt (w.heap.size + 1) (.loop (rcd q .done (some .ret)))) (Jx pre) :: Pt w.heap.size (.deferred (some [])) :: R') w' from hs3).open' (X := Unit) (L := fun _ => [Pt (w.heap.size + 1) (.loop (rcd q .done (some .ret))), Jx pre]) fun _ hh => ⟨(), hh⟩
        refine ⟨some .ret, _, run_endLoop (h4.pt Sel.here) (by simp [rcd]), ?_⟩
        have h5 := putObj_write (o' := .loop (rcd q .exhausted (some .ret))) h4
        refine wpIn_ret ?_
        rw [after_ret hnr]
        exact hstop w.heap.size pre (hr pre rfl) _ _ ha' (h5.res fun _ hh => sep_tail hh))
/-- A function whose body holds a range over a function. -/
theorem spec_ofM {f : FuncId} {fn : Func} {c : Code} {vs : List Value} {post : Post} {nt : Nat} (hf : Tryz.prog.funcs[f]? = some fn) (hb : fn.body = some c) (hnt : fn.ntmps = nt) (hle : Nat.ble vs.length nt = true)
    (t : ∀ G w hp, Wk nt ⟨none, G, w, hp, []⟩ [.c c] (bodyPostM Fence.wide 0 Tryz.prog fn (post.holds G w hp)) (argsE 0 vs) F R) : Spec Tryz.prog f vs.toArray F R post := by
  intro G w hp hsat
  refine (callsIn_wide (n := 0)).1 (callsIn_of_wp_marks hf hb trivial ?_)
  refine t G w hp _ w ⟨?_, rfl, fun i v hv => ?_⟩ hsat
  · have := Nat.le_of_ble_eq_true hle
    simp [hnt]; omega
  · obtain ⟨_, h2⟩ := argsE_look vs 0 i v hv
    simp only [Nat.sub_zero] at h2
    have hlt : i < vs.length := (List.getElem?_eq_some_iff.1 h2).1
    simp only
    rw [Array.getElem?_append_left (by simpa using hlt)]
    simpa using h2

theorem w_retM {fn : Func} {post : Post} {G : H} {w0 : World} {hp0 : H} {D : Nat} {R1 : List HP} (xx : post.X) {vs : List Value} (hv : resV vs = post.val xx) (hp : post.pure xx)
    (hD : Sel (Pt D (.deferred (some []))) R R1 := by (repeat (first | exact Sel.here | apply Sel.there)); first | done | fail)
    (hr : ResOK E R1 fn.results.toList vs := by (repeat (first | exact ResOK.nil | exact Sel.here | apply Sel.there | exact rfl | apply ResOK.tmp | apply ResOK.cell)); first | done | fail)
    (hF : EntF F (post.F xx) := by (repeat (first | exact trivial | exact Sel.here | apply Sel.there | apply EntF.cons)); first | done | fail)
    (hR : Sels (post.R xx) R1 R0 := by (repeat (first | exact Sels.nil | exact Sel.here | apply Sel.there | apply Sels.cons)); first | done | fail) :
    Wret n ⟨none, G, w0, hp0, [{ target := .collected D, args := #[] }]⟩ (bodyPostM Fence.wide 0 Tryz.prog fn (post.holds G w0 hp0)) E F R := fun a w ha hs => by
  have h1 := hs.sel hD
  have h2 := (putObj_write (o' := .deferred none) h1).res fun _ hh => sep_tail hh
  show LeavesInM Fence.wide 0 Tryz.prog fn a.tmps _ a.defers .returning w
  rw [show a.defers = [{ target := .collected D, args := #[] }] from ha.defers]
  refine ⟨by simp, .inl ⟨D, _, rfl, run_takeDeferred (h1.pt Sel.here), ?_⟩⟩
  exact ⟨_, results_ok (C := ⟨none, G, w0, hp0, [{ target := .collected D, args := #[] }]⟩) ha h2 hr, xx, by rw [hv], hp, ((h2.sels hR).facts (F' := post.F xx) hF.all).res fun _ h => sep_left h⟩

theorem k_retM {fn : Func} {post : Post} {G : H} {w0 : World} {hp0 : H} {D : Nat} {R1 : List HP} (xx : post.X) {vs : List Value} (hv : resV vs = post.val xx) (hp : post.pure xx)
    (hD : Sel (Pt D (.deferred (some []))) R R1 := by (repeat (first | exact Sel.here | apply Sel.there)); first | done | fail)
    (hr : ResOK E R1 fn.results.toList vs := by (repeat (first | exact ResOK.nil | exact Sel.here | apply Sel.there | exact rfl | apply ResOK.tmp | apply ResOK.cell)); first | done | fail)
    (hF : EntF F (post.F xx) := by (repeat (first | exact trivial | exact Sel.here | apply Sel.there | apply EntF.cons)); first | done | fail)
    (hR : Sels (post.R xx) R1 R0 := by (repeat (first | exact Sels.nil | exact Sel.here | apply Sel.there | apply Sels.cons)); first | done | fail)
    (h : nf 1000 k = .c .ret :: k' := by rfl) (hn : noR k' = true := by rfl) :
    Wk n ⟨none, G, w0, hp0, [{ target := .collected D, args := #[] }]⟩ k (bodyPostM Fence.wide 0 Tryz.prog fn (post.holds G w0 hp0)) E F R := k_rt (w_retM xx hv hp hD hr hF hR) h hn
end Go.Proofs.YtijaglinajfplaaGreatDoor
